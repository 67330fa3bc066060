/- Texts that lead to the law TextOpts: Sl27, Sh, Sl22, Sl28, Sl29, G1. Conditions: as each says. -/
import Derived.Test.YtbcnegennmpliaaDoorM1
import Derived.Shelf.Strings.Prefix
import Derived.Shelf.Small.Strs
import Derived.Shelf.Strconv.ErrVarParseInt
import Derived.Shelf.Strings.SlTrimAscii
import Derived.Shelf.Strconv.Itoa4
import Derived.Shelf.Strconv.Itoa3
import Derived.Test.YtbcnegennmpliaaDoorProg
import Derived.LoopNIn
namespace Go.Proofs.YtbcnegennmpliaaDoor
set_option linter.unusedVariables false
set_option linter.unusedSimpArgs false
open Go.RowKit
theorem Ent.perm {l m : List HA} (p : l.Perm m) : Ent l m := by
  induction p with
  | nil => exact Ent.refl _
  | cons a _ ih => exact Ent.cons ih
  | swap a b l => exact Ent.sel 1 rfl (Ent.refl _)
  | trans _ _ ih1 ih2 => exact ih1.trans ih2
def updN (γ : Nat → Nat) (i z : Nat) : Nat → Nat := fun j => if Nat.beq j i then z else γ j
section
variable {K : Cx} {R S Y : Type} {Q : Post R} {E : Env} {H : List HA} {o : Option R}
def EObA (K : Cx) (ops : Array Oper) (anc : List (List Nat)) (val : (Nat → Nat) → Nat → Value) (add : (Nat → Nat) → Nat → List HA) (E : Env) (H X : List HA) (i : Nat) (pre : List Nat) (γ : Nat → Nat) : Prop :=
  ∃ op, ops[i]? = some op ∧ ∃ Ei, EnvOk ops anc (val γ) E i Ei ∧ GOk ops op Ei ∧
    (∀ z, Agree pre (val (updN γ i z)) (val γ) ∧ All pre fun q => add (updN γ i z) q = add γ q) ∧
    RE K (Y := Nat) op Ei (H ++ X) (fun z => val (updN γ i z) i) (fun z => H ++ (add (updN γ i z) i ++ X))
theorem EObA.mk {ops : Array Oper} {anc : List (List Nat)} {Z : Type} {val : (Nat → Nat) → Nat → Value} {add : (Nat → Nat) → Nat → List HA} {X : List HA} {i : Nat} {pre : List Nat} {γ : Nat → Nat} {op : Oper} {v : Z → Value} {H' : Z → List HA} (Ei : Env) (f : Z → Nat) (ho : ops[i]? = some op) (hg : op.guard = none) (he : EnvOk ops anc (val γ) E i Ei)
    (ha : ∀ z, Agree pre (val (updN γ i z)) (val γ)) (hb : ∀ z, All pre fun q => add (updN γ i z) q = add γ q)
    (h : RE K (Y := Z) op Ei (H ++ X) v H') (hv : ∀ z, op.dst = none ∨ v z = val (updN γ i (f z)) i) (hH : ∀ z, Ent (H' z) (H ++ (add (updN γ i (f z)) i ++ X))) : EObA K ops anc val add E H X i pre γ :=
  ⟨op, ho, Ei, he, .inl hg, fun z => ⟨ha z, hb z⟩, fun a w hh hs next Q hn => h a w hh hs next Q fun z w' s => by
    have := hn (f z) w' (s.ent (hH z))
    rcases hv z with e | e
    · rw [e] at this ⊢; exact this
    · rw [e]; exact this⟩
theorem Ent.mid1 {A : HA} {X : List HA} : Ent (A :: (H ++ X)) (H ++ ([A] ++ X)) := Ent.perm (by
  rw [List.singleton_append]; exact List.perm_middle.symm)
theorem sim_drawA {id : Nat} {l : List Oper} (anc : List (List Nat)) (effs quiets : List Nat) (pre : Nat → List Nat) (val : (Nat → Nat) → Nat → Value) (add : (Nat → Nat) → Nat → List HA) (E2 : (Nat → Nat) → Env)
    (hmix : K.P.follows .mixedOrders = true)
    (hon : onOk l.toArray = true) (hanc : ancOk l.toArray anc = true) (hal : Nat.ble anc.length l.length = true) (hdst : dstOk l.toArray = true)
    (hall : ((List.range l.length).all fun i => effs.contains i || quiets.contains i) = true)
    (nn : Nat) (hnn : K.n = nn) (hdn : ((List.range l.length).all fun i => match dstOf l.toArray i with | some d => Nat.blt d nn | none => true) = true)
    (hpre' : (effs.all fun i => notBehind l.toArray anc i (pre i)) = true)
    (hqa : All quiets fun i => ∀ γ, add γ i = [])
    (hq : All quiets fun i => ∀ γ X, QOb K l.toArray anc (val γ) E (H ++ X) i)
    (he : All effs fun i => ∀ γ X, EObA K l.toArray anc val add E H X i (pre i) γ)
    (hE : ∀ γ, Sub (E2 γ) (envL l.toArray (val γ) E (List.range l.length).reverse))
    (h : ∀ γ, Nrm K Q (E2 γ) (H ++ (List.range l.length).flatMap (add γ)) o) : Sim K Q (.region id l.toArray true) E H o := by
  intro r hr a w hh hs
  refine wpIn_region_draw (fun t => ?_)
  rw [hmix, sched_eq]
  have hsz : l.toArray.size = l.length := by simp
  have hal' : anc.length ≤ l.toArray.size := by rw [hsz]; simpa [Nat.ble_eq] using hal
  refine wp_sched (F := fen K.ro) (n := 0) (P := K.P) (Q := Q r)
    (fun L a w => ∃ γ, L.Nodup ∧ (∀ i, i ∈ L → i < l.toArray.size) ∧ Has K.n K.ds (envL l.toArray (val γ) E L) a ∧ Sat K.W (H ++ L.flatMap (add γ)) w)
    hon ?_ ?_ l.toArray.size t (Array.replicate l.toArray.size false) [] a { w with drawn := w.drawn + 1 } (by simp) (by intro i hi; simp only [Array.getD_eq_getD_getElem?, Array.getElem?_replicate]; split <;> simp) (by intro i hi; cases hi) (by intro i hi; cases hi)
    (by refine Nat.le_trans (List.length_filter_le _ _) (by simp)) ⟨fun _ => 0, List.nodup_nil, (by intro i hi; cases hi), hh, by rw [List.flatMap_nil, List.append_nil]; exact hs.drew _⟩
  · rintro i op L a w hoi hno hpre hcl ⟨γ, hnd, hb, hhas, hsat⟩
    have hi : i < l.toArray.size := lt_of_some hoi
    have hil : i < l.length := by rwa [hsz] at hi
    have h1 : ∀ p, p ∈ ancAt anc i → p ∈ L := anc_done hon hanc hal' hcl i hpre
    have h2 : ∀ q, q ∈ L → ∀ p, p ∈ ancAt anc q → p ∈ L := fun q hq => anc_done hon hanc hal' hcl q (hcl q hq)
    have hbl : ∀ q, q ∈ i :: L → q < l.toArray.size := by
      intro q hq
      rcases List.mem_cons.1 hq with rfl | hq
      · exact hi
      · exact hb q hq
    have hnd2 : (i :: L).Nodup := List.nodup_cons.2 ⟨hno, hnd⟩
    have hput : ∀ (γ' : Nat → Nat) (a' : Act) (v : Value), Has K.n K.ds (envL l.toArray (val γ') E L) a' → v = val γ' i ∨ op.dst = none → Has K.n K.ds (envL l.toArray (val γ') E (i :: L)) (a'.put op.dst v) := by
      intro γ' a' v hx hv
      simp only [envL, dstOf, hoi, Option.bind_some]
      cases hd : op.dst with
      | none => exact hx
      | some d =>
        rcases hv with rfl | hv
        · refine hx.put _ ?_
          have := List.all_eq_true.1 hdn i (by simpa using hil)
          rw [hnn]
          simpa [dstOf, hoi, hd] using this
        · rw [hd] at hv; cases hv
    by_cases hef : i ∈ effs
    · obtain ⟨op', ho', Ei, hEi, hg, hag, hre⟩ := he.mem hef γ (L.flatMap (add γ))
      rw [hoi] at ho'
      cases ho'
      have hEnv : Has K.n K.ds Ei a := hhas.sub (hEi.sub hdst hno hb h1 h2)
      rw [if_pos (wantedG hEnv hg)]
      refine hre a w hEnv hsat _ _ ?_
      intro z w' s'
      have hin : ∀ q, q ∈ L → q ∈ pre i := fun q hq => by
        have hnb := List.all_eq_true.1 hpre' i hef
        have := List.all_eq_true.1 hnb q (by simpa using hb q hq)
        rw [Bool.or_eq_true, Bool.or_eq_true] at this
        rcases this with (e | e) | e
        · simpa using e
        · obtain rfl := Nat.eq_of_beq_eq_true e
          exact absurd hq hno
        · exact absurd (h2 q hq i (by simpa using e)) hno
      have hfm : L.flatMap (add (updN γ i z)) = L.flatMap (add γ) := by
        rw [List.flatMap_def, List.flatMap_def]
        congr 1
        exact List.map_congr_left fun q hq => (hag z).2.mem (hin q hq)
      refine ⟨updN γ i z, hnd2, hbl, hput _ a _ ?_ (.inl rfl), ?_⟩
      · rw [envL_congr (f := val (updN γ i z)) (g := val γ) L fun q hq => (hag z).1.mem (hin q hq)]
        exact hhas
      · rw [List.flatMap_cons, hfm]; exact s'
    · have hqi : i ∈ quiets := by
        have := List.all_eq_true.1 hall i (by simpa using hil)
        rw [Bool.or_eq_true] at this
        rcases this with e | e
        · exact absurd (by simpa using e) hef
        · simpa using e
      obtain ⟨op', ho', Ei, hEi, hcase⟩ := hq.mem hqi γ (L.flatMap (add γ))
      rw [hoi] at ho'
      cases ho'
      have hEnv : Has K.n K.ds Ei a := hhas.sub (hEi.sub hdst hno hb h1 h2)
      have hfm : (i :: L).flatMap (add γ) = L.flatMap (add γ) := by rw [List.flatMap_cons, hqa.mem hqi γ, List.nil_append]
      rcases hcase with ⟨hg, hrq⟩ | ⟨jg, want, dj, hg, hdj, hc2⟩
      · rw [if_pos (by simp [Region.wanted, hg])]
        refine hrq a w hEnv hsat _ _ fun w' s' => ⟨γ, hnd2, hbl, hput γ a _ hhas (.inl rfl), by rw [hfm]; exact s'⟩
      · rcases hc2 with ⟨b, v, hbv, hvi, hrq⟩ | ⟨hu, hvi⟩
        · rw [wanted_of hEnv hg hdj hbv]
          cases hbw : (b == want) with
          | true =>
            rw [hbw] at hvi
            simp only [if_true]
            refine hrq hbw a w hEnv hsat _ _ fun w' s' => ⟨γ, hnd2, hbl, hput γ a _ hhas (.inl hvi.symm), by rw [hfm]; exact s'⟩
          | false =>
            rw [hbw] at hvi
            simp only [Bool.false_eq_true, if_false]
            exact ⟨fun f _ => fen_fn _ _, γ, hnd2, hbl, hput γ a _ hhas (.inl hvi.symm), by rw [hfm]; exact hsat⟩
        · have hnw : Region.wanted op (yielded l.toArray a.tmps) = false := by
            simp only [Region.wanted, hg, yielded]
            rw [show ((l.toArray)[jg]?.bind (·.dst)) = some dj from hdj]
            simp [hEnv.get _ _ hu, undef]
          rw [hnw]
          simp only [Bool.false_eq_true, if_false]
          exact ⟨fun f _ => fen_fn _ _, γ, hnd2, hbl, hput γ a _ hhas (.inl hvi.symm), by rw [hfm]; exact hsat⟩
  · rintro L a w hL ⟨γ, hnd, hb, hhas, hsat⟩
    have hperm : L.Perm (List.range l.length) := (List.perm_ext_iff_of_nodup hnd List.nodup_range).2 fun i => by
      rw [List.mem_range, ← hsz]; exact ⟨hb i, hL i⟩
    refine h γ r hr a w (hhas.sub ((hE γ).congr fun s => ?_)) (hsat.ent (Ent.perm ((hperm.flatMap_right _).append_left H)))
    exact envL_all hdst (fun i hi => by simpa using hi) hL s
end
/-! ### Functions in cells -/
abbrev fnV (x : Option Nat) : Value := match x with
  | none => .nilFunc
  | some f => .func (.func f) #[] #[]
section
variable {K : Cx} {E : Env} {H : List HA} {o : Oper}
theorem rq_cast {v v' : Value} (e : v' = v) (h : RQ K o E H v) : RQ K o E H v' := by subst e; exact h
theorem fnV_eq {P : Program} {xt : TypeId} {x : Option Nat} {a : _} {b : _} {c : _} (hu : P.underlying xt = some (.func a b c)) (w : World) : (Op.equal xt (fnV x) .nilFunc).run P w = .ok (!x.isSome) w := by
  rw [show Op.equal xt (fnV x) .nilFunc = Op.equalIn (9999 + 1) xt (fnV x) .nilFunc from rfl, Op.equalIn]
  cases x <;> simp [underlying, program, Sem.run, hu]
theorem q_neqfn {xt yt : TypeId} {x : Operand} {t : Option Nat} {a : _} {b : _} {c : _} (ho : o.op = .binOp .neq xt x (.const .nilFunc) yt) (hx : ev E x = some (fnV t)) (hu : K.P.underlying xt = some (.func a b c)) : RQ K o E H (.bool t.isSome) :=
  rq_same (by rw [ho]; intro c h; cases h) fun a w he _ => by
    unfold execOp; simp only [ho]; rw [he.ev hx, he.ev (x := .const .nilFunc) rfl]
    have e := fnV_eq (P := K.P) (x := t) hu w
    cases t with
    | none => simp [eqGuard, binOp] at e ⊢; simp [e]
    | some f => simp [eqGuard, binOp] at e ⊢; simp [e]
end
theorem Rd.row_some {T : TypeId} {sz b off n c : Nat} {cs : List Value} : Rd (Row T sz (some ⟨b, off, none⟩) n c cs) (some ⟨b, off, none⟩) cs :=
  .inr ⟨b, off, rfl, fun x hx => by
    rcases hx with ⟨h, _⟩ | ⟨b', off', pre, junk, fz, e, ok, hb⟩
    · cases h
    · cases e
      refine ⟨_, T, fz, hb, fun j v hj => ?_⟩
      have := getElem?_mid (pre := pre) (junk := junk) hj
      rw [ok.offs] at this
      simpa using this⟩
end Go.Proofs.YtbcnegennmpliaaDoor

namespace Go.Proofs.YtbcnegennmpliaaDoor
open Go.RowKit Go.Maps Go.Sort Go.Shelf
set_option linter.unusedVariables false
def shL99_ren : Go.Shelf.Ren := ⟨fun | 99 => 62 | 206 => 82 | n => n, fun | 9 => 9 | 4 => 4 | 3 => 3 | n => n, fun | n => n⟩
theorem shL99 : Go.Proofs.Lays.n99 Tryd.prog shL99_ren := {
  mixed := by kernel_rfl
  f99 := Tryd.func62.trans (congrArg some (by kernel_rfl))
  f206 := Tryd.func82.trans (congrArg some (by kernel_rfl))
  t3 := Tryd.underlying3
  a3 := Tryd.isAgg3
  z3 := Tryd.sizeOf3
  v3 := Tryd.zeroValue3
  t4 := Tryd.underlying4
  a4 := Tryd.isAgg4
  z4 := Tryd.sizeOf4
  v4 := Tryd.zeroValue4
  t9 := Tryd.underlying9
  a9 := Tryd.isAgg9
  z9 := Tryd.sizeOf9
  v9 := Tryd.zeroValue9 }
def shL137_ren : Go.Shelf.Ren := ⟨fun | 137 => 83 | 217 => 95 | 266 => 109 | n => n, fun | 9 => 9 | 5 => 5 | 3 => 3 | n => n, fun | n => n⟩
theorem shL137 : Go.Proofs.Lays.n137 Tryd.prog shL137_ren := {
  mixed := by kernel_rfl
  f137 := Tryd.func83.trans (congrArg some (by kernel_rfl))
  f217 := Tryd.func95.trans (congrArg some (by kernel_rfl))
  f266 := Tryd.func109.trans (congrArg some (by kernel_rfl))
  t3 := Tryd.underlying3
  a3 := Tryd.isAgg3
  z3 := Tryd.sizeOf3
  v3 := Tryd.zeroValue3
  t5 := Tryd.underlying5
  a5 := Tryd.isAgg5
  z5 := Tryd.sizeOf5
  v5 := Tryd.zeroValue5
  t9 := Tryd.underlying9
  a9 := Tryd.isAgg9
  z9 := Tryd.sizeOf9
  v9 := Tryd.zeroValue9 }
def shL101_ren : Go.Shelf.Ren := ⟨fun | 101 => 77 | 208 => 85 | 206 => 82 | n => n, fun | 9 => 9 | 4 => 4 | 3 => 3 | n => n, fun | n => n⟩
theorem shL101 : Go.Proofs.Lays.n101 Tryd.prog shL101_ren := {
  mixed := by kernel_rfl
  f101 := Tryd.func77.trans (congrArg some (by kernel_rfl))
  f206 := Tryd.func82.trans (congrArg some (by kernel_rfl))
  f208 := Tryd.func85.trans (congrArg some (by kernel_rfl))
  t3 := Tryd.underlying3
  a3 := Tryd.isAgg3
  z3 := Tryd.sizeOf3
  v3 := Tryd.zeroValue3
  t4 := Tryd.underlying4
  a4 := Tryd.isAgg4
  z4 := Tryd.sizeOf4
  v4 := Tryd.zeroValue4
  t9 := Tryd.underlying9
  a9 := Tryd.isAgg9
  z9 := Tryd.sizeOf9
  v9 := Tryd.zeroValue9 }
def shL174_ren : Go.Shelf.Ren := ⟨fun | 174 => 78 | 247 => 86 | 245 => 87 | 287 => 100 | 279 => 101 | 280 => 102 | 281 => 103 | 282 => 104 | 321 => 115 | 322 => 116 | 316 => 117 | 171 => 51 | 205 => 118 | 243 => 76 | 246 => 84 | 283 => 96 | 284 => 97 | 285 => 98 | 286 => 99 | 129 => 111 | 317 => 110 | 318 => 112 | 319 => 113 | 320 => 114 | 337 => 122 | 338 => 123 | n => n, fun | 9 => 9 | 3 => 3 | 2 => 2 | 75 => 137 | 85 => 138 | 4 => 4 | 167 => 157 | 5 => 5 | 53 => 152 | 175 => 158 | 46 => 160 | 168 => 161 | 37 => 93 | 0 => 0 | 210 => 176 | 21 => 21 | 127 => 180 | 145 => 183 | 143 => 181 | 171 => 151 | 173 => 155 | 212 => 169 | 51 => 170 | 20 => 20 | 213 => 171 | 232 => 190 | 233 => 191 | 80 => 192 | n => n, fun | 15 => 1 | 16 => 2 | 17 => 0 | 18 => 6 | 19 => 7 | n => n⟩
theorem shL174 : Go.Proofs.LaysC.n174 Tryd.prog shL174_ren := {
  mixed := by kernel_rfl
  f129 := Tryd.func111.trans (congrArg some (by kernel_rfl))
  f171 := Tryd.func51.trans (congrArg some (by kernel_rfl))
  f174 := Tryd.func78.trans (congrArg some (by kernel_rfl))
  f205 := Tryd.func118.trans (congrArg some (by kernel_rfl))
  f243 := Tryd.func76.trans (congrArg some (by kernel_rfl))
  f245 := Tryd.func87.trans (congrArg some (by kernel_rfl))
  f246 := Tryd.func84.trans (congrArg some (by kernel_rfl))
  f247 := Tryd.func86.trans (congrArg some (by kernel_rfl))
  f279 := Tryd.func101.trans (congrArg some (by kernel_rfl))
  f280 := Tryd.func102.trans (congrArg some (by kernel_rfl))
  f281 := Tryd.func103.trans (congrArg some (by kernel_rfl))
  f282 := Tryd.func104.trans (congrArg some (by kernel_rfl))
  f283 := Tryd.func96.trans (congrArg some (by kernel_rfl))
  f284 := Tryd.func97.trans (congrArg some (by kernel_rfl))
  f285 := Tryd.func98.trans (congrArg some (by kernel_rfl))
  f286 := Tryd.func99.trans (congrArg some (by kernel_rfl))
  f287 := Tryd.func100.trans (congrArg some (by kernel_rfl))
  f316 := Tryd.func117.trans (congrArg some (by kernel_rfl))
  f317 := Tryd.func110.trans (congrArg some (by kernel_rfl))
  f318 := Tryd.func112.trans (congrArg some (by kernel_rfl))
  f319 := Tryd.func113.trans (congrArg some (by kernel_rfl))
  f320 := Tryd.func114.trans (congrArg some (by kernel_rfl))
  f321 := Tryd.func115.trans (congrArg some (by kernel_rfl))
  f322 := Tryd.func116.trans (congrArg some (by kernel_rfl))
  f337 := Tryd.func122.trans (congrArg some (by kernel_rfl))
  f338 := Tryd.func123.trans (congrArg some (by kernel_rfl))
  t0 := Tryd.underlying0
  a0 := Tryd.isAgg0
  z0 := Tryd.sizeOf0
  v0 := Tryd.zeroValue0
  t2 := Tryd.underlying2
  a2 := Tryd.isAgg2
  z2 := Tryd.sizeOf2
  v2 := Tryd.zeroValue2
  t3 := Tryd.underlying3
  a3 := Tryd.isAgg3
  z3 := Tryd.sizeOf3
  v3 := Tryd.zeroValue3
  t4 := Tryd.underlying4
  a4 := Tryd.isAgg4
  z4 := Tryd.sizeOf4
  v4 := Tryd.zeroValue4
  t5 := Tryd.underlying5
  a5 := Tryd.isAgg5
  z5 := Tryd.sizeOf5
  v5 := Tryd.zeroValue5
  t9 := Tryd.underlying9
  a9 := Tryd.isAgg9
  z9 := Tryd.sizeOf9
  v9 := Tryd.zeroValue9
  t20 := Tryd.underlying20
  a20 := Tryd.isAgg20
  z20 := Tryd.sizeOf20
  v20 := Tryd.zeroValue20
  t21 := Tryd.underlying21
  a21 := Tryd.isAgg21
  z21 := Tryd.sizeOf21
  v21 := Tryd.zeroValue21
  t37 := Tryd.underlying93
  a37 := Tryd.isAgg93
  z37 := Tryd.sizeOf93
  v37 := Tryd.zeroValue93
  t46 := Tryd.underlying160
  a46 := Tryd.isAgg160
  z46 := Tryd.sizeOf160
  v46 := Tryd.zeroValue160
  t51 := Tryd.underlying170
  a51 := Tryd.isAgg170
  z51 := Tryd.sizeOf170
  v51 := Tryd.zeroValue170
  t53 := Tryd.underlying152
  a53 := Tryd.isAgg152
  z53 := Tryd.sizeOf152
  v53 := Tryd.zeroValue152
  t75 := Tryd.underlying137
  a75 := Tryd.isAgg137
  z75 := Tryd.sizeOf137
  v75 := Tryd.zeroValue137
  t85 := Tryd.underlying138
  a85 := Tryd.isAgg138
  z85 := Tryd.sizeOf138
  v85 := Tryd.zeroValue138
  t127 := Tryd.underlying180
  a127 := Tryd.isAgg180
  z127 := Tryd.sizeOf180
  v127 := Tryd.zeroValue180
  t143 := Tryd.underlying181
  a143 := Tryd.isAgg181
  z143 := Tryd.sizeOf181
  v143 := Tryd.zeroValue181
  t145 := Tryd.underlying183
  a145 := Tryd.isAgg183
  z145 := Tryd.sizeOf183
  v145 := Tryd.zeroValue183
  t167 := Tryd.underlying157
  a167 := Tryd.isAgg157
  z167 := Tryd.sizeOf157
  v167 := Tryd.zeroValue157
  t168 := Tryd.underlying161
  a168 := Tryd.isAgg161
  z168 := Tryd.sizeOf161
  v168 := Tryd.zeroValue161
  t171 := Tryd.underlying151
  a171 := Tryd.isAgg151
  z171 := Tryd.sizeOf151
  v171 := Tryd.zeroValue151
  t173 := Tryd.underlying155
  a173 := Tryd.isAgg155
  z173 := Tryd.sizeOf155
  v173 := Tryd.zeroValue155
  t175 := Tryd.underlying158
  a175 := Tryd.isAgg158
  z175 := Tryd.sizeOf158
  v175 := Tryd.zeroValue158
  t210 := Tryd.underlying176
  a210 := Tryd.isAgg176
  z210 := Tryd.sizeOf176
  v210 := Tryd.zeroValue176
  t212 := Tryd.underlying169
  a212 := Tryd.isAgg169
  z212 := Tryd.sizeOf169
  v212 := Tryd.zeroValue169
  t213 := Tryd.underlying171
  a213 := Tryd.isAgg171
  z213 := Tryd.sizeOf171
  t232 := Tryd.underlying190
  a232 := Tryd.isAgg190
  z232 := Tryd.sizeOf190
  v232 := Tryd.zeroValue190
  t233 := Tryd.underlying191
  a233 := Tryd.isAgg191
  z233 := Tryd.sizeOf191
  v233 := Tryd.zeroValue191
  g15 := by kernel_rfl
  g16 := by kernel_rfl
  g17 := by kernel_rfl
  g18 := by kernel_rfl
  g19 := by kernel_rfl
  t80 := Tryd.underlying192
  a80 := Tryd.isAgg192
  z80 := Tryd.sizeOf192
  v80 := Tryd.zeroValue192
  i0 := by kernel_rfl
  i2 := by kernel_rfl
  i3 := by kernel_rfl
  i4 := by kernel_rfl
  i5 := by kernel_rfl
  i9 := by kernel_rfl
  i20 := by kernel_rfl
  i21 := by kernel_rfl
  i37 := by kernel_rfl
  i46 := by kernel_rfl
  i51 := by kernel_rfl
  i53 := by kernel_rfl
  i75 := by kernel_rfl
  i80 := by kernel_rfl
  i85 := by kernel_rfl
  i127 := by kernel_rfl
  i143 := by kernel_rfl
  i145 := by kernel_rfl
  i167 := by kernel_rfl
  i168 := by kernel_rfl
  i171 := by kernel_rfl
  i173 := by kernel_rfl
  i175 := by kernel_rfl
  i210 := by kernel_rfl
  i212 := by kernel_rfl
  i232 := by kernel_rfl
  i233 := by kernel_rfl
  m15 := by kernel_rfl
  m16 := by kernel_rfl
  m17 := by kernel_rfl
  m18 := by kernel_rfl
  m19 := by kernel_rfl
  c0 := by kernel_rfl
  c2 := by kernel_rfl
  c3 := by kernel_rfl
  c4 := by kernel_rfl
  c5 := by kernel_rfl
  c9 := by kernel_rfl
  c20 := by kernel_rfl
  c21 := by kernel_rfl
  c37 := by kernel_rfl
  c46 := by kernel_rfl
  c51 := by kernel_rfl
  c53 := by kernel_rfl
  c75 := by kernel_rfl
  c80 := by kernel_rfl
  c85 := by kernel_rfl
  c127 := by kernel_rfl
  c143 := by kernel_rfl
  c145 := by kernel_rfl
  c167 := by kernel_rfl
  c168 := by kernel_rfl
  c171 := by kernel_rfl
  c173 := by kernel_rfl
  c175 := by kernel_rfl
  c210 := by kernel_rfl
  c212 := by kernel_rfl
  c213 := by kernel_rfl
  c232 := by kernel_rfl
  c233 := by kernel_rfl }
def shL160_ren : Go.Shelf.Ren := ⟨fun | 160 => 79 | 232 => 89 | 231 => 88 | 227 => 90 | 234 => 92 | 233 => 91 | 236 => 94 | 235 => 93 | 228 => 105 | 271 => 108 | 151 => 107 | 197 => 106 | 120 => 121 | 152 => 120 | 260 => 119 | 137 => 83 | 119 => 124 | 224 => 125 | 225 => 126 | 217 => 95 | 266 => 109 | n => n, fun | 9 => 9 | 4 => 4 | 3 => 3 | 5 => 5 | 117 => 147 | 116 => 146 | 0 => 0 | 124 => 150 | 21 => 21 | 105 => 164 | 46 => 160 | 119 => 184 | 139 => 187 | 138 => 186 | n => n, fun | 3 => 4 | 4 => 5 | n => n⟩
theorem shL160 : Go.Proofs.Lays.n160 Tryd.prog shL160_ren := {
  mixed := by kernel_rfl
  f119 := Tryd.func124.trans (congrArg some (by kernel_rfl))
  f120 := Tryd.func121.trans (congrArg some (by kernel_rfl))
  f137 := Tryd.func83.trans (congrArg some (by kernel_rfl))
  f151 := Tryd.func107.trans (congrArg some (by kernel_rfl))
  f152 := Tryd.func120.trans (congrArg some (by kernel_rfl))
  f160 := Tryd.func79.trans (congrArg some (by kernel_rfl))
  f197 := Tryd.func106.trans (congrArg some (by kernel_rfl))
  f217 := Tryd.func95.trans (congrArg some (by kernel_rfl))
  f224 := Tryd.func125.trans (congrArg some (by kernel_rfl))
  f225 := Tryd.func126.trans (congrArg some (by kernel_rfl))
  f227 := Tryd.func90.trans (congrArg some (by kernel_rfl))
  f228 := Tryd.func105.trans (congrArg some (by kernel_rfl))
  f231 := Tryd.func88.trans (congrArg some (by kernel_rfl))
  f232 := Tryd.func89.trans (congrArg some (by kernel_rfl))
  f233 := Tryd.func91.trans (congrArg some (by kernel_rfl))
  f234 := Tryd.func92.trans (congrArg some (by kernel_rfl))
  f235 := Tryd.func93.trans (congrArg some (by kernel_rfl))
  f236 := Tryd.func94.trans (congrArg some (by kernel_rfl))
  f260 := Tryd.func119.trans (congrArg some (by kernel_rfl))
  f266 := Tryd.func109.trans (congrArg some (by kernel_rfl))
  f271 := Tryd.func108.trans (congrArg some (by kernel_rfl))
  t0 := Tryd.underlying0
  a0 := Tryd.isAgg0
  z0 := Tryd.sizeOf0
  v0 := Tryd.zeroValue0
  t3 := Tryd.underlying3
  a3 := Tryd.isAgg3
  z3 := Tryd.sizeOf3
  v3 := Tryd.zeroValue3
  t4 := Tryd.underlying4
  a4 := Tryd.isAgg4
  z4 := Tryd.sizeOf4
  v4 := Tryd.zeroValue4
  t5 := Tryd.underlying5
  a5 := Tryd.isAgg5
  z5 := Tryd.sizeOf5
  v5 := Tryd.zeroValue5
  t9 := Tryd.underlying9
  a9 := Tryd.isAgg9
  z9 := Tryd.sizeOf9
  v9 := Tryd.zeroValue9
  t21 := Tryd.underlying21
  a21 := Tryd.isAgg21
  z21 := Tryd.sizeOf21
  v21 := Tryd.zeroValue21
  t46 := Tryd.underlying160
  a46 := Tryd.isAgg160
  z46 := Tryd.sizeOf160
  v46 := Tryd.zeroValue160
  t105 := Tryd.underlying164
  a105 := Tryd.isAgg164
  z105 := Tryd.sizeOf164
  v105 := Tryd.zeroValue164
  t116 := Tryd.underlying146
  a116 := Tryd.isAgg146
  z116 := Tryd.sizeOf146
  t117 := Tryd.underlying147
  a117 := Tryd.isAgg147
  z117 := Tryd.sizeOf147
  v117 := Tryd.zeroValue147
  t119 := Tryd.underlying184
  a119 := Tryd.isAgg184
  z119 := Tryd.sizeOf184
  t124 := Tryd.underlying150
  a124 := Tryd.isAgg150
  z124 := Tryd.sizeOf150
  v124 := Tryd.zeroValue150
  t138 := Tryd.underlying186
  a138 := Tryd.isAgg186
  z138 := Tryd.sizeOf186
  v138 := Tryd.zeroValue186
  t139 := Tryd.underlying187
  a139 := Tryd.isAgg187
  z139 := Tryd.sizeOf187
  v139 := Tryd.zeroValue187
  g3 := by kernel_rfl
  g4 := by kernel_rfl }
def shL173_ren : Go.Shelf.Ren := ⟨fun | 173 => 80 | 246 => 84 | 283 => 96 | 284 => 97 | 285 => 98 | 286 => 99 | 129 => 111 | 317 => 110 | 318 => 112 | 319 => 113 | 320 => 114 | 337 => 122 | 338 => 123 | n => n, fun | 2 => 2 | 3 => 3 | 9 => 9 | 4 => 4 | 171 => 151 | 0 => 0 | 53 => 152 | 37 => 93 | 5 => 5 | 173 => 155 | 212 => 169 | 51 => 170 | 20 => 20 | 213 => 171 | 46 => 160 | 232 => 190 | 233 => 191 | n => n, fun | 17 => 0 | 18 => 6 | 19 => 7 | n => n⟩
theorem shL173 : Go.Proofs.LaysM.n173 Tryd.prog shL173_ren := {
  mixed := by kernel_rfl
  f129 := Tryd.func111.trans (congrArg some (by kernel_rfl))
  f173 := Tryd.func80.trans (congrArg some (by kernel_rfl))
  f246 := Tryd.func84.trans (congrArg some (by kernel_rfl))
  f283 := Tryd.func96.trans (congrArg some (by kernel_rfl))
  f284 := Tryd.func97.trans (congrArg some (by kernel_rfl))
  f285 := Tryd.func98.trans (congrArg some (by kernel_rfl))
  f286 := Tryd.func99.trans (congrArg some (by kernel_rfl))
  f317 := Tryd.func110.trans (congrArg some (by kernel_rfl))
  f318 := Tryd.func112.trans (congrArg some (by kernel_rfl))
  f319 := Tryd.func113.trans (congrArg some (by kernel_rfl))
  f320 := Tryd.func114.trans (congrArg some (by kernel_rfl))
  f337 := Tryd.func122.trans (congrArg some (by kernel_rfl))
  f338 := Tryd.func123.trans (congrArg some (by kernel_rfl))
  t0 := Tryd.underlying0
  a0 := Tryd.isAgg0
  z0 := Tryd.sizeOf0
  v0 := Tryd.zeroValue0
  t2 := Tryd.underlying2
  a2 := Tryd.isAgg2
  z2 := Tryd.sizeOf2
  v2 := Tryd.zeroValue2
  t3 := Tryd.underlying3
  a3 := Tryd.isAgg3
  z3 := Tryd.sizeOf3
  v3 := Tryd.zeroValue3
  t4 := Tryd.underlying4
  a4 := Tryd.isAgg4
  z4 := Tryd.sizeOf4
  v4 := Tryd.zeroValue4
  t5 := Tryd.underlying5
  a5 := Tryd.isAgg5
  z5 := Tryd.sizeOf5
  v5 := Tryd.zeroValue5
  t9 := Tryd.underlying9
  a9 := Tryd.isAgg9
  z9 := Tryd.sizeOf9
  v9 := Tryd.zeroValue9
  t20 := Tryd.underlying20
  a20 := Tryd.isAgg20
  z20 := Tryd.sizeOf20
  v20 := Tryd.zeroValue20
  t37 := Tryd.underlying93
  a37 := Tryd.isAgg93
  z37 := Tryd.sizeOf93
  v37 := Tryd.zeroValue93
  t46 := Tryd.underlying160
  a46 := Tryd.isAgg160
  z46 := Tryd.sizeOf160
  v46 := Tryd.zeroValue160
  t51 := Tryd.underlying170
  a51 := Tryd.isAgg170
  z51 := Tryd.sizeOf170
  v51 := Tryd.zeroValue170
  t53 := Tryd.underlying152
  a53 := Tryd.isAgg152
  z53 := Tryd.sizeOf152
  v53 := Tryd.zeroValue152
  t171 := Tryd.underlying151
  a171 := Tryd.isAgg151
  z171 := Tryd.sizeOf151
  v171 := Tryd.zeroValue151
  t173 := Tryd.underlying155
  a173 := Tryd.isAgg155
  z173 := Tryd.sizeOf155
  v173 := Tryd.zeroValue155
  t212 := Tryd.underlying169
  a212 := Tryd.isAgg169
  z212 := Tryd.sizeOf169
  v212 := Tryd.zeroValue169
  t213 := Tryd.underlying171
  a213 := Tryd.isAgg171
  z213 := Tryd.sizeOf171
  t232 := Tryd.underlying190
  a232 := Tryd.isAgg190
  z232 := Tryd.sizeOf190
  v232 := Tryd.zeroValue190
  t233 := Tryd.underlying191
  a233 := Tryd.isAgg191
  z233 := Tryd.sizeOf191
  v233 := Tryd.zeroValue191
  g17 := by kernel_rfl
  g18 := by kernel_rfl
  g19 := by kernel_rfl
  i0 := by kernel_rfl
  i2 := by kernel_rfl
  i3 := by kernel_rfl
  i4 := by kernel_rfl
  i5 := by kernel_rfl
  i9 := by kernel_rfl
  i20 := by kernel_rfl
  i37 := by kernel_rfl
  i46 := by kernel_rfl
  i51 := by kernel_rfl
  i53 := by kernel_rfl
  i171 := by kernel_rfl
  i173 := by kernel_rfl
  i212 := by kernel_rfl
  i232 := by kernel_rfl
  i233 := by kernel_rfl
  m17 := by kernel_rfl
  m18 := by kernel_rfl
  m19 := by kernel_rfl }
def shL171_ren : Go.Shelf.Ren := ⟨fun | 171 => 51 | 243 => 76 | 246 => 84 | 283 => 96 | 284 => 97 | 285 => 98 | 286 => 99 | 129 => 111 | 317 => 110 | 318 => 112 | 319 => 113 | 320 => 114 | 337 => 122 | 338 => 123 | n => n, fun | 3 => 3 | 9 => 9 | 2 => 2 | 4 => 4 | 171 => 151 | 0 => 0 | 53 => 152 | 37 => 93 | 5 => 5 | 173 => 155 | 212 => 169 | 51 => 170 | 20 => 20 | 213 => 171 | 46 => 160 | 232 => 190 | 233 => 191 | n => n, fun | 17 => 0 | 18 => 6 | 19 => 7 | n => n⟩
theorem shL171 : Go.Proofs.LaysM.n171 Tryd.prog shL171_ren := {
  mixed := by kernel_rfl
  f129 := Tryd.func111.trans (congrArg some (by kernel_rfl))
  f171 := Tryd.func51.trans (congrArg some (by kernel_rfl))
  f243 := Tryd.func76.trans (congrArg some (by kernel_rfl))
  f246 := Tryd.func84.trans (congrArg some (by kernel_rfl))
  f283 := Tryd.func96.trans (congrArg some (by kernel_rfl))
  f284 := Tryd.func97.trans (congrArg some (by kernel_rfl))
  f285 := Tryd.func98.trans (congrArg some (by kernel_rfl))
  f286 := Tryd.func99.trans (congrArg some (by kernel_rfl))
  f317 := Tryd.func110.trans (congrArg some (by kernel_rfl))
  f318 := Tryd.func112.trans (congrArg some (by kernel_rfl))
  f319 := Tryd.func113.trans (congrArg some (by kernel_rfl))
  f320 := Tryd.func114.trans (congrArg some (by kernel_rfl))
  f337 := Tryd.func122.trans (congrArg some (by kernel_rfl))
  f338 := Tryd.func123.trans (congrArg some (by kernel_rfl))
  t0 := Tryd.underlying0
  a0 := Tryd.isAgg0
  z0 := Tryd.sizeOf0
  v0 := Tryd.zeroValue0
  t2 := Tryd.underlying2
  a2 := Tryd.isAgg2
  z2 := Tryd.sizeOf2
  v2 := Tryd.zeroValue2
  t3 := Tryd.underlying3
  a3 := Tryd.isAgg3
  z3 := Tryd.sizeOf3
  v3 := Tryd.zeroValue3
  t4 := Tryd.underlying4
  a4 := Tryd.isAgg4
  z4 := Tryd.sizeOf4
  v4 := Tryd.zeroValue4
  t5 := Tryd.underlying5
  a5 := Tryd.isAgg5
  z5 := Tryd.sizeOf5
  v5 := Tryd.zeroValue5
  t9 := Tryd.underlying9
  a9 := Tryd.isAgg9
  z9 := Tryd.sizeOf9
  v9 := Tryd.zeroValue9
  t20 := Tryd.underlying20
  a20 := Tryd.isAgg20
  z20 := Tryd.sizeOf20
  v20 := Tryd.zeroValue20
  t37 := Tryd.underlying93
  a37 := Tryd.isAgg93
  z37 := Tryd.sizeOf93
  v37 := Tryd.zeroValue93
  t46 := Tryd.underlying160
  a46 := Tryd.isAgg160
  z46 := Tryd.sizeOf160
  v46 := Tryd.zeroValue160
  t51 := Tryd.underlying170
  a51 := Tryd.isAgg170
  z51 := Tryd.sizeOf170
  v51 := Tryd.zeroValue170
  t53 := Tryd.underlying152
  a53 := Tryd.isAgg152
  z53 := Tryd.sizeOf152
  v53 := Tryd.zeroValue152
  t171 := Tryd.underlying151
  a171 := Tryd.isAgg151
  z171 := Tryd.sizeOf151
  v171 := Tryd.zeroValue151
  t173 := Tryd.underlying155
  a173 := Tryd.isAgg155
  z173 := Tryd.sizeOf155
  v173 := Tryd.zeroValue155
  t212 := Tryd.underlying169
  a212 := Tryd.isAgg169
  z212 := Tryd.sizeOf169
  v212 := Tryd.zeroValue169
  t213 := Tryd.underlying171
  a213 := Tryd.isAgg171
  z213 := Tryd.sizeOf171
  t232 := Tryd.underlying190
  a232 := Tryd.isAgg190
  z232 := Tryd.sizeOf190
  v232 := Tryd.zeroValue190
  t233 := Tryd.underlying191
  a233 := Tryd.isAgg191
  z233 := Tryd.sizeOf191
  v233 := Tryd.zeroValue191
  g17 := by kernel_rfl
  g18 := by kernel_rfl
  g19 := by kernel_rfl
  i0 := by kernel_rfl
  i2 := by kernel_rfl
  i3 := by kernel_rfl
  i4 := by kernel_rfl
  i5 := by kernel_rfl
  i9 := by kernel_rfl
  i20 := by kernel_rfl
  i37 := by kernel_rfl
  i46 := by kernel_rfl
  i51 := by kernel_rfl
  i53 := by kernel_rfl
  i171 := by kernel_rfl
  i173 := by kernel_rfl
  i212 := by kernel_rfl
  i232 := by kernel_rfl
  i233 := by kernel_rfl
  m17 := by kernel_rfl
  m18 := by kernel_rfl
  m19 := by kernel_rfl }
end Go.Proofs.YtbcnegennmpliaaDoor

namespace Go.Proofs.YtbcnegennmpliaaDoor
set_option linter.unusedVariables false
set_option linter.unusedSimpArgs false
set_option linter.unusedSectionVars false
open Go.RowKit
section
variable {K : Cx} {R S Y α : Type} {Q : Post R} {E : Env} {H : List HA} {o : Option R}
/-! ### Results in variables, marks behind -/
def AllJ : List Code → Nat → (Nat → Code → Prop) → Prop
  | [], _, _ => True
  | c :: l, j, p => p j c ∧ AllJ l (j + 1) p
theorem AllJ.get : ∀ {l : List Code} {j : Nat} {p : Nat → Code → Prop}, AllJ l j p → ∀ {i : Nat} {c : Code}, l[i]? = some c → p (j + i) c
  | [], j, p, _, i, c, h => by simp at h
  | d :: l, j, p, ⟨h1, h2⟩, i, c, h => by
    cases i with
    | zero => simp at h; subst h; exact h1
    | succ i => have := AllJ.get h2 (i := i) (by simpa using h); rwa [show j + 1 + i = j + (i + 1) by omega] at this
/-! ### A loop of few rounds -/
def Rnd (K : Cx) (Q : Post R) (c : Code) (m : Nat) (E : Env) (H : List HA) (o : Option R) : Prop := ∀ r, o = some r → ∀ a w, Has K.n K.ds E a → Sat K.W H w → Code.roundsIn (fen K.ro) 0 K.P c (Q r) m a w
def rndQ (K : Cx) (c : Code) (m : Nat) (Q : Post R) : Post R := fun r => Exit.then (Code.roundsIn (fen K.ro) 0 K.P c (Q r) m) (Q r)
theorem sim_rounds {c : Code} (m : Nat) (h : Rnd K Q c m E H o) : Sim K Q (.loop c) E H o := fun r hr a w he hs => wpIn_loop_rounds m (h r hr a w he hs)
theorem rnd_succ {c : Code} {m : Nat} (h : Sim K (rndQ K c m Q) c E H o) : Rnd K Q c (m + 1) E H o := fun r hr a w he hs => h r hr a w he hs
theorem nrm_rnd {c : Code} {m : Nat} (h : Rnd K Q c m E H o) : Nrm K (rndQ K c m Q) E H o := h
theorem rtn_rnd {c : Code} {m : Nat} (h : Rtn K Q E H o) : Rtn K (rndQ K c m Q) E H o := h
theorem exi_rnd {id : Nat} {c : Code} {m : Nat} (h : Exi K Q id E H o) : Exi K (rndQ K c m Q) id E H o := h
end
end Go.Proofs.YtbcnegennmpliaaDoor

namespace Go.Proofs.YtbcnegennmpliaaDoor
open Go.RowKit
set_option linter.unusedVariables false
set_option linter.unusedSimpArgs false
theorem one_nil : one [] := fun v h => by cases h
theorem one_cons {v : Value} {vs : List Value} (h : v.oneCell' = true) (t : one vs) : one (v :: vs) := fun x hx => by
  rcases List.mem_cons.1 hx with rfl | hx
  · exact h
  · exact t x hx
theorem fnV_one (x : Option Nat) : (fnV x).oneCell' = true := by cases x <;> rfl
def atV (a : Option Addr) (k : Nat) : Value := match a with
  | some p => .pointer (some ⟨p.block, p.off + k, none⟩)
  | none => .nilIface
section
variable {K : Cx} {E : Env} {H : List HA} {o : Oper} {α : Type} {V : α → List Value → Prop} {a : Option Addr} {xs : List α} {T : TypeId} {c : Nat}
theorem sat_posV {W w : World} (k : Nat) (hk : H[k]? = some (RowV T 1 V a xs c)) (s : Sat W H w) {i : Nat} (hi : i < xs.length) (d : α) :
    ∃ b off r, a = some ⟨b, off, none⟩ ∧ V (xs.getD i d) r ∧ r.length = 1 ∧ w.cell? ⟨b, off + i, none⟩ = r[0]? := by
  obtain ⟨rs, hl, s'⟩ := sat_openV k hk s
  obtain ⟨r, hV, hlr, _, hc⟩ := hl.at d hi
  have hkl : k < H.length := (List.getElem?_eq_some_iff.1 hk).1
  have hk' : (H.set k (Row T 1 a xs.length c rs.flatten))[k]? = some (Row T 1 a xs.length c rs.flatten) := by simp [hkl]
  have h0 : rs.flatten ≠ [] := by
    intro h0
    have := hl.flat
    rw [h0] at this
    simp at this
    omega
  rcases (s'.focus hk').row_cases with ⟨_, _, _, e0⟩ | ⟨b, off, pre, junk, fz, ha, _⟩
  · exact absurd e0 h0
  · refine ⟨b, off, r, ha, hV, hlr, ?_⟩
    subst ha
    obtain ⟨v, hv⟩ : ∃ v, r[0]? = some v := ⟨r[0]'(by omega), List.getElem?_eq_getElem (by omega)⟩
    have := (CellAt.row k hk' (hc 0 v hv)).sat s'
    rw [hv]
    simpa using this
theorem q_idxV {x y : Operand} {t e : TypeId} {k : IntKind} {i : Int} (j : Nat) (hk : H[j]? = some (RowV T 1 V a xs c)) (d : α) (ho : o.op = .indexAddr t x y) (hx : ev E x = some (.slice a xs.length c)) (hy : ev E y = some (.int k i))
    (hu : K.P.underlying t = some (.slice e)) (hs : ∀ w, (sizeOf e).run K.P w = .ok 1 w) (h0 : 0 ≤ i) (h1 : i < xs.length) : RQ K o E H (atV a i.toNat) := fun a' w he s => by
  obtain ⟨b, off, r, ha, _⟩ := sat_posV j hk s (i := i.toNat) (by omega) d
  subst ha
  have := q_idx1 (K := K) (E := E) (H := H) ho hx hy rfl hu hs h0 h1
  exact this a' w he s
theorem q_loadV {x : Operand} {t : TypeId} {i : Nat} (f : α → Value) (j : Nat) (hk : H[j]? = some (RowV T 1 V a xs c)) (d : α) (hV : ∀ x r, V x r → r = [f x]) (ho : o.op = .load t x) (hx : ev E x = some (atV a i))
    (ha : ∀ w, (isAgg t).run K.P w = .ok false w) (hi : i < xs.length) : RQ K o E H (f (xs.getD i d)) :=
  rq_same (by rw [ho]; intro c h; cases h) fun a' w he s => by
    obtain ⟨b, off, r, e, h1, h2, h3⟩ := sat_posV j hk s hi d
    subst e
    rw [hV _ _ h1] at h3
    unfold execOp; simp only [ho]; rw [he.ev hx]
    unfold atV
    have h4 : w.cell? ⟨b, off + i, none⟩ = some (f (xs.getD i d)) := h3
    simp [Instr.loadAt, Instr.sureAddr, loadVar, ha, h4]
end
/-! ### Effects that only add, told by lists: what each value and each part hangs on is said beside it -/
theorem All.of {l : List Nat} {p : Nat → Prop} (h : ∀ i, i ∈ l → p i) : All l p := by
  induction l with
  | nil => trivial
  | cons a l ih => exact ⟨h a (List.mem_cons_self ..), ih fun i hi => h i (List.mem_cons_of_mem _ hi)⟩
theorem Agree.of {l : List Nat} {f g : Nat → Value} (h : ∀ i, i ∈ l → f i = g i) : Agree l f g := by
  induction l with
  | nil => trivial
  | cons a l ih => exact ⟨h a (List.mem_cons_self ..), ih fun i hi => h i (List.mem_cons_of_mem _ hi)⟩
def valL (vl : List ((Nat → Nat) → Value)) (γ : Nat → Nat) (i : Nat) : Value := vl.getD i (fun _ => undef) γ
def addL (al : List ((Nat → Nat) → List HA)) (γ : Nat → Nat) (i : Nat) : List HA := al.getD i (fun _ => []) γ
def DepOk : List ((Nat → Nat) → Value) → List ((Nat → Nat) → List HA) → List (List Nat) → Prop
  | v :: vs, a :: zs, d :: ds => (∀ γ γ' : Nat → Nat, (∀ j, j ∈ d → γ j = γ' j) → v γ = v γ' ∧ a γ = a γ') ∧ DepOk vs zs ds
  | [], [], [] => True
  | _, _, _ => False
theorem DepOk.at : ∀ {vl : List ((Nat → Nat) → Value)} {al : List ((Nat → Nat) → List HA)} {dl : List (List Nat)}, DepOk vl al dl → ∀ (i : Nat) (γ γ' : Nat → Nat), (∀ j, j ∈ dl.getD i [] → γ j = γ' j) → valL vl γ i = valL vl γ' i ∧ addL al γ i = addL al γ' i
  | v :: vs, a :: zs, d :: ds, h, 0, γ, γ', e => h.1 γ γ' e
  | v :: vs, a :: zs, d :: ds, h, i + 1, γ, γ', e => h.2.at i γ γ' e
  | [], [], [], _, i, γ, γ', e => ⟨rfl, rfl⟩
theorem addL_flat {γ : Nat → Nat} : ∀ (al : List ((Nat → Nat) → List HA)), (List.range al.length).flatMap (addL al γ) = (al.map fun a => a γ).flatten
  | [] => rfl
  | a :: zs => by
    rw [List.length_cons, List.range_succ_eq_map, List.flatMap_cons, List.flatMap_map, List.map_cons, List.flatten_cons]
    congr 1
    exact addL_flat zs
section
variable {K : Cx} {R S Y : Type} {Q : Post R} {E : Env} {H : List HA} {o : Option R}
def EObB (K : Cx) (ops : Array Oper) (anc : List (List Nat)) (val : (Nat → Nat) → Nat → Value) (add : (Nat → Nat) → Nat → List HA) (E : Env) (H X : List HA) (i : Nat) (γ : Nat → Nat) : Prop :=
  ∃ op, ops[i]? = some op ∧ ∃ Ei, EnvOk ops anc (val γ) E i Ei ∧ GOk ops op Ei ∧
    RE K (Y := Nat) op Ei (H ++ X) (fun z => val (updN γ i z) i) (fun z => H ++ (add (updN γ i z) i ++ X))
theorem EObB.mk {ops : Array Oper} {anc : List (List Nat)} {Z : Type} {val : (Nat → Nat) → Nat → Value} {add : (Nat → Nat) → Nat → List HA} {X : List HA} {i : Nat} {γ : Nat → Nat} {op : Oper} {v : Z → Value} {H' : Z → List HA} (Ei : Env) (f : Z → Nat) (ho : ops[i]? = some op) (hg : op.guard = none) (he : EnvOk ops anc (val γ) E i Ei)
    (h : RE K (Y := Z) op Ei (H ++ X) v H') (hv : ∀ z, v z = val (updN γ i (f z)) i) (hH : ∀ z, Ent (H' z) (H ++ (add (updN γ i (f z)) i ++ X))) : EObB K ops anc val add E H X i γ :=
  ⟨op, ho, Ei, he, .inl hg, fun a w hh hs next Q hn => h a w hh hs next Q fun z w' s => by
    have := hn (f z) w' (s.ent (hH z))
    rw [hv z]; exact this⟩
theorem updN_ne {γ : Nat → Nat} {i z j : Nat} (h : j ≠ i) : updN γ i z j = γ j := by
  unfold updN
  rw [if_neg (by simp [h])]
theorem sim_drawB {id : Nat} {l : List Oper} (anc : List (List Nat)) (effs quiets : List Nat) (pre : Nat → List Nat) (vl : List ((Nat → Nat) → Value)) (al : List ((Nat → Nat) → List HA)) (dl : List (List Nat)) (E2 : (Nat → Nat) → Env)
    (hmix : K.P.follows .mixedOrders = true)
    (hon : onOk l.toArray = true) (hanc : ancOk l.toArray anc = true) (hal : Nat.ble anc.length l.length = true) (hdst : dstOk l.toArray = true)
    (hall : ((List.range l.length).all fun i => effs.contains i || quiets.contains i) = true)
    (nn : Nat) (hnn : K.n = nn) (hdn : ((List.range l.length).all fun i => match dstOf l.toArray i with | some d => Nat.blt d nn | none => true) = true)
    (hpre' : (effs.all fun i => notBehind l.toArray anc i (pre i)) = true)
    (hdep : (effs.all fun i => (pre i).all fun q => !(dl.getD q []).contains i) = true) (hlen : al.length = l.length)
    (hdk : DepOk vl al dl)
    (hqa : All quiets fun i => ∀ γ, addL al γ i = [])
    (hq : All quiets fun i => ∀ γ X, QOb K l.toArray anc (valL vl γ) E (H ++ X) i)
    (he : All effs fun i => ∀ γ X, EObB K l.toArray anc (valL vl) (addL al) E H X i γ)
    (hE : ∀ γ, Sub (E2 γ) (envL l.toArray (valL vl γ) E (List.range l.length).reverse))
    (h : ∀ γ, Nrm K Q (E2 γ) (H ++ (al.map fun a => a γ).flatten) o) : Sim K Q (.region id l.toArray true) E H o := by
  refine sim_drawA anc effs quiets pre (valL vl) (addL al) E2 hmix hon hanc hal hdst hall nn hnn hdn hpre' hqa hq ?_ hE ?_
  · refine All.of fun i hi γ X => ?_
    obtain ⟨op, h1, Ei, h2, h3, h4⟩ := he.mem hi γ X
    have hd : ∀ q, q ∈ pre i → ∀ z, valL vl (updN γ i z) q = valL vl γ q ∧ addL al (updN γ i z) q = addL al γ q := fun q hq z => by
      refine hdk.at q _ _ fun j hj => updN_ne fun e => ?_
      subst e
      have := List.all_eq_true.1 (List.all_eq_true.1 hdep j hi) q hq
      rw [Bool.not_eq_true'] at this
      rw [List.contains_iff_mem.2 hj] at this
      cases this
    exact ⟨op, h1, Ei, h2, h3, fun z => ⟨Agree.of fun q hq => (hd q hq z).1, All.of fun q hq => (hd q hq z).2⟩, h4⟩
  · intro γ
    rw [← hlen, addL_flat]
    exact h γ
theorem Ent.left {a b : List HA} : Ent (a ++ b) a := by
  induction a with
  | nil => exact Ent.nil _
  | cons x a ih => exact Ent.cons ih
theorem Ent.pick {l m : List HA} (idx : List Nat) (n : Nat) (hn : (idx.all fun i => (idx.count i == 1) && Nat.blt i n) = true) (hl : l.length = n) (hm : idx.map (fun i => l.getD i tt) = m) : Ent l m := by
  have h1 : ∀ i, i ∈ idx → idx.count i = 1 ∧ i < l.length := fun i hi => by
    have := List.all_eq_true.1 hn i hi
    rw [← hl] at this
    simpa [Nat.blt_eq] using this
  have hnd : idx.Nodup := List.nodup_iff_count.2 fun i => by
    by_cases hi : i ∈ idx
    · exact Nat.le_of_eq (h1 i hi).1
    · rw [List.count_eq_zero.2 hi]; omega
  have p : (List.range l.length).Perm (idx ++ (List.range l.length).filter fun i => !idx.contains i) := by
    refine (List.perm_ext_iff_of_nodup List.nodup_range (List.nodup_append.2 ⟨hnd, List.nodup_range.filter _, fun x hx y hy e => ?_⟩)).2 fun i => ?_
    · subst e
      have := (List.mem_filter.1 hy).2
      rw [List.contains_iff_mem.2 hx] at this
      cases this
    · rw [List.mem_append, List.mem_filter, List.mem_range]
      constructor
      · intro h
        by_cases hi : i ∈ idx
        · exact .inl hi
        · exact .inr ⟨h, by simpa using hi⟩
      · rintro (h | h)
        · exact (h1 i h).2
        · exact h.1
  have e : (List.range l.length).map (fun i => l.getD i tt) = l := by
    apply List.ext_getElem?
    intro i
    by_cases hi : i < l.length
    · simp [List.getElem?_map, List.getElem?_range hi, hi]
    · rw [List.getElem?_eq_none (by simp; omega), List.getElem?_eq_none (by omega)]
  have p2 := p.map fun i => l.getD i tt
  rw [e, List.map_append, hm] at p2
  exact (Ent.perm p2).trans Ent.left
theorem nrm_heq {E : Env} {H H' : List HA} (e : H = H') (h : Nrm K Q E H' o) : Nrm K Q E H o := by rw [e]; exact h
end
end Go.Proofs.YtbcnegennmpliaaDoor

namespace Go.Proofs.YtbcnegennmpliaaDoor
open Go.RowKit
set_option linter.unusedVariables false
set_option linter.unusedSimpArgs false
theorem stars_ne {b1 b2 : Nat} {o1 o2 : Obj} : ∀ {l : List HA} {i j : Nat} {h : Hp}, stars l h → i < j → l[i]? = some (pts b1 o1) → l[j]? = some (pts b2 o2) → b1 ≠ b2
  | [], i, j, h, _, _, hi, _ => by simp at hi
  | A :: l, 0, j + 1, h, ⟨x, y, d, e, hA, r⟩, _, hi, hj => by
    simp only [List.getElem?_cons_zero, Option.some.injEq] at hi
    subst hi
    obtain ⟨z, hz, k⟩ := knows_at l j _ (by simpa using hj) _ r
    intro hb
    subst hb
    have h1 : x b1 = some o1 := hA
    have h2 : y b1 = some o2 := k _ _ hz
    rcases d b1 with q | q
    · rw [h1] at q; cases q
    · rw [h2] at q; cases q
  | A :: l, i + 1, j + 1, h, ⟨x, y, d, e, hA, r⟩, hij, hi, hj => stars_ne (l := l) (i := i) (j := j) (o1 := o1) (o2 := o2) r (by omega) (by simpa using hi) (by simpa using hj)
section
variable {K : Cx} {E : Env} {H : List HA} {op : Oper}
theorem eq_ptr_ne {P : Program} {t e : TypeId} {n : Nat} {b1 b2 p1 p2 : Nat} {T1 T2 : TypeId} {l1 l2 : List Value} {w : World} (hu : P.underlying t = some (.pointer e)) (hs : ∀ w, (sizeOf e).run P w = .ok (n + 1) w)
    (h1 : w.heap[b1]? = some (.cells l1.toArray T1 (0, 0))) (h2 : w.heap[b2]? = some (.cells l2.toArray T2 (0, 0))) (hne : b1 ≠ b2) :
    (Op.equal t (.pointer (some ⟨b1, p1, none⟩)) (.pointer (some ⟨b2, p2, none⟩))).run P w = .ok false w := by
  rw [show Op.equal t (.pointer (some ⟨b1, p1, none⟩)) (.pointer (some ⟨b2, p2, none⟩)) = Op.equalIn (9999 + 1) t (.pointer (some ⟨b1, p1, none⟩)) (.pointer (some ⟨b2, p2, none⟩)) from rfl, Op.equalIn]
  simp [underlying, program, Sem.run, hu, hs, sameAddr, hne, frozen, World.frozen?, h1, h2, noView, viewAt, Go.shape, mayBeOne, stringish, World.shape?]
theorem q_eqpp {xt yt e : TypeId} {x y : Operand} {n : Nat} {b1 b2 p1 p2 : Nat} {T1 T2 : TypeId} {l1 l2 : List Value} (i j : Nat) (hij : Nat.blt i j = true ∨ Nat.blt j i = true) (hi : H[i]? = some (obj b1 T1 l1)) (hj : H[j]? = some (obj b2 T2 l2))
    (ho : op.op = .binOp .eql xt x y yt) (hx : ev E x = some (.pointer (some ⟨b1, p1, none⟩))) (hy : ev E y = some (.pointer (some ⟨b2, p2, none⟩))) (hu : K.P.underlying xt = some (.pointer e)) (hs : ∀ w, (sizeOf e).run K.P w = .ok (n + 1) w) : RQ K op E H (.bool false) :=
  rq_same (by rw [ho]; intro c h; cases h) fun a w he s => by
    have hne : b1 ≠ b2 := by
      have hh := s.hp
      rcases hij with q | q
      · exact stars_ne hh (by simpa [Nat.blt_eq] using q) hi hj
      · exact (stars_ne hh (by simpa [Nat.blt_eq] using q) hj hi).symm
    have h1 : w.heap[b1]? = some (.cells l1.toArray T1 (0, 0)) := by
      obtain ⟨z, hz, k⟩ := s.at hi
      exact k _ _ hz
    have h2 : w.heap[b2]? = some (.cells l2.toArray T2 (0, 0)) := by
      obtain ⟨z, hz, k⟩ := s.at hj
      exact k _ _ hz
    unfold execOp; simp only [ho]; rw [he.ev hx, he.ev hy]
    simp [eqGuard_ptr, binOp, eq_ptr_ne hu hs h1 h2 hne]
theorem q_eqpp_same {xt yt e : TypeId} {x y : Operand} {n : Nat} {b p : Nat}
    (ho : op.op = .binOp .eql xt x y yt) (hx : ev E x = some (.pointer (some ⟨b, p, none⟩))) (hy : ev E y = some (.pointer (some ⟨b, p, none⟩))) (hu : K.P.underlying xt = some (.pointer e)) (hs : ∀ w, (sizeOf e).run K.P w = .ok (n + 1) w) : RQ K op E H (.bool true) :=
  rq_same (by rw [ho]; intro c h; cases h) fun a w he s => by
    have e1 : (Op.equal xt (.pointer (some ⟨b, p, none⟩)) (.pointer (some ⟨b, p, none⟩))).run K.P w = .ok true w := by
      rw [show Op.equal xt (.pointer (some ⟨b, p, none⟩)) (.pointer (some ⟨b, p, none⟩)) = Op.equalIn (9999 + 1) xt (.pointer (some ⟨b, p, none⟩)) (.pointer (some ⟨b, p, none⟩)) from rfl, Op.equalIn]
      simp [underlying, program, Sem.run, hu, hs, sameAddr]
    unfold execOp; simp only [ho]; rw [he.ev hx, he.ev hy]
    simp [eqGuard_ptr, binOp, e1]
end
end Go.Proofs.YtbcnegennmpliaaDoor

namespace Go.Proofs.YtbcnegennmpliaaDoor
open Go.RowKit
set_option linter.unusedVariables false
set_option linter.unusedSimpArgs false
set_option maxRecDepth 20000
set_option maxHeartbeats 20000000
theorem elt5 : Elt Tryd.prog 5 1 1 [.int .u8 0] := .of (.int .u8 0) (by kernel_rfl) rfl rfl rfl rfl
abbrev Ty103 : Type := Option Nat × Option Nat × Bool
abbrev dz103 : Ty103 := (none, none, false)
theorem elt9 : Elt Tryd.prog 9 1 16 [str ([] : List UInt8)] := .of (str ([] : List UInt8)) (by kernel_rfl) rfl rfl rfl rfl
theorem elt103 : Elt Tryd.prog 103 3 24 [.nilFunc, .nilFunc, .bool false] := .of (.agg #[.nilFunc, .nilFunc, .bool false]) (by kernel_rfl) rfl rfl rfl rfl
theorem elt99 : Elt Tryd.prog 99 11 136 [str ([] : List UInt8), .int .i64 0, .int .i64 0, .int .i64 0, .int .i64 0, .int .i64 0, .int .i64 0, str ([] : List UInt8), str ([] : List UInt8), str ([] : List UInt8), .slice none 0 0] := .of (.agg #[str ([] : List UInt8), .int .i64 0, .int .i64 0, .int .i64 0, .int .i64 0, .int .i64 0, .int .i64 0, str ([] : List UInt8), str ([] : List UInt8), str ([] : List UInt8), .slice none 0 0]) (by kernel_rfl) rfl rfl rfl rfl
theorem elt115 : Elt Tryd.prog 115 1 8 [.pointer none] := .of (.pointer none) (by kernel_rfl) rfl rfl rfl rfl
theorem elt3 : Elt Tryd.prog 3 1 8 [.int .i64 0] := .of (.int .i64 0) (by kernel_rfl) rfl rfl rfl rfl
def V9 (_ : HA) (x : List UInt8) (r : List Value) : Prop := r = [str x]
theorem V9.up {G F : HA} (_ : Up G F) : ∀ x r, V9 G x r → V9 F x r := fun _ _ h => h
def V103 (_ : HA) (x : Option Nat × Option Nat × Bool) (r : List Value) : Prop := r = [fnV x.1, fnV x.2.1, .bool x.2.2]
theorem V103.up {G F : HA} (_ : Up G F) : ∀ x r, V103 G x r → V103 F x r := fun _ _ h => h
def V99 (F : HA) (x : List UInt8 × Int × Int × Int × Int × Int × Int × List UInt8 × List UInt8 × List UInt8 × (List (Option Nat × Option Nat × Bool))) (r : List Value) : Prop := ∃ (a10 : Option Addr) (c10 : Nat), r = [str x.1, .int .i64 x.2.1, .int .i64 x.2.2.1, .int .i64 x.2.2.2.1, .int .i64 x.2.2.2.2.1, .int .i64 x.2.2.2.2.2.1, .int .i64 x.2.2.2.2.2.2.1, str x.2.2.2.2.2.2.2.1, str x.2.2.2.2.2.2.2.2.1, str x.2.2.2.2.2.2.2.2.2.1, .slice a10 x.2.2.2.2.2.2.2.2.2.2.length c10] ∧ (RdV F 3 (V103 tt) a10 x.2.2.2.2.2.2.2.2.2.2 ∧ x.2.2.2.2.2.2.2.2.2.2.length ≤ c10 ∧ c10 ≤ maxLen)
theorem V99.up {G F : HA} (u : Up G F) : ∀ x r, V99 G x r → V99 F x r := by
  rintro x r ⟨a10, c10, e, ⟨h10, k10, m10⟩⟩
  exact ⟨a10, c10, e, ⟨h10.up u (fun _ _ h => h), k10, m10⟩⟩
def V115 (_ : HA) (x : (Nat × Nat)) (r : List Value) : Prop := r = [.pointer (some ⟨x.1, x.2, none⟩)]
theorem V115.up {G F : HA} (_ : Up G F) : ∀ x r, V115 G x r → V115 F x r := fun _ _ h => h
def V3 (_ : HA) (x : Int) (r : List Value) : Prop := r = [.int .i64 x]
theorem V3.up {G F : HA} (_ : Up G F) : ∀ x r, V3 G x r → V3 F x r := fun _ _ h => h
theorem mixed : Tryd.prog.follows .mixedOrders = true := by kernel_rfl
def text_plain.f (x0 : Int) : Option (Bool) := some ((decide ((32 : Int) ≤ x0)) && (decide (x0 ≤ (126 : Int))))
theorem text_plain.calls (W : World) (F : HA) (x0 : Int)  :
    Fn Tryd.prog W 41 [.int .u8 x0] [] F (text_plain.f x0) (fun (r : Bool) (y : Unit) => .bool r) (fun r y => []) := by
 unfold text_plain.f
 refine fn_intro 9 Tryd.func41 rfl Tryd.ntmps41 rfl ?_
 refine sr ?_
 refine va rfl rfl (nx ?_)
 refine vm rfl rfl ?_
 refine vq (q_geq rfl rfl rfl) rfl ?_
 refine vm rfl rfl ?_
 refine simL_valc (b := decide ((32 : Int) ≤ x0)) (fun hb2v => RQ.sub (E' := [(0, .int .u8 x0)]) ⟨rfl, trivial⟩ (q_move rfl rfl)) rfl rfl rfl rfl rfl ?_
 refine simL_valc (b := decide ((32 : Int) ≤ x0)) (fun hb1v => RQ.sub (E' := [(6, .int .u8 x0)]) ⟨lk_cv rfl hb1v, trivial⟩ (q_leq rfl rfl rfl)) rfl rfl rfl rfl rfl ?_
 refine vq (q_and rfl rfl rfl) rfl ?_
 refine va rfl rfl (simL_nil (nrm_then (sim_rtn ?_)))
 exact rtn_fn () rfl rfl rfl (.sel 0 rfl (.nil _))
def text_plain.v (x0 : Int) : Bool := (text_plain.f x0).getD false
theorem text_plain.tot (x0 : Int) : text_plain.f x0 = some (text_plain.v x0) := by
  have h : ∃ r, text_plain.f x0 = some r := by
    unfold text_plain.f
    repeat' (first | exact ⟨_, rfl⟩ | split | simp only [Option.bind_some])
  obtain ⟨r, h⟩ := h
  unfold text_plain.v
  rw [h]; rfl

def strings_HasPrefix.f (x0 : List UInt8) (x1 : List UInt8) : Option (Bool) := some (Lib.hasPrefix x0 x1)
theorem strings_HasPrefix.calls (W : World) (F : HA) (x0 : List UInt8) (x1 : List UInt8)  :
    Fn Tryd.prog W 62 [str x0, str x1] [] F (strings_HasPrefix.f x0 x1) (fun (r : Bool) (y : Unit) => .bool r) (fun r y => []) := by
  unfold strings_HasPrefix.f
  exact fn_same (fun w => Any.strings_HasPrefix shL99 ⟨x0.toArray⟩ ⟨x1.toArray⟩ w)

def strings_IndexByte.f (x0 : List UInt8) (x1 : Int) : Option (Int) := some (Lib.indexByte x0 x1.toNat.toUInt8)
theorem strings_IndexByte.calls (W : World) (F : HA) (x0 : List UInt8) (x1 : Int)  :
    Fn Tryd.prog W 83 [str x0, .int .u8 x1] [] F (strings_IndexByte.f x0 x1) (fun (r : Int) (y : Unit) => .int .i64 r) (fun r y => []) := by
  unfold strings_IndexByte.f
  exact fn_same (fun w => Any.strings_IndexByte shL137 ⟨x0.toArray⟩ x1 w)

def text_escaped.f (x0 : List UInt8) : Option (Int × Bool) := (if (x0.length : Int) < (3 : Int) then (some true) else (if 0 ≤ (0 : Int) ∧ (0 : Int) < (x0.length : Int) then (some (!decide (((x0.getD (0 : Int).toNat 0).toNat : Int) = (120 : Int)))) else none)).bind fun s1v => (if s1v = true then (some (0, false)) else (if 0 ≤ (1 : Int) ∧ (1 : Int) < (x0.length : Int) then ((strings_IndexByte.f ([48, 49, 50, 51, 52, 53, 54, 55, 56, 57, 97, 98, 99, 100, 101, 102] : List UInt8) ((x0.getD (1 : Int).toNat 0).toNat : Int)).bind fun s9v => (if 0 ≤ (2 : Int) ∧ (2 : Int) < (x0.length : Int) then ((strings_IndexByte.f ([48, 49, 50, 51, 52, 53, 54, 55, 56, 57, 97, 98, 99, 100, 101, 102] : List UInt8) ((x0.getD (2 : Int).toNat 0).toNat : Int)).bind fun s13v => ((if ((decide ((0 : Int) ≤ s9v)) && (decide ((0 : Int) ≤ s13v))) = true then ((text_plain.f (IntKind.u8.wrap (IntKind.i64.wrap ((IntKind.i64.wrap (16 * s9v)) + s13v)))).bind fun s19v => (some (!s19v))) else (some false)).bind fun s17v => (some (IntKind.u8.wrap (IntKind.i64.wrap ((IntKind.i64.wrap (16 * s9v)) + s13v)), s17v)))) else none)) else none))
theorem text_escaped.calls (W : World) (F : HA) (x0 : List UInt8)  :
    Fn Tryd.prog W 63 [str x0] [] F (text_escaped.f x0) (fun (r : Int × Bool) (y : Unit) => .tuple #[.int .u8 r.1, .bool r.2]) (fun r y => []) := by
 unfold text_escaped.f
 refine fn_intro 38 Tryd.func63 rfl Tryd.ntmps63 rfl ?_
 refine sr ?_
 refine va rfl rfl ?_
 refine va rfl rfl (simL_nil (nrm_then (sim_seq (sr ?_))))
 refine vm rfl rfl ?_
 refine vq (q_lens rfl rfl rfl Tryd.underlying9) rfl ?_
 refine vq (q_lss rfl rfl rfl) rfl ?_
 refine vm rfl rfl ?_
 refine simL_cut' 4 (S := Bool) (Unit) (fun s y => [(0, str x0), (14, .bool s)]) (fun s y => [F]) ?_ ?_
 refine simL_casep (fun hb4v => ?_) (fun hb5v => ?_)
 rw [hb4v]
 refine simL_skipd rfl rfl rfl rfl rfl rfl ?_
 refine simL_skipd rfl rfl rfl rfl rfl rfl ?_
 refine simL_skipd rfl rfl rfl rfl rfl rfl ?_
 refine vq (q_pick rfl rfl rfl rfl rfl) rfl (simL_nil ?_)
 exact nrm_cut (s := true) () ⟨rfl, rfl, trivial⟩ (.sel 0 rfl (.nil _))
 rw [hb5v]
 refine simL_valg (q_move rfl rfl) rfl rfl rfl rfl rfl rfl ?_
 refine simL_ask (fun hi3v => ?_)
 refine simL_valg (q_sidx rfl rfl rfl Tryd.underlying9 hi3v.1 hi3v.2) rfl rfl rfl rfl rfl rfl ?_
 refine simL_valg (q_neq rfl rfl rfl) rfl rfl rfl rfl rfl rfl ?_
 refine vq (q_pick rfl rfl rfl rfl rfl) rfl (simL_nil ?_)
 exact nrm_cut (s := !decide (((x0.getD (0 : Int).toNat 0).toNat : Int) = (120 : Int))) () ⟨rfl, rfl, trivial⟩ (.sel 0 rfl (.nil _))
 intro s1v y2v
 refine simL_nil (nrm_then ?_)
 refine sim_condb rfl (fun h6v => ?_) (fun h7v => ?_)
 refine sr ?_
 refine va rfl rfl ?_
 refine va rfl rfl (simL_nil (nrm_then (sim_rtn ?_)))
 refine rtn_then ?_
 exact rtn_fn () rfl rfl rfl (.sel 0 rfl (.nil _))
 refine sim_skip ?_
 refine nrm_then (sim_seq ?_)
 refine sim_ask (fun hi8v => ?_)
 refine sim_bind (fun s9v hs10v => ?_)
 refine sim_ask (fun hi12v => ?_)
 refine sim_bind (fun s13v hs14v => ?_)
 refine sim_draw (Γ := Unit) () [[], [0], [0, 1], [], [3], rL 5, rL 6, rL 7] [2, 5] [0, 1, 3, 4, 6, 7] (fun i => [[0], [0], [], [0, 1], [0, 1], [], [2], [2]].getD i []) (fun i => [[], [], [0, 1, 3, 4], [], [], rL 5, [], []].getD i []) (fun γ i => [str x0, .int .u8 ((x0.getD (1 : Int).toNat 0).toNat : Int), .int .i64 s9v, str x0, .int .u8 ((x0.getD (2 : Int).toNat 0).toNat : Int), .int .i64 s13v, .int .i64 s9v, .int .i64 s13v].getD i undef) (fun j γ => [[F], [F], [F]].getD j []) (fun γ => [(4, .int .i64 s9v), (5, .int .i64 s13v)]) mixed (by decide) (by decide) (by decide) (by decide) (by decide) (by decide) (by decide) 38 rfl (by decide) (by decide) (by decide) (Ent.refl _) ?_ ?_ (fun _ => ⟨rfl, rfl, trivial⟩) ?_
 exact (aq rfl (fun γ => qm rfl (.o (s := 0) rfl (by decide) .nil) rfl) (aq rfl (fun γ => qp rfl rfl (.v 0 rfl rfl .nil) (q_sidx rfl rfl rfl Tryd.underlying9 hi8v.1 hi8v.2) rfl) (ac (fun γ => (ac (qm rfl (.o (s := 0) rfl (by decide) .nil) rfl) (ac (qm rfl (.o (s := 0) rfl (by decide) .nil) rfl) zA))) (ac (fun γ => (ac (qp rfl rfl (.v 3 rfl rfl .nil) (q_sidx rfl rfl rfl Tryd.underlying9 hi12v.1 hi12v.2) rfl) (ac (qp rfl rfl (.v 3 rfl rfl .nil) (q_sidx rfl rfl rfl Tryd.underlying9 hi12v.1 hi12v.2) rfl) zA))) (aq rfl (fun γ => qp rfl rfl (.v 2 rfl rfl .nil) (q_asg rfl rfl) rfl) (aq rfl (fun γ => qp rfl rfl (.v 5 rfl rfl .nil) (q_asg rfl rfl) rfl) zA))))))
 exact (ac (fun γ => eo (Z := Unit) (fun z => ()) rfl rfl (.v 1 rfl rfl .nil) (re_call (vs := [str ([48, 49, 50, 51, 52, 53, 54, 55, 56, 57, 97, 98, 99, 100, 101, 102] : List UInt8), .int .u8 ((x0.getD (1 : Int).toNat 0).toNat : Int)]) (cap := []) (A := []) (rst := [F]) rfl rfl rfl rfl rfl rfl Tryd.call83 (.sel 0 rfl (.nil _)) (strings_IndexByte.calls _ _ ([48, 49, 50, 51, 52, 53, 54, 55, 56, 57, 97, 98, 99, 100, 101, 102] : List UInt8) ((x0.getD (1 : Int).toNat 0).toNat : Int) ) hs10v) (fun _ => ⟨rfl, rfl, rfl, rfl, trivial⟩) (fun _ => .inr rfl) (fun z => Ent.refl _)) (ac (fun γ => eo (Z := Unit) (fun z => ()) rfl rfl (.v 4 rfl rfl .nil) (re_call (vs := [str ([48, 49, 50, 51, 52, 53, 54, 55, 56, 57, 97, 98, 99, 100, 101, 102] : List UInt8), .int .u8 ((x0.getD (2 : Int).toNat 0).toNat : Int)]) (cap := []) (A := []) (rst := [F]) rfl rfl rfl rfl rfl rfl Tryd.call83 (.sel 0 rfl (.nil _)) (strings_IndexByte.calls _ _ ([48, 49, 50, 51, 52, 53, 54, 55, 56, 57, 97, 98, 99, 100, 101, 102] : List UInt8) ((x0.getD (2 : Int).toNat 0).toNat : Int) ) hs14v) (fun _ => ⟨rfl, rfl, rfl, rfl, rfl, trivial⟩) (fun _ => .inr rfl) (fun z => Ent.refl _)) zA))
 intro g16v
 refine nrm_then (sr ?_)
 refine vm rfl rfl ?_
 refine vq (q_mul rfl rfl rfl) rfl ?_
 refine vm rfl rfl ?_
 refine vq (q_add rfl rfl rfl) rfl ?_
 refine vq (q_conv rfl rfl Tryd.underlying3 Tryd.underlying5) rfl ?_
 refine va rfl rfl (nx ?_)
 refine vm rfl rfl ?_
 refine vm rfl rfl ?_
 refine vq (q_geq rfl rfl rfl) rfl ?_
 refine vm rfl rfl ?_
 refine simL_valc (b := decide ((0 : Int) ≤ s9v)) (fun hb25v => RQ.sub (E' := [(5, .int .i64 s13v)]) ⟨rfl, trivial⟩ (q_move rfl rfl)) rfl rfl rfl rfl rfl ?_
 refine simL_valc (b := decide ((0 : Int) ≤ s9v)) (fun hb24v => RQ.sub (E' := [(30, .int .i64 s13v)]) ⟨lk_cv rfl hb24v, trivial⟩ (q_geq rfl rfl rfl)) rfl rfl rfl rfl rfl ?_
 refine vq (q_and rfl rfl rfl) rfl ?_
 refine vm rfl rfl ?_
 refine simL_cut' 4 (S := Bool) (Unit) (fun s y => [(26, .int .u8 (IntKind.u8.wrap (IntKind.i64.wrap ((IntKind.i64.wrap (16 * s9v)) + s13v)))), (37, .bool s)]) (fun s y => [F]) ?_ ?_
 refine simL_caseb (fun hb22v => ?_) (fun hb23v => ?_)
 rw [hb22v]
 refine simL_valg (q_move rfl rfl) rfl rfl rfl rfl rfl rfl ?_
 refine simL_bind (fun s19v hs20v => ?_)
 refine simL_effg (re_call (vs := [.int .u8 (IntKind.u8.wrap (IntKind.i64.wrap ((IntKind.i64.wrap (16 * s9v)) + s13v)))]) (cap := []) (A := []) (rst := [F]) rfl rfl rfl rfl rfl rfl Tryd.call41 (.sel 0 rfl (.nil _)) (text_plain.calls _ _ (IntKind.u8.wrap (IntKind.i64.wrap ((IntKind.i64.wrap (16 * s9v)) + s13v))) ) hs20v) rfl rfl rfl rfl rfl rfl ?_
 intro y21v
 refine simL_valg (q_not rfl rfl) rfl rfl rfl rfl rfl rfl ?_
 refine vq (q_pick rfl rfl rfl rfl rfl) rfl (simL_nil ?_)
 exact nrm_cut (s := !s19v) () ⟨rfl, rfl, trivial⟩ (.sel 0 rfl (.nil _))
 rw [hb23v]
 refine simL_skipd rfl rfl rfl rfl rfl rfl ?_
 refine simL_skipd rfl rfl rfl rfl rfl rfl ?_
 refine simL_skipd rfl rfl rfl rfl rfl rfl ?_
 refine vq (q_pick rfl rfl rfl rfl rfl) rfl (simL_nil ?_)
 exact nrm_cut (s := false) () ⟨rfl, rfl, trivial⟩ (.sel 0 rfl (.nil _))
 intro s17v y18v
 refine va rfl rfl ?_
 refine va rfl rfl (simL_nil (nrm_then (sim_rtn ?_)))
 exact rtn_fn () rfl rfl rfl (.sel 0 rfl (.nil _))

def text_quoted.l0 (x0 : List UInt8) : Nat → List UInt8 → Int → Option ((Unit) ⊕ (List UInt8 × Int))
  | 0, _, _ => none
  | k + 1, z5v, z6v => if z6v < (x0.length : Int) then (if 0 ≤ z6v ∧ z6v < (x0.length : Int) then (if 0 ≤ IntKind.i64.wrap (z6v + 1) ∧ IntKind.i64.wrap (z6v + 1) ≤ (x0.length : Int) ∧ (x0.length : Int) ≤ (x0.length : Int) then (if ((x0.getD z6v.toNat 0).toNat : Int) = (34 : Int) then (some (.inr (z5v, IntKind.i64.wrap (z6v + 1)))) else ((text_plain.f ((x0.getD z6v.toNat 0).toNat : Int)).bind fun s13v => (if (!s13v) = true then (some (.inr (([] : List UInt8), 0))) else (if ((x0.getD z6v.toNat 0).toNat : Int) = (92 : Int) then ((strings_HasPrefix.f (cut x0 (IntKind.i64.wrap (z6v + 1)) (x0.length : Int)) ([34] : List UInt8)).bind fun s20v => ((if s20v = true then (some true) else ((strings_HasPrefix.f (cut x0 (IntKind.i64.wrap (z6v + 1)) (x0.length : Int)) ([92] : List UInt8)).bind fun s25v => (some s25v))).bind fun s23v => (if s23v = true then (if 0 ≤ (0 : Int) ∧ (0 : Int) < ((cut x0 (IntKind.i64.wrap (z6v + 1)) (x0.length : Int)).length : Int) then (if (z5v.length + ([((cut x0 (IntKind.i64.wrap (z6v + 1)) (x0.length : Int)).getD (0 : Int).toNat 0)] : List UInt8).length) * 1 ≤ 140737488355328 then (text_quoted.l0 x0 k (z5v ++ ([((cut x0 (IntKind.i64.wrap (z6v + 1)) (x0.length : Int)).getD (0 : Int).toNat 0)] : List UInt8)) (IntKind.i64.wrap ((IntKind.i64.wrap (z6v + 1)) + 1))) else none) else none) else ((text_escaped.f (cut x0 (IntKind.i64.wrap (z6v + 1)) (x0.length : Int))).bind fun s37v => (if (!s37v.2) = true then (some (.inr (([] : List UInt8), 0))) else (if 0 ≤ s37v.1 ∧ s37v.1 < 256 then (if (z5v.length + ([(byte s37v.1)] : List UInt8).length) * 1 ≤ 140737488355328 then (text_quoted.l0 x0 k (z5v ++ ([(byte s37v.1)] : List UInt8)) (IntKind.i64.wrap ((IntKind.i64.wrap (z6v + 3)) + 1))) else none) else none)))))) else (if (z5v.length + ([(x0.getD z6v.toNat 0)] : List UInt8).length) * 1 ≤ 140737488355328 then (text_quoted.l0 x0 k (z5v ++ ([(x0.getD z6v.toNat 0)] : List UInt8)) (IntKind.i64.wrap (z6v + 1))) else none))))) else none) else none) else (some (.inl ()))
def text_quoted.f (k : Nat) (x0 : List UInt8) : Option (List UInt8 × Int) := orR (text_quoted.l0 x0 k ([] : List UInt8) 0) fun s1v => (some (([] : List UInt8), 0))
theorem text_quoted.calls (W : World) (F : HA) (k : Nat) (x0 : List UInt8)  :
    Fn Tryd.prog W 37 [str x0] [] F (text_quoted.f k x0) (fun (r : List UInt8 × Int) (y : Unit) => .tuple #[str r.1, .int .i64 r.2]) (fun r y => []) := by
 unfold text_quoted.f
 refine fn_intro 68 Tryd.func37 rfl Tryd.ntmps37 rfl ?_
 refine sr ?_
 refine va rfl rfl ?_
 refine va rfl rfl (nx ?_)
 refine va rfl rfl (simL_nil (nrm_then ?_))
 refine sim_cutR (S := Unit) (Unit) (fun s y => []) (fun s y => [F]) ?_ ?_
 refine sr ?_
 refine va rfl rfl (simL_nil (nrm_then ?_))
 refine sim_block ?_
 refine sim_loop (S := List UInt8 × Int) (Option Addr × Nat) (fun k s => text_quoted.l0 x0 k s.1 s.2) (fun s y => [(0, str x0), (4, .slice y.1 s.1.length y.2), (5, .int .i64 s.2)]) (fun s y => [Row 5 1 y.1 s.1.length y.2 (encB s.1), F]) (fun _ => by rw [text_quoted.l0]) ?_ k (([] : List UInt8), 0) (none, 0) ⟨rfl, rfl, rfl, trivial⟩ (.row_nil (.sel 0 rfl (.nil _)))
 intro k s3v y4v
 refine sim_eq (by rw [text_quoted.l0]) ?_
 refine sim_seq (sr ?_)
 refine vm rfl rfl ?_
 refine vm rfl rfl ?_
 refine vq (q_lens rfl rfl rfl Tryd.underlying9) rfl ?_
 refine vq (q_lss rfl rfl rfl) rfl (simL_nil (nrm_then ?_))
 refine sim_cond rfl (fun h7v => ?_) (fun h8v => ?_)
 refine sim_skip ?_
 refine nrm_then (sim_seq ?_)
 refine sim_block ?_
 refine sr ?_
 refine vm rfl rfl ?_
 refine vm rfl rfl ?_
 refine simL_ask (fun hi9v => ?_)
 refine vq (q_sidx rfl rfl rfl Tryd.underlying9 hi9v.1 hi9v.2) rfl ?_
 refine va rfl rfl (nx ?_)
 refine vm rfl rfl ?_
 refine vm rfl rfl ?_
 refine vq (q_add rfl rfl rfl) rfl ?_
 refine simL_ask (fun hb10v => ?_)
 refine vq (q_cutS (lo' := IntKind.i64.wrap (s3v.2 + 1)) (hi' := (x0.length : Int)) rfl rfl rfl rfl Tryd.underlying9 (.inl ⟨rfl, rfl⟩) (.inr ⟨_, rfl⟩) hb10v) rfl ?_
 refine va rfl rfl (simL_nil (nrm_then ?_))
 refine sim_block ?_
 refine sr ?_
 refine vm rfl rfl ?_
 refine vq (q_eql rfl rfl rfl) rfl ?_
 refine va rfl rfl (simL_nil (nrm_then ?_))
 refine sim_cond rfl (fun h11v => ?_) (fun h12v => ?_)
 refine sr ?_
 refine vm rfl rfl ?_
 refine vq (q_tostr rfl rfl Tryd.underlying93 Tryd.underlying5 Tryd.underlying9 (Rds.row 0 rfl) rfl) rfl ?_
 refine vm rfl rfl ?_
 refine vq (q_add rfl rfl rfl) rfl ?_
 refine va rfl rfl ?_
 refine va rfl rfl (simL_nil (nrm_then (sim_rtn ?_)))
 refine rtn_block ?_
 refine rtn_block ?_
 refine rtn_then ?_
 refine rtn_loop ?_
 refine rtn_block ?_
 refine rtn_cutR ?_
 exact rtn_fn () rfl rfl rfl (.sel 1 rfl (.nil _))
 refine sr ?_
 refine vm rfl rfl ?_
 refine simL_bind (fun s13v hs14v => ?_)
 refine simL_eff (re_call (vs := [.int .u8 ((x0.getD s3v.2.toNat 0).toNat : Int)]) (cap := []) (A := []) (rst := [Row 5 1 y4v.1 s3v.1.length y4v.2 (encB s3v.1), F]) rfl rfl rfl rfl rfl rfl Tryd.call41 (.sel 0 rfl (.sel 0 rfl (.nil _))) (text_plain.calls _ _ ((x0.getD s3v.2.toNat 0).toNat : Int) ) hs14v) rfl rfl rfl ?_
 intro y15v
 refine vq (q_not rfl rfl) rfl ?_
 refine va rfl rfl (simL_nil (nrm_then ?_))
 refine sim_condb rfl (fun h16v => ?_) (fun h17v => ?_)
 refine sr ?_
 refine va rfl rfl ?_
 refine va rfl rfl (simL_nil (nrm_then (sim_rtn ?_)))
 refine rtn_block ?_
 refine rtn_block ?_
 refine rtn_then ?_
 refine rtn_loop ?_
 refine rtn_block ?_
 refine rtn_cutR ?_
 exact rtn_fn () rfl rfl rfl (.sel 1 rfl (.nil _))
 refine sr ?_
 refine vm rfl rfl ?_
 refine vq (q_neq rfl rfl rfl) rfl ?_
 refine va rfl rfl (simL_nil (nrm_then ?_))
 refine sim_condn rfl (fun h18v => ?_) (fun h19v => ?_)
 refine sr ?_
 refine vm rfl rfl ?_
 refine simL_bind (fun s20v hs21v => ?_)
 refine simL_eff (re_call (vs := [str (cut x0 (IntKind.i64.wrap (s3v.2 + 1)) (x0.length : Int)), str ([34] : List UInt8)]) (cap := []) (A := []) (rst := [Row 5 1 y4v.1 s3v.1.length y4v.2 (encB s3v.1), F]) rfl rfl rfl rfl rfl rfl Tryd.call62 (.sel 0 rfl (.sel 0 rfl (.nil _))) (strings_HasPrefix.calls _ _ (cut x0 (IntKind.i64.wrap (s3v.2 + 1)) (x0.length : Int)) ([34] : List UInt8) ) hs21v) rfl rfl rfl ?_
 intro y22v
 refine vm rfl rfl ?_
 refine simL_cut' 3 (S := Bool) (Unit) (fun s y => [(0, str x0), (4, .slice y4v.1 s3v.1.length y4v.2), (5, .int .i64 s3v.2), (7, str (cut x0 (IntKind.i64.wrap (s3v.2 + 1)) (x0.length : Int))), (60, .bool s)]) (fun s y => [Row 5 1 y4v.1 s3v.1.length y4v.2 (encB s3v.1), F]) ?_ ?_
 refine simL_caseb (fun hb28v => ?_) (fun hb29v => ?_)
 rw [hb28v]
 refine simL_skipd rfl rfl rfl rfl rfl rfl ?_
 refine simL_skipd rfl rfl rfl rfl rfl rfl ?_
 refine vq (q_pick rfl rfl rfl rfl rfl) rfl (simL_nil ?_)
 exact nrm_cut (s := true) () ⟨rfl, rfl, rfl, rfl, rfl, trivial⟩ (.sel 0 rfl (.sel 0 rfl (.nil _)))
 rw [hb29v]
 refine simL_valg (q_move rfl rfl) rfl rfl rfl rfl rfl rfl ?_
 refine simL_bind (fun s25v hs26v => ?_)
 refine simL_effg (re_call (vs := [str (cut x0 (IntKind.i64.wrap (s3v.2 + 1)) (x0.length : Int)), str ([92] : List UInt8)]) (cap := []) (A := []) (rst := [Row 5 1 y4v.1 s3v.1.length y4v.2 (encB s3v.1), F]) rfl rfl rfl rfl rfl rfl Tryd.call62 (.sel 0 rfl (.sel 0 rfl (.nil _))) (strings_HasPrefix.calls _ _ (cut x0 (IntKind.i64.wrap (s3v.2 + 1)) (x0.length : Int)) ([92] : List UInt8) ) hs26v) rfl rfl rfl rfl rfl rfl ?_
 intro y27v
 refine vq (q_pick rfl rfl rfl rfl rfl) rfl (simL_nil ?_)
 exact nrm_cut (s := s25v) () ⟨rfl, rfl, rfl, rfl, rfl, trivial⟩ (.sel 0 rfl (.sel 0 rfl (.nil _)))
 intro s23v y24v
 refine va rfl rfl (simL_nil (nrm_then ?_))
 refine sim_condb rfl (fun h30v => ?_) (fun h31v => ?_)
 refine sr ?_
 refine vm rfl rfl ?_
 refine vm rfl rfl ?_
 refine simL_ask (fun hi32v => ?_)
 refine vq (q_sidx rfl rfl rfl Tryd.underlying9 hi32v.1 hi32v.2) rfl ?_
 refine simL_eff (re_litb (cs := [.int .u8 (((cut x0 (IntKind.i64.wrap (s3v.2 + 1)) (x0.length : Int)).getD (0 : Int).toNat 0).toNat : Int)]) ([((cut x0 (IntKind.i64.wrap (s3v.2 + 1)) (x0.length : Int)).getD (0 : Int).toNat 0)] : List UInt8) rfl rfl Tryd.underlying93 elt5 rfl (by kernel_rfl) rfl rfl rfl) rfl rfl rfl ?_
 intro b33v
 refine simL_ask (fun hb36v => ?_)
 refine simL_eff (re_appendb 1 rfl rfl rfl Tryd.underlying93 elt5 rfl (Rds.row 0 rfl) hb36v) rfl rfl rfl ?_
 intro y35v
 refine va rfl rfl (ny ?_)
 refine vm rfl rfl ?_
 refine vq (q_add rfl rfl rfl) rfl ?_
 refine va rfl rfl (simL_nil (nrm_block (nrm_block (nrm_then (sim_region ?_)))))
 refine vm rfl rfl ?_
 refine vq (q_add rfl rfl rfl) rfl ?_
 refine va rfl rfl (simL_nil ?_)
 exact nrm_again (s := (s3v.1 ++ ([((cut x0 (IntKind.i64.wrap (s3v.2 + 1)) (x0.length : Int)).getD (0 : Int).toNat 0)] : List UInt8), IntKind.i64.wrap ((IntKind.i64.wrap (s3v.2 + 1)) + 1))) (y35v.1, y35v.2) ⟨rfl, rfl, rfl, trivial⟩ (.sel 1 rfl (.sel 1 rfl (.nil _)))
 refine sr ?_
 refine vm rfl rfl ?_
 refine simL_bind (fun s37v hs38v => ?_)
 refine simL_eff (re_call (vs := [str (cut x0 (IntKind.i64.wrap (s3v.2 + 1)) (x0.length : Int))]) (cap := []) (A := []) (rst := [Row 5 1 y4v.1 s3v.1.length y4v.2 (encB s3v.1), F]) rfl rfl rfl rfl rfl rfl Tryd.call63 (.sel 0 rfl (.sel 0 rfl (.nil _))) (text_escaped.calls _ _ (cut x0 (IntKind.i64.wrap (s3v.2 + 1)) (x0.length : Int)) ) hs38v) rfl rfl rfl ?_
 intro y39v
 refine vm rfl rfl ?_
 refine vq (q_ext rfl rfl rfl) rfl ?_
 refine vq (q_ext rfl rfl rfl) rfl ?_
 refine va rfl rfl ?_
 refine va rfl rfl (simL_nil (nrm_then (sim_seq (sr ?_))))
 refine vm rfl rfl ?_
 refine vq (q_not rfl rfl) rfl (simL_nil (nrm_then ?_))
 refine sim_condb rfl (fun h40v => ?_) (fun h41v => ?_)
 refine sr ?_
 refine va rfl rfl ?_
 refine va rfl rfl (simL_nil (nrm_then (sim_rtn ?_)))
 refine rtn_then ?_
 refine rtn_block ?_
 refine rtn_block ?_
 refine rtn_then ?_
 refine rtn_loop ?_
 refine rtn_block ?_
 refine rtn_cutR ?_
 exact rtn_fn () rfl rfl rfl (.sel 1 rfl (.nil _))
 refine sim_skip ?_
 refine nrm_then (sr ?_)
 refine vm rfl rfl ?_
 refine vm rfl rfl ?_
 refine simL_ask (fun hb43v => ?_)
 refine simL_eff (re_litb (cs := [.int .u8 s37v.1]) ([(byte s37v.1)] : List UInt8) rfl rfl Tryd.underlying93 elt5 rfl (by kernel_rfl) rfl rfl (byte_lit1 hb43v)) rfl rfl rfl ?_
 intro b42v
 refine simL_ask (fun hb45v => ?_)
 refine simL_eff (re_appendb 1 rfl rfl rfl Tryd.underlying93 elt5 rfl (Rds.row 0 rfl) hb45v) rfl rfl rfl ?_
 intro y44v
 refine va rfl rfl (ny ?_)
 refine vm rfl rfl ?_
 refine vq (q_add rfl rfl rfl) rfl ?_
 refine va rfl rfl (simL_nil (nrm_block (nrm_block (nrm_then (sim_region ?_)))))
 refine vm rfl rfl ?_
 refine vq (q_add rfl rfl rfl) rfl ?_
 refine va rfl rfl (simL_nil ?_)
 exact nrm_again (s := (s3v.1 ++ ([(byte s37v.1)] : List UInt8), IntKind.i64.wrap ((IntKind.i64.wrap (s3v.2 + 3)) + 1))) (y44v.1, y44v.2) ⟨rfl, rfl, rfl, trivial⟩ (.sel 1 rfl (.sel 1 rfl (.nil _)))
 refine sim_region ?_
 refine vm rfl rfl ?_
 refine vm rfl rfl ?_
 refine simL_eff (re_litb (cs := [.int .u8 ((x0.getD s3v.2.toNat 0).toNat : Int)]) ([(x0.getD s3v.2.toNat 0)] : List UInt8) rfl rfl Tryd.underlying93 elt5 rfl (by kernel_rfl) rfl rfl rfl) rfl rfl rfl ?_
 intro b46v
 refine simL_ask (fun hb49v => ?_)
 refine simL_eff (re_appendb 1 rfl rfl rfl Tryd.underlying93 elt5 rfl (Rds.row 0 rfl) hb49v) rfl rfl rfl ?_
 intro y48v
 refine va rfl rfl (simL_nil (nrm_block (nrm_block (nrm_then (sim_region ?_)))))
 refine vm rfl rfl ?_
 refine vq (q_add rfl rfl rfl) rfl ?_
 refine va rfl rfl (simL_nil ?_)
 exact nrm_again (s := (s3v.1 ++ ([(x0.getD s3v.2.toNat 0)] : List UInt8), IntKind.i64.wrap (s3v.2 + 1))) (y48v.1, y48v.2) ⟨rfl, rfl, rfl, trivial⟩ (.sel 1 rfl (.sel 1 rfl (.nil _)))
 refine sim_exi ?_
 refine exi_then ?_
 refine exi_loop ?_
 refine exi_here ?_
 exact nrm_cutR (s := ()) () trivial (.sel 1 rfl (.nil _))
 intro s1v y2v
 refine sr ?_
 refine va rfl rfl ?_
 refine va rfl rfl (simL_nil (nrm_then (sim_rtn ?_)))
 exact rtn_fn () rfl rfl rfl (.sel 0 rfl (.nil _))

def text_bare.f (x0 : Int) : Option (Bool) := (text_plain.f x0).bind fun s1v => (some ((s1v && (!decide (x0 = (32 : Int)))) && (!decide (x0 = (34 : Int)))))
theorem text_bare.calls (W : World) (F : HA) (x0 : Int)  :
    Fn Tryd.prog W 38 [.int .u8 x0] [] F (text_bare.f x0) (fun (r : Bool) (y : Unit) => .bool r) (fun r y => []) := by
 unfold text_bare.f
 refine fn_intro 13 Tryd.func38 rfl Tryd.ntmps38 rfl ?_
 refine sr ?_
 refine va rfl rfl (nx ?_)
 refine vm rfl rfl ?_
 refine simL_bind (fun s1v hs2v => ?_)
 refine simL_eff (re_call (vs := [.int .u8 x0]) (cap := []) (A := []) (rst := [F]) rfl rfl rfl rfl rfl rfl Tryd.call41 (.sel 0 rfl (.nil _)) (text_plain.calls _ _ x0 ) hs2v) rfl rfl rfl ?_
 intro y3v
 refine vm rfl rfl ?_
 refine simL_valc (b := s1v) (fun hb7v => RQ.sub (E' := [(0, .int .u8 x0)]) ⟨rfl, trivial⟩ (q_move rfl rfl)) rfl rfl rfl rfl rfl ?_
 refine simL_valc (b := s1v) (fun hb6v => RQ.sub (E' := [(6, .int .u8 x0)]) ⟨lk_cv rfl hb6v, trivial⟩ (q_neq rfl rfl rfl)) rfl rfl rfl rfl rfl ?_
 refine vq (q_and rfl rfl rfl) rfl ?_
 refine vm rfl rfl ?_
 refine simL_valc (b := s1v && (!decide (x0 = (32 : Int)))) (fun hb5v => RQ.sub (E' := [(0, .int .u8 x0)]) ⟨rfl, trivial⟩ (q_move rfl rfl)) rfl rfl rfl rfl rfl ?_
 refine simL_valc (b := s1v && (!decide (x0 = (32 : Int)))) (fun hb4v => RQ.sub (E' := [(10, .int .u8 x0)]) ⟨lk_cv rfl hb4v, trivial⟩ (q_neq rfl rfl rfl)) rfl rfl rfl rfl rfl ?_
 refine vq (q_and rfl rfl rfl) rfl ?_
 refine va rfl rfl (simL_nil (nrm_then (sim_rtn ?_)))
 exact rtn_fn () rfl rfl rfl (.sel 0 rfl (.nil _))

def text_Words.l1 (x0 : List UInt8) : Nat → Int → Option (Int)
  | 0, _ => none
  | k + 1, z44v => (if z44v < (x0.length : Int) then (if 0 ≤ z44v ∧ z44v < (x0.length : Int) then ((text_bare.f ((x0.getD z44v.toNat 0).toNat : Int)).bind fun s48v => (some s48v)) else none) else (some false)).bind fun s45v => (if s45v = true then (text_Words.l1 x0 k (IntKind.i64.wrap (z44v + 1))) else (some z44v))
def text_Words.l0 (x0 : List UInt8) : Nat → List (List UInt8) → Int → Option ((List (List UInt8)) ⊕ (List (List UInt8) × Int))
  | 0, _, _ => none
  | k + 1, z7v, z8v => if z8v < (x0.length : Int) then (if 0 ≤ z8v ∧ z8v < (x0.length : Int) then (if ((x0.getD z8v.toNat 0).toNat : Int) = (32 : Int) then (text_Words.l0 x0 k z7v (IntKind.i64.wrap (z8v + 1))) else (if 0 ≤ z8v ∧ z8v < (x0.length : Int) then (if ((x0.getD z8v.toNat 0).toNat : Int) = (34 : Int) then (if 0 ≤ IntKind.i64.wrap (z8v + 1) ∧ IntKind.i64.wrap (z8v + 1) ≤ (x0.length : Int) ∧ (x0.length : Int) ≤ (x0.length : Int) then ((text_quoted.f k (cut x0 (IntKind.i64.wrap (z8v + 1)) (x0.length : Int))).bind fun s18v => ((if s18v.2 = (0 : Int) then (some true) else ((if IntKind.i64.wrap (z8v + (IntKind.i64.wrap (1 + s18v.2))) < (x0.length : Int) then (if 0 ≤ IntKind.i64.wrap (z8v + (IntKind.i64.wrap (1 + s18v.2))) ∧ IntKind.i64.wrap (z8v + (IntKind.i64.wrap (1 + s18v.2))) < (x0.length : Int) then (some (true, true, !decide (((x0.getD (IntKind.i64.wrap (z8v + (IntKind.i64.wrap (1 + s18v.2)))).toNat 0).toNat : Int) = (32 : Int)))) else none) else (some (false, false, false))).bind fun s23v => (some s23v.2.2))).bind fun s21v => (if s21v = true then (some (.inr (([] : List (List UInt8)), 4))) else (if (z7v.length + ([s18v.1] : List (List UInt8)).length) * 16 ≤ 140737488355328 then (text_Words.l0 x0 k (z7v ++ ([s18v.1] : List (List UInt8))) (IntKind.i64.wrap (z8v + (IntKind.i64.wrap (1 + s18v.2))))) else none)))) else none) else ((text_Words.l1 x0 k z8v).bind fun s40v => ((if s40v < (x0.length : Int) then (if 0 ≤ s40v ∧ s40v < (x0.length : Int) then (some (!decide (((x0.getD s40v.toNat 0).toNat : Int) = (32 : Int)))) else none) else (some false)).bind fun s55v => (if s55v = true then (some (.inr (([] : List (List UInt8)), 4))) else (if 0 ≤ z8v ∧ z8v ≤ s40v ∧ s40v ≤ (x0.length : Int) then (if (z7v.length + ([cut x0 z8v s40v] : List (List UInt8)).length) * 16 ≤ 140737488355328 then (text_Words.l0 x0 k (z7v ++ ([cut x0 z8v s40v] : List (List UInt8))) s40v) else none) else none))))) else none)) else none) else (some (.inl z7v))
def text_Words.f (k : Nat) (x0 : List UInt8) : Option (List (List UInt8) × Int) := if (4096 : Int) < (x0.length : Int) then (some (([] : List (List UInt8)), 3)) else (orR (text_Words.l0 x0 k ([] : List (List UInt8)) 0) fun s3v => (some (s3v, 0)))
theorem text_Words.calls (W : World) (F : HA) (k : Nat) (x0 : List UInt8)  :
    Fn Tryd.prog W 12 [str x0] [] F (text_Words.f k x0) (fun (r : List (List UInt8) × Int) (y : Option Addr × Nat) => .tuple #[.slice y.1 r.1.length y.2, .int .i64 r.2]) (fun r y => [RowV 9 1 (V9 tt) y.1 r.1 y.2]) := by
 unfold text_Words.f
 refine fn_intro 87 Tryd.func12 rfl Tryd.ntmps12 rfl ?_
 refine sr ?_
 refine va rfl rfl ?_
 refine va rfl rfl (simL_nil (nrm_then (sim_seq (sr ?_))))
 refine vm rfl rfl ?_
 refine vq (q_lens rfl rfl rfl Tryd.underlying9) rfl ?_
 refine vq (q_gtr rfl rfl rfl) rfl (simL_nil (nrm_then ?_))
 refine sim_cond rfl (fun h1v => ?_) (fun h2v => ?_)
 refine sr ?_
 refine va rfl rfl ?_
 refine va rfl rfl (simL_nil (nrm_then (sim_rtn ?_)))
 refine rtn_then ?_
 exact rtn_fn (none, 0) rfl rfl rfl (.rowV_nil (.sel 0 rfl (.nil _)))
 refine sim_skip ?_
 refine nrm_then (sr ?_)
 refine va rfl rfl (simL_nil (nrm_then ?_))
 refine sim_cutR (S := List (List UInt8)) (Option Addr × Nat) (fun s y => [(4, .slice y.1 s.length y.2)]) (fun s y => [RowV 9 1 (V9 tt) y.1 s y.2, F]) ?_ ?_
 refine sr ?_
 refine va rfl rfl (simL_nil (nrm_then ?_))
 refine sim_block ?_
 refine sim_loop (S := List (List UInt8) × Int) (Option Addr × Nat) (fun k s => text_Words.l0 x0 k s.1 s.2) (fun s y => [(0, str x0), (4, .slice y.1 s.1.length y.2), (5, .int .i64 s.2)]) (fun s y => [RowV 9 1 (V9 tt) y.1 s.1 y.2, F]) (fun _ => by rw [text_Words.l0]) ?_ k (([] : List (List UInt8)), 0) (none, 0) ⟨rfl, rfl, rfl, trivial⟩ (.rowV_nil (.sel 0 rfl (.nil _)))
 intro k s5v y6v
 refine sim_eq (by rw [text_Words.l0]) ?_
 refine sim_seq (sr ?_)
 refine vm rfl rfl ?_
 refine vm rfl rfl ?_
 refine vq (q_lens rfl rfl rfl Tryd.underlying9) rfl ?_
 refine vq (q_lss rfl rfl rfl) rfl (simL_nil (nrm_then ?_))
 refine sim_cond rfl (fun h9v => ?_) (fun h10v => ?_)
 refine sim_skip ?_
 refine nrm_then ?_
 refine sim_block ?_
 refine sim_seq (sr ?_)
 refine vm rfl rfl ?_
 refine vm rfl rfl ?_
 refine simL_ask (fun hi11v => ?_)
 refine vq (q_sidx rfl rfl rfl Tryd.underlying9 hi11v.1 hi11v.2) rfl ?_
 refine vq (q_eql rfl rfl rfl) rfl (simL_nil (nrm_then ?_))
 refine sim_cond rfl (fun h12v => ?_) (fun h13v => ?_)
 refine sr ?_
 refine vm rfl rfl ?_
 refine vq (q_add rfl rfl rfl) rfl ?_
 refine va rfl rfl (simL_nil (nrm_then ?_))
 refine sim_exi ?_
 refine exi_then ?_
 refine exi_here ?_
 exact nrm_again (s := (s5v.1, IntKind.i64.wrap (s5v.2 + 1))) (y6v.1, y6v.2) ⟨rfl, rfl, rfl, trivial⟩ (.sel 0 rfl (.sel 0 rfl (.nil _)))
 refine sim_skip ?_
 refine nrm_then (sim_seq (sr ?_))
 refine vm rfl rfl ?_
 refine vm rfl rfl ?_
 refine simL_ask (fun hi14v => ?_)
 refine vq (q_sidx rfl rfl rfl Tryd.underlying9 hi14v.1 hi14v.2) rfl ?_
 refine vq (q_eql rfl rfl rfl) rfl (simL_nil (nrm_then ?_))
 refine sim_cond rfl (fun h15v => ?_) (fun h16v => ?_)
 refine sr ?_
 refine vm rfl rfl ?_
 refine vm rfl rfl ?_
 refine vq (q_add rfl rfl rfl) rfl ?_
 refine simL_ask (fun hb17v => ?_)
 refine vq (q_cutS (lo' := IntKind.i64.wrap (s5v.2 + 1)) (hi' := (x0.length : Int)) rfl rfl rfl rfl Tryd.underlying9 (.inl ⟨rfl, rfl⟩) (.inr ⟨_, rfl⟩) hb17v) rfl ?_
 refine simL_bind (fun s18v hs19v => ?_)
 refine simL_eff (re_call (vs := [str (cut x0 (IntKind.i64.wrap (s5v.2 + 1)) (x0.length : Int))]) (cap := []) (A := []) (rst := [RowV 9 1 (V9 tt) y6v.1 s5v.1 y6v.2, F]) rfl rfl rfl rfl rfl rfl Tryd.call37 (.sel 0 rfl (.sel 0 rfl (.nil _))) (text_quoted.calls _ _ k (cut x0 (IntKind.i64.wrap (s5v.2 + 1)) (x0.length : Int)) ) hs19v) rfl rfl rfl ?_
 intro y20v
 refine vm rfl rfl ?_
 refine vq (q_ext rfl rfl rfl) rfl ?_
 refine vq (q_ext rfl rfl rfl) rfl ?_
 refine va rfl rfl ?_
 refine va rfl rfl (nx ?_)
 refine vm rfl rfl ?_
 refine vm rfl rfl ?_
 refine vq (q_add rfl rfl rfl) rfl ?_
 refine vq (q_add rfl rfl rfl) rfl ?_
 refine va rfl rfl (simL_nil (nrm_then (sim_seq (sr ?_))))
 refine vm rfl rfl ?_
 refine vq (q_eql rfl rfl rfl) rfl ?_
 refine vm rfl rfl ?_
 refine simL_cut' 11 (S := Bool) (Unit) (fun s y => [(0, str x0), (4, .slice y6v.1 s5v.1.length y6v.2), (5, .int .i64 (IntKind.i64.wrap (s5v.2 + (IntKind.i64.wrap (1 + s18v.2))))), (6, str s18v.1), (51, .bool s)]) (fun s y => [RowV 9 1 (V9 tt) y6v.1 s5v.1 y6v.2, F]) ?_ ?_
 refine simL_casep (fun hb28v => ?_) (fun hb29v => ?_)
 rw [hb28v]
 refine simL_skipd rfl rfl rfl rfl rfl rfl ?_
 refine simL_skipd rfl rfl rfl rfl rfl rfl ?_
 refine simL_skipd rfl rfl rfl rfl rfl rfl ?_
 refine simL_skipd rfl rfl rfl rfl rfl rfl ?_
 refine simL_skipd rfl rfl rfl rfl rfl rfl ?_
 refine simL_skipu rfl rfl rfl rfl rfl ?_
 refine simL_skipu rfl rfl rfl rfl rfl ?_
 refine simL_skipu rfl rfl rfl rfl rfl ?_
 refine simL_skipu rfl rfl rfl rfl rfl ?_
 refine simL_skipd rfl rfl rfl rfl rfl rfl ?_
 refine vq (q_pick rfl rfl rfl rfl rfl) rfl (simL_nil ?_)
 exact nrm_cut (s := true) () ⟨rfl, rfl, rfl, rfl, rfl, trivial⟩ (.sel 0 rfl (.sel 0 rfl (.nil _)))
 rw [hb29v]
 refine simL_valg (q_move rfl rfl) rfl rfl rfl rfl rfl rfl ?_
 refine simL_valg (q_move rfl rfl) rfl rfl rfl rfl rfl rfl ?_
 refine simL_valg (q_lens rfl rfl rfl Tryd.underlying9) rfl rfl rfl rfl rfl rfl ?_
 refine simL_valg (q_lss rfl rfl rfl) rfl rfl rfl rfl rfl rfl ?_
 refine simL_valg (q_move rfl rfl) rfl rfl rfl rfl rfl rfl ?_
 refine simL_cut' 5 (S := Bool × Bool × Bool) (Unit) (fun s y => [(0, str x0), (4, .slice y6v.1 s5v.1.length y6v.2), (5, .int .i64 (IntKind.i64.wrap (s5v.2 + (IntKind.i64.wrap (1 + s18v.2))))), (6, str s18v.1), (40, .bool false), (41, .int .i64 (IntKind.i64.wrap (s5v.2 + (IntKind.i64.wrap (1 + s18v.2))))), (42, str x0), (43, .int .i64 (x0.length : Int)), (44, .bool s.1), (45, .bool s.2.1), (50, .bool s.2.2)]) (fun s y => [RowV 9 1 (V9 tt) y6v.1 s5v.1 y6v.2, F]) ?_ ?_
 refine simL_casep (fun hb26v => ?_) (fun hb27v => ?_)
 rw [hb26v]
 refine simL_valg (q_move rfl rfl) rfl rfl rfl rfl rfl rfl ?_
 refine simL_valg (q_move rfl rfl) rfl rfl rfl rfl rfl rfl ?_
 refine simL_ask (fun hi25v => ?_)
 refine simL_valg (q_sidx rfl rfl rfl Tryd.underlying9 hi25v.1 hi25v.2) rfl rfl rfl rfl rfl rfl ?_
 refine simL_valg (q_neq rfl rfl rfl) rfl rfl rfl rfl rfl rfl ?_
 refine simL_valg (q_pick rfl rfl rfl rfl rfl) rfl rfl rfl rfl rfl rfl ?_
 refine simL_nil ?_
 exact nrm_cut (s := (true, true, !decide (((x0.getD (IntKind.i64.wrap (s5v.2 + (IntKind.i64.wrap (1 + s18v.2)))).toNat 0).toNat : Int) = (32 : Int)))) () ⟨rfl, rfl, rfl, rfl, rfl, rfl, rfl, rfl, rfl, rfl, rfl, trivial⟩ (.sel 0 rfl (.sel 0 rfl (.nil _)))
 rw [hb27v]
 refine simL_skipd rfl rfl rfl rfl rfl rfl ?_
 refine simL_skipd rfl rfl rfl rfl rfl rfl ?_
 refine simL_skipd rfl rfl rfl rfl rfl rfl ?_
 refine simL_skipd rfl rfl rfl rfl rfl rfl ?_
 refine simL_valg (q_pick rfl rfl rfl rfl rfl) rfl rfl rfl rfl rfl rfl ?_
 refine simL_nil ?_
 exact nrm_cut (s := (false, false, false)) () ⟨rfl, rfl, rfl, rfl, rfl, rfl, rfl, rfl, rfl, rfl, rfl, trivial⟩ (.sel 0 rfl (.sel 0 rfl (.nil _)))
 intro s23v y24v
 refine vq (q_pick rfl rfl rfl rfl rfl) rfl (simL_nil ?_)
 exact nrm_cut (s := s23v.2.2) () ⟨rfl, rfl, rfl, rfl, rfl, trivial⟩ (.sel 0 rfl (.sel 0 rfl (.nil _)))
 intro s21v y22v
 refine simL_nil (nrm_then ?_)
 refine sim_condb rfl (fun h30v => ?_) (fun h31v => ?_)
 refine sr ?_
 refine va rfl rfl ?_
 refine va rfl rfl (simL_nil (nrm_then (sim_rtn ?_)))
 refine rtn_then ?_
 refine rtn_then ?_
 refine rtn_block ?_
 refine rtn_loop ?_
 refine rtn_block ?_
 refine rtn_cutR ?_
 exact rtn_fn (none, 0) rfl rfl rfl (.rowV_nil (.sel 1 rfl (.nil _)))
 refine sim_skip ?_
 refine nrm_then (sr ?_)
 refine vm rfl rfl ?_
 refine vm rfl rfl ?_
 have hlb33v : ListV 1 (V9 tt) ([s18v.1] : List (List UInt8)) [[str s18v.1]] := ⟨⟨rfl, one_of (by rfl), rfl⟩, trivial⟩
 refine simL_eff (re_litV (V := (V9 tt)) (xs := ([s18v.1] : List (List UInt8))) [[str s18v.1]] rfl rfl Tryd.underlying23 elt9 rfl (by kernel_rfl) rfl hlb33v rfl rfl) rfl rfl rfl ?_
 intro b33v
 refine simL_openV 1 rfl (fun rs38v hl39v => ?_)
 refine simL_ask (fun hb37v => ?_)
 refine simL_eff (re_appendV 1 rfl rfl rfl Tryd.underlying23 elt9 rfl hl39v (RdsV.row hlb33v 0 rfl) hb37v) rfl rfl rfl ?_
 intro y36v
 refine va rfl rfl (simL_nil (nrm_then ?_))
 refine sim_exi ?_
 refine exi_then ?_
 refine exi_here ?_
 exact nrm_again (s := (s5v.1 ++ ([s18v.1] : List (List UInt8)), IntKind.i64.wrap (s5v.2 + (IntKind.i64.wrap (1 + s18v.2))))) (y36v.1, y36v.2) ⟨rfl, rfl, rfl, trivial⟩ (.sel 1 rfl (.sel 1 rfl (.nil _)))
 refine sim_skip ?_
 refine nrm_then (sr ?_)
 refine vm rfl rfl ?_
 refine va rfl rfl (simL_nil (nrm_then ?_))
 refine sim_cut (S := Int) (Unit) (fun s y => [(0, str x0), (4, .slice y6v.1 s5v.1.length y6v.2), (5, .int .i64 s), (8, .int .i64 s5v.2)]) (fun s y => [RowV 9 1 (V9 tt) y6v.1 s5v.1 y6v.2, F]) ?_ ?_
 refine sim_block ?_
 refine sim_loop (S := Int) (Unit) (fun k s => text_Words.l1 x0 k s) (fun s y => [(0, str x0), (4, .slice y6v.1 s5v.1.length y6v.2), (5, .int .i64 s), (8, .int .i64 s5v.2)]) (fun s y => [RowV 9 1 (V9 tt) y6v.1 s5v.1 y6v.2, F]) (fun _ => by rw [text_Words.l1]) ?_ k s5v.2 () ⟨rfl, rfl, rfl, rfl, trivial⟩ (.sel 0 rfl (.sel 0 rfl (.nil _)))
 intro k s42v y43v
 refine sim_eq (by rw [text_Words.l1]) ?_
 refine sim_seq (sr ?_)
 refine vm rfl rfl ?_
 refine vm rfl rfl ?_
 refine vq (q_lens rfl rfl rfl Tryd.underlying9) rfl ?_
 refine vq (q_lss rfl rfl rfl) rfl ?_
 refine vm rfl rfl ?_
 refine simL_cut' 5 (S := Bool) (Unit) (fun s y => [(0, str x0), (4, .slice y6v.1 s5v.1.length y6v.2), (5, .int .i64 s42v), (8, .int .i64 s5v.2), (66, .bool s)]) (fun s y => [RowV 9 1 (V9 tt) y6v.1 s5v.1 y6v.2, F]) ?_ ?_
 refine simL_casep (fun hb51v => ?_) (fun hb52v => ?_)
 rw [hb51v]
 refine simL_valg (q_move rfl rfl) rfl rfl rfl rfl rfl rfl ?_
 refine simL_valg (q_move rfl rfl) rfl rfl rfl rfl rfl rfl ?_
 refine simL_ask (fun hi47v => ?_)
 refine simL_valg (q_sidx rfl rfl rfl Tryd.underlying9 hi47v.1 hi47v.2) rfl rfl rfl rfl rfl rfl ?_
 refine simL_bind (fun s48v hs49v => ?_)
 refine simL_effg (re_call (vs := [.int .u8 ((x0.getD s42v.toNat 0).toNat : Int)]) (cap := []) (A := []) (rst := [RowV 9 1 (V9 tt) y6v.1 s5v.1 y6v.2, F]) rfl rfl rfl rfl rfl rfl Tryd.call38 (.sel 0 rfl (.sel 0 rfl (.nil _))) (text_bare.calls _ _ ((x0.getD s42v.toNat 0).toNat : Int) ) hs49v) rfl rfl rfl rfl rfl rfl ?_
 intro y50v
 refine vq (q_pick rfl rfl rfl rfl rfl) rfl (simL_nil ?_)
 exact nrm_cut (s := s48v) () ⟨rfl, rfl, rfl, rfl, rfl, trivial⟩ (.sel 0 rfl (.sel 0 rfl (.nil _)))
 rw [hb52v]
 refine simL_skipd rfl rfl rfl rfl rfl rfl ?_
 refine simL_skipd rfl rfl rfl rfl rfl rfl ?_
 refine simL_skipd rfl rfl rfl rfl rfl rfl ?_
 refine simL_skipd rfl rfl rfl rfl rfl rfl ?_
 refine vq (q_pick rfl rfl rfl rfl rfl) rfl (simL_nil ?_)
 exact nrm_cut (s := false) () ⟨rfl, rfl, rfl, rfl, rfl, trivial⟩ (.sel 0 rfl (.sel 0 rfl (.nil _)))
 intro s45v y46v
 refine simL_nil (nrm_then ?_)
 refine sim_condb rfl (fun h53v => ?_) (fun h54v => ?_)
 refine sim_skip ?_
 refine nrm_then ?_
 refine sim_block ?_
 refine sim_region ?_
 refine vm rfl rfl ?_
 refine vq (q_add rfl rfl rfl) rfl ?_
 refine va rfl rfl (simL_nil (nrm_block ?_))
 exact nrm_again (s := IntKind.i64.wrap (s42v + 1)) () ⟨rfl, rfl, rfl, rfl, trivial⟩ (.sel 0 rfl (.sel 0 rfl (.nil _)))
 refine sim_exi ?_
 refine exi_then ?_
 refine exi_loop ?_
 refine exi_here ?_
 exact nrm_cut (s := s42v) () ⟨rfl, rfl, rfl, rfl, trivial⟩ (.sel 0 rfl (.sel 0 rfl (.nil _)))
 intro s40v y41v
 refine sim_seq (sr ?_)
 refine vm rfl rfl ?_
 refine vm rfl rfl ?_
 refine vq (q_lens rfl rfl rfl Tryd.underlying9) rfl ?_
 refine vq (q_lss rfl rfl rfl) rfl ?_
 refine vm rfl rfl ?_
 refine simL_cut' 5 (S := Bool) (Unit) (fun s y => [(0, str x0), (4, .slice y6v.1 s5v.1.length y6v.2), (5, .int .i64 s40v), (8, .int .i64 s5v.2), (78, .bool s)]) (fun s y => [RowV 9 1 (V9 tt) y6v.1 s5v.1 y6v.2, F]) ?_ ?_
 refine simL_casep (fun hb58v => ?_) (fun hb59v => ?_)
 rw [hb58v]
 refine simL_valg (q_move rfl rfl) rfl rfl rfl rfl rfl rfl ?_
 refine simL_valg (q_move rfl rfl) rfl rfl rfl rfl rfl rfl ?_
 refine simL_ask (fun hi57v => ?_)
 refine simL_valg (q_sidx rfl rfl rfl Tryd.underlying9 hi57v.1 hi57v.2) rfl rfl rfl rfl rfl rfl ?_
 refine simL_valg (q_neq rfl rfl rfl) rfl rfl rfl rfl rfl rfl ?_
 refine vq (q_pick rfl rfl rfl rfl rfl) rfl (simL_nil ?_)
 exact nrm_cut (s := !decide (((x0.getD s40v.toNat 0).toNat : Int) = (32 : Int))) () ⟨rfl, rfl, rfl, rfl, rfl, trivial⟩ (.sel 0 rfl (.sel 0 rfl (.nil _)))
 rw [hb59v]
 refine simL_skipd rfl rfl rfl rfl rfl rfl ?_
 refine simL_skipd rfl rfl rfl rfl rfl rfl ?_
 refine simL_skipd rfl rfl rfl rfl rfl rfl ?_
 refine simL_skipd rfl rfl rfl rfl rfl rfl ?_
 refine vq (q_pick rfl rfl rfl rfl rfl) rfl (simL_nil ?_)
 exact nrm_cut (s := false) () ⟨rfl, rfl, rfl, rfl, rfl, trivial⟩ (.sel 0 rfl (.sel 0 rfl (.nil _)))
 intro s55v y56v
 refine simL_nil (nrm_then ?_)
 refine sim_condb rfl (fun h60v => ?_) (fun h61v => ?_)
 refine sr ?_
 refine va rfl rfl ?_
 refine va rfl rfl (simL_nil (nrm_then (sim_rtn ?_)))
 refine rtn_then ?_
 refine rtn_block ?_
 refine rtn_loop ?_
 refine rtn_block ?_
 refine rtn_cutR ?_
 exact rtn_fn (none, 0) rfl rfl rfl (.rowV_nil (.sel 1 rfl (.nil _)))
 refine sim_skip ?_
 refine nrm_then (sim_region ?_)
 refine vm rfl rfl ?_
 refine vm rfl rfl ?_
 refine vm rfl rfl ?_
 refine vm rfl rfl ?_
 refine simL_ask (fun hb62v => ?_)
 refine vq (q_cutS (lo' := s5v.2) (hi' := s40v) rfl rfl rfl rfl Tryd.underlying9 (.inr ⟨_, rfl⟩) (.inr ⟨_, rfl⟩) hb62v) rfl ?_
 have hlb64v : ListV 1 (V9 tt) ([cut x0 s5v.2 s40v] : List (List UInt8)) [[str (cut x0 s5v.2 s40v)]] := ⟨⟨rfl, one_of (by rfl), rfl⟩, trivial⟩
 refine simL_eff (re_litV (V := (V9 tt)) (xs := ([cut x0 s5v.2 s40v] : List (List UInt8))) [[str (cut x0 s5v.2 s40v)]] rfl rfl Tryd.underlying23 elt9 rfl (by kernel_rfl) rfl hlb64v rfl rfl) rfl rfl rfl ?_
 intro b64v
 refine simL_openV 1 rfl (fun rs69v hl70v => ?_)
 refine simL_ask (fun hb68v => ?_)
 refine simL_eff (re_appendV 1 rfl rfl rfl Tryd.underlying23 elt9 rfl hl70v (RdsV.row hlb64v 0 rfl) hb68v) rfl rfl rfl ?_
 intro y67v
 refine va rfl rfl (simL_nil (nrm_block ?_))
 exact nrm_again (s := (s5v.1 ++ ([cut x0 s5v.2 s40v] : List (List UInt8)), s40v)) (y67v.1, y67v.2) ⟨rfl, rfl, rfl, trivial⟩ (.sel 1 rfl (.sel 1 rfl (.nil _)))
 refine sim_exi ?_
 refine exi_then ?_
 refine exi_loop ?_
 refine exi_here ?_
 exact nrm_cutR (s := s5v.1) (y6v.1, y6v.2) ⟨rfl, trivial⟩ (.sel 0 rfl (.sel 0 rfl (.nil _)))
 intro s3v y4v
 refine sr ?_
 refine vm rfl rfl ?_
 refine va rfl rfl ?_
 refine va rfl rfl (simL_nil (nrm_then (sim_rtn ?_)))
 exact rtn_fn (y4v.1, y4v.2) rfl rfl rfl (.sel 0 rfl (.sel 0 rfl (.nil _)))

def text_lines_1.f (x0_0 : Int) (x0_1 : Int) (x0_2 : Int) (x0_3 : Int) (x0_4 : Int) (x0_5 : Int) (x0_6 : List UInt8) (x0_7 : List UInt8) (x0_8 : List UInt8) : Option (Unit) := some ()
theorem text_lines_1.calls (W : World) (F : HA) (b0 : Nat) (x0_0 : Int) (x0_1 : Int) (x0_2 : Int) (x0_3 : Int) (x0_4 : Int) (x0_5 : Int) (x0_6 : List UInt8) (x0_7 : List UInt8) (x0_8 : List UInt8)  :
    Fn Tryd.prog W 65 [.pointer (some ⟨b0, 0, none⟩)] [obj b0 34 [.int .i64 x0_0, .int .i64 x0_1, .int .i64 x0_2, .int .i64 x0_3, .int .i64 x0_4, .int .i64 x0_5, str x0_6, str x0_7, str x0_8]] F (text_lines_1.f x0_0 x0_1 x0_2 x0_3 x0_4 x0_5 x0_6 x0_7 x0_8) (fun (r : Unit) (y : Unit) => .pointer (some ⟨b0, 1, none⟩)) (fun r y => [obj b0 34 [.int .i64 x0_0, .int .i64 x0_1, .int .i64 x0_2, .int .i64 x0_3, .int .i64 x0_4, .int .i64 x0_5, str x0_6, str x0_7, str x0_8]]) := by
 unfold text_lines_1.f
 refine fn_intro 6 Tryd.func65 rfl Tryd.ntmps65 rfl ?_
 refine sr ?_
 refine va rfl rfl (nx ?_)
 refine vm rfl rfl ?_
 refine vn rfl rfl ?_
 refine vq (q_fa rfl rfl Tryd.underlying34 rfl rfl Tryd.sizeOf3 rfl) rfl ?_
 refine va rfl rfl (simL_nil (nrm_then (sim_rtn ?_)))
 exact rtn_fn () rfl rfl rfl (.sel 0 rfl (.sel 0 rfl (.nil _)))

def text_lines_2.f (x0_0 : Int) (x0_1 : Int) (x0_2 : Int) (x0_3 : Int) (x0_4 : Int) (x0_5 : Int) (x0_6 : List UInt8) (x0_7 : List UInt8) (x0_8 : List UInt8) : Option (Unit) := some ()
theorem text_lines_2.calls (W : World) (F : HA) (b0 : Nat) (x0_0 : Int) (x0_1 : Int) (x0_2 : Int) (x0_3 : Int) (x0_4 : Int) (x0_5 : Int) (x0_6 : List UInt8) (x0_7 : List UInt8) (x0_8 : List UInt8)  :
    Fn Tryd.prog W 66 [.pointer (some ⟨b0, 0, none⟩)] [obj b0 34 [.int .i64 x0_0, .int .i64 x0_1, .int .i64 x0_2, .int .i64 x0_3, .int .i64 x0_4, .int .i64 x0_5, str x0_6, str x0_7, str x0_8]] F (text_lines_2.f x0_0 x0_1 x0_2 x0_3 x0_4 x0_5 x0_6 x0_7 x0_8) (fun (r : Unit) (y : Unit) => .pointer (some ⟨b0, 2, none⟩)) (fun r y => [obj b0 34 [.int .i64 x0_0, .int .i64 x0_1, .int .i64 x0_2, .int .i64 x0_3, .int .i64 x0_4, .int .i64 x0_5, str x0_6, str x0_7, str x0_8]]) := by
 unfold text_lines_2.f
 refine fn_intro 6 Tryd.func66 rfl Tryd.ntmps66 rfl ?_
 refine sr ?_
 refine va rfl rfl (nx ?_)
 refine vm rfl rfl ?_
 refine vn rfl rfl ?_
 refine vq (q_fa rfl rfl Tryd.underlying34 rfl rfl Tryd.sizeOf3 rfl) rfl ?_
 refine va rfl rfl (simL_nil (nrm_then (sim_rtn ?_)))
 exact rtn_fn () rfl rfl rfl (.sel 0 rfl (.sel 0 rfl (.nil _)))

def text_lines_3.f (x0_0 : Int) (x0_1 : Int) (x0_2 : Int) (x0_3 : Int) (x0_4 : Int) (x0_5 : Int) (x0_6 : List UInt8) (x0_7 : List UInt8) (x0_8 : List UInt8) : Option (Unit) := some ()
theorem text_lines_3.calls (W : World) (F : HA) (b0 : Nat) (x0_0 : Int) (x0_1 : Int) (x0_2 : Int) (x0_3 : Int) (x0_4 : Int) (x0_5 : Int) (x0_6 : List UInt8) (x0_7 : List UInt8) (x0_8 : List UInt8)  :
    Fn Tryd.prog W 67 [.pointer (some ⟨b0, 0, none⟩)] [obj b0 34 [.int .i64 x0_0, .int .i64 x0_1, .int .i64 x0_2, .int .i64 x0_3, .int .i64 x0_4, .int .i64 x0_5, str x0_6, str x0_7, str x0_8]] F (text_lines_3.f x0_0 x0_1 x0_2 x0_3 x0_4 x0_5 x0_6 x0_7 x0_8) (fun (r : Unit) (y : Unit) => .pointer (some ⟨b0, 3, none⟩)) (fun r y => [obj b0 34 [.int .i64 x0_0, .int .i64 x0_1, .int .i64 x0_2, .int .i64 x0_3, .int .i64 x0_4, .int .i64 x0_5, str x0_6, str x0_7, str x0_8]]) := by
 unfold text_lines_3.f
 refine fn_intro 6 Tryd.func67 rfl Tryd.ntmps67 rfl ?_
 refine sr ?_
 refine va rfl rfl (nx ?_)
 refine vm rfl rfl ?_
 refine vn rfl rfl ?_
 refine vq (q_fa rfl rfl Tryd.underlying34 rfl rfl Tryd.sizeOf3 rfl) rfl ?_
 refine va rfl rfl (simL_nil (nrm_then (sim_rtn ?_)))
 exact rtn_fn () rfl rfl rfl (.sel 0 rfl (.sel 0 rfl (.nil _)))

def text_lines_4.f (x0_0 : Int) (x0_1 : Int) (x0_2 : Int) (x0_3 : Int) (x0_4 : Int) (x0_5 : Int) (x0_6 : List UInt8) (x0_7 : List UInt8) (x0_8 : List UInt8) : Option (Unit) := some ()
theorem text_lines_4.calls (W : World) (F : HA) (b0 : Nat) (x0_0 : Int) (x0_1 : Int) (x0_2 : Int) (x0_3 : Int) (x0_4 : Int) (x0_5 : Int) (x0_6 : List UInt8) (x0_7 : List UInt8) (x0_8 : List UInt8)  :
    Fn Tryd.prog W 68 [.pointer (some ⟨b0, 0, none⟩)] [obj b0 34 [.int .i64 x0_0, .int .i64 x0_1, .int .i64 x0_2, .int .i64 x0_3, .int .i64 x0_4, .int .i64 x0_5, str x0_6, str x0_7, str x0_8]] F (text_lines_4.f x0_0 x0_1 x0_2 x0_3 x0_4 x0_5 x0_6 x0_7 x0_8) (fun (r : Unit) (y : Unit) => .pointer (some ⟨b0, 4, none⟩)) (fun r y => [obj b0 34 [.int .i64 x0_0, .int .i64 x0_1, .int .i64 x0_2, .int .i64 x0_3, .int .i64 x0_4, .int .i64 x0_5, str x0_6, str x0_7, str x0_8]]) := by
 unfold text_lines_4.f
 refine fn_intro 6 Tryd.func68 rfl Tryd.ntmps68 rfl ?_
 refine sr ?_
 refine va rfl rfl (nx ?_)
 refine vm rfl rfl ?_
 refine vn rfl rfl ?_
 refine vq (q_fa rfl rfl Tryd.underlying34 rfl rfl Tryd.sizeOf3 rfl) rfl ?_
 refine va rfl rfl (simL_nil (nrm_then (sim_rtn ?_)))
 exact rtn_fn () rfl rfl rfl (.sel 0 rfl (.sel 0 rfl (.nil _)))

def text_lines_5.f (x0_0 : Int) (x0_1 : Int) (x0_2 : Int) (x0_3 : Int) (x0_4 : Int) (x0_5 : Int) (x0_6 : List UInt8) (x0_7 : List UInt8) (x0_8 : List UInt8) : Option (Unit) := some ()
theorem text_lines_5.calls (W : World) (F : HA) (b0 : Nat) (x0_0 : Int) (x0_1 : Int) (x0_2 : Int) (x0_3 : Int) (x0_4 : Int) (x0_5 : Int) (x0_6 : List UInt8) (x0_7 : List UInt8) (x0_8 : List UInt8)  :
    Fn Tryd.prog W 69 [.pointer (some ⟨b0, 0, none⟩)] [obj b0 34 [.int .i64 x0_0, .int .i64 x0_1, .int .i64 x0_2, .int .i64 x0_3, .int .i64 x0_4, .int .i64 x0_5, str x0_6, str x0_7, str x0_8]] F (text_lines_5.f x0_0 x0_1 x0_2 x0_3 x0_4 x0_5 x0_6 x0_7 x0_8) (fun (r : Unit) (y : Unit) => .pointer (some ⟨b0, 3, none⟩)) (fun r y => [obj b0 34 [.int .i64 x0_0, .int .i64 x0_1, .int .i64 x0_2, .int .i64 x0_3, .int .i64 x0_4, .int .i64 x0_5, str x0_6, str x0_7, str x0_8]]) := by
 unfold text_lines_5.f
 refine fn_intro 6 Tryd.func69 rfl Tryd.ntmps69 rfl ?_
 refine sr ?_
 refine va rfl rfl (nx ?_)
 refine vm rfl rfl ?_
 refine vn rfl rfl ?_
 refine vq (q_fa rfl rfl Tryd.underlying34 rfl rfl Tryd.sizeOf3 rfl) rfl ?_
 refine va rfl rfl (simL_nil (nrm_then (sim_rtn ?_)))
 exact rtn_fn () rfl rfl rfl (.sel 0 rfl (.sel 0 rfl (.nil _)))

def text_lines_6.f (x0_0 : Int) (x0_1 : Int) (x0_2 : Int) (x0_3 : Int) (x0_4 : Int) (x0_5 : Int) (x0_6 : List UInt8) (x0_7 : List UInt8) (x0_8 : List UInt8) : Option (Unit) := some ()
theorem text_lines_6.calls (W : World) (F : HA) (b0 : Nat) (x0_0 : Int) (x0_1 : Int) (x0_2 : Int) (x0_3 : Int) (x0_4 : Int) (x0_5 : Int) (x0_6 : List UInt8) (x0_7 : List UInt8) (x0_8 : List UInt8)  :
    Fn Tryd.prog W 70 [.pointer (some ⟨b0, 0, none⟩)] [obj b0 34 [.int .i64 x0_0, .int .i64 x0_1, .int .i64 x0_2, .int .i64 x0_3, .int .i64 x0_4, .int .i64 x0_5, str x0_6, str x0_7, str x0_8]] F (text_lines_6.f x0_0 x0_1 x0_2 x0_3 x0_4 x0_5 x0_6 x0_7 x0_8) (fun (r : Unit) (y : Unit) => .pointer (some ⟨b0, 6, none⟩)) (fun r y => [obj b0 34 [.int .i64 x0_0, .int .i64 x0_1, .int .i64 x0_2, .int .i64 x0_3, .int .i64 x0_4, .int .i64 x0_5, str x0_6, str x0_7, str x0_8]]) := by
 unfold text_lines_6.f
 refine fn_intro 6 Tryd.func70 rfl Tryd.ntmps70 rfl ?_
 refine sr ?_
 refine va rfl rfl (nx ?_)
 refine vm rfl rfl ?_
 refine vn rfl rfl ?_
 refine vq (q_fa rfl rfl Tryd.underlying34 rfl rfl Tryd.sizeOf9 rfl) rfl ?_
 refine va rfl rfl (simL_nil (nrm_then (sim_rtn ?_)))
 exact rtn_fn () rfl rfl rfl (.sel 0 rfl (.sel 0 rfl (.nil _)))

def text_lines_7.f (x0_0 : Int) (x0_1 : Int) (x0_2 : Int) (x0_3 : Int) (x0_4 : Int) (x0_5 : Int) (x0_6 : List UInt8) (x0_7 : List UInt8) (x0_8 : List UInt8) : Option (Unit) := some ()
theorem text_lines_7.calls (W : World) (F : HA) (b0 : Nat) (x0_0 : Int) (x0_1 : Int) (x0_2 : Int) (x0_3 : Int) (x0_4 : Int) (x0_5 : Int) (x0_6 : List UInt8) (x0_7 : List UInt8) (x0_8 : List UInt8)  :
    Fn Tryd.prog W 71 [.pointer (some ⟨b0, 0, none⟩)] [obj b0 34 [.int .i64 x0_0, .int .i64 x0_1, .int .i64 x0_2, .int .i64 x0_3, .int .i64 x0_4, .int .i64 x0_5, str x0_6, str x0_7, str x0_8]] F (text_lines_7.f x0_0 x0_1 x0_2 x0_3 x0_4 x0_5 x0_6 x0_7 x0_8) (fun (r : Unit) (y : Unit) => .pointer (some ⟨b0, 7, none⟩)) (fun r y => [obj b0 34 [.int .i64 x0_0, .int .i64 x0_1, .int .i64 x0_2, .int .i64 x0_3, .int .i64 x0_4, .int .i64 x0_5, str x0_6, str x0_7, str x0_8]]) := by
 unfold text_lines_7.f
 refine fn_intro 6 Tryd.func71 rfl Tryd.ntmps71 rfl ?_
 refine sr ?_
 refine va rfl rfl (nx ?_)
 refine vm rfl rfl ?_
 refine vn rfl rfl ?_
 refine vq (q_fa rfl rfl Tryd.underlying34 rfl rfl Tryd.sizeOf9 rfl) rfl ?_
 refine va rfl rfl (simL_nil (nrm_then (sim_rtn ?_)))
 exact rtn_fn () rfl rfl rfl (.sel 0 rfl (.sel 0 rfl (.nil _)))

def text_lines_8.f (x0_0 : Int) (x0_1 : Int) (x0_2 : Int) (x0_3 : Int) (x0_4 : Int) (x0_5 : Int) (x0_6 : List UInt8) (x0_7 : List UInt8) (x0_8 : List UInt8) : Option (Unit) := some ()
theorem text_lines_8.calls (W : World) (F : HA) (b0 : Nat) (x0_0 : Int) (x0_1 : Int) (x0_2 : Int) (x0_3 : Int) (x0_4 : Int) (x0_5 : Int) (x0_6 : List UInt8) (x0_7 : List UInt8) (x0_8 : List UInt8)  :
    Fn Tryd.prog W 72 [.pointer (some ⟨b0, 0, none⟩)] [obj b0 34 [.int .i64 x0_0, .int .i64 x0_1, .int .i64 x0_2, .int .i64 x0_3, .int .i64 x0_4, .int .i64 x0_5, str x0_6, str x0_7, str x0_8]] F (text_lines_8.f x0_0 x0_1 x0_2 x0_3 x0_4 x0_5 x0_6 x0_7 x0_8) (fun (r : Unit) (y : Unit) => .pointer (some ⟨b0, 8, none⟩)) (fun r y => [obj b0 34 [.int .i64 x0_0, .int .i64 x0_1, .int .i64 x0_2, .int .i64 x0_3, .int .i64 x0_4, .int .i64 x0_5, str x0_6, str x0_7, str x0_8]]) := by
 unfold text_lines_8.f
 refine fn_intro 6 Tryd.func72 rfl Tryd.ntmps72 rfl ?_
 refine sr ?_
 refine va rfl rfl (nx ?_)
 refine vm rfl rfl ?_
 refine vn rfl rfl ?_
 refine vq (q_fa rfl rfl Tryd.underlying34 rfl rfl Tryd.sizeOf9 rfl) rfl ?_
 refine va rfl rfl (simL_nil (nrm_then (sim_rtn ?_)))
 exact rtn_fn () rfl rfl rfl (.sel 0 rfl (.sel 0 rfl (.nil _)))

def text_lines_9.f (x0 : Int) : Option (Int × Int × Int × Int × Int × Int × List UInt8 × List UInt8 × List UInt8) := some (x0, 0, 0, 0, 0, 0, ([] : List UInt8), ([] : List UInt8), ([] : List UInt8))
theorem text_lines_9.calls (W : World) (F : HA) (x0 : Int)  :
    Fn Tryd.prog W 73 [.int .i64 x0] [] F (text_lines_9.f x0) (fun (r : Int × Int × Int × Int × Int × Int × List UInt8 × List UInt8 × List UInt8) (y : Unit) => .agg #[.int .i64 r.1, .int .i64 r.2.1, .int .i64 r.2.2.1, .int .i64 r.2.2.2.1, .int .i64 r.2.2.2.2.1, .int .i64 r.2.2.2.2.2.1, str r.2.2.2.2.2.2.1, str r.2.2.2.2.2.2.2.1, str r.2.2.2.2.2.2.2.2]) (fun r y => []) := by
 unfold text_lines_9.f
 refine fn_intro 5 Tryd.func73 rfl Tryd.ntmps73 rfl ?_
 refine sr ?_
 refine simL_eff (re_alloc rfl Tryd.zeroValue34 rfl) rfl rfl rfl ?_
 intro b1v
 refine nx ?_
 refine vm rfl rfl ?_
 refine vq (q_build (v := .agg #[.int .i64 x0, .int .i64 0, .int .i64 0, .int .i64 0, .int .i64 0, .int .i64 0, str ([] : List UInt8), str ([] : List UInt8), str ([] : List UInt8)]) rfl rfl (fun _ => by kernel_rfl)) rfl ?_
 refine simL_do (re_store 0 rfl rfl rfl Tryd.sizeOf34 rfl rfl (one_of (by rfl)) rfl rfl) rfl rfl ?_
 intro _
 refine simL_ent (H' := [obj b1v 34 [.int .i64 x0, .int .i64 0, .int .i64 0, .int .i64 0, .int .i64 0, .int .i64 0, str ([] : List UInt8), str ([] : List UInt8), str ([] : List UInt8)], F]) (Ent.refl _) ?_
 refine simL_nil (nrm_then (sim_rtn ?_))
 exact rtn_fnC (vs := [.agg #[.int .i64 x0, .int .i64 0, .int .i64 0, .int .i64 0, .int .i64 0, .int .i64 0, str ([] : List UInt8), str ([] : List UInt8), str ([] : List UInt8)]]) () rfl ⟨⟨b1v, rfl, load_agg 0 Tryd.isAgg34 Tryd.sizeOf34 rfl rfl⟩, trivial⟩ rfl (.sel 1 rfl (.nil _))
def text_lines_9.v (x0 : Int) : Int × Int × Int × Int × Int × Int × List UInt8 × List UInt8 × List UInt8 := (text_lines_9.f x0).getD (0, 0, 0, 0, 0, 0, [], [], [])
theorem text_lines_9.tot (x0 : Int) : text_lines_9.f x0 = some (text_lines_9.v x0) := by
  have h : ∃ r, text_lines_9.f x0 = some r := by
    unfold text_lines_9.f
    repeat' (first | exact ⟨_, rfl⟩ | split | simp only [Option.bind_some])
  obtain ⟨r, h⟩ := h
  unfold text_lines_9.v
  rw [h]; rfl

def text_lines_10.f (x0 : Int) : Option (Int × Int × Int × Int × Int × Int × List UInt8 × List UInt8 × List UInt8) := some (13, 0, 0, 0, 0, x0, ([] : List UInt8), ([] : List UInt8), ([] : List UInt8))
theorem text_lines_10.calls (W : World) (F : HA) (x0 : Int)  :
    Fn Tryd.prog W 74 [.int .i64 x0] [] F (text_lines_10.f x0) (fun (r : Int × Int × Int × Int × Int × Int × List UInt8 × List UInt8 × List UInt8) (y : Unit) => .agg #[.int .i64 r.1, .int .i64 r.2.1, .int .i64 r.2.2.1, .int .i64 r.2.2.2.1, .int .i64 r.2.2.2.2.1, .int .i64 r.2.2.2.2.2.1, str r.2.2.2.2.2.2.1, str r.2.2.2.2.2.2.2.1, str r.2.2.2.2.2.2.2.2]) (fun r y => []) := by
 unfold text_lines_10.f
 refine fn_intro 5 Tryd.func74 rfl Tryd.ntmps74 rfl ?_
 refine sr ?_
 refine simL_eff (re_alloc rfl Tryd.zeroValue34 rfl) rfl rfl rfl ?_
 intro b1v
 refine nx ?_
 refine vm rfl rfl ?_
 refine vq (q_build (v := .agg #[.int .i64 13, .int .i64 0, .int .i64 0, .int .i64 0, .int .i64 0, .int .i64 x0, str ([] : List UInt8), str ([] : List UInt8), str ([] : List UInt8)]) rfl rfl (fun _ => by kernel_rfl)) rfl ?_
 refine simL_do (re_store 0 rfl rfl rfl Tryd.sizeOf34 rfl rfl (one_of (by rfl)) rfl rfl) rfl rfl ?_
 intro _
 refine simL_ent (H' := [obj b1v 34 [.int .i64 13, .int .i64 0, .int .i64 0, .int .i64 0, .int .i64 0, .int .i64 x0, str ([] : List UInt8), str ([] : List UInt8), str ([] : List UInt8)], F]) (Ent.refl _) ?_
 refine simL_nil (nrm_then (sim_rtn ?_))
 exact rtn_fnC (vs := [.agg #[.int .i64 13, .int .i64 0, .int .i64 0, .int .i64 0, .int .i64 0, .int .i64 x0, str ([] : List UInt8), str ([] : List UInt8), str ([] : List UInt8)]]) () rfl ⟨⟨b1v, rfl, load_agg 0 Tryd.isAgg34 Tryd.sizeOf34 rfl rfl⟩, trivial⟩ rfl (.sel 1 rfl (.nil _))
def text_lines_10.v (x0 : Int) : Int × Int × Int × Int × Int × Int × List UInt8 × List UInt8 × List UInt8 := (text_lines_10.f x0).getD (0, 0, 0, 0, 0, 0, [], [], [])
theorem text_lines_10.tot (x0 : Int) : text_lines_10.f x0 = some (text_lines_10.v x0) := by
  have h : ∃ r, text_lines_10.f x0 = some r := by
    unfold text_lines_10.f
    repeat' (first | exact ⟨_, rfl⟩ | split | simp only [Option.bind_some])
  obtain ⟨r, h⟩ := h
  unfold text_lines_10.v
  rw [h]; rfl

def text_lines.w4x : List (Ty103) := ([((some 65), none, false), ((some 67), none, false)] : List (Ty103))
def text_lines.w4r : List (List Value) := [[.func (.func 65) #[] #[], .nilFunc, .bool false], [.func (.func 67) #[] #[], .nilFunc, .bool false]]

def text_lines.w10x : List (Ty103) := ([((some 65), none, false), ((some 69), none, true)] : List (Ty103))
def text_lines.w10r : List (List Value) := [[.func (.func 65) #[] #[], .nilFunc, .bool false], [.func (.func 69) #[] #[], .nilFunc, .bool true]]

def text_lines.w15x : List (Ty103) := ([((some 67), none, false)] : List (Ty103))
def text_lines.w15r : List (List Value) := [[.func (.func 67) #[] #[], .nilFunc, .bool false]]

def text_lines.w20x : List (Ty103) := ([((some 67), none, false)] : List (Ty103))
def text_lines.w20r : List (List Value) := [[.func (.func 67) #[] #[], .nilFunc, .bool false]]

def text_lines.w25x : List (Ty103) := ([((some 67), none, false)] : List (Ty103))
def text_lines.w25r : List (List Value) := [[.func (.func 67) #[] #[], .nilFunc, .bool false]]

def text_lines.w31x : List (Ty103) := ([((some 67), none, false), ((some 68), none, false)] : List (Ty103))
def text_lines.w31r : List (List Value) := [[.func (.func 67) #[] #[], .nilFunc, .bool false], [.func (.func 68) #[] #[], .nilFunc, .bool false]]

def text_lines.w37x : List (Ty103) := ([((some 67), none, false), ((some 68), none, false)] : List (Ty103))
def text_lines.w37r : List (List Value) := [[.func (.func 67) #[] #[], .nilFunc, .bool false], [.func (.func 68) #[] #[], .nilFunc, .bool false]]

def text_lines.w42x : List (Ty103) := ([((some 65), none, false), ((some 67), none, false)] : List (Ty103))
def text_lines.w42r : List (List Value) := [[.func (.func 65) #[] #[], .nilFunc, .bool false], [.func (.func 67) #[] #[], .nilFunc, .bool false]]

def text_lines.w48x : List (Ty103) := ([((some 65), none, false), ((some 67), none, false)] : List (Ty103))
def text_lines.w48r : List (List Value) := [[.func (.func 65) #[] #[], .nilFunc, .bool false], [.func (.func 67) #[] #[], .nilFunc, .bool false]]

def text_lines.w54x : List (Ty103) := ([((some 65), none, false), ((some 67), none, false)] : List (Ty103))
def text_lines.w54r : List (List Value) := [[.func (.func 65) #[] #[], .nilFunc, .bool false], [.func (.func 67) #[] #[], .nilFunc, .bool false]]

def text_lines.w60x : List (Ty103) := ([((some 65), none, false), ((some 67), none, false)] : List (Ty103))
def text_lines.w60r : List (List Value) := [[.func (.func 65) #[] #[], .nilFunc, .bool false], [.func (.func 67) #[] #[], .nilFunc, .bool false]]

def text_lines.w66x : List (Ty103) := ([((some 65), none, false), ((some 67), none, false)] : List (Ty103))
def text_lines.w66r : List (List Value) := [[.func (.func 65) #[] #[], .nilFunc, .bool false], [.func (.func 67) #[] #[], .nilFunc, .bool false]]

def text_lines.w71x : List (Ty103) := ([((some 65), none, false)] : List (Ty103))
def text_lines.w71r : List (List Value) := [[.func (.func 65) #[] #[], .nilFunc, .bool false]]

def text_lines.w78x : List (Ty103) := ([((some 66), none, false), ((some 65), none, false), (none, (some 70), false)] : List (Ty103))
def text_lines.w78r : List (List Value) := [[.func (.func 66) #[] #[], .nilFunc, .bool false], [.func (.func 65) #[] #[], .nilFunc, .bool false], [.nilFunc, .func (.func 70) #[] #[], .bool false]]

def text_lines.w85x : List (Ty103) := ([((some 66), none, false), ((some 65), none, false), (none, (some 70), false)] : List (Ty103))
def text_lines.w85r : List (List Value) := [[.func (.func 66) #[] #[], .nilFunc, .bool false], [.func (.func 65) #[] #[], .nilFunc, .bool false], [.nilFunc, .func (.func 70) #[] #[], .bool false]]

def text_lines.w93x : List (Ty103) := ([((some 66), none, false), ((some 65), none, false), (none, (some 70), false), (none, (some 71), false)] : List (Ty103))
def text_lines.w93r : List (List Value) := [[.func (.func 66) #[] #[], .nilFunc, .bool false], [.func (.func 65) #[] #[], .nilFunc, .bool false], [.nilFunc, .func (.func 70) #[] #[], .bool false], [.nilFunc, .func (.func 71) #[] #[], .bool false]]

def text_lines.w102x : List (Ty103) := ([((some 66), none, false), ((some 65), none, false), (none, (some 70), false), (none, (some 72), false), (none, (some 71), false)] : List (Ty103))
def text_lines.w102r : List (List Value) := [[.func (.func 66) #[] #[], .nilFunc, .bool false], [.func (.func 65) #[] #[], .nilFunc, .bool false], [.nilFunc, .func (.func 70) #[] #[], .bool false], [.nilFunc, .func (.func 72) #[] #[], .bool false], [.nilFunc, .func (.func 71) #[] #[], .bool false]]

def text_lines.w108x : List (Ty103) := ([((some 66), none, false), ((some 65), none, false)] : List (Ty103))
def text_lines.w108r : List (List Value) := [[.func (.func 66) #[] #[], .nilFunc, .bool false], [.func (.func 65) #[] #[], .nilFunc, .bool false]]

def text_lines.w113x : List (Ty103) := ([((some 66), none, false)] : List (Ty103))
def text_lines.w113r : List (List Value) := [[.func (.func 66) #[] #[], .nilFunc, .bool false]]

def text_lines.w119x : List (Ty103) := ([((some 65), none, false), ((some 67), none, false)] : List (Ty103))
def text_lines.w119r : List (List Value) := [[.func (.func 65) #[] #[], .nilFunc, .bool false], [.func (.func 67) #[] #[], .nilFunc, .bool false]]

def text_lines.w121x : List (List UInt8 × Int × Int × Int × Int × Int × Int × List UInt8 × List UInt8 × List UInt8 × (List (Ty103))) := ([(([116, 105, 99, 107] : List UInt8), (text_lines_9.v (1 : Int)).1, (text_lines_9.v (1 : Int)).2.1, (text_lines_9.v (1 : Int)).2.2.1, (text_lines_9.v (1 : Int)).2.2.2.1, (text_lines_9.v (1 : Int)).2.2.2.2.1, (text_lines_9.v (1 : Int)).2.2.2.2.2.1, (text_lines_9.v (1 : Int)).2.2.2.2.2.2.1, (text_lines_9.v (1 : Int)).2.2.2.2.2.2.2.1, (text_lines_9.v (1 : Int)).2.2.2.2.2.2.2.2, text_lines.w4x), (([112, 105, 99, 107] : List UInt8), (text_lines_9.v (2 : Int)).1, (text_lines_9.v (2 : Int)).2.1, (text_lines_9.v (2 : Int)).2.2.1, (text_lines_9.v (2 : Int)).2.2.2.1, (text_lines_9.v (2 : Int)).2.2.2.2.1, (text_lines_9.v (2 : Int)).2.2.2.2.2.1, (text_lines_9.v (2 : Int)).2.2.2.2.2.2.1, (text_lines_9.v (2 : Int)).2.2.2.2.2.2.2.1, (text_lines_9.v (2 : Int)).2.2.2.2.2.2.2.2, text_lines.w10x), (([100, 101, 108, 105, 118, 101, 114] : List UInt8), (text_lines_9.v (3 : Int)).1, (text_lines_9.v (3 : Int)).2.1, (text_lines_9.v (3 : Int)).2.2.1, (text_lines_9.v (3 : Int)).2.2.2.1, (text_lines_9.v (3 : Int)).2.2.2.2.1, (text_lines_9.v (3 : Int)).2.2.2.2.2.1, (text_lines_9.v (3 : Int)).2.2.2.2.2.2.1, (text_lines_9.v (3 : Int)).2.2.2.2.2.2.2.1, (text_lines_9.v (3 : Int)).2.2.2.2.2.2.2.2, text_lines.w15x), (([100, 114, 111, 112] : List UInt8), (text_lines_9.v (4 : Int)).1, (text_lines_9.v (4 : Int)).2.1, (text_lines_9.v (4 : Int)).2.2.1, (text_lines_9.v (4 : Int)).2.2.2.1, (text_lines_9.v (4 : Int)).2.2.2.2.1, (text_lines_9.v (4 : Int)).2.2.2.2.2.1, (text_lines_9.v (4 : Int)).2.2.2.2.2.2.1, (text_lines_9.v (4 : Int)).2.2.2.2.2.2.2.1, (text_lines_9.v (4 : Int)).2.2.2.2.2.2.2.2, text_lines.w20x), (([99, 111, 112, 121] : List UInt8), (text_lines_9.v (5 : Int)).1, (text_lines_9.v (5 : Int)).2.1, (text_lines_9.v (5 : Int)).2.2.1, (text_lines_9.v (5 : Int)).2.2.2.1, (text_lines_9.v (5 : Int)).2.2.2.2.1, (text_lines_9.v (5 : Int)).2.2.2.2.2.1, (text_lines_9.v (5 : Int)).2.2.2.2.2.2.1, (text_lines_9.v (5 : Int)).2.2.2.2.2.2.2.1, (text_lines_9.v (5 : Int)).2.2.2.2.2.2.2.2, text_lines.w25x), (([115, 112, 111, 105, 108] : List UInt8), (text_lines_9.v (6 : Int)).1, (text_lines_9.v (6 : Int)).2.1, (text_lines_9.v (6 : Int)).2.2.1, (text_lines_9.v (6 : Int)).2.2.2.1, (text_lines_9.v (6 : Int)).2.2.2.2.1, (text_lines_9.v (6 : Int)).2.2.2.2.2.1, (text_lines_9.v (6 : Int)).2.2.2.2.2.2.1, (text_lines_9.v (6 : Int)).2.2.2.2.2.2.2.1, (text_lines_9.v (6 : Int)).2.2.2.2.2.2.2.2, text_lines.w31x), (([109, 111, 118, 101] : List UInt8), (text_lines_9.v (7 : Int)).1, (text_lines_9.v (7 : Int)).2.1, (text_lines_9.v (7 : Int)).2.2.1, (text_lines_9.v (7 : Int)).2.2.2.1, (text_lines_9.v (7 : Int)).2.2.2.2.1, (text_lines_9.v (7 : Int)).2.2.2.2.2.1, (text_lines_9.v (7 : Int)).2.2.2.2.2.2.1, (text_lines_9.v (7 : Int)).2.2.2.2.2.2.2.1, (text_lines_9.v (7 : Int)).2.2.2.2.2.2.2.2, text_lines.w37x), (([108, 105, 110, 107] : List UInt8), (8 : Int), (0 : Int), (0 : Int), (0 : Int), (1 : Int), (0 : Int), ([] : List UInt8), ([] : List UInt8), ([] : List UInt8), text_lines.w42x), (([99, 117, 116] : List UInt8), (text_lines_9.v (8 : Int)).1, (text_lines_9.v (8 : Int)).2.1, (text_lines_9.v (8 : Int)).2.2.1, (text_lines_9.v (8 : Int)).2.2.2.1, (text_lines_9.v (8 : Int)).2.2.2.2.1, (text_lines_9.v (8 : Int)).2.2.2.2.2.1, (text_lines_9.v (8 : Int)).2.2.2.2.2.2.1, (text_lines_9.v (8 : Int)).2.2.2.2.2.2.2.1, (text_lines_9.v (8 : Int)).2.2.2.2.2.2.2.2, text_lines.w48x), (([99, 114, 97, 115, 104] : List UInt8), (text_lines_9.v (9 : Int)).1, (text_lines_9.v (9 : Int)).2.1, (text_lines_9.v (9 : Int)).2.2.1, (text_lines_9.v (9 : Int)).2.2.2.1, (text_lines_9.v (9 : Int)).2.2.2.2.1, (text_lines_9.v (9 : Int)).2.2.2.2.2.1, (text_lines_9.v (9 : Int)).2.2.2.2.2.2.1, (text_lines_9.v (9 : Int)).2.2.2.2.2.2.2.1, (text_lines_9.v (9 : Int)).2.2.2.2.2.2.2.2, text_lines.w54x), (([115, 116, 97, 114, 116] : List UInt8), (text_lines_9.v (10 : Int)).1, (text_lines_9.v (10 : Int)).2.1, (text_lines_9.v (10 : Int)).2.2.1, (text_lines_9.v (10 : Int)).2.2.2.1, (text_lines_9.v (10 : Int)).2.2.2.2.1, (text_lines_9.v (10 : Int)).2.2.2.2.2.1, (text_lines_9.v (10 : Int)).2.2.2.2.2.2.1, (text_lines_9.v (10 : Int)).2.2.2.2.2.2.2.1, (text_lines_9.v (10 : Int)).2.2.2.2.2.2.2.2, text_lines.w60x), (([97, 114, 109] : List UInt8), (text_lines_9.v (12 : Int)).1, (text_lines_9.v (12 : Int)).2.1, (text_lines_9.v (12 : Int)).2.2.1, (text_lines_9.v (12 : Int)).2.2.2.1, (text_lines_9.v (12 : Int)).2.2.2.2.1, (text_lines_9.v (12 : Int)).2.2.2.2.2.1, (text_lines_9.v (12 : Int)).2.2.2.2.2.2.1, (text_lines_9.v (12 : Int)).2.2.2.2.2.2.2.1, (text_lines_9.v (12 : Int)).2.2.2.2.2.2.2.2, text_lines.w66x), (([115, 116, 111, 112] : List UInt8), (text_lines_9.v (11 : Int)).1, (text_lines_9.v (11 : Int)).2.1, (text_lines_9.v (11 : Int)).2.2.1, (text_lines_9.v (11 : Int)).2.2.2.1, (text_lines_9.v (11 : Int)).2.2.2.2.1, (text_lines_9.v (11 : Int)).2.2.2.2.2.1, (text_lines_9.v (11 : Int)).2.2.2.2.2.2.1, (text_lines_9.v (11 : Int)).2.2.2.2.2.2.2.1, (text_lines_9.v (11 : Int)).2.2.2.2.2.2.2.2, text_lines.w71x), (([103, 101, 116] : List UInt8), (text_lines_10.v (1 : Int)).1, (text_lines_10.v (1 : Int)).2.1, (text_lines_10.v (1 : Int)).2.2.1, (text_lines_10.v (1 : Int)).2.2.2.1, (text_lines_10.v (1 : Int)).2.2.2.2.1, (text_lines_10.v (1 : Int)).2.2.2.2.2.1, (text_lines_10.v (1 : Int)).2.2.2.2.2.2.1, (text_lines_10.v (1 : Int)).2.2.2.2.2.2.2.1, (text_lines_10.v (1 : Int)).2.2.2.2.2.2.2.2, text_lines.w78x), (([100, 101, 108, 101, 116, 101] : List UInt8), (text_lines_10.v (3 : Int)).1, (text_lines_10.v (3 : Int)).2.1, (text_lines_10.v (3 : Int)).2.2.1, (text_lines_10.v (3 : Int)).2.2.2.1, (text_lines_10.v (3 : Int)).2.2.2.2.1, (text_lines_10.v (3 : Int)).2.2.2.2.2.1, (text_lines_10.v (3 : Int)).2.2.2.2.2.2.1, (text_lines_10.v (3 : Int)).2.2.2.2.2.2.2.1, (text_lines_10.v (3 : Int)).2.2.2.2.2.2.2.2, text_lines.w85x), (([112, 117, 116] : List UInt8), (text_lines_10.v (2 : Int)).1, (text_lines_10.v (2 : Int)).2.1, (text_lines_10.v (2 : Int)).2.2.1, (text_lines_10.v (2 : Int)).2.2.2.1, (text_lines_10.v (2 : Int)).2.2.2.2.1, (text_lines_10.v (2 : Int)).2.2.2.2.2.1, (text_lines_10.v (2 : Int)).2.2.2.2.2.2.1, (text_lines_10.v (2 : Int)).2.2.2.2.2.2.2.1, (text_lines_10.v (2 : Int)).2.2.2.2.2.2.2.2, text_lines.w93x), (([115, 119, 97, 112] : List UInt8), (text_lines_10.v (4 : Int)).1, (text_lines_10.v (4 : Int)).2.1, (text_lines_10.v (4 : Int)).2.2.1, (text_lines_10.v (4 : Int)).2.2.2.1, (text_lines_10.v (4 : Int)).2.2.2.2.1, (text_lines_10.v (4 : Int)).2.2.2.2.2.1, (text_lines_10.v (4 : Int)).2.2.2.2.2.2.1, (text_lines_10.v (4 : Int)).2.2.2.2.2.2.2.1, (text_lines_10.v (4 : Int)).2.2.2.2.2.2.2.2, text_lines.w102x), (([97, 103, 97, 105, 110] : List UInt8), (text_lines_9.v (14 : Int)).1, (text_lines_9.v (14 : Int)).2.1, (text_lines_9.v (14 : Int)).2.2.1, (text_lines_9.v (14 : Int)).2.2.2.1, (text_lines_9.v (14 : Int)).2.2.2.2.1, (text_lines_9.v (14 : Int)).2.2.2.2.2.1, (text_lines_9.v (14 : Int)).2.2.2.2.2.2.1, (text_lines_9.v (14 : Int)).2.2.2.2.2.2.2.1, (text_lines_9.v (14 : Int)).2.2.2.2.2.2.2.2, text_lines.w108x), (([103, 105, 118, 101] : List UInt8), (text_lines_9.v (15 : Int)).1, (text_lines_9.v (15 : Int)).2.1, (text_lines_9.v (15 : Int)).2.2.1, (text_lines_9.v (15 : Int)).2.2.2.1, (text_lines_9.v (15 : Int)).2.2.2.2.1, (text_lines_9.v (15 : Int)).2.2.2.2.2.1, (text_lines_9.v (15 : Int)).2.2.2.2.2.2.1, (text_lines_9.v (15 : Int)).2.2.2.2.2.2.2.1, (text_lines_9.v (15 : Int)).2.2.2.2.2.2.2.2, text_lines.w113x), (([99, 97, 108, 109] : List UInt8), (text_lines_9.v (16 : Int)).1, (text_lines_9.v (16 : Int)).2.1, (text_lines_9.v (16 : Int)).2.2.1, (text_lines_9.v (16 : Int)).2.2.2.1, (text_lines_9.v (16 : Int)).2.2.2.2.1, (text_lines_9.v (16 : Int)).2.2.2.2.2.1, (text_lines_9.v (16 : Int)).2.2.2.2.2.2.1, (text_lines_9.v (16 : Int)).2.2.2.2.2.2.2.1, (text_lines_9.v (16 : Int)).2.2.2.2.2.2.2.2, text_lines.w119x)] : List (List UInt8 × Int × Int × Int × Int × Int × Int × List UInt8 × List UInt8 × List UInt8 × (List (Ty103))))
def text_lines.w121r (γ : Nat → Nat) : List (List Value) := [[str ([116, 105, 99, 107] : List UInt8), .int .i64 ((text_lines_9.v (1 : Int)).1), .int .i64 ((text_lines_9.v (1 : Int)).2.1), .int .i64 ((text_lines_9.v (1 : Int)).2.2.1), .int .i64 ((text_lines_9.v (1 : Int)).2.2.2.1), .int .i64 ((text_lines_9.v (1 : Int)).2.2.2.2.1), .int .i64 ((text_lines_9.v (1 : Int)).2.2.2.2.2.1), str ((text_lines_9.v (1 : Int)).2.2.2.2.2.2.1), str ((text_lines_9.v (1 : Int)).2.2.2.2.2.2.2.1), str ((text_lines_9.v (1 : Int)).2.2.2.2.2.2.2.2), .slice (some ⟨(γ 4), 0, none⟩) text_lines.w4x.length 2], [str ([112, 105, 99, 107] : List UInt8), .int .i64 ((text_lines_9.v (2 : Int)).1), .int .i64 ((text_lines_9.v (2 : Int)).2.1), .int .i64 ((text_lines_9.v (2 : Int)).2.2.1), .int .i64 ((text_lines_9.v (2 : Int)).2.2.2.1), .int .i64 ((text_lines_9.v (2 : Int)).2.2.2.2.1), .int .i64 ((text_lines_9.v (2 : Int)).2.2.2.2.2.1), str ((text_lines_9.v (2 : Int)).2.2.2.2.2.2.1), str ((text_lines_9.v (2 : Int)).2.2.2.2.2.2.2.1), str ((text_lines_9.v (2 : Int)).2.2.2.2.2.2.2.2), .slice (some ⟨(γ 10), 0, none⟩) text_lines.w10x.length 2], [str ([100, 101, 108, 105, 118, 101, 114] : List UInt8), .int .i64 ((text_lines_9.v (3 : Int)).1), .int .i64 ((text_lines_9.v (3 : Int)).2.1), .int .i64 ((text_lines_9.v (3 : Int)).2.2.1), .int .i64 ((text_lines_9.v (3 : Int)).2.2.2.1), .int .i64 ((text_lines_9.v (3 : Int)).2.2.2.2.1), .int .i64 ((text_lines_9.v (3 : Int)).2.2.2.2.2.1), str ((text_lines_9.v (3 : Int)).2.2.2.2.2.2.1), str ((text_lines_9.v (3 : Int)).2.2.2.2.2.2.2.1), str ((text_lines_9.v (3 : Int)).2.2.2.2.2.2.2.2), .slice (some ⟨(γ 15), 0, none⟩) text_lines.w15x.length 1], [str ([100, 114, 111, 112] : List UInt8), .int .i64 ((text_lines_9.v (4 : Int)).1), .int .i64 ((text_lines_9.v (4 : Int)).2.1), .int .i64 ((text_lines_9.v (4 : Int)).2.2.1), .int .i64 ((text_lines_9.v (4 : Int)).2.2.2.1), .int .i64 ((text_lines_9.v (4 : Int)).2.2.2.2.1), .int .i64 ((text_lines_9.v (4 : Int)).2.2.2.2.2.1), str ((text_lines_9.v (4 : Int)).2.2.2.2.2.2.1), str ((text_lines_9.v (4 : Int)).2.2.2.2.2.2.2.1), str ((text_lines_9.v (4 : Int)).2.2.2.2.2.2.2.2), .slice (some ⟨(γ 20), 0, none⟩) text_lines.w20x.length 1], [str ([99, 111, 112, 121] : List UInt8), .int .i64 ((text_lines_9.v (5 : Int)).1), .int .i64 ((text_lines_9.v (5 : Int)).2.1), .int .i64 ((text_lines_9.v (5 : Int)).2.2.1), .int .i64 ((text_lines_9.v (5 : Int)).2.2.2.1), .int .i64 ((text_lines_9.v (5 : Int)).2.2.2.2.1), .int .i64 ((text_lines_9.v (5 : Int)).2.2.2.2.2.1), str ((text_lines_9.v (5 : Int)).2.2.2.2.2.2.1), str ((text_lines_9.v (5 : Int)).2.2.2.2.2.2.2.1), str ((text_lines_9.v (5 : Int)).2.2.2.2.2.2.2.2), .slice (some ⟨(γ 25), 0, none⟩) text_lines.w25x.length 1], [str ([115, 112, 111, 105, 108] : List UInt8), .int .i64 ((text_lines_9.v (6 : Int)).1), .int .i64 ((text_lines_9.v (6 : Int)).2.1), .int .i64 ((text_lines_9.v (6 : Int)).2.2.1), .int .i64 ((text_lines_9.v (6 : Int)).2.2.2.1), .int .i64 ((text_lines_9.v (6 : Int)).2.2.2.2.1), .int .i64 ((text_lines_9.v (6 : Int)).2.2.2.2.2.1), str ((text_lines_9.v (6 : Int)).2.2.2.2.2.2.1), str ((text_lines_9.v (6 : Int)).2.2.2.2.2.2.2.1), str ((text_lines_9.v (6 : Int)).2.2.2.2.2.2.2.2), .slice (some ⟨(γ 31), 0, none⟩) text_lines.w31x.length 2], [str ([109, 111, 118, 101] : List UInt8), .int .i64 ((text_lines_9.v (7 : Int)).1), .int .i64 ((text_lines_9.v (7 : Int)).2.1), .int .i64 ((text_lines_9.v (7 : Int)).2.2.1), .int .i64 ((text_lines_9.v (7 : Int)).2.2.2.1), .int .i64 ((text_lines_9.v (7 : Int)).2.2.2.2.1), .int .i64 ((text_lines_9.v (7 : Int)).2.2.2.2.2.1), str ((text_lines_9.v (7 : Int)).2.2.2.2.2.2.1), str ((text_lines_9.v (7 : Int)).2.2.2.2.2.2.2.1), str ((text_lines_9.v (7 : Int)).2.2.2.2.2.2.2.2), .slice (some ⟨(γ 37), 0, none⟩) text_lines.w37x.length 2], [str ([108, 105, 110, 107] : List UInt8), .int .i64 8, .int .i64 0, .int .i64 0, .int .i64 0, .int .i64 1, .int .i64 0, str ([] : List UInt8), str ([] : List UInt8), str ([] : List UInt8), .slice (some ⟨(γ 42), 0, none⟩) text_lines.w42x.length 2], [str ([99, 117, 116] : List UInt8), .int .i64 ((text_lines_9.v (8 : Int)).1), .int .i64 ((text_lines_9.v (8 : Int)).2.1), .int .i64 ((text_lines_9.v (8 : Int)).2.2.1), .int .i64 ((text_lines_9.v (8 : Int)).2.2.2.1), .int .i64 ((text_lines_9.v (8 : Int)).2.2.2.2.1), .int .i64 ((text_lines_9.v (8 : Int)).2.2.2.2.2.1), str ((text_lines_9.v (8 : Int)).2.2.2.2.2.2.1), str ((text_lines_9.v (8 : Int)).2.2.2.2.2.2.2.1), str ((text_lines_9.v (8 : Int)).2.2.2.2.2.2.2.2), .slice (some ⟨(γ 48), 0, none⟩) text_lines.w48x.length 2], [str ([99, 114, 97, 115, 104] : List UInt8), .int .i64 ((text_lines_9.v (9 : Int)).1), .int .i64 ((text_lines_9.v (9 : Int)).2.1), .int .i64 ((text_lines_9.v (9 : Int)).2.2.1), .int .i64 ((text_lines_9.v (9 : Int)).2.2.2.1), .int .i64 ((text_lines_9.v (9 : Int)).2.2.2.2.1), .int .i64 ((text_lines_9.v (9 : Int)).2.2.2.2.2.1), str ((text_lines_9.v (9 : Int)).2.2.2.2.2.2.1), str ((text_lines_9.v (9 : Int)).2.2.2.2.2.2.2.1), str ((text_lines_9.v (9 : Int)).2.2.2.2.2.2.2.2), .slice (some ⟨(γ 54), 0, none⟩) text_lines.w54x.length 2], [str ([115, 116, 97, 114, 116] : List UInt8), .int .i64 ((text_lines_9.v (10 : Int)).1), .int .i64 ((text_lines_9.v (10 : Int)).2.1), .int .i64 ((text_lines_9.v (10 : Int)).2.2.1), .int .i64 ((text_lines_9.v (10 : Int)).2.2.2.1), .int .i64 ((text_lines_9.v (10 : Int)).2.2.2.2.1), .int .i64 ((text_lines_9.v (10 : Int)).2.2.2.2.2.1), str ((text_lines_9.v (10 : Int)).2.2.2.2.2.2.1), str ((text_lines_9.v (10 : Int)).2.2.2.2.2.2.2.1), str ((text_lines_9.v (10 : Int)).2.2.2.2.2.2.2.2), .slice (some ⟨(γ 60), 0, none⟩) text_lines.w60x.length 2], [str ([97, 114, 109] : List UInt8), .int .i64 ((text_lines_9.v (12 : Int)).1), .int .i64 ((text_lines_9.v (12 : Int)).2.1), .int .i64 ((text_lines_9.v (12 : Int)).2.2.1), .int .i64 ((text_lines_9.v (12 : Int)).2.2.2.1), .int .i64 ((text_lines_9.v (12 : Int)).2.2.2.2.1), .int .i64 ((text_lines_9.v (12 : Int)).2.2.2.2.2.1), str ((text_lines_9.v (12 : Int)).2.2.2.2.2.2.1), str ((text_lines_9.v (12 : Int)).2.2.2.2.2.2.2.1), str ((text_lines_9.v (12 : Int)).2.2.2.2.2.2.2.2), .slice (some ⟨(γ 66), 0, none⟩) text_lines.w66x.length 2], [str ([115, 116, 111, 112] : List UInt8), .int .i64 ((text_lines_9.v (11 : Int)).1), .int .i64 ((text_lines_9.v (11 : Int)).2.1), .int .i64 ((text_lines_9.v (11 : Int)).2.2.1), .int .i64 ((text_lines_9.v (11 : Int)).2.2.2.1), .int .i64 ((text_lines_9.v (11 : Int)).2.2.2.2.1), .int .i64 ((text_lines_9.v (11 : Int)).2.2.2.2.2.1), str ((text_lines_9.v (11 : Int)).2.2.2.2.2.2.1), str ((text_lines_9.v (11 : Int)).2.2.2.2.2.2.2.1), str ((text_lines_9.v (11 : Int)).2.2.2.2.2.2.2.2), .slice (some ⟨(γ 71), 0, none⟩) text_lines.w71x.length 1], [str ([103, 101, 116] : List UInt8), .int .i64 ((text_lines_10.v (1 : Int)).1), .int .i64 ((text_lines_10.v (1 : Int)).2.1), .int .i64 ((text_lines_10.v (1 : Int)).2.2.1), .int .i64 ((text_lines_10.v (1 : Int)).2.2.2.1), .int .i64 ((text_lines_10.v (1 : Int)).2.2.2.2.1), .int .i64 ((text_lines_10.v (1 : Int)).2.2.2.2.2.1), str ((text_lines_10.v (1 : Int)).2.2.2.2.2.2.1), str ((text_lines_10.v (1 : Int)).2.2.2.2.2.2.2.1), str ((text_lines_10.v (1 : Int)).2.2.2.2.2.2.2.2), .slice (some ⟨(γ 78), 0, none⟩) text_lines.w78x.length 3], [str ([100, 101, 108, 101, 116, 101] : List UInt8), .int .i64 ((text_lines_10.v (3 : Int)).1), .int .i64 ((text_lines_10.v (3 : Int)).2.1), .int .i64 ((text_lines_10.v (3 : Int)).2.2.1), .int .i64 ((text_lines_10.v (3 : Int)).2.2.2.1), .int .i64 ((text_lines_10.v (3 : Int)).2.2.2.2.1), .int .i64 ((text_lines_10.v (3 : Int)).2.2.2.2.2.1), str ((text_lines_10.v (3 : Int)).2.2.2.2.2.2.1), str ((text_lines_10.v (3 : Int)).2.2.2.2.2.2.2.1), str ((text_lines_10.v (3 : Int)).2.2.2.2.2.2.2.2), .slice (some ⟨(γ 85), 0, none⟩) text_lines.w85x.length 3], [str ([112, 117, 116] : List UInt8), .int .i64 ((text_lines_10.v (2 : Int)).1), .int .i64 ((text_lines_10.v (2 : Int)).2.1), .int .i64 ((text_lines_10.v (2 : Int)).2.2.1), .int .i64 ((text_lines_10.v (2 : Int)).2.2.2.1), .int .i64 ((text_lines_10.v (2 : Int)).2.2.2.2.1), .int .i64 ((text_lines_10.v (2 : Int)).2.2.2.2.2.1), str ((text_lines_10.v (2 : Int)).2.2.2.2.2.2.1), str ((text_lines_10.v (2 : Int)).2.2.2.2.2.2.2.1), str ((text_lines_10.v (2 : Int)).2.2.2.2.2.2.2.2), .slice (some ⟨(γ 93), 0, none⟩) text_lines.w93x.length 4], [str ([115, 119, 97, 112] : List UInt8), .int .i64 ((text_lines_10.v (4 : Int)).1), .int .i64 ((text_lines_10.v (4 : Int)).2.1), .int .i64 ((text_lines_10.v (4 : Int)).2.2.1), .int .i64 ((text_lines_10.v (4 : Int)).2.2.2.1), .int .i64 ((text_lines_10.v (4 : Int)).2.2.2.2.1), .int .i64 ((text_lines_10.v (4 : Int)).2.2.2.2.2.1), str ((text_lines_10.v (4 : Int)).2.2.2.2.2.2.1), str ((text_lines_10.v (4 : Int)).2.2.2.2.2.2.2.1), str ((text_lines_10.v (4 : Int)).2.2.2.2.2.2.2.2), .slice (some ⟨(γ 102), 0, none⟩) text_lines.w102x.length 5], [str ([97, 103, 97, 105, 110] : List UInt8), .int .i64 ((text_lines_9.v (14 : Int)).1), .int .i64 ((text_lines_9.v (14 : Int)).2.1), .int .i64 ((text_lines_9.v (14 : Int)).2.2.1), .int .i64 ((text_lines_9.v (14 : Int)).2.2.2.1), .int .i64 ((text_lines_9.v (14 : Int)).2.2.2.2.1), .int .i64 ((text_lines_9.v (14 : Int)).2.2.2.2.2.1), str ((text_lines_9.v (14 : Int)).2.2.2.2.2.2.1), str ((text_lines_9.v (14 : Int)).2.2.2.2.2.2.2.1), str ((text_lines_9.v (14 : Int)).2.2.2.2.2.2.2.2), .slice (some ⟨(γ 108), 0, none⟩) text_lines.w108x.length 2], [str ([103, 105, 118, 101] : List UInt8), .int .i64 ((text_lines_9.v (15 : Int)).1), .int .i64 ((text_lines_9.v (15 : Int)).2.1), .int .i64 ((text_lines_9.v (15 : Int)).2.2.1), .int .i64 ((text_lines_9.v (15 : Int)).2.2.2.1), .int .i64 ((text_lines_9.v (15 : Int)).2.2.2.2.1), .int .i64 ((text_lines_9.v (15 : Int)).2.2.2.2.2.1), str ((text_lines_9.v (15 : Int)).2.2.2.2.2.2.1), str ((text_lines_9.v (15 : Int)).2.2.2.2.2.2.2.1), str ((text_lines_9.v (15 : Int)).2.2.2.2.2.2.2.2), .slice (some ⟨(γ 113), 0, none⟩) text_lines.w113x.length 1], [str ([99, 97, 108, 109] : List UInt8), .int .i64 ((text_lines_9.v (16 : Int)).1), .int .i64 ((text_lines_9.v (16 : Int)).2.1), .int .i64 ((text_lines_9.v (16 : Int)).2.2.1), .int .i64 ((text_lines_9.v (16 : Int)).2.2.2.1), .int .i64 ((text_lines_9.v (16 : Int)).2.2.2.2.1), .int .i64 ((text_lines_9.v (16 : Int)).2.2.2.2.2.1), str ((text_lines_9.v (16 : Int)).2.2.2.2.2.2.1), str ((text_lines_9.v (16 : Int)).2.2.2.2.2.2.2.1), str ((text_lines_9.v (16 : Int)).2.2.2.2.2.2.2.2), .slice (some ⟨(γ 119), 0, none⟩) text_lines.w119x.length 2]]

def text_lines.w121z (γ : Nat → Nat) : HA := stars [Row 103 3 (some ⟨(γ 4), 0, none⟩) text_lines.w4x.length 2 text_lines.w4r.flatten, Row 103 3 (some ⟨(γ 10), 0, none⟩) text_lines.w10x.length 2 text_lines.w10r.flatten, Row 103 3 (some ⟨(γ 15), 0, none⟩) text_lines.w15x.length 1 text_lines.w15r.flatten, Row 103 3 (some ⟨(γ 20), 0, none⟩) text_lines.w20x.length 1 text_lines.w20r.flatten, Row 103 3 (some ⟨(γ 25), 0, none⟩) text_lines.w25x.length 1 text_lines.w25r.flatten, Row 103 3 (some ⟨(γ 31), 0, none⟩) text_lines.w31x.length 2 text_lines.w31r.flatten, Row 103 3 (some ⟨(γ 37), 0, none⟩) text_lines.w37x.length 2 text_lines.w37r.flatten, Row 103 3 (some ⟨(γ 42), 0, none⟩) text_lines.w42x.length 2 text_lines.w42r.flatten, Row 103 3 (some ⟨(γ 48), 0, none⟩) text_lines.w48x.length 2 text_lines.w48r.flatten, Row 103 3 (some ⟨(γ 54), 0, none⟩) text_lines.w54x.length 2 text_lines.w54r.flatten, Row 103 3 (some ⟨(γ 60), 0, none⟩) text_lines.w60x.length 2 text_lines.w60r.flatten, Row 103 3 (some ⟨(γ 66), 0, none⟩) text_lines.w66x.length 2 text_lines.w66r.flatten, Row 103 3 (some ⟨(γ 71), 0, none⟩) text_lines.w71x.length 1 text_lines.w71r.flatten, Row 103 3 (some ⟨(γ 78), 0, none⟩) text_lines.w78x.length 3 text_lines.w78r.flatten, Row 103 3 (some ⟨(γ 85), 0, none⟩) text_lines.w85x.length 3 text_lines.w85r.flatten, Row 103 3 (some ⟨(γ 93), 0, none⟩) text_lines.w93x.length 4 text_lines.w93r.flatten, Row 103 3 (some ⟨(γ 102), 0, none⟩) text_lines.w102x.length 5 text_lines.w102r.flatten, Row 103 3 (some ⟨(γ 108), 0, none⟩) text_lines.w108x.length 2 text_lines.w108r.flatten, Row 103 3 (some ⟨(γ 113), 0, none⟩) text_lines.w113x.length 1 text_lines.w113r.flatten, Row 103 3 (some ⟨(γ 119), 0, none⟩) text_lines.w119x.length 2 text_lines.w119r.flatten]

def text_lines.vl : List ((Nat → Nat) → Value) := [fun _ => .func (.func 73) #[] #[], fun _ => .agg #[.int .i64 ((text_lines_9.v (1 : Int)).1), .int .i64 ((text_lines_9.v (1 : Int)).2.1), .int .i64 ((text_lines_9.v (1 : Int)).2.2.1), .int .i64 ((text_lines_9.v (1 : Int)).2.2.2.1), .int .i64 ((text_lines_9.v (1 : Int)).2.2.2.2.1), .int .i64 ((text_lines_9.v (1 : Int)).2.2.2.2.2.1), str ((text_lines_9.v (1 : Int)).2.2.2.2.2.2.1), str ((text_lines_9.v (1 : Int)).2.2.2.2.2.2.2.1), str ((text_lines_9.v (1 : Int)).2.2.2.2.2.2.2.2)], fun _ => .agg #[.func (.func 65) #[] #[], .nilFunc, .bool false], fun _ => .agg #[.func (.func 67) #[] #[], .nilFunc, .bool false], fun γ => .slice (some ⟨(γ 4), 0, none⟩) text_lines.w4x.length 2, fun γ => .agg #[str ([116, 105, 99, 107] : List UInt8), .int .i64 ((text_lines_9.v (1 : Int)).1), .int .i64 ((text_lines_9.v (1 : Int)).2.1), .int .i64 ((text_lines_9.v (1 : Int)).2.2.1), .int .i64 ((text_lines_9.v (1 : Int)).2.2.2.1), .int .i64 ((text_lines_9.v (1 : Int)).2.2.2.2.1), .int .i64 ((text_lines_9.v (1 : Int)).2.2.2.2.2.1), str ((text_lines_9.v (1 : Int)).2.2.2.2.2.2.1), str ((text_lines_9.v (1 : Int)).2.2.2.2.2.2.2.1), str ((text_lines_9.v (1 : Int)).2.2.2.2.2.2.2.2), .slice (some ⟨(γ 4), 0, none⟩) text_lines.w4x.length 2], fun _ => .func (.func 73) #[] #[], fun _ => .agg #[.int .i64 ((text_lines_9.v (2 : Int)).1), .int .i64 ((text_lines_9.v (2 : Int)).2.1), .int .i64 ((text_lines_9.v (2 : Int)).2.2.1), .int .i64 ((text_lines_9.v (2 : Int)).2.2.2.1), .int .i64 ((text_lines_9.v (2 : Int)).2.2.2.2.1), .int .i64 ((text_lines_9.v (2 : Int)).2.2.2.2.2.1), str ((text_lines_9.v (2 : Int)).2.2.2.2.2.2.1), str ((text_lines_9.v (2 : Int)).2.2.2.2.2.2.2.1), str ((text_lines_9.v (2 : Int)).2.2.2.2.2.2.2.2)], fun _ => .agg #[.func (.func 65) #[] #[], .nilFunc, .bool false], fun _ => .agg #[.func (.func 69) #[] #[], .nilFunc, .bool true], fun γ => .slice (some ⟨(γ 10), 0, none⟩) text_lines.w10x.length 2, fun γ => .agg #[str ([112, 105, 99, 107] : List UInt8), .int .i64 ((text_lines_9.v (2 : Int)).1), .int .i64 ((text_lines_9.v (2 : Int)).2.1), .int .i64 ((text_lines_9.v (2 : Int)).2.2.1), .int .i64 ((text_lines_9.v (2 : Int)).2.2.2.1), .int .i64 ((text_lines_9.v (2 : Int)).2.2.2.2.1), .int .i64 ((text_lines_9.v (2 : Int)).2.2.2.2.2.1), str ((text_lines_9.v (2 : Int)).2.2.2.2.2.2.1), str ((text_lines_9.v (2 : Int)).2.2.2.2.2.2.2.1), str ((text_lines_9.v (2 : Int)).2.2.2.2.2.2.2.2), .slice (some ⟨(γ 10), 0, none⟩) text_lines.w10x.length 2], fun _ => .func (.func 73) #[] #[], fun _ => .agg #[.int .i64 ((text_lines_9.v (3 : Int)).1), .int .i64 ((text_lines_9.v (3 : Int)).2.1), .int .i64 ((text_lines_9.v (3 : Int)).2.2.1), .int .i64 ((text_lines_9.v (3 : Int)).2.2.2.1), .int .i64 ((text_lines_9.v (3 : Int)).2.2.2.2.1), .int .i64 ((text_lines_9.v (3 : Int)).2.2.2.2.2.1), str ((text_lines_9.v (3 : Int)).2.2.2.2.2.2.1), str ((text_lines_9.v (3 : Int)).2.2.2.2.2.2.2.1), str ((text_lines_9.v (3 : Int)).2.2.2.2.2.2.2.2)], fun _ => .agg #[.func (.func 67) #[] #[], .nilFunc, .bool false], fun γ => .slice (some ⟨(γ 15), 0, none⟩) text_lines.w15x.length 1, fun γ => .agg #[str ([100, 101, 108, 105, 118, 101, 114] : List UInt8), .int .i64 ((text_lines_9.v (3 : Int)).1), .int .i64 ((text_lines_9.v (3 : Int)).2.1), .int .i64 ((text_lines_9.v (3 : Int)).2.2.1), .int .i64 ((text_lines_9.v (3 : Int)).2.2.2.1), .int .i64 ((text_lines_9.v (3 : Int)).2.2.2.2.1), .int .i64 ((text_lines_9.v (3 : Int)).2.2.2.2.2.1), str ((text_lines_9.v (3 : Int)).2.2.2.2.2.2.1), str ((text_lines_9.v (3 : Int)).2.2.2.2.2.2.2.1), str ((text_lines_9.v (3 : Int)).2.2.2.2.2.2.2.2), .slice (some ⟨(γ 15), 0, none⟩) text_lines.w15x.length 1], fun _ => .func (.func 73) #[] #[], fun _ => .agg #[.int .i64 ((text_lines_9.v (4 : Int)).1), .int .i64 ((text_lines_9.v (4 : Int)).2.1), .int .i64 ((text_lines_9.v (4 : Int)).2.2.1), .int .i64 ((text_lines_9.v (4 : Int)).2.2.2.1), .int .i64 ((text_lines_9.v (4 : Int)).2.2.2.2.1), .int .i64 ((text_lines_9.v (4 : Int)).2.2.2.2.2.1), str ((text_lines_9.v (4 : Int)).2.2.2.2.2.2.1), str ((text_lines_9.v (4 : Int)).2.2.2.2.2.2.2.1), str ((text_lines_9.v (4 : Int)).2.2.2.2.2.2.2.2)], fun _ => .agg #[.func (.func 67) #[] #[], .nilFunc, .bool false], fun γ => .slice (some ⟨(γ 20), 0, none⟩) text_lines.w20x.length 1, fun γ => .agg #[str ([100, 114, 111, 112] : List UInt8), .int .i64 ((text_lines_9.v (4 : Int)).1), .int .i64 ((text_lines_9.v (4 : Int)).2.1), .int .i64 ((text_lines_9.v (4 : Int)).2.2.1), .int .i64 ((text_lines_9.v (4 : Int)).2.2.2.1), .int .i64 ((text_lines_9.v (4 : Int)).2.2.2.2.1), .int .i64 ((text_lines_9.v (4 : Int)).2.2.2.2.2.1), str ((text_lines_9.v (4 : Int)).2.2.2.2.2.2.1), str ((text_lines_9.v (4 : Int)).2.2.2.2.2.2.2.1), str ((text_lines_9.v (4 : Int)).2.2.2.2.2.2.2.2), .slice (some ⟨(γ 20), 0, none⟩) text_lines.w20x.length 1], fun _ => .func (.func 73) #[] #[], fun _ => .agg #[.int .i64 ((text_lines_9.v (5 : Int)).1), .int .i64 ((text_lines_9.v (5 : Int)).2.1), .int .i64 ((text_lines_9.v (5 : Int)).2.2.1), .int .i64 ((text_lines_9.v (5 : Int)).2.2.2.1), .int .i64 ((text_lines_9.v (5 : Int)).2.2.2.2.1), .int .i64 ((text_lines_9.v (5 : Int)).2.2.2.2.2.1), str ((text_lines_9.v (5 : Int)).2.2.2.2.2.2.1), str ((text_lines_9.v (5 : Int)).2.2.2.2.2.2.2.1), str ((text_lines_9.v (5 : Int)).2.2.2.2.2.2.2.2)], fun _ => .agg #[.func (.func 67) #[] #[], .nilFunc, .bool false], fun γ => .slice (some ⟨(γ 25), 0, none⟩) text_lines.w25x.length 1, fun γ => .agg #[str ([99, 111, 112, 121] : List UInt8), .int .i64 ((text_lines_9.v (5 : Int)).1), .int .i64 ((text_lines_9.v (5 : Int)).2.1), .int .i64 ((text_lines_9.v (5 : Int)).2.2.1), .int .i64 ((text_lines_9.v (5 : Int)).2.2.2.1), .int .i64 ((text_lines_9.v (5 : Int)).2.2.2.2.1), .int .i64 ((text_lines_9.v (5 : Int)).2.2.2.2.2.1), str ((text_lines_9.v (5 : Int)).2.2.2.2.2.2.1), str ((text_lines_9.v (5 : Int)).2.2.2.2.2.2.2.1), str ((text_lines_9.v (5 : Int)).2.2.2.2.2.2.2.2), .slice (some ⟨(γ 25), 0, none⟩) text_lines.w25x.length 1], fun _ => .func (.func 73) #[] #[], fun _ => .agg #[.int .i64 ((text_lines_9.v (6 : Int)).1), .int .i64 ((text_lines_9.v (6 : Int)).2.1), .int .i64 ((text_lines_9.v (6 : Int)).2.2.1), .int .i64 ((text_lines_9.v (6 : Int)).2.2.2.1), .int .i64 ((text_lines_9.v (6 : Int)).2.2.2.2.1), .int .i64 ((text_lines_9.v (6 : Int)).2.2.2.2.2.1), str ((text_lines_9.v (6 : Int)).2.2.2.2.2.2.1), str ((text_lines_9.v (6 : Int)).2.2.2.2.2.2.2.1), str ((text_lines_9.v (6 : Int)).2.2.2.2.2.2.2.2)], fun _ => .agg #[.func (.func 67) #[] #[], .nilFunc, .bool false], fun _ => .agg #[.func (.func 68) #[] #[], .nilFunc, .bool false], fun γ => .slice (some ⟨(γ 31), 0, none⟩) text_lines.w31x.length 2, fun γ => .agg #[str ([115, 112, 111, 105, 108] : List UInt8), .int .i64 ((text_lines_9.v (6 : Int)).1), .int .i64 ((text_lines_9.v (6 : Int)).2.1), .int .i64 ((text_lines_9.v (6 : Int)).2.2.1), .int .i64 ((text_lines_9.v (6 : Int)).2.2.2.1), .int .i64 ((text_lines_9.v (6 : Int)).2.2.2.2.1), .int .i64 ((text_lines_9.v (6 : Int)).2.2.2.2.2.1), str ((text_lines_9.v (6 : Int)).2.2.2.2.2.2.1), str ((text_lines_9.v (6 : Int)).2.2.2.2.2.2.2.1), str ((text_lines_9.v (6 : Int)).2.2.2.2.2.2.2.2), .slice (some ⟨(γ 31), 0, none⟩) text_lines.w31x.length 2], fun _ => .func (.func 73) #[] #[], fun _ => .agg #[.int .i64 ((text_lines_9.v (7 : Int)).1), .int .i64 ((text_lines_9.v (7 : Int)).2.1), .int .i64 ((text_lines_9.v (7 : Int)).2.2.1), .int .i64 ((text_lines_9.v (7 : Int)).2.2.2.1), .int .i64 ((text_lines_9.v (7 : Int)).2.2.2.2.1), .int .i64 ((text_lines_9.v (7 : Int)).2.2.2.2.2.1), str ((text_lines_9.v (7 : Int)).2.2.2.2.2.2.1), str ((text_lines_9.v (7 : Int)).2.2.2.2.2.2.2.1), str ((text_lines_9.v (7 : Int)).2.2.2.2.2.2.2.2)], fun _ => .agg #[.func (.func 67) #[] #[], .nilFunc, .bool false], fun _ => .agg #[.func (.func 68) #[] #[], .nilFunc, .bool false], fun γ => .slice (some ⟨(γ 37), 0, none⟩) text_lines.w37x.length 2, fun γ => .agg #[str ([109, 111, 118, 101] : List UInt8), .int .i64 ((text_lines_9.v (7 : Int)).1), .int .i64 ((text_lines_9.v (7 : Int)).2.1), .int .i64 ((text_lines_9.v (7 : Int)).2.2.1), .int .i64 ((text_lines_9.v (7 : Int)).2.2.2.1), .int .i64 ((text_lines_9.v (7 : Int)).2.2.2.2.1), .int .i64 ((text_lines_9.v (7 : Int)).2.2.2.2.2.1), str ((text_lines_9.v (7 : Int)).2.2.2.2.2.2.1), str ((text_lines_9.v (7 : Int)).2.2.2.2.2.2.2.1), str ((text_lines_9.v (7 : Int)).2.2.2.2.2.2.2.2), .slice (some ⟨(γ 37), 0, none⟩) text_lines.w37x.length 2], fun _ => .agg #[.int .i64 8, .int .i64 0, .int .i64 0, .int .i64 0, .int .i64 1, .int .i64 0, str ([] : List UInt8), str ([] : List UInt8), str ([] : List UInt8)], fun _ => .agg #[.func (.func 65) #[] #[], .nilFunc, .bool false], fun _ => .agg #[.func (.func 67) #[] #[], .nilFunc, .bool false], fun γ => .slice (some ⟨(γ 42), 0, none⟩) text_lines.w42x.length 2, fun γ => .agg #[str ([108, 105, 110, 107] : List UInt8), .int .i64 8, .int .i64 0, .int .i64 0, .int .i64 0, .int .i64 1, .int .i64 0, str ([] : List UInt8), str ([] : List UInt8), str ([] : List UInt8), .slice (some ⟨(γ 42), 0, none⟩) text_lines.w42x.length 2], fun _ => .func (.func 73) #[] #[], fun _ => .agg #[.int .i64 ((text_lines_9.v (8 : Int)).1), .int .i64 ((text_lines_9.v (8 : Int)).2.1), .int .i64 ((text_lines_9.v (8 : Int)).2.2.1), .int .i64 ((text_lines_9.v (8 : Int)).2.2.2.1), .int .i64 ((text_lines_9.v (8 : Int)).2.2.2.2.1), .int .i64 ((text_lines_9.v (8 : Int)).2.2.2.2.2.1), str ((text_lines_9.v (8 : Int)).2.2.2.2.2.2.1), str ((text_lines_9.v (8 : Int)).2.2.2.2.2.2.2.1), str ((text_lines_9.v (8 : Int)).2.2.2.2.2.2.2.2)], fun _ => .agg #[.func (.func 65) #[] #[], .nilFunc, .bool false], fun _ => .agg #[.func (.func 67) #[] #[], .nilFunc, .bool false], fun γ => .slice (some ⟨(γ 48), 0, none⟩) text_lines.w48x.length 2, fun γ => .agg #[str ([99, 117, 116] : List UInt8), .int .i64 ((text_lines_9.v (8 : Int)).1), .int .i64 ((text_lines_9.v (8 : Int)).2.1), .int .i64 ((text_lines_9.v (8 : Int)).2.2.1), .int .i64 ((text_lines_9.v (8 : Int)).2.2.2.1), .int .i64 ((text_lines_9.v (8 : Int)).2.2.2.2.1), .int .i64 ((text_lines_9.v (8 : Int)).2.2.2.2.2.1), str ((text_lines_9.v (8 : Int)).2.2.2.2.2.2.1), str ((text_lines_9.v (8 : Int)).2.2.2.2.2.2.2.1), str ((text_lines_9.v (8 : Int)).2.2.2.2.2.2.2.2), .slice (some ⟨(γ 48), 0, none⟩) text_lines.w48x.length 2], fun _ => .func (.func 73) #[] #[], fun _ => .agg #[.int .i64 ((text_lines_9.v (9 : Int)).1), .int .i64 ((text_lines_9.v (9 : Int)).2.1), .int .i64 ((text_lines_9.v (9 : Int)).2.2.1), .int .i64 ((text_lines_9.v (9 : Int)).2.2.2.1), .int .i64 ((text_lines_9.v (9 : Int)).2.2.2.2.1), .int .i64 ((text_lines_9.v (9 : Int)).2.2.2.2.2.1), str ((text_lines_9.v (9 : Int)).2.2.2.2.2.2.1), str ((text_lines_9.v (9 : Int)).2.2.2.2.2.2.2.1), str ((text_lines_9.v (9 : Int)).2.2.2.2.2.2.2.2)], fun _ => .agg #[.func (.func 65) #[] #[], .nilFunc, .bool false], fun _ => .agg #[.func (.func 67) #[] #[], .nilFunc, .bool false], fun γ => .slice (some ⟨(γ 54), 0, none⟩) text_lines.w54x.length 2, fun γ => .agg #[str ([99, 114, 97, 115, 104] : List UInt8), .int .i64 ((text_lines_9.v (9 : Int)).1), .int .i64 ((text_lines_9.v (9 : Int)).2.1), .int .i64 ((text_lines_9.v (9 : Int)).2.2.1), .int .i64 ((text_lines_9.v (9 : Int)).2.2.2.1), .int .i64 ((text_lines_9.v (9 : Int)).2.2.2.2.1), .int .i64 ((text_lines_9.v (9 : Int)).2.2.2.2.2.1), str ((text_lines_9.v (9 : Int)).2.2.2.2.2.2.1), str ((text_lines_9.v (9 : Int)).2.2.2.2.2.2.2.1), str ((text_lines_9.v (9 : Int)).2.2.2.2.2.2.2.2), .slice (some ⟨(γ 54), 0, none⟩) text_lines.w54x.length 2], fun _ => .func (.func 73) #[] #[], fun _ => .agg #[.int .i64 ((text_lines_9.v (10 : Int)).1), .int .i64 ((text_lines_9.v (10 : Int)).2.1), .int .i64 ((text_lines_9.v (10 : Int)).2.2.1), .int .i64 ((text_lines_9.v (10 : Int)).2.2.2.1), .int .i64 ((text_lines_9.v (10 : Int)).2.2.2.2.1), .int .i64 ((text_lines_9.v (10 : Int)).2.2.2.2.2.1), str ((text_lines_9.v (10 : Int)).2.2.2.2.2.2.1), str ((text_lines_9.v (10 : Int)).2.2.2.2.2.2.2.1), str ((text_lines_9.v (10 : Int)).2.2.2.2.2.2.2.2)], fun _ => .agg #[.func (.func 65) #[] #[], .nilFunc, .bool false], fun _ => .agg #[.func (.func 67) #[] #[], .nilFunc, .bool false], fun γ => .slice (some ⟨(γ 60), 0, none⟩) text_lines.w60x.length 2, fun γ => .agg #[str ([115, 116, 97, 114, 116] : List UInt8), .int .i64 ((text_lines_9.v (10 : Int)).1), .int .i64 ((text_lines_9.v (10 : Int)).2.1), .int .i64 ((text_lines_9.v (10 : Int)).2.2.1), .int .i64 ((text_lines_9.v (10 : Int)).2.2.2.1), .int .i64 ((text_lines_9.v (10 : Int)).2.2.2.2.1), .int .i64 ((text_lines_9.v (10 : Int)).2.2.2.2.2.1), str ((text_lines_9.v (10 : Int)).2.2.2.2.2.2.1), str ((text_lines_9.v (10 : Int)).2.2.2.2.2.2.2.1), str ((text_lines_9.v (10 : Int)).2.2.2.2.2.2.2.2), .slice (some ⟨(γ 60), 0, none⟩) text_lines.w60x.length 2], fun _ => .func (.func 73) #[] #[], fun _ => .agg #[.int .i64 ((text_lines_9.v (12 : Int)).1), .int .i64 ((text_lines_9.v (12 : Int)).2.1), .int .i64 ((text_lines_9.v (12 : Int)).2.2.1), .int .i64 ((text_lines_9.v (12 : Int)).2.2.2.1), .int .i64 ((text_lines_9.v (12 : Int)).2.2.2.2.1), .int .i64 ((text_lines_9.v (12 : Int)).2.2.2.2.2.1), str ((text_lines_9.v (12 : Int)).2.2.2.2.2.2.1), str ((text_lines_9.v (12 : Int)).2.2.2.2.2.2.2.1), str ((text_lines_9.v (12 : Int)).2.2.2.2.2.2.2.2)], fun _ => .agg #[.func (.func 65) #[] #[], .nilFunc, .bool false], fun _ => .agg #[.func (.func 67) #[] #[], .nilFunc, .bool false], fun γ => .slice (some ⟨(γ 66), 0, none⟩) text_lines.w66x.length 2, fun γ => .agg #[str ([97, 114, 109] : List UInt8), .int .i64 ((text_lines_9.v (12 : Int)).1), .int .i64 ((text_lines_9.v (12 : Int)).2.1), .int .i64 ((text_lines_9.v (12 : Int)).2.2.1), .int .i64 ((text_lines_9.v (12 : Int)).2.2.2.1), .int .i64 ((text_lines_9.v (12 : Int)).2.2.2.2.1), .int .i64 ((text_lines_9.v (12 : Int)).2.2.2.2.2.1), str ((text_lines_9.v (12 : Int)).2.2.2.2.2.2.1), str ((text_lines_9.v (12 : Int)).2.2.2.2.2.2.2.1), str ((text_lines_9.v (12 : Int)).2.2.2.2.2.2.2.2), .slice (some ⟨(γ 66), 0, none⟩) text_lines.w66x.length 2], fun _ => .func (.func 73) #[] #[], fun _ => .agg #[.int .i64 ((text_lines_9.v (11 : Int)).1), .int .i64 ((text_lines_9.v (11 : Int)).2.1), .int .i64 ((text_lines_9.v (11 : Int)).2.2.1), .int .i64 ((text_lines_9.v (11 : Int)).2.2.2.1), .int .i64 ((text_lines_9.v (11 : Int)).2.2.2.2.1), .int .i64 ((text_lines_9.v (11 : Int)).2.2.2.2.2.1), str ((text_lines_9.v (11 : Int)).2.2.2.2.2.2.1), str ((text_lines_9.v (11 : Int)).2.2.2.2.2.2.2.1), str ((text_lines_9.v (11 : Int)).2.2.2.2.2.2.2.2)], fun _ => .agg #[.func (.func 65) #[] #[], .nilFunc, .bool false], fun γ => .slice (some ⟨(γ 71), 0, none⟩) text_lines.w71x.length 1, fun γ => .agg #[str ([115, 116, 111, 112] : List UInt8), .int .i64 ((text_lines_9.v (11 : Int)).1), .int .i64 ((text_lines_9.v (11 : Int)).2.1), .int .i64 ((text_lines_9.v (11 : Int)).2.2.1), .int .i64 ((text_lines_9.v (11 : Int)).2.2.2.1), .int .i64 ((text_lines_9.v (11 : Int)).2.2.2.2.1), .int .i64 ((text_lines_9.v (11 : Int)).2.2.2.2.2.1), str ((text_lines_9.v (11 : Int)).2.2.2.2.2.2.1), str ((text_lines_9.v (11 : Int)).2.2.2.2.2.2.2.1), str ((text_lines_9.v (11 : Int)).2.2.2.2.2.2.2.2), .slice (some ⟨(γ 71), 0, none⟩) text_lines.w71x.length 1], fun _ => .func (.func 74) #[] #[], fun _ => .agg #[.int .i64 ((text_lines_10.v (1 : Int)).1), .int .i64 ((text_lines_10.v (1 : Int)).2.1), .int .i64 ((text_lines_10.v (1 : Int)).2.2.1), .int .i64 ((text_lines_10.v (1 : Int)).2.2.2.1), .int .i64 ((text_lines_10.v (1 : Int)).2.2.2.2.1), .int .i64 ((text_lines_10.v (1 : Int)).2.2.2.2.2.1), str ((text_lines_10.v (1 : Int)).2.2.2.2.2.2.1), str ((text_lines_10.v (1 : Int)).2.2.2.2.2.2.2.1), str ((text_lines_10.v (1 : Int)).2.2.2.2.2.2.2.2)], fun _ => .agg #[.func (.func 66) #[] #[], .nilFunc, .bool false], fun _ => .agg #[.func (.func 65) #[] #[], .nilFunc, .bool false], fun _ => .agg #[.nilFunc, .func (.func 70) #[] #[], .bool false], fun γ => .slice (some ⟨(γ 78), 0, none⟩) text_lines.w78x.length 3, fun γ => .agg #[str ([103, 101, 116] : List UInt8), .int .i64 ((text_lines_10.v (1 : Int)).1), .int .i64 ((text_lines_10.v (1 : Int)).2.1), .int .i64 ((text_lines_10.v (1 : Int)).2.2.1), .int .i64 ((text_lines_10.v (1 : Int)).2.2.2.1), .int .i64 ((text_lines_10.v (1 : Int)).2.2.2.2.1), .int .i64 ((text_lines_10.v (1 : Int)).2.2.2.2.2.1), str ((text_lines_10.v (1 : Int)).2.2.2.2.2.2.1), str ((text_lines_10.v (1 : Int)).2.2.2.2.2.2.2.1), str ((text_lines_10.v (1 : Int)).2.2.2.2.2.2.2.2), .slice (some ⟨(γ 78), 0, none⟩) text_lines.w78x.length 3], fun _ => .func (.func 74) #[] #[], fun _ => .agg #[.int .i64 ((text_lines_10.v (3 : Int)).1), .int .i64 ((text_lines_10.v (3 : Int)).2.1), .int .i64 ((text_lines_10.v (3 : Int)).2.2.1), .int .i64 ((text_lines_10.v (3 : Int)).2.2.2.1), .int .i64 ((text_lines_10.v (3 : Int)).2.2.2.2.1), .int .i64 ((text_lines_10.v (3 : Int)).2.2.2.2.2.1), str ((text_lines_10.v (3 : Int)).2.2.2.2.2.2.1), str ((text_lines_10.v (3 : Int)).2.2.2.2.2.2.2.1), str ((text_lines_10.v (3 : Int)).2.2.2.2.2.2.2.2)], fun _ => .agg #[.func (.func 66) #[] #[], .nilFunc, .bool false], fun _ => .agg #[.func (.func 65) #[] #[], .nilFunc, .bool false], fun _ => .agg #[.nilFunc, .func (.func 70) #[] #[], .bool false], fun γ => .slice (some ⟨(γ 85), 0, none⟩) text_lines.w85x.length 3, fun γ => .agg #[str ([100, 101, 108, 101, 116, 101] : List UInt8), .int .i64 ((text_lines_10.v (3 : Int)).1), .int .i64 ((text_lines_10.v (3 : Int)).2.1), .int .i64 ((text_lines_10.v (3 : Int)).2.2.1), .int .i64 ((text_lines_10.v (3 : Int)).2.2.2.1), .int .i64 ((text_lines_10.v (3 : Int)).2.2.2.2.1), .int .i64 ((text_lines_10.v (3 : Int)).2.2.2.2.2.1), str ((text_lines_10.v (3 : Int)).2.2.2.2.2.2.1), str ((text_lines_10.v (3 : Int)).2.2.2.2.2.2.2.1), str ((text_lines_10.v (3 : Int)).2.2.2.2.2.2.2.2), .slice (some ⟨(γ 85), 0, none⟩) text_lines.w85x.length 3], fun _ => .func (.func 74) #[] #[], fun _ => .agg #[.int .i64 ((text_lines_10.v (2 : Int)).1), .int .i64 ((text_lines_10.v (2 : Int)).2.1), .int .i64 ((text_lines_10.v (2 : Int)).2.2.1), .int .i64 ((text_lines_10.v (2 : Int)).2.2.2.1), .int .i64 ((text_lines_10.v (2 : Int)).2.2.2.2.1), .int .i64 ((text_lines_10.v (2 : Int)).2.2.2.2.2.1), str ((text_lines_10.v (2 : Int)).2.2.2.2.2.2.1), str ((text_lines_10.v (2 : Int)).2.2.2.2.2.2.2.1), str ((text_lines_10.v (2 : Int)).2.2.2.2.2.2.2.2)], fun _ => .agg #[.func (.func 66) #[] #[], .nilFunc, .bool false], fun _ => .agg #[.func (.func 65) #[] #[], .nilFunc, .bool false], fun _ => .agg #[.nilFunc, .func (.func 70) #[] #[], .bool false], fun _ => .agg #[.nilFunc, .func (.func 71) #[] #[], .bool false], fun γ => .slice (some ⟨(γ 93), 0, none⟩) text_lines.w93x.length 4, fun γ => .agg #[str ([112, 117, 116] : List UInt8), .int .i64 ((text_lines_10.v (2 : Int)).1), .int .i64 ((text_lines_10.v (2 : Int)).2.1), .int .i64 ((text_lines_10.v (2 : Int)).2.2.1), .int .i64 ((text_lines_10.v (2 : Int)).2.2.2.1), .int .i64 ((text_lines_10.v (2 : Int)).2.2.2.2.1), .int .i64 ((text_lines_10.v (2 : Int)).2.2.2.2.2.1), str ((text_lines_10.v (2 : Int)).2.2.2.2.2.2.1), str ((text_lines_10.v (2 : Int)).2.2.2.2.2.2.2.1), str ((text_lines_10.v (2 : Int)).2.2.2.2.2.2.2.2), .slice (some ⟨(γ 93), 0, none⟩) text_lines.w93x.length 4], fun _ => .func (.func 74) #[] #[], fun _ => .agg #[.int .i64 ((text_lines_10.v (4 : Int)).1), .int .i64 ((text_lines_10.v (4 : Int)).2.1), .int .i64 ((text_lines_10.v (4 : Int)).2.2.1), .int .i64 ((text_lines_10.v (4 : Int)).2.2.2.1), .int .i64 ((text_lines_10.v (4 : Int)).2.2.2.2.1), .int .i64 ((text_lines_10.v (4 : Int)).2.2.2.2.2.1), str ((text_lines_10.v (4 : Int)).2.2.2.2.2.2.1), str ((text_lines_10.v (4 : Int)).2.2.2.2.2.2.2.1), str ((text_lines_10.v (4 : Int)).2.2.2.2.2.2.2.2)], fun _ => .agg #[.func (.func 66) #[] #[], .nilFunc, .bool false], fun _ => .agg #[.func (.func 65) #[] #[], .nilFunc, .bool false], fun _ => .agg #[.nilFunc, .func (.func 70) #[] #[], .bool false], fun _ => .agg #[.nilFunc, .func (.func 72) #[] #[], .bool false], fun _ => .agg #[.nilFunc, .func (.func 71) #[] #[], .bool false], fun γ => .slice (some ⟨(γ 102), 0, none⟩) text_lines.w102x.length 5, fun γ => .agg #[str ([115, 119, 97, 112] : List UInt8), .int .i64 ((text_lines_10.v (4 : Int)).1), .int .i64 ((text_lines_10.v (4 : Int)).2.1), .int .i64 ((text_lines_10.v (4 : Int)).2.2.1), .int .i64 ((text_lines_10.v (4 : Int)).2.2.2.1), .int .i64 ((text_lines_10.v (4 : Int)).2.2.2.2.1), .int .i64 ((text_lines_10.v (4 : Int)).2.2.2.2.2.1), str ((text_lines_10.v (4 : Int)).2.2.2.2.2.2.1), str ((text_lines_10.v (4 : Int)).2.2.2.2.2.2.2.1), str ((text_lines_10.v (4 : Int)).2.2.2.2.2.2.2.2), .slice (some ⟨(γ 102), 0, none⟩) text_lines.w102x.length 5], fun _ => .func (.func 73) #[] #[], fun _ => .agg #[.int .i64 ((text_lines_9.v (14 : Int)).1), .int .i64 ((text_lines_9.v (14 : Int)).2.1), .int .i64 ((text_lines_9.v (14 : Int)).2.2.1), .int .i64 ((text_lines_9.v (14 : Int)).2.2.2.1), .int .i64 ((text_lines_9.v (14 : Int)).2.2.2.2.1), .int .i64 ((text_lines_9.v (14 : Int)).2.2.2.2.2.1), str ((text_lines_9.v (14 : Int)).2.2.2.2.2.2.1), str ((text_lines_9.v (14 : Int)).2.2.2.2.2.2.2.1), str ((text_lines_9.v (14 : Int)).2.2.2.2.2.2.2.2)], fun _ => .agg #[.func (.func 66) #[] #[], .nilFunc, .bool false], fun _ => .agg #[.func (.func 65) #[] #[], .nilFunc, .bool false], fun γ => .slice (some ⟨(γ 108), 0, none⟩) text_lines.w108x.length 2, fun γ => .agg #[str ([97, 103, 97, 105, 110] : List UInt8), .int .i64 ((text_lines_9.v (14 : Int)).1), .int .i64 ((text_lines_9.v (14 : Int)).2.1), .int .i64 ((text_lines_9.v (14 : Int)).2.2.1), .int .i64 ((text_lines_9.v (14 : Int)).2.2.2.1), .int .i64 ((text_lines_9.v (14 : Int)).2.2.2.2.1), .int .i64 ((text_lines_9.v (14 : Int)).2.2.2.2.2.1), str ((text_lines_9.v (14 : Int)).2.2.2.2.2.2.1), str ((text_lines_9.v (14 : Int)).2.2.2.2.2.2.2.1), str ((text_lines_9.v (14 : Int)).2.2.2.2.2.2.2.2), .slice (some ⟨(γ 108), 0, none⟩) text_lines.w108x.length 2], fun _ => .func (.func 73) #[] #[], fun _ => .agg #[.int .i64 ((text_lines_9.v (15 : Int)).1), .int .i64 ((text_lines_9.v (15 : Int)).2.1), .int .i64 ((text_lines_9.v (15 : Int)).2.2.1), .int .i64 ((text_lines_9.v (15 : Int)).2.2.2.1), .int .i64 ((text_lines_9.v (15 : Int)).2.2.2.2.1), .int .i64 ((text_lines_9.v (15 : Int)).2.2.2.2.2.1), str ((text_lines_9.v (15 : Int)).2.2.2.2.2.2.1), str ((text_lines_9.v (15 : Int)).2.2.2.2.2.2.2.1), str ((text_lines_9.v (15 : Int)).2.2.2.2.2.2.2.2)], fun _ => .agg #[.func (.func 66) #[] #[], .nilFunc, .bool false], fun γ => .slice (some ⟨(γ 113), 0, none⟩) text_lines.w113x.length 1, fun γ => .agg #[str ([103, 105, 118, 101] : List UInt8), .int .i64 ((text_lines_9.v (15 : Int)).1), .int .i64 ((text_lines_9.v (15 : Int)).2.1), .int .i64 ((text_lines_9.v (15 : Int)).2.2.1), .int .i64 ((text_lines_9.v (15 : Int)).2.2.2.1), .int .i64 ((text_lines_9.v (15 : Int)).2.2.2.2.1), .int .i64 ((text_lines_9.v (15 : Int)).2.2.2.2.2.1), str ((text_lines_9.v (15 : Int)).2.2.2.2.2.2.1), str ((text_lines_9.v (15 : Int)).2.2.2.2.2.2.2.1), str ((text_lines_9.v (15 : Int)).2.2.2.2.2.2.2.2), .slice (some ⟨(γ 113), 0, none⟩) text_lines.w113x.length 1], fun _ => .func (.func 73) #[] #[], fun _ => .agg #[.int .i64 ((text_lines_9.v (16 : Int)).1), .int .i64 ((text_lines_9.v (16 : Int)).2.1), .int .i64 ((text_lines_9.v (16 : Int)).2.2.1), .int .i64 ((text_lines_9.v (16 : Int)).2.2.2.1), .int .i64 ((text_lines_9.v (16 : Int)).2.2.2.2.1), .int .i64 ((text_lines_9.v (16 : Int)).2.2.2.2.2.1), str ((text_lines_9.v (16 : Int)).2.2.2.2.2.2.1), str ((text_lines_9.v (16 : Int)).2.2.2.2.2.2.2.1), str ((text_lines_9.v (16 : Int)).2.2.2.2.2.2.2.2)], fun _ => .agg #[.func (.func 65) #[] #[], .nilFunc, .bool false], fun _ => .agg #[.func (.func 67) #[] #[], .nilFunc, .bool false], fun γ => .slice (some ⟨(γ 119), 0, none⟩) text_lines.w119x.length 2, fun γ => .agg #[str ([99, 97, 108, 109] : List UInt8), .int .i64 ((text_lines_9.v (16 : Int)).1), .int .i64 ((text_lines_9.v (16 : Int)).2.1), .int .i64 ((text_lines_9.v (16 : Int)).2.2.1), .int .i64 ((text_lines_9.v (16 : Int)).2.2.2.1), .int .i64 ((text_lines_9.v (16 : Int)).2.2.2.2.1), .int .i64 ((text_lines_9.v (16 : Int)).2.2.2.2.2.1), str ((text_lines_9.v (16 : Int)).2.2.2.2.2.2.1), str ((text_lines_9.v (16 : Int)).2.2.2.2.2.2.2.1), str ((text_lines_9.v (16 : Int)).2.2.2.2.2.2.2.2), .slice (some ⟨(γ 119), 0, none⟩) text_lines.w119x.length 2], fun γ => .slice (some ⟨(γ 121), 0, none⟩) text_lines.w121x.length 20, fun γ => .slice (some ⟨(γ 121), 0, none⟩) text_lines.w121x.length 20]
def text_lines.al : List ((Nat → Nat) → List HA) := [fun _ => [], fun _ => [], fun _ => [], fun _ => [], fun γ => [Row 103 3 (some ⟨(γ 4), 0, none⟩) text_lines.w4x.length 2 text_lines.w4r.flatten], fun _ => [], fun _ => [], fun _ => [], fun _ => [], fun _ => [], fun γ => [Row 103 3 (some ⟨(γ 10), 0, none⟩) text_lines.w10x.length 2 text_lines.w10r.flatten], fun _ => [], fun _ => [], fun _ => [], fun _ => [], fun γ => [Row 103 3 (some ⟨(γ 15), 0, none⟩) text_lines.w15x.length 1 text_lines.w15r.flatten], fun _ => [], fun _ => [], fun _ => [], fun _ => [], fun γ => [Row 103 3 (some ⟨(γ 20), 0, none⟩) text_lines.w20x.length 1 text_lines.w20r.flatten], fun _ => [], fun _ => [], fun _ => [], fun _ => [], fun γ => [Row 103 3 (some ⟨(γ 25), 0, none⟩) text_lines.w25x.length 1 text_lines.w25r.flatten], fun _ => [], fun _ => [], fun _ => [], fun _ => [], fun _ => [], fun γ => [Row 103 3 (some ⟨(γ 31), 0, none⟩) text_lines.w31x.length 2 text_lines.w31r.flatten], fun _ => [], fun _ => [], fun _ => [], fun _ => [], fun _ => [], fun γ => [Row 103 3 (some ⟨(γ 37), 0, none⟩) text_lines.w37x.length 2 text_lines.w37r.flatten], fun _ => [], fun _ => [], fun _ => [], fun _ => [], fun γ => [Row 103 3 (some ⟨(γ 42), 0, none⟩) text_lines.w42x.length 2 text_lines.w42r.flatten], fun _ => [], fun _ => [], fun _ => [], fun _ => [], fun _ => [], fun γ => [Row 103 3 (some ⟨(γ 48), 0, none⟩) text_lines.w48x.length 2 text_lines.w48r.flatten], fun _ => [], fun _ => [], fun _ => [], fun _ => [], fun _ => [], fun γ => [Row 103 3 (some ⟨(γ 54), 0, none⟩) text_lines.w54x.length 2 text_lines.w54r.flatten], fun _ => [], fun _ => [], fun _ => [], fun _ => [], fun _ => [], fun γ => [Row 103 3 (some ⟨(γ 60), 0, none⟩) text_lines.w60x.length 2 text_lines.w60r.flatten], fun _ => [], fun _ => [], fun _ => [], fun _ => [], fun _ => [], fun γ => [Row 103 3 (some ⟨(γ 66), 0, none⟩) text_lines.w66x.length 2 text_lines.w66r.flatten], fun _ => [], fun _ => [], fun _ => [], fun _ => [], fun γ => [Row 103 3 (some ⟨(γ 71), 0, none⟩) text_lines.w71x.length 1 text_lines.w71r.flatten], fun _ => [], fun _ => [], fun _ => [], fun _ => [], fun _ => [], fun _ => [], fun γ => [Row 103 3 (some ⟨(γ 78), 0, none⟩) text_lines.w78x.length 3 text_lines.w78r.flatten], fun _ => [], fun _ => [], fun _ => [], fun _ => [], fun _ => [], fun _ => [], fun γ => [Row 103 3 (some ⟨(γ 85), 0, none⟩) text_lines.w85x.length 3 text_lines.w85r.flatten], fun _ => [], fun _ => [], fun _ => [], fun _ => [], fun _ => [], fun _ => [], fun _ => [], fun γ => [Row 103 3 (some ⟨(γ 93), 0, none⟩) text_lines.w93x.length 4 text_lines.w93r.flatten], fun _ => [], fun _ => [], fun _ => [], fun _ => [], fun _ => [], fun _ => [], fun _ => [], fun _ => [], fun γ => [Row 103 3 (some ⟨(γ 102), 0, none⟩) text_lines.w102x.length 5 text_lines.w102r.flatten], fun _ => [], fun _ => [], fun _ => [], fun _ => [], fun _ => [], fun γ => [Row 103 3 (some ⟨(γ 108), 0, none⟩) text_lines.w108x.length 2 text_lines.w108r.flatten], fun _ => [], fun _ => [], fun _ => [], fun _ => [], fun γ => [Row 103 3 (some ⟨(γ 113), 0, none⟩) text_lines.w113x.length 1 text_lines.w113r.flatten], fun _ => [], fun _ => [], fun _ => [], fun _ => [], fun _ => [], fun γ => [Row 103 3 (some ⟨(γ 119), 0, none⟩) text_lines.w119x.length 2 text_lines.w119r.flatten], fun _ => [], fun γ => [Row 99 11 (some ⟨(γ 121), 0, none⟩) text_lines.w121x.length 20 (text_lines.w121r γ).flatten], fun _ => []]
def text_lines.dl : List (List Nat) := [[], [], [], [], [4], [4], [], [], [], [], [10], [10], [], [], [], [15], [15], [], [], [], [20], [20], [], [], [], [25], [25], [], [], [], [], [31], [31], [], [], [], [], [37], [37], [], [], [], [42], [42], [], [], [], [], [48], [48], [], [], [], [], [54], [54], [], [], [], [], [60], [60], [], [], [], [], [66], [66], [], [], [], [71], [71], [], [], [], [], [], [78], [78], [], [], [], [], [], [85], [85], [], [], [], [], [], [], [93], [93], [], [], [], [], [], [], [], [102], [102], [], [], [], [], [108], [108], [], [], [], [113], [113], [], [], [], [], [119], [119], [4, 10, 15, 20, 25, 31, 37, 42, 48, 54, 60, 66, 71, 78, 85, 93, 102, 108, 113, 119, 121], [121]]

theorem text_lines.dk : DepOk text_lines.vl text_lines.al text_lines.dl := ⟨(fun _ _ _ => ⟨rfl, rfl⟩), (fun _ _ _ => ⟨rfl, rfl⟩), (fun _ _ _ => ⟨rfl, rfl⟩), (fun _ _ _ => ⟨rfl, rfl⟩), (fun γ γ' h => by simp only [h 4 (by decide), and_self]), (fun γ γ' h => by simp only [h 4 (by decide), and_self]), (fun _ _ _ => ⟨rfl, rfl⟩), (fun _ _ _ => ⟨rfl, rfl⟩), (fun _ _ _ => ⟨rfl, rfl⟩), (fun _ _ _ => ⟨rfl, rfl⟩), (fun γ γ' h => by simp only [h 10 (by decide), and_self]), (fun γ γ' h => by simp only [h 10 (by decide), and_self]), (fun _ _ _ => ⟨rfl, rfl⟩), (fun _ _ _ => ⟨rfl, rfl⟩), (fun _ _ _ => ⟨rfl, rfl⟩), (fun γ γ' h => by simp only [h 15 (by decide), and_self]), (fun γ γ' h => by simp only [h 15 (by decide), and_self]), (fun _ _ _ => ⟨rfl, rfl⟩), (fun _ _ _ => ⟨rfl, rfl⟩), (fun _ _ _ => ⟨rfl, rfl⟩), (fun γ γ' h => by simp only [h 20 (by decide), and_self]), (fun γ γ' h => by simp only [h 20 (by decide), and_self]), (fun _ _ _ => ⟨rfl, rfl⟩), (fun _ _ _ => ⟨rfl, rfl⟩), (fun _ _ _ => ⟨rfl, rfl⟩), (fun γ γ' h => by simp only [h 25 (by decide), and_self]), (fun γ γ' h => by simp only [h 25 (by decide), and_self]), (fun _ _ _ => ⟨rfl, rfl⟩), (fun _ _ _ => ⟨rfl, rfl⟩), (fun _ _ _ => ⟨rfl, rfl⟩), (fun _ _ _ => ⟨rfl, rfl⟩), (fun γ γ' h => by simp only [h 31 (by decide), and_self]), (fun γ γ' h => by simp only [h 31 (by decide), and_self]), (fun _ _ _ => ⟨rfl, rfl⟩), (fun _ _ _ => ⟨rfl, rfl⟩), (fun _ _ _ => ⟨rfl, rfl⟩), (fun _ _ _ => ⟨rfl, rfl⟩), (fun γ γ' h => by simp only [h 37 (by decide), and_self]), (fun γ γ' h => by simp only [h 37 (by decide), and_self]), (fun _ _ _ => ⟨rfl, rfl⟩), (fun _ _ _ => ⟨rfl, rfl⟩), (fun _ _ _ => ⟨rfl, rfl⟩), (fun γ γ' h => by simp only [h 42 (by decide), and_self]), (fun γ γ' h => by simp only [h 42 (by decide), and_self]), (fun _ _ _ => ⟨rfl, rfl⟩), (fun _ _ _ => ⟨rfl, rfl⟩), (fun _ _ _ => ⟨rfl, rfl⟩), (fun _ _ _ => ⟨rfl, rfl⟩), (fun γ γ' h => by simp only [h 48 (by decide), and_self]), (fun γ γ' h => by simp only [h 48 (by decide), and_self]), (fun _ _ _ => ⟨rfl, rfl⟩), (fun _ _ _ => ⟨rfl, rfl⟩), (fun _ _ _ => ⟨rfl, rfl⟩), (fun _ _ _ => ⟨rfl, rfl⟩), (fun γ γ' h => by simp only [h 54 (by decide), and_self]), (fun γ γ' h => by simp only [h 54 (by decide), and_self]), (fun _ _ _ => ⟨rfl, rfl⟩), (fun _ _ _ => ⟨rfl, rfl⟩), (fun _ _ _ => ⟨rfl, rfl⟩), (fun _ _ _ => ⟨rfl, rfl⟩), (fun γ γ' h => by simp only [h 60 (by decide), and_self]), (fun γ γ' h => by simp only [h 60 (by decide), and_self]), (fun _ _ _ => ⟨rfl, rfl⟩), (fun _ _ _ => ⟨rfl, rfl⟩), (fun _ _ _ => ⟨rfl, rfl⟩), (fun _ _ _ => ⟨rfl, rfl⟩), (fun γ γ' h => by simp only [h 66 (by decide), and_self]), (fun γ γ' h => by simp only [h 66 (by decide), and_self]), (fun _ _ _ => ⟨rfl, rfl⟩), (fun _ _ _ => ⟨rfl, rfl⟩), (fun _ _ _ => ⟨rfl, rfl⟩), (fun γ γ' h => by simp only [h 71 (by decide), and_self]), (fun γ γ' h => by simp only [h 71 (by decide), and_self]), (fun _ _ _ => ⟨rfl, rfl⟩), (fun _ _ _ => ⟨rfl, rfl⟩), (fun _ _ _ => ⟨rfl, rfl⟩), (fun _ _ _ => ⟨rfl, rfl⟩), (fun _ _ _ => ⟨rfl, rfl⟩), (fun γ γ' h => by simp only [h 78 (by decide), and_self]), (fun γ γ' h => by simp only [h 78 (by decide), and_self]), (fun _ _ _ => ⟨rfl, rfl⟩), (fun _ _ _ => ⟨rfl, rfl⟩), (fun _ _ _ => ⟨rfl, rfl⟩), (fun _ _ _ => ⟨rfl, rfl⟩), (fun _ _ _ => ⟨rfl, rfl⟩), (fun γ γ' h => by simp only [h 85 (by decide), and_self]), (fun γ γ' h => by simp only [h 85 (by decide), and_self]), (fun _ _ _ => ⟨rfl, rfl⟩), (fun _ _ _ => ⟨rfl, rfl⟩), (fun _ _ _ => ⟨rfl, rfl⟩), (fun _ _ _ => ⟨rfl, rfl⟩), (fun _ _ _ => ⟨rfl, rfl⟩), (fun _ _ _ => ⟨rfl, rfl⟩), (fun γ γ' h => by simp only [h 93 (by decide), and_self]), (fun γ γ' h => by simp only [h 93 (by decide), and_self]), (fun _ _ _ => ⟨rfl, rfl⟩), (fun _ _ _ => ⟨rfl, rfl⟩), (fun _ _ _ => ⟨rfl, rfl⟩), (fun _ _ _ => ⟨rfl, rfl⟩), (fun _ _ _ => ⟨rfl, rfl⟩), (fun _ _ _ => ⟨rfl, rfl⟩), (fun _ _ _ => ⟨rfl, rfl⟩), (fun γ γ' h => by simp only [h 102 (by decide), and_self]), (fun γ γ' h => by simp only [h 102 (by decide), and_self]), (fun _ _ _ => ⟨rfl, rfl⟩), (fun _ _ _ => ⟨rfl, rfl⟩), (fun _ _ _ => ⟨rfl, rfl⟩), (fun _ _ _ => ⟨rfl, rfl⟩), (fun γ γ' h => by simp only [h 108 (by decide), and_self]), (fun γ γ' h => by simp only [h 108 (by decide), and_self]), (fun _ _ _ => ⟨rfl, rfl⟩), (fun _ _ _ => ⟨rfl, rfl⟩), (fun _ _ _ => ⟨rfl, rfl⟩), (fun γ γ' h => by simp only [h 113 (by decide), and_self]), (fun γ γ' h => by simp only [h 113 (by decide), and_self]), (fun _ _ _ => ⟨rfl, rfl⟩), (fun _ _ _ => ⟨rfl, rfl⟩), (fun _ _ _ => ⟨rfl, rfl⟩), (fun _ _ _ => ⟨rfl, rfl⟩), (fun γ γ' h => by simp only [h 119 (by decide), and_self]), (fun γ γ' h => by simp only [h 119 (by decide), and_self]), (fun γ γ' h => by simp only [text_lines.w121r, h 4 (by decide), h 10 (by decide), h 15 (by decide), h 20 (by decide), h 25 (by decide), h 31 (by decide), h 37 (by decide), h 42 (by decide), h 48 (by decide), h 54 (by decide), h 60 (by decide), h 66 (by decide), h 71 (by decide), h 78 (by decide), h 85 (by decide), h 93 (by decide), h 102 (by decide), h 108 (by decide), h 113 (by decide), h 119 (by decide), h 121 (by decide), and_self]), (fun γ γ' h => by simp only [h 121 (by decide), and_self]), trivial⟩
end Go.Proofs.YtbcnegennmpliaaDoor

/- What a callee of the library leaves: all that lay is as it was, and a new row; the sorted keys of a map as one call. Conditions: none. -/
import Derived.Test.YtbcnegennmpliaaDoorSl20
import Derived.Maps.Own
import Derived.Maps.Range
import Derived.Sort.KeysCollected
import Derived.Lib.SlKeysI
namespace Go.Proofs.YtbcnegennmpliaaDoor
set_option linter.unusedVariables false
set_option linter.unusedSimpArgs false
open Go.RowKit
theorem Sat.below {W w w' : World} {H : List HA} (s : Sat W H w) (b : Below w.heap.size w w') : Sat W H w' := by
  refine ⟨b.os.trans s.os, b.tape.trans s.tape, b.output.trans s.output, Nat.le_trans s.size b.size, ?_⟩
  refine stars_absorb H tt _ ⟨fun i => if i < w.heap.size then none else w'.heap[i]?, hpw w, ?_, ?_, trivial, s.hp⟩
  · intro i
    by_cases h : i < w.heap.size
    · left; simp [h]
    · right; simp only [hpw]; exact Array.getElem?_eq_none (by omega)
  · funext i
    simp only [hpw, un]
    by_cases h : i < w.heap.size
    · simp [h]; rw [b.block i h]; simp [h]
    · simp [h]
theorem Sat.below_new {W w w' : World} {H : List HA} {g : Nat} {o : Obj} (s : Sat W H w) (b : Below w.heap.size w w') (hg : w.heap.size ≤ g) (ho : w'.heap[g]? = some o) : Sat W (pts g o :: H) w' := by
  refine ⟨b.os.trans s.os, b.tape.trans s.tape, b.output.trans s.output, Nat.le_trans s.size b.size, ?_⟩
  refine ⟨fun i => if i = g then some o else none, fun i => if i = g then none else w'.heap[i]?, ?_, ?_, by simp [pts], ?_⟩
  · intro i
    by_cases h : i = g
    · right; simp [h]
    · left; simp [h]
  · funext i
    simp only [hpw, un]
    by_cases h : i = g
    · subst h; simp [ho]
    · simp [h]
  · refine stars_absorb H tt _ ⟨fun i => if i < w.heap.size ∨ i = g then none else w'.heap[i]?, hpw w, ?_, ?_, trivial, s.hp⟩
    · intro i
      by_cases h : i < w.heap.size
      · left; simp [h]
      · right; simp only [hpw]; exact Array.getElem?_eq_none (by omega)
    · funext i
      simp only [hpw, un]
      by_cases h : i < w.heap.size
      · have : i ≠ g := by omega
        simp [h, this]; rw [b.block i h]; simp [h]
      · by_cases h2 : i = g
        · subst h2; simp [h]
        · simp [h, h2]
section
variable {α β : Type}
def keysS (kvs : List (List UInt8 × β)) : List (List UInt8) := (kvs.map (·.1)).mergeSort fun x y => decide (x ≤ y)
def keysI (kvs : List (Int × β)) : List Int := (kvs.map (·.1)).mergeSort fun x y => decide (x ≤ y)
theorem listV_map {n : Nat} {V : α → List Value → Prop} {f : α → Value} (h1 : n = 1) (hV : ∀ x, V x [f x]) (ho : ∀ x, (f x).oneCell' = true) : ∀ l : List α, ListV n V l (l.map fun x => [f x])
  | [] => trivial
  | x :: l => by
    rw [List.map_cons]
    exact ⟨⟨by simp [h1], by intro v hv; simp at hv; subst hv; exact ho x, hV x⟩, listV_map h1 hV ho l⟩
theorem flat_map1 {f : α → Value} : ∀ l : List α, (l.map fun x => [f x]).flatten = l.map f
  | [] => rfl
  | x :: l => by simp [flat_map1 l]
theorem Sat.ownsRow {W w w' : World} {H : List HA} {T : TypeId} {v : Value} {n : Nat} {xs : List Value} (s : Sat W H w) (b : Below w.heap.size w w') (h : w'.ownsRow w.heap.size T 1 v n xs) : ∃ a c, v = .slice a n c ∧ Sat W (Row T 1 a n c xs :: H) w' := by
  obtain ⟨hl, h⟩ := h
  rcases h with ⟨rfl, rfl⟩ | ⟨g, cap, cur, rfl, hg, hb, hn, hc, hs, ht⟩
  · refine ⟨none, 0, rfl, ?_⟩
    have : xs = [] := List.eq_nil_of_length_eq_zero (by simpa using hl)
    subst this
    exact (s.below b).ent (Ent.row_nil (Ent.refl _))
  · refine ⟨some ⟨g, 0, none⟩, cap, rfl, ?_⟩
    rw [Nat.mul_one] at hl hs ht
    refine (s.below_new b hg hb).ent (Ent.sel' 0 rfl (fun h x => ?_) (Ent.refl _))
    refine .inr ⟨g, 0, [], cur.toList.drop n, (0, 0), rfl, ⟨rfl, hn, hc, ?_, by omega, by omega, .inl rfl⟩, ?_⟩
    · rw [Nat.mul_one, hl, List.length_drop, Array.length_toList, hs]; omega
    · rw [x, List.nil_append, ← ht, List.take_append_drop]
open Go.WideElems Go.Maps
def R0 : Value → Option (DataW Unit × List MemPlace) := fun _ => some (.lit (.bool true), [])
def datS (kvs : List (List UInt8 × β)) : DataW Unit := .map ((kvs.map fun p => (Lit.string p.1, (DataW.lit (.bool true) : DataW Unit))).foldr DataW.insert [])
def datI (kvs : List (Int × β)) : DataW Unit := .map ((kvs.map fun p => (Lit.int .i64 p.1, (DataW.lit (.bool true) : DataW Unit))).foldr DataW.insert [])
theorem rg_all {P : Program} {k : TypeId} {ek : α → Value} {ev : β → Value} {kl : α → Lit} (hk : ∀ x, keyOf P k (ek x) = some (kl x) ∨ True) : True := trivial
theorem es_rg {P : Program} {k : TypeId} {ek : α → Value} {ev : β → Value} {kl : α → Lit} : ∀ (kvs : List (α × β)) (es : List MapEntry), esOk ek ev es kvs → (∀ p ∈ kvs, keyOf P k (ek p.1) = some (kl p.1)) →
    es.map (rg P k R0) = kvs.map (fun p => (kl p.1, (DataW.lit (.bool true) : DataW Unit))) ∧ (∀ x ∈ es, ∃ y, rd P k R0 x = some y) ∧ es.map (·.key) = kvs.map fun p => ek p.1
  | [], es, h, _ => by
    have : es = [] := by simpa [esOk] using h
    subst this; simp
  | p :: l, [], h, _ => by simp [esOk] at h
  | p :: l, e :: es, h, hk => by
    simp only [esOk, List.map_cons, List.cons.injEq, Prod.mk.injEq] at h
    obtain ⟨⟨h1, h2⟩, h3⟩ := h
    have hr : rd P k R0 e = some (kl p.1, .lit (.bool true)) := by
      unfold rd R0
      rw [h1, hk p (by simp)]; rfl
    obtain ⟨i1, i2, i3⟩ := es_rg l es h3 fun q hq => hk q (by simp [hq])
    refine ⟨by simp only [List.map_cons, rg_of hr, i1], ?_, by simp [h1, i3]⟩
    intro x hx
    simp only [List.mem_cons] at hx
    rcases hx with rfl | hx
    · exact ⟨_, hr⟩
    · exact i2 x hx
theorem Sat.owns {P : Program} {k : TypeId} {W w : World} {H : List HA} {b : Nat} {ek : α → Value} {ev : β → Value} {kl : α → Lit} {kvs : List (α × β)} [DecidableEq α] {i : Nat} (s : Sat W H w) (hi : H[i]? = some (mapO b ek ev kvs)) (hinj : ∀ x y, ek x = ek y → x = y) (hk : ∀ p ∈ kvs, keyOf P k (ek p.1) = some (kl p.1)) (hnd : (kvs.map (·.1)).Nodup) (hsz : kvs.length ≤ maxLen) :
    w.ownsMap P k R0 b kvs.length (.map ((kvs.map fun p => (kl p.1, (DataW.lit (.bool true) : DataW Unit))).foldr DataW.insert [])) := by
  obtain ⟨es, clock, h1, h2, h3, s2⟩ := (s.focus hi).map_open
  have hb := s2.pts_at (i := 0) rfl
  obtain ⟨r1, r2, r3⟩ := es_rg (P := P) (k := k) kvs es.toList h1 hk
  have hs : es.size = kvs.length := by have := congrArg List.length h1; simpa [esOk] using this
  refine ⟨es, clock, hb, ⟨by omega, ⟨h3, h2, ?_⟩, r2⟩, by omega, by rw [r1]⟩
  rw [r3]
  have : (kvs.map fun p => ek p.1) = (kvs.map (·.1)).map ek := by simp
  rw [this]
  exact List.Pairwise.map ek (fun a b hab e => hab (hinj _ _ e)) hnd
theorem size_le {l : List (Lit × DataW Unit)} : Maps.size (.map (l.foldr DataW.insert [])) = l.length := by
  show (l.foldr DataW.insert []).length = l.length
  exact (Go.WideShapes.sorted_perm l).length_eq
theorem strKeys_perm (kvs : List (List UInt8 × β)) : (strKeys (datS kvs)).Perm (kvs.map (·.1)) := by
  have := (Go.WideShapes.sorted_perm (kvs.map fun p => (Lit.string p.1, (DataW.lit (.bool true) : DataW Unit)))).map (fun p => strOf p.1)
  refine this.trans ?_
  rw [List.map_map]
  exact List.Perm.refl _
theorem intKeys_perm (kvs : List (Int × β)) : (intKeys (datI kvs)).Perm (kvs.map (·.1)) := by
  have := (Go.WideShapes.sorted_perm (kvs.map fun p => (Lit.int .i64 p.1, (DataW.lit (.bool true) : DataW Unit)))).map (fun p => Go.intOf p.1)
  refine this.trans ?_
  rw [List.map_map]
  exact List.Perm.refl _
theorem fn_sortedS {P : Program} {W : World} {F : HA} {f g k T T2 b c : Nat} {ev : β → Value} {V : List UInt8 → List Value → Prop} {kvs : List (List UInt8 × β)} (hV : ∀ x, V x [str x]) (hkt : P.underlying k = some .string)
    (hC : ∀ (w : World) (D0 : DataW Unit) (nn : Nat), w.ownsMap P k R0 b nn D0 → w.cell? ⟨c, 0, none⟩ = some (.map (some b)) → c < w.heap.size → Maps.size D0 ≤ maxLen → Maps.size D0 * 16 ≤ 140737488355328 →
      CallsIn Fence.wide 5 P f #[.func (.func g) #[] #[.pointer (some ⟨c, 0, none⟩)]] w fun e w' => ∃ (v : Value) (ss : List (List UInt8)), e = .returned v ∧ ss.Perm (strKeys D0) ∧
        w'.ownsRow w.heap.size T 1 v ss.length ((ss.mergeSort (fun x y => decide (x ≤ y))).map encStr) ∧ (v = .slice none 0 0 ↔ ss = []) ∧ Below w.heap.size w w') :
    Fn P W f [.func (.func g) #[] #[.pointer (some ⟨c, 0, none⟩)]] [obj c T2 [.map (some b)], mapO b (fun x : List UInt8 => str x) ev kvs] F
      (if (kvs.map (·.1)).Nodup ∧ kvs.length * 16 ≤ 140737488355328 ∧ ∀ p ∈ kvs, p.1.length ≤ 140737488351232 then some (keysS kvs) else none)
      (fun r (y : Option Addr × Nat) => .slice y.1 r.length y.2) (fun r y => [RowV T 1 V y.1 r y.2, obj c T2 [.map (some b)], mapO b (fun x : List UInt8 => str x) ev kvs]) := by
  intro r hr w hs
  split at hr
  · rename_i hh
    obtain ⟨hnd, hsz, hkl⟩ := hh
    cases hr
    have hm : maxLen = 9223372036854775807 := rfl
    have hown := hs.owns (P := P) (k := k) (kl := fun x => Lit.string x) (i := 1) rfl (fun x y e => by simpa [str] using e) (fun p hp => by
      have := hkl p hp
      simp [keyOf, hkt, mapKey, str, ByteArray.size, hm]; omega) hnd (by omega)
    have hc : w.heap[c]? = some (.cells #[.map (some b)] T2 (0, 0)) := hs.pts_at (i := 0) rfl
    have hclt : c < w.heap.size := (Array.getElem?_eq_some_iff.1 hc).1
    refine (callsIn_wide (n := 5)).1 ((hC w _ _ hown (by simp [World.cell?, hc]) hclt (by rw [size_le]; simp; omega) (by rw [size_le]; simp; omega)).mono ?_)
    rintro e w' ⟨v, ss, rfl, hp, hrow, hnil, hb⟩
    have hss : ss.mergeSort (fun x y => decide (x ≤ y)) = keysS kvs := mergeSort_of_perm (hp.trans (strKeys_perm kvs))
    have hlen : ss.length = (keysS kvs).length := by rw [← hss, List.length_mergeSort]
    obtain ⟨a, cap, rfl, s2⟩ := hs.ownsRow hb hrow
    refine ⟨(a, cap), by rw [hlen], s2.ent ?_⟩
    rw [hss, hlen]
    refine Ent.sel' 0 rfl (fun h x => ⟨_, listV_map (f := str) rfl hV (fun _ => rfl) (keysS kvs), ?_⟩) (Ent.refl _)
    rw [flat_map1]; exact x
  · cases hr
theorem fn_sortedI {P : Program} {W : World} {F : HA} {f g k T T2 b c : Nat} {ev : β → Value} {V : Int → List Value → Prop} {kvs : List (Int × β)} (hV : ∀ x, V x [.int .i64 x]) (hkt : P.underlying k = some (.int .i64))
    (hC : ∀ (w : World) (D0 : DataW Unit) (nn : Nat), w.ownsMap P k R0 b nn D0 → w.cell? ⟨c, 0, none⟩ = some (.map (some b)) → c < w.heap.size → Maps.size D0 ≤ maxLen → Maps.size D0 * 8 ≤ 140737488355328 →
      CallsIn Fence.wide 5 P f #[.func (.func g) #[] #[.pointer (some ⟨c, 0, none⟩)]] w fun e w' => ∃ (v : Value) (ss : List Int), e = .returned v ∧ ss.Perm (intKeys D0) ∧
        w'.ownsRow w.heap.size T 1 v ss.length ((ss.mergeSort (fun x y => decide (x ≤ y))).map encZ) ∧ (v = .slice none 0 0 ↔ ss = []) ∧ Below w.heap.size w w') :
    Fn P W f [.func (.func g) #[] #[.pointer (some ⟨c, 0, none⟩)]] [obj c T2 [.map (some b)], mapO b (fun x : Int => .int .i64 x) ev kvs] F
      (if (kvs.map (·.1)).Nodup ∧ kvs.length * 16 ≤ 140737488355328 ∧ ∀ p ∈ kvs, (Lit.int .i64 p.1).wf = true then some (keysI kvs) else none)
      (fun r (y : Option Addr × Nat) => .slice y.1 r.length y.2) (fun r y => [RowV T 1 V y.1 r y.2, obj c T2 [.map (some b)], mapO b (fun x : Int => .int .i64 x) ev kvs]) := by
  intro r hr w hs
  split at hr
  · rename_i hh
    obtain ⟨hnd, hsz, hkl⟩ := hh
    cases hr
    have hm : maxLen = 9223372036854775807 := rfl
    have hown := hs.owns (P := P) (k := k) (kl := fun x => Lit.int .i64 x) (i := 1) rfl (fun x y e => by simpa using e) (fun p hp => Maps.keyOf_int_mk hkt (hkl p hp)) hnd (by omega)
    have hc : w.heap[c]? = some (.cells #[.map (some b)] T2 (0, 0)) := hs.pts_at (i := 0) rfl
    have hclt : c < w.heap.size := (Array.getElem?_eq_some_iff.1 hc).1
    refine (callsIn_wide (n := 5)).1 ((hC w _ _ hown (by simp [World.cell?, hc]) hclt (by rw [size_le]; simp; omega) (by rw [size_le]; simp; omega)).mono ?_)
    rintro e w' ⟨v, ss, rfl, hp, hrow, hnil, hb⟩
    have hss : ss.mergeSort (fun x y => decide (x ≤ y)) = keysI kvs := mergeSort_of_perm_i (hp.trans (intKeys_perm kvs))
    have hlen : ss.length = (keysI kvs).length := by rw [← hss, List.length_mergeSort]
    obtain ⟨a, cap, rfl, s2⟩ := hs.ownsRow hb hrow
    refine ⟨(a, cap), by rw [hlen], s2.ent ?_⟩
    rw [hss, hlen]
    refine Ent.sel' 0 rfl (fun h x => ⟨_, listV_map (f := fun x => Value.int .i64 x) rfl hV (fun _ => rfl) (keysI kvs), ?_⟩) (Ent.refl _)
    rw [flat_map1]; exact x
  · cases hr
end
section
variable {α β : Type} [DecidableEq α]
theorem fn_clone {P : Program} {W : World} {F : HA} {f b : Nat} {ek : α → Value} {ev : β → Value} {kvs : List (α × β)} (hC : ∀ (es : Array MapEntry) (clock : Nat) (w : World), w.heap[b]? = some (.map es clock) → Calls P f #[.map (some b)] w fun e w' => e = .returned (.map (some w.heap.size)) ∧ w' = w.alloc (.map es clock)) :
    Fn P W f [.map (some b)] [mapO b ek ev kvs] F (some kvs) (fun (r : List (α × β)) (y : Nat) => .map (some y)) (fun r y => [mapO y ek ev r, mapO b ek ev kvs]) := by
  intro r hr w hs
  cases hr
  obtain ⟨es, clock, h1, h2, h3, s2⟩ := hs.map_open
  have hb := s2.pts_at (i := 0) rfl
  refine (hC es clock w hb).mono ?_
  rintro e w' ⟨rfl, rfl⟩
  refine ⟨w.heap.size, rfl, ?_⟩
  have s3 := hs.new (.map es clock)
  exact s3.map_close h1 h2 h3
end
section
variable {K : Cx} {E : Env} {H : List HA} {o : Oper} {α β : Type} [DecidableEq α] {ek : α → Value} {ev : β → Value} {T VT t : TypeId} {b : Nat} {kvs : List (α × β)}
theorem RQ.eq {v u : Value} (h : v = u) (hr : RQ K o E H v) : RQ K o E H u := h ▸ hr
theorem re_mins {x y z : Operand} (k : Nat) (v : α) (u : β) (ho : o.op = .insert t x y z) (hx : Go.Proofs.YtbcnegennmpliaaDoor.ev E x = some (.map (some b))) (hy : Go.Proofs.YtbcnegennmpliaaDoor.ev E y = some (ek v)) (hz : Go.Proofs.YtbcnegennmpliaaDoor.ev E z = some (ev u)) (hu : K.P.underlying t = some (.map T VT)) (hK : KeyT K.P T ek) (hk : H[k]? = some (mapO b ek ev kvs)) :
    RE K (Y := Unit) o E H (fun _ => undef) (fun _ => H.set k (mapO b ek ev (mput kvs v u))) :=
  re_skip (by rw [ho]; intro c h; cases h) fun a w he s => by
    obtain ⟨es, clock, h1, h2, h3, s2⟩ := (s.focus hk).map_open
    have hb := s2.pts_at (i := 0) rfl
    have hf := hK.find w h1 v
    cases hp : mpos kvs v 0 with
    | none =>
      rw [hp] at hf
      refine ⟨(), _, ?_, Sat.unfocus hk ((s2.upd (b := b) (o' := .map (es.push { key := ek v, val := ev u, born := clock }) (clock + 1))).map_close ?_ ?_ ?_)⟩
      · unfold execOp; simp only [ho]; rw [he.ev hx, he.ev hy, he.ev hz]
        simp [Instr.mapUpdate, underlying, program, Sem.run, hu, getObj, hb, hK.chk, hf, setObj]
      · simpa using mput_none kvs es.toList v u 0 clock h1 hp
      · simp only [Array.toList_push, List.map_append, List.map_cons, List.map_nil]
        refine List.nodup_append.2 ⟨h2, by simp, fun a ha b hb => ?_⟩
        simp only [List.mem_singleton] at hb
        obtain ⟨e, he, rfl⟩ := List.mem_map.1 ha
        have := h3 e he
        omega
      · intro e he
        simp only [Array.toList_push, List.mem_append, List.mem_singleton] at he
        rcases he with he | rfl
        · have := h3 e he; omega
        · simp
    | some p =>
      obtain ⟨j, q⟩ := p
      rw [hp] at hf
      obtain ⟨e0, hj, hkey⟩ := esOk_get kvs es.toList v 0 j q h1 hp
      rw [Nat.sub_zero] at hj
      have hj' : es[j]? = some e0 := by simpa using hj
      have hkts : (Instr.keyThatStays (ek v) (ek v)).run K.P w = .ok (ek v) w := by simp [Instr.keyThatStays, hK.bits]
      refine ⟨(), _, ?_, Sat.unfocus hk ((s2.upd (b := b) (o' := .map (es.modify j fun e => { e with key := ek v, val := ev u }) clock)).map_close ?_ ?_ ?_)⟩
      · unfold execOp; simp only [ho]; rw [he.ev hx, he.ev hy, he.ev hz]
        simp [Instr.mapUpdate, underlying, program, Sem.run, hu, getObj, hb, hK.chk, hf, hj', hkey, hkts, setObj]
      · rw [modify_toList]
        simpa using mput_some kvs es.toList v u 0 j q h1 hp
      · rw [modify_toList]
        have : (es.toList.modify j fun e => { e with key := ek v, val := ev u }).map (·.born) = es.toList.map (·.born) := by
          apply List.ext_getElem?
          intro i
          simp only [List.getElem?_map, List.getElem?_modify]
          by_cases hi : j = i <;> simp [hi] <;> cases es[i]? <;> simp
        rw [this]; exact h2
      · rw [modify_toList]
        intro e he
        obtain ⟨i, hi⟩ := List.mem_iff_getElem?.1 he
        rw [List.getElem?_modify] at hi
        cases hq : es.toList[i]? with
        | none => rw [hq] at hi; simp at hi
        | some e1 =>
          rw [hq] at hi
          have := h3 e1 (List.mem_of_getElem? hq)
          by_cases hji : j = i
          · simp [hji] at hi; rw [← hi]; exact this
          · simp [hji] at hi; rw [← hi]; exact this
end
end Go.Proofs.YtbcnegennmpliaaDoor

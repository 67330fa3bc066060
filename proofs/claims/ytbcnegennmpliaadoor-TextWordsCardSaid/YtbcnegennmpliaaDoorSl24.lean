/- Ranges over maps of pointers, whatever the order; the sorted keys of such a map. Conditions: as each says. -/
import Derived.Test.YtbcnegennmpliaaDoorSl23
import Derived.Maps.RangeRun
namespace Go.Proofs.YtbcnegennmpliaaDoor
set_option linter.unusedVariables false
set_option linter.unusedSimpArgs false
set_option linter.unusedSectionVars false
open Go.RowKit
section
variable {α β S : Type} [DecidableEq α]
def runM (step : S → α → β → Option (S × β)) : List α → S → List (α × β) → Option (S × List (α × β))
  | [], s, kvs => some (s, kvs)
  | x :: l, s, kvs => (mget kvs x).bind fun v => (step s x v).bind fun z => runM step l z.1 (mput kvs x z.2)
def inserts (x : α) : List α → List (List α)
  | [] => [[x]]
  | y :: l => (x :: y :: l) :: (inserts x l).map (y :: ·)
def perms : List α → List (List α)
  | [] => [[]]
  | x :: l => (perms l).flatMap (inserts x)
theorem mem_inserts {x : α} : ∀ {a b : List α}, a ++ x :: b ∈ inserts x (a ++ b)
  | [], [] => by simp [inserts]
  | [], y :: b => by simp [inserts]
  | y :: a, b => by
    simp only [List.cons_append, inserts, List.mem_cons, List.mem_map]
    exact .inr ⟨_, mem_inserts, rfl⟩
theorem inserts_perm {x : α} : ∀ {m l : List α}, l ∈ inserts x m → l.Perm (x :: m)
  | [], l, h => by simp [inserts] at h; subst h; exact List.Perm.refl _
  | y :: m, l, h => by
    simp only [inserts, List.mem_cons, List.mem_map] at h
    rcases h with rfl | ⟨l', h, rfl⟩
    · exact List.Perm.refl _
    · exact (List.Perm.cons y (inserts_perm h)).trans (List.Perm.swap x y m)
theorem mem_perms : ∀ {m l : List α}, l.Perm m → l ∈ perms m
  | [], l, h => by rw [h.eq_nil]; simp [perms]
  | x :: m, l, h => by
    obtain ⟨a, b, rfl⟩ := List.append_of_mem (h.mem_iff.2 List.mem_cons_self)
    have h2 : (a ++ b).Perm m := (List.perm_cons x).1 ((List.perm_middle.symm).trans h)
    simp only [perms, List.mem_flatMap]
    exact ⟨a ++ b, mem_perms h2, mem_inserts⟩
theorem perms_perm : ∀ {m l : List α}, l ∈ perms m → l.Perm m
  | [], l, h => by simp [perms] at h; subst h; exact List.Perm.refl _
  | x :: m, l, h => by
    simp only [perms, List.mem_flatMap] at h
    obtain ⟨a, h1, h2⟩ := h
    exact (inserts_perm h2).trans (List.Perm.cons x (perms_perm h1))
def rangeM [DecidableEq S] [DecidableEq β] (step : S → α → β → Option (S × β)) (s : S) (kvs : List (α × β)) : Option (S × List (α × β)) :=
  if (kvs.map (·.1)).Nodup ∧ ∀ l ∈ perms (kvs.map (·.1)), runM step l s kvs = runM step (kvs.map (·.1)) s kvs then runM step (kvs.map (·.1)) s kvs else none
def range0 [DecidableEq S] [DecidableEq β] (step : S → α → β → Option S) (s : S) (kvs : List (α × β)) : Option S := (rangeM (fun s x v => (step s x v).map fun s' => (s', v)) s kvs).map (·.1)
theorem mput_keysP {v : β} {x : α} : ∀ {kvs : List (α × β)}, (mget kvs x).isSome = true → (mput kvs x v).map (·.1) = kvs.map (·.1)
  | [], h => by simp [mget] at h
  | p :: l, h => by
    rw [mget] at h
    rw [mput]
    by_cases hp : p.1 = x
    · rw [if_pos hp]; simp [hp]
    · rw [if_neg hp] at h ⊢
      rw [List.map_cons, List.map_cons, mput_keysP h]
theorem mget_memP {γ : Type} : ∀ {l : List (α × γ)} {p : α × γ}, (l.map (·.1)).Nodup → p ∈ l → mget l p.1 = some p.2
  | [], _, _, h => by cases h
  | q :: l, p, hn, h => by
    rw [List.map_cons, List.nodup_cons] at hn
    rw [mget]
    rcases List.mem_cons.1 h with rfl | h
    · rw [if_pos rfl]
    · rw [if_neg (fun e => hn.1 (by rw [e]; exact List.mem_map.2 ⟨p, h, rfl⟩))]
      exact mget_memP hn.2 h
def itI (b r : Nat) (ek : α → Value) (kps : List (α × Nat)) (todo : List α) : HA := exs fun (es : Array MapEntry) => exs fun (k : Nat × Nat × Array Nat × Nat) =>
  star (pts b (.map es k.1)) (star (pts r (.mapIter (some b) k.2.1 k.2.2.1 k.2.2.2)) (pr (esOk ek encP es.toList kps ∧ (es.toList.map (·.born)).Nodup ∧ (∀ e ∈ es.toList, e.born < k.2.1) ∧ k.2.1 ≤ k.2.2.2 ∧ k.2.1 ≤ k.1 ∧ (leftOf es k.2.2.1).toList.map (·.key) = todo.map ek)))
def itJ (b r : Nat) (ek : α → Value) (kps : List (α × Nat)) (todo : List α) (x : α) : HA := exs fun (es : Array MapEntry) => exs fun (k : Nat × Nat × Array Nat × MapEntry) =>
  star (pts b (.map es k.1)) (star (pts r (.mapIter (some b) k.2.1 (k.2.2.1.push k.2.2.2.born) k.1)) (pr (esOk ek encP es.toList kps ∧ (es.toList.map (·.born)).Nodup ∧ (∀ e ∈ es.toList, e.born < k.2.1) ∧ k.2.1 ≤ k.1 ∧ (leftOf es (k.2.2.1.push k.2.2.2.born)).toList.map (·.key) = todo.map ek ∧ k.2.2.2 ∈ es.toList ∧ k.2.2.2.key = ek x ∧ k.2.2.2.val = encP (fptr kps x))))
theorem itI_of_J {b r : Nat} {ek : α → Value} {kps : List (α × Nat)} {todo : List α} {x : α} (h : Hp) (s : itJ b r ek kps todo x h) : itI b r ek kps todo h := by
  obtain ⟨es, ⟨c, since, seen, e⟩, s⟩ := s
  refine ⟨es, ⟨c, since, seen.push e.born, c⟩, ?_⟩
  exact star_right h (fun h s => star_right h (fun h ⟨h1, h2, h3, h4, h5, _⟩ => ⟨h1, h2, h3, h4, h4, h5⟩) s) s
theorem itI_done {b r : Nat} {ek : α → Value} {kps : List (α × Nat)} {todo : List α} (h : Hp) (s : itI b r ek kps todo h) : star (mapO b ek encP kps) tt h := by
  obtain ⟨es, ⟨c, since, seen, c0⟩, h1, h2, hd, he, hb, h3, h4, hd2, he2, hr, hp⟩ := s
  exact ⟨h1, h2, hd, he, ⟨es, c, hb, hp.1, hp.2.1, fun e h => Nat.lt_of_lt_of_le (hp.2.2.1 e h) hp.2.2.2.2.1⟩, trivial⟩
end
section
variable {K : Cx} {R S Y : Type} {Q : Post R} {E : Env} {H : List HA} {opt : Option R} {ops : Array Oper} {rest : List Oper} {o : Oper} {α β Z : Type} [DecidableEq α] {ek : α → Value} {fp : Nat → β → Z → List HA} {T VT t : TypeId} {b r : Nat} {kps : List (α × Nat)} {kvs : List (α × β)} {c : Code}
theorem Ent.into {A A' X : HA} {l : List HA} (h : ∀ h, A h → star A' tt h) : Ent (star A X :: l) (star A' X :: l) := by
  intro hp s
  have s1 : star (star A X) (stars l) hp := s
  rw [star_assoc] at s1
  have s2 := star_left hp h s1
  rw [star_assoc] at s2
  show star (star A' X) (stars l) hp
  rw [star_assoc]
  refine star_right hp (fun h s => ?_) s2
  have s3 := star_swap s
  exact star_right h (fun h s => stars_absorb l tt h s) s3
theorem ent_itI {todo : List α} {l : List HA} : Ent (mapF (itI b r ek kps todo) fp kps kvs :: l) (mapF (mapO b ek encP kps) fp kps kvs :: l) := Ent.into fun h s => itI_done h s
theorem ent_itJ {todo : List α} {x : α} {l : List HA} : Ent (mapF (itJ b r ek kps todo x) fp kps kvs :: l) (mapF (itI b r ek kps todo) fp kps kvs :: l) := Ent.into fun h s => star_tt (itI_of_J h s)
theorem re_rangeF {x : Operand} (k : Nat) (ho : o.op = .range t x) (hx : Go.Proofs.YtbcnegennmpliaaDoor.ev E x = some (.map (some b))) (hu : K.P.underlying t = some (.map T VT)) (hk : H[k]? = some (mapF (mapO b ek encP kps) fp kps kvs)) :
    RE K (Y := Nat) o E H (fun r => .pointer (some ⟨r, 0, none⟩)) (fun r => H.set k (mapF (itI b r ek kps (kps.map (·.1))) fp kps kvs)) :=
  re_run (by rw [ho]; intro c h; cases h) fun a w he s => by
    have hl : k < H.length := (List.getElem?_eq_some_iff.1 hk).1
    have s1 : Sat K.W (mapO b ek encP kps :: filesA fp kps kvs :: H.eraseIdx k) w := s.ent (ent_mapF k hk)
    obtain ⟨es, clock, h1, h2, h3, s2⟩ := s1.map_open
    have hb := s2.pts_at (i := 0) rfl
    refine ⟨w.heap.size, { w with heap := w.heap.push (.mapIter (some b) clock #[] clock) }, ?_, ?_⟩
    · unfold execOp; simp only [ho]; rw [he.ev hx]
      have := run_range_map (P := K.P) w t T VT b es clock hu hb
      rw [show w.alloc (.mapIter (some b) clock #[] clock) = { w with heap := w.heap.push (.mapIter (some b) clock #[] clock) } from rfl] at this
      simp [this]
    · refine (s2.new (.mapIter (some b) clock #[] clock)).ent ?_
      intro h s
      rw [← stars_put H k _ hl]
      have s3 : star (pts w.heap.size (.mapIter (some b) clock #[] clock)) (star (pts b (.map es clock)) (star (filesA fp kps kvs) (stars (H.eraseIdx k)))) h := s
      show star (star (itI b w.heap.size ek kps (kps.map (·.1))) (filesA fp kps kvs)) (stars (H.eraseIdx k)) h
      rw [star_assoc]
      have s4 := star_swap s3
      rw [← star_assoc] at s4
      rw [← star_assoc] at s4
      rw [star_assoc] at s4
      refine star_left h (fun h s => ⟨es, ⟨clock, clock, #[], clock⟩, star_right h (fun h s => ?_) s⟩) s4
      rw [star_comm]
      refine star_pr.2 ⟨⟨h1, h2, h3, Nat.le_refl _, Nat.le_refl _, ?_⟩, tt_star_self s⟩
      have e1 : (leftOf es #[]).toList = es.toList := by simp [leftOf]
      rw [e1]
      have := congrArg (List.map (·.1)) h1
      simpa [esOk, List.map_map, Function.comp_def] using this
theorem left_pick {es : Array MapEntry} {seen : Array Nat} {e : MapEntry} (hn : (es.toList.map (·.born)).Nodup) {i : Nat} (hi : (leftOf es seen).toList[i]? = some e) : (leftOf es (seen.push e.born)).toList = (leftOf es seen).toList.eraseIdx i := by
  have e1 : (leftOf es (seen.push e.born)).toList = ((leftOf es seen).toList).filter fun x => !(x.born == e.born) := by
    simp only [leftOf, Array.toList_filter, List.filter_filter]
    congr 1
    funext x
    simp only [Array.contains_push, Bool.not_or]
    rw [Bool.and_comm]
  rw [e1]
  have hn2 : ((leftOf es seen).toList.map (·.born)).Nodup := by
    simp only [leftOf, Array.toList_filter]
    exact (List.Sublist.map _ List.filter_sublist).nodup hn
  generalize (leftOf es seen).toList = l at hi hn2
  clear e1 hn
  induction l generalizing i with
  | nil => simp at hi
  | cons a l ih =>
    rw [List.map_cons, List.nodup_cons] at hn2
    cases i with
    | zero =>
      simp at hi
      subst hi
      simp only [List.eraseIdx_zero, List.tail_cons, List.filter_cons, beq_self_eq_true, Bool.not_true, Bool.false_eq_true, if_false]
      rw [List.filter_eq_self]
      intro x hx
      have : x.born ≠ a.born := fun e => hn2.1 (by rw [← e]; exact List.mem_map.2 ⟨x, hx, rfl⟩)
      simp [this]
    | succ i =>
      simp only [List.getElem?_cons_succ] at hi
      have : a.born ≠ e.born := fun e' => hn2.1 (by rw [e']; exact List.mem_map.2 ⟨e, List.mem_of_getElem? hi, rfl⟩)
      rw [List.eraseIdx_cons_succ, List.filter_cons, if_pos (by simp [this]), ih hi hn2.2]
theorem map_erase {γ δ : Type} (f : γ → δ) : ∀ (l : List γ) (i : Nat), (l.eraseIdx i).map f = (l.map f).eraseIdx i
  | [], _ => by simp
  | a :: l, 0 => by simp
  | a :: l, i + 1 => by simp [map_erase f l i]
theorem left_mem {es : Array MapEntry} {seen : Array Nat} {e : MapEntry} (h : e ∈ (leftOf es seen).toList) : e ∈ es.toList := by
  simp only [leftOf, Array.toList_filter, List.mem_filter] at h
  exact h.1
theorem simL_next {x : Operand} {d : Nat} {todo : List α} (k : Nat) (ho : o.op = .next x false) (hg : o.guard = none) (hd : o.dst = some d) (hdn : Nat.blt d K.n = true) (hx : Go.Proofs.YtbcnegennmpliaaDoor.ev E x = some (.pointer (some ⟨r, 0, none⟩)))
    (hinj : ∀ x y, ek x = ek y → x = y) (hnd : (kvs.map (·.1)).Nodup) (hk : H[k]? = some (mapF (itI b r ek kps todo) fp kps kvs))
    (h0 : todo = [] → SimL K Q ops rest ((d, .tuple #[.bool false]) :: E) H opt)
    (h1 : ∀ i z, todo[i]? = some z → (mget kvs z).isSome = true → SimL K Q ops rest ((d, .tuple #[.bool true, ek z, encP (fptr kps z)]) :: E) (H.set k (mapF (itJ b r ek kps (todo.eraseIdx i) z) fp kps kvs)) opt) : SimL K Q ops (o :: rest) E H opt := by
  intro rr hr a w he s
  have hl : k < H.length := (List.getElem?_eq_some_iff.1 hk).1
  have s1 : Sat K.W (itI b r ek kps todo :: filesA fp kps kvs :: H.eraseIdx k) w := s.ent (by
    intro h s
    rw [stars_sel H k _ hk] at s
    have s1 : star (star (itI b r ek kps todo) (filesA fp kps kvs)) (stars (H.eraseIdx k)) h := s
    rw [star_assoc] at s1
    exact s1)
  have hkeys : kps.map (·.1) = kvs.map (·.1) := by
    obtain ⟨_, _, _, _, _, ⟨_, _, _, _, hx, _⟩⟩ := s1.hp
    exact filesA_keys _ _ _ hx
  obtain ⟨ha, hb', hdj, hun, ⟨es, ⟨clock, since, seen, c0⟩, hI⟩, hrest⟩ := s1.hp
  have s2 : Sat K.W (pts r (.mapIter (some b) since seen c0) :: pts b (.map es clock) :: pr (esOk ek encP es.toList kps ∧ (es.toList.map (·.born)).Nodup ∧ (∀ e ∈ es.toList, e.born < since) ∧ since ≤ c0 ∧ since ≤ clock ∧ (leftOf es seen).toList.map (·.key) = todo.map ek) :: filesA fp kps kvs :: H.eraseIdx k) w := by
    refine ⟨s1.os, s1.tape, s1.output, s1.size, ?_⟩
    have s3 : star (star (pts b (.map es clock)) (star (pts r (.mapIter (some b) since seen c0)) (pr _))) (stars (filesA fp kps kvs :: H.eraseIdx k)) (hpw w) := ⟨ha, hb', hdj, hun, hI, hrest⟩
    rw [star_assoc, star_assoc] at s3
    exact star_swap s3
  have hr0 := s2.pts_at (i := 0) rfl
  have hb0 := s2.pts_at (i := 1) rfl
  obtain ⟨_, ⟨p1, p2, p3, p4, p5, p6⟩, _⟩ := s2.at (i := 2) rfl
  have hrun : ∀ v w', (Instr.next (.pointer (some ⟨r, 0, none⟩)) false o.type).run K.P w = .ok v w' → (execOp a.eval o).run K.P w = .ok (.value v) w' := by
    intro v w' h
    unfold execOp; simp only [ho]; rw [he.ev hx]
    simp [h]
  have hnodef : ∀ c, o.op ≠ .defer c := by rw [ho]; intro c h; cases h
  refine wpListIn_plain hg fun K' hK' => ?_
  refine ⟨fun f _ => fen_fn _ _, ?_⟩
  rw [Oper.semAt_eq _ _ _ hnodef]
  rcases run_next_at (P := K.P) w o.type r b since c0 seen es clock hr0 hb0 p3 p4 with ⟨hz, hn⟩ | ⟨e, hem, w1, hal, hn⟩
  · rw [hrun _ _ hn]
    have ht : todo = [] := by
      have : (leftOf es seen).toList = [] := List.eq_nil_of_length_eq_zero (by simpa using hz)
      rw [this] at p6
      simpa using p6.symm
    refine hK' _ _ ?_
    rw [hd]
    exact h0 ht rr hr _ w (he.put _ hdn) s
  · rw [hrun _ _ hn]
    obtain ⟨i, hi⟩ := List.mem_iff_getElem?.1 hem
    have hki : (todo.map ek)[i]? = some e.key := by rw [← p6, List.getElem?_map, hi]; rfl
    rw [List.getElem?_map] at hki
    obtain ⟨z, hz, hze⟩ := Option.map_eq_some_iff.1 hki
    have hmem := left_mem hem
    have hpair : (e.key, e.val) ∈ kps.map fun p => (ek p.1, encP p.2) := by
      rw [← (show es.toList.map (fun e => (e.key, e.val)) = _ from p1)]
      exact List.mem_map.2 ⟨e, hmem, rfl⟩
    obtain ⟨p, hp, hpe⟩ := List.mem_map.1 hpair
    simp only [Prod.mk.injEq] at hpe
    have hpz : p.1 = z := hinj _ _ (by rw [hpe.1, hze])
    have hmg : mget kps z = some p.2 := by rw [← hpz]; exact mget_memP (by rw [hkeys]; exact hnd) hp
    have hval : e.val = encP (fptr kps z) := by rw [← hpe.2]; simp [fptr, hmg]
    have hsm : (mget kvs z).isSome = true := by rw [← mget_isSome_keys kps kvs z hkeys, hmg]; rfl
    refine hK' _ _ ?_
    rw [hd]
    have hr1 : Sat K.W (pts r (.mapIter (some b) since seen c0) :: pts b (.map es clock) :: pr (esOk ek encP es.toList kps ∧ (es.toList.map (·.born)).Nodup ∧ (∀ e ∈ es.toList, e.born < since) ∧ since ≤ c0 ∧ since ≤ clock ∧ (leftOf es seen).toList.map (·.key) = todo.map ek) :: filesA fp kps kvs :: H.eraseIdx k) w1 := by
      rcases hal with rfl | rfl
      · exact s2
      · exact s2.drew _
    have s5 := hr1.upd (o' := .mapIter (some b) since (seen.push e.born) clock)
    have := h1 i z hz hsm rr hr (a.put (some d) (.tuple #[.bool true, e.key, e.val])) (Go.ChangeMaps.setBlock w1 r (.mapIter (some b) since (seen.push e.born) clock)) (by rw [hze.symm, hval]; exact he.put _ hdn) (s5.ent ?_)
    · exact this
    · intro h s
      rw [← stars_put H k _ hl]
      show star (star (itJ b r ek kps (todo.eraseIdx i) z) (filesA fp kps kvs)) (stars (H.eraseIdx k)) h
      rw [star_assoc]
      have s6 : star (pts r (.mapIter (some b) since (seen.push e.born) clock)) (star (pts b (.map es clock)) (star (pr _) (star (filesA fp kps kvs) (stars (H.eraseIdx k))))) h := s
      have s7 := star_swap s6
      have s8 : star (pts b (.map es clock)) (star (pts r (.mapIter (some b) since (seen.push e.born) clock)) (star (pr (esOk ek encP es.toList kps ∧ (es.toList.map (·.born)).Nodup ∧ (∀ x ∈ es.toList, x.born < since) ∧ since ≤ clock ∧ (leftOf es (seen.push e.born)).toList.map (·.key) = (todo.eraseIdx i).map ek ∧ e ∈ es.toList ∧ e.key = ek z ∧ e.val = encP (fptr kps z))) (star (filesA fp kps kvs) (stars (H.eraseIdx k))))) h :=
        star_right h (fun h s => star_right h (fun h s => star_left h (fun h q => ⟨p1, p2, p3, p5, by
          rw [left_pick p2 hi, map_erase, p6, map_erase], hmem, hze.symm, hval⟩) s) s) s7
      rw [← star_assoc (pts r _), ← star_assoc (pts b _)] at s8
      exact star_left h (fun h s => ⟨es, ⟨clock, since, seen, e⟩, s⟩) s8
theorem q_entry {x : Operand} {todo : List α} {z : α} {H' : List HA} {X : HA} (ho : o.op = .entry x) (hx : Go.Proofs.YtbcnegennmpliaaDoor.ev E x = some (.pointer (some ⟨r, 0, none⟩))) (e : Ent H (itJ b r ek kps todo z :: X :: H')) :
    RQ K o E H (.tuple #[ek z, encP (fptr kps z)]) :=
  rq_same (by rw [ho]; intro c h; cases h) fun a w he s => by
    have s1 := s.ent e
    obtain ⟨ha, hb', hdj, hun, ⟨es, ⟨clock, since, seen, e⟩, hI⟩, hrest⟩ := s1.hp
    have s2 : Sat K.W (pts r (.mapIter (some b) since (seen.push e.born) clock) :: pts b (.map es clock) :: pr (esOk ek encP es.toList kps ∧ (es.toList.map (·.born)).Nodup ∧ (∀ e ∈ es.toList, e.born < since) ∧ since ≤ clock ∧ (leftOf es (seen.push e.born)).toList.map (·.key) = todo.map ek ∧ e ∈ es.toList ∧ e.key = ek z ∧ e.val = encP (fptr kps z)) :: X :: H') w := by
      refine ⟨s1.os, s1.tape, s1.output, s1.size, ?_⟩
      have s3 : star (star (pts b (.map es clock)) (star (pts r (.mapIter (some b) since (seen.push e.born) clock)) (pr _))) (stars (X :: H')) (hpw w) := ⟨ha, hb', hdj, hun, hI, hrest⟩
      rw [star_assoc, star_assoc] at s3
      exact star_swap s3
    have hr0 := s2.pts_at (i := 0) rfl
    have hb0 := s2.pts_at (i := 1) rfl
    obtain ⟨_, ⟨p1, p2, p3, p4, p5, p6, p7, p8⟩, _⟩ := s2.at (i := 2) rfl
    unfold execOp; simp only [ho]; rw [he.ev hx]
    simp [run_entry_at (P := K.P) w r b since seen es clock e hr0 hb0 p6 p2, p7, p8]
theorem ent_J {todo : List α} {z : α} (k : Nat) (hk : H[k]? = some (mapF (itJ b r ek kps todo z) fp kps kvs)) : Ent H (itJ b r ek kps todo z :: filesA fp kps kvs :: H.eraseIdx k) := by
  intro h s
  rw [stars_sel H k _ hk] at s
  have s1 : star (star (itJ b r ek kps todo z) (filesA fp kps kvs)) (stars (H.eraseIdx k)) h := s
  rw [star_assoc] at s1
  exact s1
theorem erase_perm {γ : Type} : ∀ (l : List γ) (i : Nat) (x : γ), l[i]? = some x → (x :: l.eraseIdx i).Perm l
  | [], i, x, h => by simp at h
  | a :: l, 0, x, h => by simp at h; subst h; exact List.Perm.refl _
  | a :: l, i + 1, x, h => by
    rw [List.eraseIdx_cons_succ]
    exact (List.Perm.swap a x _).trans (List.Perm.cons a (erase_perm l i x (by simpa using h)))
theorem simL_imp {o' : Option R} (e : ∀ r, opt = some r → o' = some r) (h : SimL K Q ops rest E H o') : SimL K Q ops rest E H opt := fun r hr a w he hs => h r (e r hr) a w he hs
def leftM {β S R : Type} {α : Type} [DecidableEq α] [DecidableEq S] [DecidableEq β] (step : S → α → β → Option (S × β)) (o2 : S × List (α × β) → Option R) (k : Nat) (z : S × List (α × β) × List α) : Option R :=
  if z.2.2.length < k ∧ (z.2.1.map (·.1)).Nodup ∧ ∀ l ∈ perms z.2.2, runM step l z.1 z.2.1 = runM step z.2.2 z.1 z.2.1 then (runM step z.2.2 z.1 z.2.1).bind o2 else none
theorem leftM_next [DecidableEq S] [DecidableEq β] {step : S → α → β → Option (S × β)} {o2 : S × List (α × β) → Option R} {k : Nat} {s : S} {todo : List α} {i : Nat} {x : α} {v : β} {rr : R} (hi : todo[i]? = some x) (hv : mget kvs x = some v)
    (h : leftM step o2 (k + 1) (s, kvs, todo) = some rr) : ∃ z, step s x v = some z ∧ leftM step o2 k (z.1, mput kvs x z.2, todo.eraseIdx i) = some rr := by
  unfold leftM at h
  split at h
  · rename_i hc
    obtain ⟨h1, h2, h3'⟩ := hc
    simp only at h1 h2 h3' h
    have h3 := fun l hl => h3' l (mem_perms hl)
    have hil := (List.getElem?_eq_some_iff.1 hi).1
    have hperm : ∀ l, l.Perm (todo.eraseIdx i) → (x :: l).Perm todo := fun l hl => by
      have e1 : todo[i]'hil = x := (List.getElem?_eq_some_iff.1 hi).2
      have e2 : (x :: todo.eraseIdx i).Perm todo := by
        rw [← e1]
        exact erase_perm _ _ _ (by rw [e1]; exact hi)
      exact (List.Perm.cons x hl).trans e2
    rw [← h3 _ (hperm _ (List.Perm.refl _))] at h
    rw [runM, hv, Option.bind_some] at h
    cases hs : step s x v with
    | none => rw [hs] at h; cases h
    | some z =>
      refine ⟨z, rfl, ?_⟩
      rw [hs, Option.bind_some] at h
      unfold leftM
      have hle : (todo.eraseIdx i).length < k := by rw [List.length_eraseIdx_of_lt hil]; omega
      have hn : ((mput kvs x z.2).map (·.1)).Nodup := by rw [mput_keysP (by rw [hv]; rfl)]; exact h2
      have hall : ∀ l, l.Perm (todo.eraseIdx i) → runM step l z.1 (mput kvs x z.2) = runM step (todo.eraseIdx i) z.1 (mput kvs x z.2) := fun l hl => by
        have e1 := h3 _ (hperm l hl)
        have e2 := h3 _ (hperm _ (List.Perm.refl _))
        rw [runM, hv, Option.bind_some, hs, Option.bind_some] at e1 e2
        rw [e1, ← e2]
      rw [if_pos ⟨hle, hn, fun l hl => hall l (perms_perm hl)⟩]
      exact h
  · cases h
theorem leftM_done [DecidableEq S] [DecidableEq β] {step : S → α → β → Option (S × β)} {o2 : S × List (α × β) → Option R} {k : Nat} {s : S} {rr : R} (h : leftM step o2 k (s, kvs, []) = some rr) : o2 (s, kvs) = some rr := by
  unfold leftM at h
  split at h
  · simpa [runM] using h
  · cases h
theorem leftM_nodup [DecidableEq S] [DecidableEq β] {step : S → α → β → Option (S × β)} {o2 : S × List (α × β) → Option R} {k : Nat} {s : S} {todo : List α} {rr : R} (h : leftM step o2 k (s, kvs, todo) = some rr) : (kvs.map (·.1)).Nodup := by
  unfold leftM at h
  split at h
  · rename_i hc; exact hc.2.1
  · cases h
theorem leftM_start [DecidableEq S] [DecidableEq β] {step : S → α → β → Option (S × β)} {o2 : S × List (α × β) → Option R} {s : S} : (rangeM step s kvs).bind o2 = leftM step o2 (kvs.length + 1) (s, kvs, kvs.map (·.1)) := by
  unfold rangeM leftM
  simp only [List.length_map]
  by_cases hc : (kvs.map (·.1)).Nodup ∧ ∀ l ∈ perms (kvs.map (·.1)), runM step l s kvs = runM step (kvs.map (·.1)) s kvs
  · rw [if_pos hc, if_pos ⟨by omega, hc⟩]
  · rw [if_neg hc, if_neg (fun h => hc h.2)]; rfl
theorem sim_rangeM [DecidableEq S] [DecidableEq β] {tI tN tO eid bid id1 : Nat} {body : Code} {ty1 ty2 : TypeId} {ps1 ps2 : String} {af1 af2 : Array Edge} {o2 : S × List (α × β) → Option R} (step : S → α → β → Option (S × β)) (Es : S → Y → Env) (Hs : S → Y → List HA) (s0 : S) (y0 : Y)
    (hinj : ∀ x y, ek x = ek y → x = y) (hEs : ∀ s y, lk (Es s y) tI = some (.pointer (some ⟨r, 0, none⟩))) (hn1 : Nat.blt tN K.n = true) (hn2 : Nat.blt tO K.n = true) (hS : ∀ s y v1 v2, Sub (Es s y) ((tO, v1) :: (tN, v2) :: Es s y))
    (hE : Sub (Es s0 y0) E) (hH : Ent H (mapF (itI b r ek kps (kps.map (·.1))) fp kps kvs :: Hs s0 y0))
    (hB : ∀ kvs todo s y x v, mget kvs x = some v → Sim K (cutQ K (fun (z : S × β) (y : Y) => Es z.1 y) (fun z y => mapF (itJ b r ek kps todo x) fp kps (mput kvs x z.2) :: Hs z.1 y)) (.block bid body) ((tO, .bool true) :: (tN, .tuple #[.bool true, ek x, encP (fptr kps x)]) :: Es s y) (mapF (itJ b r ek kps todo x) fp kps kvs :: Hs s y) (step s x v))
    (hN : ∀ kvs s y, Nrm K Q (Es s y) (mapF (mapO b ek encP kps) fp kps kvs :: Hs s y) (o2 (s, kvs))) :
    Sim K (blockQ eid Q) (.loop (.seq (.region id1 [⟨some tN, .next (.tmp tI) false, ty1, ps1, af1, none⟩, ⟨some tO, .extract (.tmp tN) 0, ty2, ps2, af2, none⟩].toArray false) (.seq (.cond (.tmp tO) .skip (.exit eid)) (.block bid body)))) E H ((rangeM step s0 kvs).bind o2) := by
  have hkeys : ∀ w, Sat K.W H w → kps.map (·.1) = kvs.map (·.1) := fun w s => by
    obtain ⟨_, _, _, _, ⟨_, _, _, _, _, hx⟩, _⟩ := (s.ent hH).hp
    exact filesA_keys _ _ _ hx
  intro rr hr a w he hs
  have hk := hkeys w hs
  rw [leftM_start] at hr
  rw [hk] at hH
  refine (sim_loop (S := S × List (α × β) × List α) Y (fun k z => leftM step o2 k z) (fun z y => Es z.1 y) (fun z y => mapF (itI b r ek kps z.2.2) fp kps z.2.1 :: Hs z.1 y) (fun z => by unfold leftM; rw [if_neg (by omega)]) ?_ (kvs.length + 1) (s0, kvs, kvs.map (·.1)) y0 hE hH) rr hr a w he hs
  rintro k ⟨s, kvs, todo⟩ y
  refine sim_seq (sim_region ?_)
  by_cases hnd : (kvs.map (·.1)).Nodup
  · refine simL_next (todo := todo) (kvs := kvs) 0 rfl rfl rfl hn1 (hEs s y) hinj hnd rfl (fun ht => ?_) (fun i x hi hx => ?_)
    · subst ht
      refine simL_val (q_ext (vs := #[.bool false]) (v := .bool false) (i := 0) rfl (by simp [Go.Proofs.YtbcnegennmpliaaDoor.ev, lk]) rfl) rfl rfl hn2 (simL_nil (nrm_then (sim_seq (sim_false (by simp [Go.Proofs.YtbcnegennmpliaaDoor.ev, lk]) (sim_exi ?_)))))
      refine exi_then (exi_loop (exi_here ?_))
      intro rr hr a w he hs
      have hh := hN kvs s y rr (leftM_done hr) a w (he.sub ?_) (hs.ent ent_itI)
      · exact hh
      · exact hS s y _ _
    · obtain ⟨v, hv⟩ := Option.isSome_iff_exists.1 hx
      refine simL_imp (o' := (step s x v).bind fun z => leftM step o2 k (z.1, mput kvs x z.2, todo.eraseIdx i)) (fun rr hr => ?_) ?_
      · obtain ⟨z, h1, h2⟩ := leftM_next hi hv hr
        rw [h1]; exact h2
      · refine simL_val (q_ext (vs := #[.bool true, ek x, encP (fptr kps x)]) (v := .bool true) (i := 0) rfl (by simp [Go.Proofs.YtbcnegennmpliaaDoor.ev, lk]) rfl) rfl rfl hn2 (simL_nil (nrm_then (sim_seq (sim_true (by simp [Go.Proofs.YtbcnegennmpliaaDoor.ev, lk]) (sim_skip (nrm_then ?_))))))
        intro rr hr a w he hs
        obtain ⟨z, h1, h2⟩ := Option.bind_eq_some_iff.1 hr
        refine wpIn_mono (hB kvs (todo.eraseIdx i) s y x v hv z h1 a w he hs) ?_
        intro e a' w' hq
        cases e with
        | normal => obtain ⟨y', x1, x2⟩ := hq; exact ⟨(z.1, mput kvs x z.2, todo.eraseIdx i), y', h2, x1, x2.ent ent_itJ⟩
        | _ => exact hq.elim
  · exact fun rr hr => absurd (leftM_nodup hr) hnd
theorem runM_same {step : S → α → β → Option S} : ∀ (l : List α) (s : S) (kvs : List (α × β)) (z : S × List (α × β)), runM (fun s x v => (step s x v).map fun s' => (s', v)) l s kvs = some z → z.2 = kvs
  | [], s, kvs, z, h => by simp [runM] at h; rw [← h]
  | x :: l, s, kvs, z, h => by
    rw [runM] at h
    obtain ⟨v, hv, h⟩ := Option.bind_eq_some_iff.1 h
    obtain ⟨u, hu, h⟩ := Option.bind_eq_some_iff.1 h
    obtain ⟨s', _, rfl⟩ := Option.map_eq_some_iff.1 hu
    rw [mput_same hv] at h
    exact runM_same l _ _ _ h
theorem rangeM_same [DecidableEq S] [DecidableEq β] {step : S → α → β → Option S} {s : S} {z : S × List (α × β)} (h : rangeM (fun s x v => (step s x v).map fun s' => (s', v)) s kvs = some z) : z.2 = kvs := by
  unfold rangeM at h
  split at h
  · exact runM_same _ _ _ _ h
  · cases h
theorem Ent.sameF {M : HA} {x : α} {v : β} {l m : List HA} (hx : mget kvs x = some v) (r : Ent l (mapF M fp kps kvs :: m)) : Ent l (mapF M fp kps (mput kvs x v) :: m) := by rw [mput_same hx]; exact r
theorem sim_range0 [DecidableEq S] [DecidableEq β] {tI tN tO eid bid id1 : Nat} {body : Code} {ty1 ty2 : TypeId} {ps1 ps2 : String} {af1 af2 : Array Edge} {o2 : S → Option R} (step : S → α → β → Option S) (Es : S → Y → Env) (Hs : S → Y → List HA) (s0 : S) (y0 : Y)
    (hinj : ∀ x y, ek x = ek y → x = y) (hEs : ∀ s y, lk (Es s y) tI = some (.pointer (some ⟨r, 0, none⟩))) (hn1 : Nat.blt tN K.n = true) (hn2 : Nat.blt tO K.n = true) (hS : ∀ s y v1 v2, Sub (Es s y) ((tO, v1) :: (tN, v2) :: Es s y))
    (hE : Sub (Es s0 y0) E) (hH : Ent H (mapF (itI b r ek kps (kps.map (·.1))) fp kps kvs :: Hs s0 y0))
    (hB : ∀ kvs todo s y x v, mget kvs x = some v → Sim K (cutQ K (fun (z : S) (y : Y) => Es z y) (fun z y => mapF (itJ b r ek kps todo x) fp kps kvs :: Hs z y)) (.block bid body) ((tO, .bool true) :: (tN, .tuple #[.bool true, ek x, encP (fptr kps x)]) :: Es s y) (mapF (itJ b r ek kps todo x) fp kps kvs :: Hs s y) (step s x v))
    (hN : ∀ s y, Nrm K Q (Es s y) (mapF (mapO b ek encP kps) fp kps kvs :: Hs s y) (o2 s)) :
    Sim K (blockQ eid Q) (.loop (.seq (.region id1 [⟨some tN, .next (.tmp tI) false, ty1, ps1, af1, none⟩, ⟨some tO, .extract (.tmp tN) 0, ty2, ps2, af2, none⟩].toArray false) (.seq (.cond (.tmp tO) .skip (.exit eid)) (.block bid body)))) E H ((range0 step s0 kvs).bind o2) := by
  have e : (range0 step s0 kvs).bind o2 = (rangeM (fun s x v => (step s x v).map fun s' => (s', v)) s0 kvs).bind fun z => if z.2 = kvs then o2 z.1 else none := by
    unfold range0
    cases h : rangeM (fun s x v => (step s x v).map fun s' => (s', v)) s0 kvs with
    | none => rfl
    | some z => simp [rangeM_same h]
  rw [e]
  refine sim_rangeM (o2 := fun z => if z.2 = kvs then o2 z.1 else none) _ Es Hs s0 y0 hinj hEs hn1 hn2 hS hE hH (fun kvs todo s y x v hv => ?_) (fun kvs' s y => ?_)
  · intro z hz a w he hs
    obtain ⟨s', h1, rfl⟩ := Option.map_eq_some_iff.1 hz
    refine wpIn_mono (hB kvs todo s y x v hv s' h1 a w he hs) ?_
    intro e a' w' hq
    cases e with
    | normal => obtain ⟨y', x1, x2⟩ := hq; exact ⟨y', x1, x2.ent (Ent.sameF hv (Ent.refl _))⟩
    | _ => exact hq.elim
  · by_cases hk : kvs' = kvs
    · subst hk; simpa using hN s y
    · simp only [hk, if_false]; exact nrm_none
end
theorem fn_sortedSF {P : Program} {W : World} {F O : HA} {f b : Nat} {args : List Value} {β Z Y : Type} {ek : List UInt8 → Value} {fp : Nat → β → Z → List HA} {kps : List (List UInt8 × Nat)} {kvs : List (List UInt8 × β)} {val : List (List UInt8) → Y → Value} {B : List (List UInt8) → Y → HA}
    (h : ∀ F, Fn P W f args [O, mapO b ek encP kps] F (if (kps.map (·.1)).Nodup ∧ kps.length * 16 ≤ 140737488355328 ∧ ∀ p ∈ kps, p.1.length ≤ 140737488351232 then some (keysS kps) else none) val (fun r y => [B r y, O, mapO b ek encP kps])) :
    Fn P W f args [O, mapF (mapO b ek encP kps) fp kps kvs] F (if (kvs.map (·.1)).Nodup ∧ kvs.length * 16 ≤ 140737488355328 ∧ ∀ p ∈ kvs, p.1.length ≤ 140737488351232 then some (keysS kvs) else none) val (fun r y => [B r y, O, mapF (mapO b ek encP kps) fp kps kvs]) := by
  intro r hr w hs
  have hs1 : Sat W (mapF (mapO b ek encP kps) fp kps kvs :: [O, F]) w := hs.ent (Ent.sel 1 rfl (Ent.sel 0 rfl (Ent.sel 0 rfl (Ent.nil _))))
  have hkeys : kps.map (·.1) = kvs.map (·.1) := by
    obtain ⟨_, _, _, _, ⟨_, _, _, _, _, hx⟩, _⟩ := hs1.hp
    exact filesA_keys _ _ _ hx
  have hlen : kps.length = kvs.length := by simpa using congrArg List.length hkeys
  have hks : keysS kps = keysS kvs := by unfold keysS; rw [hkeys]
  split at hr
  · rename_i hh
    cases hr
    have hh2 : (kps.map (·.1)).Nodup ∧ kps.length * 16 ≤ 140737488355328 ∧ ∀ p ∈ kps, p.1.length ≤ 140737488351232 := by
      refine ⟨by rw [hkeys]; exact hh.1, by rw [hlen]; exact hh.2.1, fun p hp => ?_⟩
      have : p.1 ∈ kvs.map (·.1) := by rw [← hkeys]; exact List.mem_map.2 ⟨p, hp, rfl⟩
      obtain ⟨q, hq, e⟩ := List.mem_map.1 this
      rw [← e]; exact hh.2.2 q hq
    have := h (star (filesA fp kps kvs) F) (keysS kvs) (by rw [if_pos hh2, hks]) w (hs1.ent ?_)
    · refine this.mono ?_
      rintro e w' ⟨y, rfl, s⟩
      refine ⟨y, rfl, s.ent ?_⟩
      intro h s
      have s1 : star (B (keysS kvs) y) (star O (star (mapO b ek encP kps) (star (star (filesA fp kps kvs) F) tt))) h := s
      refine star_right h (fun h s => star_right h (fun h s => ?_) s) s1
      show star (star (mapO b ek encP kps) (filesA fp kps kvs)) (star F tt) h
      rw [star_assoc] at s
      rw [star_assoc]
      exact s
    · intro h s
      have s1 : star (star (mapO b ek encP kps) (filesA fp kps kvs)) (star O (star F tt)) h := s
      show star O (star (mapO b ek encP kps) (star (star (filesA fp kps kvs) F) tt)) h
      rw [star_assoc] at s1
      have s2 := star_right h (fun h s => star_swap s) s1
      have s3 := star_swap s2
      refine star_right h (fun h s => star_right h (fun h s => ?_) s) s3
      rw [star_assoc]
      exact s
  · cases hr
section
variable {K : Cx} {E : Env} {H : List HA} {o : Oper} {α : Type} {n : Nat} {V : α → List Value → Prop} {xs : List α}
theorem re_litVc {t e bytes len : Nat} {zs : List Value} {l : List (Nat × Operand)} {vs : List (Nat × Value)} {cs : List Value} (rs : List (List Value)) (ho : o.op = .buildSlice t len l.toArray) (hx : evP l E = some vs) (ht : K.P.underlying t = some (.slice e)) (hE : Elt K.P e n bytes zs)
    (hb : Nat.ble (len * n) 16777216 = true) (hf : Instr.fill (fun i => some (i * n, n)) ((Array.range (len * n)).map (zs.toArray[· % zs.toArray.size]!)) vs = some cs.toArray) (h0 : Nat.blt 0 (len * n) = true) (hr : ListV n V xs rs) (hcs : rs.flatten = cs) (hlen : xs.length = len) :
    RE K (Y := Nat) o E H (fun b => .slice (some ⟨b, 0, none⟩) xs.length len) (fun b => RowV e n V (some ⟨b, 0, none⟩) xs len :: H) :=
  re_eq (re_litV rs ho hx ht hE hb hf h0 hr hcs hlen) (fun _ => rfl) fun b => Ent.sel' 0 rfl (RowV.mk hr) (Ent.refl _)
end
theorem RowV.empty {α : Type} {T n c : Nat} {V V' : α → List Value → Prop} {a : Option Addr} {p : Hp} (h : RowV T n V a ([] : List α) c p) : RowV T n V' a ([] : List α) c p := by
  obtain ⟨rs, hl, hr⟩ := h
  cases rs with
  | nil => exact ⟨[], trivial, hr⟩
  | cons r rs => exact hl.elim
end Go.Proofs.YtbcnegennmpliaaDoor

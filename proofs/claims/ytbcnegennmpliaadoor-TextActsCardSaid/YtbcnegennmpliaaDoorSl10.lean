/- A region whose operations may come in several orders: whatever order its edges allow, it comes to the same. Conditions: the operations' values hang on what the edges put ahead of them. -/
import Derived.Test.YtbcnegennmpliaaDoorSl9
namespace Go.Proofs.YtbcnegennmpliaaDoor
set_option linter.unusedVariables false
set_option linter.unusedSimpArgs false
open Go.RowKit

theorem uponIn_mono {F : Fence} {n : Nat} {P : Program} {o : Oper} {a : Act} {Q : Exit → Act → World → Prop} {N1 N2 : Act → World → Prop} (h : ∀ a w, N1 a w → N2 a w) : ∀ r, o.uponIn F n P a N1 Q r → o.uponIn F n P a N2 Q r := by
  intro r hr
  cases r with
  | ok nxt w' =>
    cases nxt with
    | value v => exact h _ _ hr
    | skip => exact h _ _ hr
    | defer d => exact h _ _ hr
    | enter f args =>
      refine ⟨hr.1, hr.2.mono ?_⟩
      intro e w'' x
      cases e with
      | returned v => exact h _ _ x
      | panicked c => exact x
      | outgrown => exact x
    | row row args => exact ⟨hr.1, hr.2.mono fun v w'' x => h _ _ x⟩
    | round l f tmps assign body =>
      refine ⟨hr.1, hr.2.mono ?_⟩
      intro e w'' x
      cases e with
      | returned v => exact h _ _ x
      | panicked c => exact x
      | outgrown => exact x
    | _ => exact hr.elim
  | halt h w' => cases h <;> first | exact hr | exact hr.elim

def preds (ops : Array Oper) (i : Nat) : List Nat := ((ops[i]?).map fun o => (o.after.toList.filter (Region.binds .any)).map (·.on)).getD []
def dstOf (ops : Array Oper) (i : Nat) : Option Nat := (ops[i]?).bind (·.dst)
def ancAt (anc : List (List Nat)) (i : Nat) : List Nat := anc.getD i []
def onOk (ops : Array Oper) : Bool := (List.range ops.size).all fun i => (preds ops i).all fun p => Nat.blt p i
def ancOk (ops : Array Oper) (anc : List (List Nat)) : Bool := (List.range ops.size).all fun i => (ancAt anc i).all fun p => (preds ops i).any fun q => Nat.beq q p || (ancAt anc q).contains p
theorem onOk_lt {ops : Array Oper} (h : onOk ops = true) {i p : Nat} (hp : p ∈ preds ops i) : p < i := by
  by_cases hi : i < ops.size
  · have := List.all_eq_true.1 h i (by simpa using hi)
    have := List.all_eq_true.1 this p hp
    simpa [Nat.blt_eq] using this
  · have : ops[i]? = none := Array.getElem?_eq_none (by omega)
    simp [preds, this] at hp
theorem anc_done {ops : Array Oper} {anc : List (List Nat)} (ho : onOk ops = true) (ha : ancOk ops anc = true) (hz : anc.length ≤ ops.size) {L : List Nat} (hc : ∀ i, i ∈ L → ∀ p, p ∈ preds ops i → p ∈ L) :
    ∀ i, (∀ p, p ∈ preds ops i → p ∈ L) → ∀ p, p ∈ ancAt anc i → p ∈ L := by
  intro i
  induction i using Nat.strongRecOn with
  | _ i ih =>
    intro hd p hp
    by_cases hi : i < ops.size
    · have := List.all_eq_true.1 ha i (by simpa using hi)
      have := List.all_eq_true.1 this p hp
      obtain ⟨q, hq, hqp⟩ := List.any_eq_true.1 this
      rw [Bool.or_eq_true] at hqp
      rcases hqp with e | e
      · obtain rfl := Nat.eq_of_beq_eq_true e
        exact hd _ hq
      · exact ih q (onOk_lt ho hq) (hc q (hd q hq)) p (by simpa using e)
    · have : ancAt anc i = [] := by
        unfold ancAt
        rw [List.getD_eq_getElem?_getD, List.getElem?_eq_none (by omega)]; rfl
      rw [this] at hp
      cases hp

/-! ### The orders that the edges allow -/
def go' (ops : Array Oper) : Nat → Nat → Array Bool → List Nat
  | 0, _, _ => []
  | fuel + 1, t, listed =>
    let rs := (List.range ops.size).filter fun i =>
      !listed.getD i true && ((ops[i]?).map (·.after.all fun e => !Region.binds .any e || listed.getD e.on false)).getD false
    match rs[t % rs.length]? with
    | some i => i :: go' ops fuel (t / rs.length) (listed.setIfInBounds i true)
    | none => []
theorem go_eq (ops : Array Oper) : ∀ fuel t listed acc, Region.linearise.go .any ops fuel t listed acc = acc.reverse ++ go' ops fuel t listed := by
  intro fuel
  induction fuel with
  | zero => intro t listed acc; simp [Region.linearise.go, go']
  | succ fuel ih =>
    intro t listed acc
    simp only [Region.linearise.go, go']
    split
    · rename_i i h
      simp only [h]
      rw [ih]
      simp
    · rename_i h
      simp only [h]
      simp
theorem sched_eq (ops : Array Oper) (t : Nat) : Region.schedule true ops t = go' ops ops.size t (Array.replicate ops.size false) := by
  simp only [Region.schedule, Bool.true_or, if_true, Region.linearise]
  rw [go_eq]; simp

theorem wp_sched {F : Fence} {n : Nat} {P : Program} {ops : Array Oper} {Q : Exit → Act → World → Prop} (Inv : List Nat → Act → World → Prop) (ho : onOk ops = true)
    (hs : ∀ i o L a w, ops[i]? = some o → i ∉ L → (∀ p, p ∈ preds ops i → p ∈ L) → (∀ i, i ∈ L → ∀ p, p ∈ preds ops i → p ∈ L) → Inv L a w →
      if Region.wanted o (yielded ops a.tmps) then o.wpIn F n P a w (fun a' w' => Inv (i :: L) a' w') Q else (∀ f, o.about P w a.eval = some f → F.fn f) ∧ Inv (i :: L) (a.put o.dst undef) w)
    (he : ∀ L a w, (∀ i, i < ops.size → i ∈ L) → Inv L a w → Q .normal a w) :
    ∀ fuel t listed (L : List Nat) a w, listed.size = ops.size → (∀ i, i < ops.size → (listed.getD i false = true ↔ i ∈ L)) → (∀ i, i ∈ L → ∀ p, p ∈ preds ops i → p ∈ L) → (∀ i, i ∈ L → i < ops.size) →
      ((List.range ops.size).filter fun i => !listed.getD i false).length ≤ fuel → Inv L a w → wpOpsIn F n P ops Q (go' ops fuel t listed) a w := by
  intro fuel
  induction fuel with
  | zero =>
    intro t listed L a w hsz hl hc hb hf hi
    simp only [go', wpOpsIn]
    refine he L a w (fun i hi => ?_) hi
    have h0 : (List.range ops.size).filter (fun i => !listed.getD i false) = [] := List.eq_nil_of_length_eq_zero (by omega)
    rw [List.filter_eq_nil_iff] at h0
    have := h0 i (by simpa using hi)
    exact (hl i hi).1 (by simpa using this)
  | succ fuel ih =>
    intro t listed L a w hsz hl hc hb hf hi
    simp only [go']
    split
    · rename_i i h
      have hmem := List.mem_of_getElem? h
      rw [List.mem_filter] at hmem
      obtain ⟨hr, hcond⟩ := hmem
      have hilt : i < ops.size := by simpa using hr
      rw [Bool.and_eq_true] at hcond
      have hgd : listed.getD i true = listed.getD i false := by
        simp [Array.getD, hsz, hilt]
      have hnot : i ∉ L := by
        intro hx
        have := (hl i hilt).2 hx
        rw [hgd, this] at hcond
        simp at hcond
      have hoi : ops[i]? = some ops[i] := Array.getElem?_eq_getElem hilt
      have hpre : ∀ p, p ∈ preds ops i → p ∈ L := by
        intro p hp
        have h2 := hcond.2
        rw [hoi] at h2
        simp only [Option.map_some, Option.getD_some] at h2
        simp only [preds, hoi, Option.map_some, Option.getD_some, List.mem_map, List.mem_filter] at hp
        obtain ⟨e, ⟨he1, he2⟩, rfl⟩ := hp
        have h3 := Array.all_eq_true_iff_forall_mem.1 h2 e (by simpa using he1)
        rw [he2] at h3
        have hlt : e.on < ops.size := Nat.lt_trans (onOk_lt ho (i := i) (by simp only [preds, hoi, Option.map_some, Option.getD_some, List.mem_map, List.mem_filter]; exact ⟨e, ⟨he1, he2⟩, rfl⟩)) hilt
        exact (hl _ hlt).1 (by simpa using h3)
      have step := hs i ops[i] L a w hoi hnot hpre hc hi
      have nx : ∀ a' w', Inv (i :: L) a' w' → wpOpsIn F n P ops Q (go' ops fuel (t / ((List.range ops.size).filter fun i =>
          !listed.getD i true && ((ops[i]?).map (·.after.all fun e => !Region.binds .any e || listed.getD e.on false)).getD false).length) (listed.setIfInBounds i true)) a' w' := by
        intro a' w' hi'
        refine ih _ _ (i :: L) a' w' (by simp [hsz]) ?_ ?_ ?_ ?_ hi'
        · intro j hj
          simp only [Array.getD_eq_getD_getElem?, Array.getElem?_setIfInBounds]
          by_cases e : i = j
          · subst e; simp [hsz, hilt]
          · have hj2 := hl j hj
            simp only [Array.getD_eq_getD_getElem?] at hj2
            simp [e, hj2, Ne.symm e]
        · intro j hj p hp
          rcases List.mem_cons.1 hj with rfl | hj
          · exact List.mem_cons_of_mem _ (hpre p hp)
          · exact List.mem_cons_of_mem _ (hc j hj p hp)
        · intro j hj
          rcases List.mem_cons.1 hj with rfl | hj
          · exact hilt
          · exact hb j hj
        · have hlt : ((List.range ops.size).filter fun j => !(listed.setIfInBounds i true).getD j false).length < ((List.range ops.size).filter fun j => !listed.getD j false).length := by
            have e1 : ((List.range ops.size).filter fun j => !(listed.setIfInBounds i true).getD j false) = ((List.range ops.size).filter fun j => !listed.getD j false).filter fun j => !Nat.beq j i := by
              rw [List.filter_filter]
              apply List.filter_congr
              intro j hj
              simp only [Array.getD_eq_getD_getElem?, Array.getElem?_setIfInBounds]
              by_cases e : i = j
              · subst e; simp [hsz, hilt]
              · have : Nat.beq j i = false := by rw [Bool.eq_false_iff]; intro x; exact e (Nat.eq_of_beq_eq_true x).symm
                simp [e, this]
            rw [e1]
            have hin : i ∈ (List.range ops.size).filter fun j => !listed.getD j false := by
              rw [List.mem_filter]
              refine ⟨hr, ?_⟩
              rw [← hgd]; exact hcond.1
            exact List.length_filter_lt_length_iff_exists.2 ⟨i, hin, by simp⟩
          omega
      simp only [wpOpsIn, hoi]
      split
      · rename_i hw
        rw [if_pos hw] at step
        exact ⟨step.1, uponIn_mono nx _ step.2⟩
      · rename_i hw
        rw [if_neg hw] at step
        exact ⟨step.1, nx _ _ step.2⟩
    · rename_i h
      -- nothing is ready: all is done
      refine he L a w (fun i hi => ?_) hi
      have hnil : ((List.range ops.size).filter fun i => !listed.getD i true && ((ops[i]?).map (·.after.all fun e => !Region.binds .any e || listed.getD e.on false)).getD false) = [] := by
        cases hrs : ((List.range ops.size).filter fun i => !listed.getD i true && ((ops[i]?).map (·.after.all fun e => !Region.binds .any e || listed.getD e.on false)).getD false) with
        | nil => rfl
        | cons x xs =>
          rw [hrs] at h
          rw [List.getElem?_eq_none_iff] at h
          have := Nat.mod_lt t (show 0 < (x :: xs).length by simp)
          omega
      rw [List.filter_eq_nil_iff] at hnil
      -- by induction every operation is listed
      have key : ∀ i, i < ops.size → i ∈ L := by
        intro i
        induction i using Nat.strongRecOn with
        | _ i ih2 =>
          intro hi
          have h1 := hnil i (by simpa using hi)
          refine Classical.byContradiction fun hno => h1 ?_
          have hgd : listed.getD i true = listed.getD i false := by simp [Array.getD, hsz, hi]
          have hf : listed.getD i false = false := by
            rw [Bool.eq_false_iff]; intro x; exact hno ((hl i hi).1 x)
          have hoi : ops[i]? = some ops[i] := Array.getElem?_eq_getElem hi
          rw [hgd, hf, hoi]
          simp only [Bool.not_false, Bool.true_and, Option.map_some, Option.getD_some]
          rw [Array.all_eq_true_iff_forall_mem]
          intro e he
          cases hb2 : Region.binds .any e with
          | false => rfl
          | true =>
            have hp : e.on ∈ preds ops i := by
              simp only [preds, hoi, Option.map_some, Option.getD_some, List.mem_map, List.mem_filter]
              exact ⟨e, ⟨by simpa using he, hb2⟩, rfl⟩
            have hlt := onOk_lt ho hp
            have := (hl _ (by omega)).2 (ih2 _ hlt (by omega))
            simp [this]
      exact key i hi

/-! ### The region as a step of a simulation -/
def All (l : List Nat) (p : Nat → Prop) : Prop :=
  match l with
  | [] => True
  | i :: l => p i ∧ All l p
theorem All.nil {p : Nat → Prop} : All [] p := trivial
theorem All.cons {l : List Nat} {p : Nat → Prop} {i : Nat} (h : p i) (r : All l p) : All (i :: l) p := ⟨h, r⟩
theorem All.mem {l : List Nat} {p : Nat → Prop} (h : All l p) {i : Nat} (hi : i ∈ l) : p i := by
  induction l with
  | nil => cases hi
  | cons j l ih =>
    rcases List.mem_cons.1 hi with rfl | hi
    · exact h.1
    · exact ih h.2 hi
def Agree (l : List Nat) (f g : Nat → Value) : Prop :=
  match l with
  | [] => True
  | i :: l => f i = g i ∧ Agree l f g
theorem Agree.mem {l : List Nat} {f g : Nat → Value} (h : Agree l f g) {i : Nat} (hi : i ∈ l) : f i = g i := by
  induction l with
  | nil => cases hi
  | cons j l ih =>
    rcases List.mem_cons.1 hi with rfl | hi
    · exact h.1
    · exact ih h.2 hi
def envL (ops : Array Oper) (val : Nat → Value) (E : Env) : List Nat → Env
  | [] => E
  | i :: L => match dstOf ops i with
    | some d => (d, val i) :: envL ops val E L
    | none => envL ops val E L
theorem envL_congr {ops : Array Oper} {f g : Nat → Value} {E : Env} : ∀ L, (∀ i, i ∈ L → f i = g i) → envL ops f E L = envL ops g E L
  | [], _ => rfl
  | i :: L, h => by
    simp only [envL]
    rw [envL_congr L (fun j hj => h j (List.mem_cons_of_mem _ hj)), h i List.mem_cons_self]
def dstOk (ops : Array Oper) : Bool := (List.range ops.size).all fun i => (List.range ops.size).all fun j => Nat.beq i j || (match dstOf ops i, dstOf ops j with | some a, some b => !Nat.beq a b | _, _ => true)
theorem dst_inj {ops : Array Oper} (h : dstOk ops = true) {i j d : Nat} (hi : dstOf ops i = some d) (hj : dstOf ops j = some d) : i = j := by
  have li : i < ops.size := by
    refine Classical.byContradiction fun x => ?_
    have : ops[i]? = none := Array.getElem?_eq_none (by omega)
    simp [dstOf, this] at hi
  have lj : j < ops.size := by
    refine Classical.byContradiction fun x => ?_
    have : ops[j]? = none := Array.getElem?_eq_none (by omega)
    simp [dstOf, this] at hj
  have h1 := List.all_eq_true.1 h i (by simpa using li)
  have h2 := List.all_eq_true.1 h1 j (by simpa using lj)
  rw [hi, hj, Bool.or_eq_true] at h2
  rcases h2 with e | e
  · exact Nat.eq_of_beq_eq_true e
  · have : Nat.beq d d = true := by simp
    simp [this] at e
theorem envL_w {ops : Array Oper} (hd : dstOk ops = true) {val : Nat → Value} {E : Env} {p s : Nat} (hp : dstOf ops p = some s) : ∀ L, p ∈ L → lk (envL ops val E L) s = some (val p)
  | i :: L, h => by
    simp only [envL]
    cases hi : dstOf ops i with
    | none =>
      rcases List.mem_cons.1 h with rfl | h
      · rw [hi] at hp; cases hp
      · exact envL_w hd hp L h
    | some d =>
      simp only [lk]
      cases hb : Nat.beq d s with
      | true =>
        obtain rfl := Nat.eq_of_beq_eq_true hb
        rw [dst_inj hd hi hp]; rfl
      | false =>
        rcases List.mem_cons.1 h with rfl | h
        · rw [hi] at hp; cases hp; simp at hb
        · simpa using envL_w hd hp L h
theorem envL_0 {ops : Array Oper} {val : Nat → Value} {E : Env} {s : Nat} : ∀ L, (∀ i, i ∈ L → dstOf ops i ≠ some s) → lk (envL ops val E L) s = lk E s
  | [], _ => rfl
  | i :: L, h => by
    simp only [envL]
    have ih := envL_0 (val := val) (E := E) L fun j hj => h j (List.mem_cons_of_mem _ hj)
    cases hi : dstOf ops i with
    | none => exact ih
    | some d =>
      simp only [lk]
      have : Nat.beq d s = false := by
        rw [Bool.eq_false_iff]; intro x
        obtain rfl := Nat.eq_of_beq_eq_true x
        exact h i List.mem_cons_self hi
      rw [this]; exact ih
inductive EnvOk (ops : Array Oper) (anc : List (List Nat)) (val : Nat → Value) (E : Env) (i : Nat) : Env → Prop
  | nil : EnvOk ops anc val E i []
  | w {l : Env} {s : Nat} {v : Value} (p : Nat) (hp : (ancAt anc i).contains p = true) (hd : dstOf ops p = some s) (hv : val p = v) (r : EnvOk ops anc val E i l) : EnvOk ops anc val E i ((s, v) :: l)
  | o {l : Env} {s : Nat} {v : Value} (h : lk E s = some v) (hw : ((List.range ops.size).all fun q => (match dstOf ops q with | some d => !Nat.beq d s | none => true) || Nat.beq q i || (ancAt anc q).contains i) = true) (r : EnvOk ops anc val E i l) : EnvOk ops anc val E i ((s, v) :: l)
theorem EnvOk.sub {ops : Array Oper} {anc : List (List Nat)} {val : Nat → Value} {E : Env} {i : Nat} {Ei : Env} (h : EnvOk ops anc val E i Ei) (hd : dstOk ops = true) {L : List Nat} (hi : i ∉ L) (hb : ∀ j, j ∈ L → j < ops.size)
    (h1 : ∀ p, p ∈ ancAt anc i → p ∈ L) (h2 : ∀ q, q ∈ L → ∀ p, p ∈ ancAt anc q → p ∈ L) : Sub Ei (envL ops val E L) := by
  induction h with
  | nil => trivial
  | w p hp hdst hv r ih => exact ⟨by rw [envL_w hd hdst L (h1 p (by simpa using hp)), hv], ih⟩
  | @o l s v h hw r ih =>
    refine ⟨?_, ih⟩
    rw [envL_0 L fun q hq => ?_]
    · exact h
    · intro hds
      have := List.all_eq_true.1 hw q (by simpa using hb q hq)
      rw [hds] at this
      simp only [Bool.or_eq_true, Bool.not_eq_true', Nat.beq_eq] at this
      rcases this with (e | e) | e
      · simp at e
      · have e := Nat.eq_of_beq_eq_true (by simpa using e); subst e; exact hi hq
      · exact hi (h2 q hq i (by simpa using e))
section
variable {K : Cx} {R S Y : Type} {Q : Post R} {E : Env} {H : List HA} {o : Option R}
def QOb (K : Cx) (ops : Array Oper) (anc : List (List Nat)) (val : Nat → Value) (E : Env) (H : List HA) (i : Nat) : Prop :=
  ∃ op, ops[i]? = some op ∧ ∃ Ei, EnvOk ops anc val E i Ei ∧
    ((op.guard = none ∧ RQ K op Ei H (val i)) ∨
     (∃ j want dj, op.guard = some (j, want) ∧ dstOf ops j = some dj ∧ ((∃ b v, lk Ei dj = some (.bool b) ∧ val i = cv (b == want) v ∧ ((b == want) = true → RQ K op Ei H v)) ∨ (lk Ei dj = some undef ∧ val i = undef))))
theorem QOb.plain {ops : Array Oper} {anc : List (List Nat)} {val : Nat → Value} {i : Nat} {op : Oper} {v : Value} (Ei : Env) (ho : ops[i]? = some op) (hg : op.guard = none) (he : EnvOk ops anc val E i Ei) (h : RQ K op Ei H v) (hv : val i = v) : QOb K ops anc val E H i :=
  ⟨op, ho, Ei, he, .inl ⟨hg, by rw [hv]; exact h⟩⟩
theorem QOb.grd {ops : Array Oper} {anc : List (List Nat)} {val : Nat → Value} {i j dj : Nat} {want b : Bool} {v : Value} {op : Oper} (Ei : Env) (ho : ops[i]? = some op) (hg : op.guard = some (j, want)) (hj : dstOf ops j = some dj) (hb : lk Ei dj = some (.bool b))
    (he : EnvOk ops anc val E i Ei) (h : (b == want) = true → RQ K op Ei H v) (hv : val i = cv (b == want) v) : QOb K ops anc val E H i :=
  ⟨op, ho, Ei, he, .inr ⟨j, want, dj, hg, hj, .inl ⟨b, v, hb, hv, h⟩⟩⟩
def GOk (ops : Array Oper) (op : Oper) (Ei : Env) : Prop :=
  op.guard = none ∨ ∃ j want dj b, op.guard = some (j, want) ∧ dstOf ops j = some dj ∧ lk Ei dj = some (.bool b) ∧ (b == want) = true
def EOb (K : Cx) (ops : Array Oper) (anc : List (List Nat)) {Γ : Type} (val : Γ → Nat → Value) (E : Env) (heap : Nat → Γ → List HA) (m i : Nat) (pre : List Nat) (γ : Γ) : Prop :=
  ∃ op, ops[i]? = some op ∧ ∃ Ei, EnvOk ops anc (val γ) E i Ei ∧ GOk ops op Ei ∧
    RE K (Y := { γ' : Γ // Agree pre (val γ') (val γ) }) op Ei (heap m γ) (fun γ' => val γ'.1 i) (fun γ' => heap (m + 1) γ'.1)
theorem EOb.gen {ops : Array Oper} {anc : List (List Nat)} {Γ Z : Type} {val : Γ → Nat → Value} {heap : Nat → Γ → List HA} {m i : Nat} {pre : List Nat} {γ : Γ} {op : Oper} {v : Z → Value} {H' : Z → List HA} (Ei : Env) (f : Z → Γ) (ho : ops[i]? = some op) (hg : GOk ops op Ei) (he : EnvOk ops anc (val γ) E i Ei)
    (h : RE K (Y := Z) op Ei (heap m γ) v H') (ha : ∀ z, Agree pre (val (f z)) (val γ)) (hv : ∀ z, op.dst = none ∨ v z = val (f z) i) (hH : ∀ z, Ent (H' z) (heap (m + 1) (f z))) : EOb K ops anc val E heap m i pre γ :=
  ⟨op, ho, Ei, he, hg, fun a w hh hs next Q hn => h a w hh hs next Q fun z w' s => by
    have := hn ⟨f z, ha z⟩ w' (s.ent (hH z))
    rcases hv z with e | e
    · rw [e] at this ⊢; exact this
    · rw [e]; exact this⟩
theorem EOb.mk {ops : Array Oper} {anc : List (List Nat)} {Γ Z : Type} {val : Γ → Nat → Value} {heap : Nat → Γ → List HA} {m i : Nat} {pre : List Nat} {γ : Γ} {op : Oper} {v : Z → Value} {H' : Z → List HA} (Ei : Env) (f : Z → Γ) (ho : ops[i]? = some op) (hg : op.guard = none) (he : EnvOk ops anc (val γ) E i Ei)
    (h : RE K (Y := Z) op Ei (heap m γ) v H') (ha : ∀ z, Agree pre (val (f z)) (val γ)) (hv : ∀ z, op.dst = none ∨ v z = val (f z) i) (hH : ∀ z, Ent (H' z) (heap (m + 1) (f z))) : EOb K ops anc val E heap m i pre γ :=
  EOb.gen Ei f ho (.inl hg) he h ha hv hH
theorem EOb.yes {ops : Array Oper} {anc : List (List Nat)} {Γ Z : Type} {val : Γ → Nat → Value} {heap : Nat → Γ → List HA} {m i : Nat} {pre : List Nat} {γ : Γ} {j dj : Nat} {want b : Bool} {op : Oper} {v : Z → Value} {H' : Z → List HA} (Ei : Env) (f : Z → Γ) (ho : ops[i]? = some op) (hg : op.guard = some (j, want)) (hj : dstOf ops j = some dj) (hb : lk Ei dj = some (.bool b)) (hw : (b == want) = true) (he : EnvOk ops anc (val γ) E i Ei)
    (h : RE K (Y := Z) op Ei (heap m γ) v H') (ha : ∀ z, Agree pre (val (f z)) (val γ)) (hv : ∀ z, op.dst = none ∨ v z = val (f z) i) (hH : ∀ z, Ent (H' z) (heap (m + 1) (f z))) : EOb K ops anc val E heap m i pre γ :=
  EOb.gen Ei f ho (.inr ⟨j, want, dj, b, hg, hj, hb, hw⟩) he h ha hv hH
def notBehind (ops : Array Oper) (anc : List (List Nat)) (i : Nat) (pre : List Nat) : Bool := (List.range ops.size).all fun q => pre.contains q || Nat.beq q i || (ancAt anc q).contains i
def stageOk (ops : Array Oper) (anc : List (List Nat)) (effs : List Nat) (i : Nat) (rng : List Nat) : Bool :=
  (List.range (effs.length + 1)).all fun j => rng.contains j || (effs.zipIdx.any fun em => ((ancAt anc i).contains em.1 && Nat.ble j em.2) || ((ancAt anc em.1).contains i && Nat.blt em.2 j))
def chainOk (anc : List (List Nat)) (effs : List Nat) : Bool := (effs.zipIdx.all fun a => effs.zipIdx.all fun b => Nat.ble b.2 a.2 || (ancAt anc b.1).contains a.1)
theorem envL_all {ops : Array Oper} (hd : dstOk ops = true) {val : Nat → Value} {E : Env} {L L' : List Nat} (h : ∀ i, i < ops.size → i ∈ L) (h' : ∀ i, i < ops.size → i ∈ L') (s : Nat) : lk (envL ops val E L) s = lk (envL ops val E L') s := by
  by_cases hw : ∃ p, dstOf ops p = some s
  · obtain ⟨p, hp⟩ := hw
    have lp : p < ops.size := by
      refine Classical.byContradiction fun x => ?_
      have : ops[p]? = none := Array.getElem?_eq_none (by omega)
      simp [dstOf, this] at hp
    rw [envL_w hd hp L (h p lp), envL_w hd hp L' (h' p lp)]
  · rw [envL_0 L fun i _ e => hw ⟨i, e⟩, envL_0 L' fun i _ e => hw ⟨i, e⟩]
theorem Sub.congr {E E' : Env} (h : ∀ s, lk E s = lk E' s) : ∀ {D : Env}, Sub D E → Sub D E'
  | [], _ => trivial
  | (i, v) :: D, ⟨x, y⟩ => ⟨by rw [← h]; exact x, Sub.congr h y⟩
theorem lt_of_some {ops : Array Oper} {i : Nat} {o : Oper} (h : ops[i]? = some o) : i < ops.size := (Array.getElem?_eq_some_iff.1 h).1
theorem wantedG {n : Nat} {ds : List Deferred} {ops : Array Oper} {op : Oper} {Ei : Env} {a : Act} (h : Has n ds Ei a) (hg : GOk ops op Ei) : Region.wanted op (yielded ops a.tmps) = true := by
  rcases hg with hg | ⟨j, want, dj, b, hg, hj, hb, hw⟩
  · simp [Region.wanted, hg]
  · rw [wanted_of h hg hj hb]; exact hw
theorem sim_draw {Γ : Type} {id : Nat} {l : List Oper} (γ0 : Γ) (anc : List (List Nat)) (effs quiets : List Nat) (rng : Nat → List Nat) (pre : Nat → List Nat) (val : Γ → Nat → Value) (heap : Nat → Γ → List HA) (E2 : Γ → Env)
    (hmix : K.P.follows .mixedOrders = true)
    (hon : onOk l.toArray = true) (hanc : ancOk l.toArray anc = true) (hal : Nat.ble anc.length l.length = true) (hdst : dstOk l.toArray = true) (hchain : chainOk anc effs = true)
    (hall : ((List.range l.length).all fun i => effs.contains i || quiets.contains i) = true) (hnd : (effs.zipIdx.all fun a => effs.zipIdx.all fun b => Nat.beq a.2 b.2 || !Nat.beq a.1 b.1) = true)
    (nn : Nat) (hnn : K.n = nn) (hdn : ((List.range l.length).all fun i => match dstOf l.toArray i with | some d => Nat.blt d nn | none => true) = true)
    (hrng : (quiets.all fun i => stageOk l.toArray anc effs i (rng i)) = true)
    (hpre' : (effs.all fun i => notBehind l.toArray anc i (pre i)) = true)
    (h0 : Ent H (heap 0 γ0))
    (hq : All quiets fun i => ∀ γ, All (rng i) fun j => QOb K l.toArray anc (val γ) E (heap j γ) i)
    (he : All (List.range effs.length) fun m => ∀ γ, EOb K l.toArray anc val E heap m (effs.getD m 0) (pre (effs.getD m 0)) γ)
    (hE : ∀ γ, Sub (E2 γ) (envL l.toArray (val γ) E (List.range l.length).reverse))
    (h : ∀ γ, Nrm K Q (E2 γ) (heap effs.length γ) o) : Sim K Q (.region id l.toArray true) E H o := by
  intro r hr a w hh hs
  refine wpIn_region_draw (fun t => ?_)
  rw [hmix, sched_eq]
  have hsz : l.toArray.size = l.length := by simp
  have hal' : anc.length ≤ l.toArray.size := by rw [hsz]; simpa [Nat.ble_eq] using hal
  refine wp_sched (F := fen K.ro) (n := 0) (P := K.P) (Q := Q r)
    (fun L a w => ∃ γ j, j ≤ effs.length ∧ (∀ i, i ∈ L → i < l.toArray.size) ∧ (∀ m e, effs[m]? = some e → (e ∈ L ↔ m < j)) ∧ Has K.n K.ds (envL l.toArray (val γ) E L) a ∧ Sat K.W (heap j γ) w)
    hon ?_ ?_ l.toArray.size t (Array.replicate l.toArray.size false) [] a { w with drawn := w.drawn + 1 } (by simp) (by intro i hi; simp only [Array.getD_eq_getD_getElem?, Array.getElem?_replicate]; split <;> simp) (by intro i hi; cases hi) (by intro i hi; cases hi)
    (by refine Nat.le_trans (List.length_filter_le _ _) (by simp)) ⟨γ0, 0, Nat.zero_le _, (by intro i hi; cases hi), (by intro m e _; simp), hh, (hs.drew _).ent h0⟩
  · -- a step
    rintro i op L a w hoi hno hpre hcl ⟨γ, j, hj, hb, hst, hhas, hsat⟩
    have hi : i < l.toArray.size := lt_of_some hoi
    have hil : i < l.length := by rwa [hsz] at hi
    have h1 : ∀ p, p ∈ ancAt anc i → p ∈ L := anc_done hon hanc hal' hcl i hpre
    have h2 : ∀ q, q ∈ L → ∀ p, p ∈ ancAt anc q → p ∈ L := fun q hq => anc_done hon hanc hal' hcl q (hcl q hq)
    have hbl : ∀ q, q ∈ i :: L → q < l.toArray.size := by
      intro q hq
      rcases List.mem_cons.1 hq with rfl | hq
      · exact hi
      · exact hb q hq
    have hput : ∀ (γ' : Γ) (a' : Act) (v : Value), Has K.n K.ds (envL l.toArray (val γ') E L) a' → v = val γ' i ∨ op.dst = none → Has K.n K.ds (envL l.toArray (val γ') E (i :: L)) (a'.put op.dst v) := by
      intro γ' a' v hx hv
      simp only [envL, dstOf, hoi, Option.bind_some]
      cases hd : op.dst with
      | none => exact hx
      | some d =>
        rcases hv with rfl | hv
        · refine hx.put _ ?_
          have := List.all_eq_true.1 hdn i (by simpa using hil)
          rw [hnn]
          simpa [dstOf, hoi, hd] using this
        · rw [hd] at hv; cases hv
    by_cases hef : i ∈ effs
    · obtain ⟨m, hm⟩ := List.mem_iff_getElem?.1 hef
      have hml : m < effs.length := (List.getElem?_eq_some_iff.1 hm).1
      have hjm : j = m := by
        have c1 : ¬ m < j := fun x => hno ((hst m i hm).2 x)
        refine Classical.byContradiction fun hne => ?_
        have c2 : j < m := by omega
        have hj2 : effs[j]? = some (effs[j]'(by omega)) := List.getElem?_eq_getElem (by omega)
        have hch := List.all_eq_true.1 hchain (effs[j]'(by omega), j) (by rw [List.mem_zipIdx_iff_getElem?]; exact hj2)
        have hch := List.all_eq_true.1 hch (i, m) (by rw [List.mem_zipIdx_iff_getElem?]; exact hm)
        rw [Bool.or_eq_true] at hch
        rcases hch with e | e
        · have := Nat.le_of_ble_eq_true e; simp at this; omega
        · have := h1 _ (by simpa using e)
          have := (hst j _ hj2).1 this
          omega
      subst hjm
      have hgd : effs.getD j 0 = i := by rw [List.getD_eq_getElem?_getD, hm]; rfl
      obtain ⟨op', ho', Ei, hEi, hg, hre⟩ := he.mem (i := j) (by simpa using hml) γ
      rw [hgd] at ho' hEi hre
      rw [hoi] at ho'
      cases ho'
      have hEnv : Has K.n K.ds Ei a := hhas.sub (hEi.sub hdst hno hb h1 h2)
      rw [if_pos (wantedG hEnv hg)]
      refine hre a w hEnv hsat _ _ ?_
      rintro ⟨γ', hag⟩ w' s'
      refine ⟨γ', j + 1, hml, hbl, ?_, ?_, s'⟩
      · intro m' e' he'
        rw [List.mem_cons]
        by_cases hmm : m' = j
        · subst hmm
          rw [hm] at he'; cases he'
          simp
        · have hne : e' ≠ i := by
            intro x
            rw [x] at he'
            have x1 := List.all_eq_true.1 hnd (i, j) (by rw [List.mem_zipIdx_iff_getElem?]; exact hm)
            have x1 := List.all_eq_true.1 x1 (i, m') (by rw [List.mem_zipIdx_iff_getElem?]; exact he')
            rw [Bool.or_eq_true] at x1
            rcases x1 with y | y
            · exact hmm (Nat.eq_of_beq_eq_true y).symm
            · simp at y
          rw [hst m' e' he']
          constructor
          · rintro (x | x)
            · exact absurd x hne
            · omega
          · intro x; right; omega
      · refine hput γ' a _ ?_ (.inl rfl)
        rw [envL_congr (f := val γ') (g := val γ) L fun q hq => ?_]
        · exact hhas
        · refine hag.mem ?_
          have hnb := List.all_eq_true.1 hpre' i (by simpa using hef)
          have := List.all_eq_true.1 hnb q (by simpa using hb q hq)
          rw [Bool.or_eq_true, Bool.or_eq_true] at this
          rcases this with (e | e) | e
          · simpa using e
          · obtain rfl := Nat.eq_of_beq_eq_true e
            exact absurd hq hno
          · exact absurd (h2 q hq i (by simpa using e)) hno
    · have hqi : i ∈ quiets := by
        have := List.all_eq_true.1 hall i (by simpa using hil)
        rw [Bool.or_eq_true] at this
        rcases this with e | e
        · exact absurd (by simpa using e) hef
        · simpa using e
      have hjr : j ∈ rng i := by
        have := List.all_eq_true.1 hrng i hqi
        have := List.all_eq_true.1 this j (by simp; omega)
        rw [Bool.or_eq_true] at this
        rcases this with e | e
        · simpa using e
        · obtain ⟨⟨e, m⟩, hmem, hc⟩ := List.any_eq_true.1 e
          rw [List.mem_zipIdx_iff_getElem?] at hmem
          rw [Bool.or_eq_true, Bool.and_eq_true, Bool.and_eq_true] at hc
          rcases hc with ⟨x, y⟩ | ⟨x, y⟩
          · have hx := h1 e (by simpa using x)
            have := (hst m e hmem).1 hx
            have := Nat.le_of_ble_eq_true y
            simp at this; omega
          · have hy : m < j := by simpa [Nat.blt_eq] using y
            have he2 := (hst m e hmem).2 hy
            exact absurd (h2 e he2 i (by simpa using x)) hno
      obtain ⟨op', ho', Ei, hEi, hcase⟩ := (hq.mem hqi γ).mem hjr
      rw [hoi] at ho'
      cases ho'
      have hEnv : Has K.n K.ds Ei a := hhas.sub (hEi.sub hdst hno hb h1 h2)
      have hst' : ∀ m e, effs[m]? = some e → (e ∈ i :: L ↔ m < j) := by
        intro m e hme
        rw [List.mem_cons, hst m e hme]
        constructor
        · rintro (x | x)
          · subst x
            exact absurd (List.mem_of_getElem? hme) hef
          · exact x
        · exact fun x => .inr x
      rcases hcase with ⟨hg, hrq⟩ | ⟨jg, want, dj, hg, hdj, hc2⟩
      · rw [if_pos (by simp [Region.wanted, hg])]
        refine hrq a w hEnv hsat _ _ fun w' s' => ⟨γ, j, hj, hbl, hst', hput γ a _ hhas (.inl rfl), s'⟩
      · rcases hc2 with ⟨b, v, hbv, hvi, hrq⟩ | ⟨hu, hvi⟩
        · rw [wanted_of hEnv hg hdj hbv]
          cases hbw : (b == want) with
          | true =>
            rw [hbw] at hvi
            simp only [if_true]
            refine hrq hbw a w hEnv hsat _ _ fun w' s' => ⟨γ, j, hj, hbl, hst', hput γ a _ hhas (.inl hvi.symm), s'⟩
          | false =>
            rw [hbw] at hvi
            simp only [Bool.false_eq_true, if_false]
            exact ⟨fun f _ => fen_fn _ _, γ, j, hj, hbl, hst', hput γ a _ hhas (.inl hvi.symm), hsat⟩
        · have hnw : Region.wanted op (yielded l.toArray a.tmps) = false := by
            simp only [Region.wanted, hg, yielded]
            rw [show ((l.toArray)[jg]?.bind (·.dst)) = some dj from hdj]
            simp [hEnv.get _ _ hu, undef]
          rw [hnw]
          simp only [Bool.false_eq_true, if_false]
          exact ⟨fun f _ => fen_fn _ _, γ, j, hj, hbl, hst', hput γ a _ hhas (.inl hvi.symm), hsat⟩
  · -- the end
    rintro L a w hL ⟨γ, j, hj, hb, hst, hhas, hsat⟩
    have hjl : j = effs.length := by
      refine Classical.byContradiction fun hne => ?_
      have hlt : j < effs.length := by omega
      have hj2 : effs[j]? = some (effs[j]'hlt) := List.getElem?_eq_getElem hlt
      obtain ⟨op', ho', _⟩ := he.mem (i := j) (by simpa using hlt) γ
      rw [List.getD_eq_getElem?_getD, hj2] at ho'
      have := (hst j _ hj2).1 (hL _ (lt_of_some ho'))
      omega
    subst hjl
    refine h γ r hr a w (hhas.sub ((hE γ).congr fun s => ?_)) hsat
    exact envL_all hdst (fun i hi => by simpa using hi) hL s
end
end Go.Proofs.YtbcnegennmpliaaDoor

/- The judgement that a Go body simulates a pure function, and its rules: control flow, loops, cuts, regions, calls. Conditions: none. -/
import Derived.Test.YtbcnegennmpliaaDoorSl1
namespace Go.Proofs.YtbcnegennmpliaaDoor
set_option linter.unusedVariables false
set_option linter.unusedSimpArgs false
open Go.RowKit

structure Cx where
  P : Program
  W : World
  ro : Option Nat
  n : Nat
  ds : List Deferred
def fen : Option Nat → Fence
  | none => Fence.wide
  | some l => Fence.wide.inRound l
theorem fen_fn (ro : Option Nat) (f : FuncId) : (fen ro).fn f := by cases ro <;> trivial
theorem fen_depth (ro : Option Nat) : (fen ro).depth.isSome = true → 1 ≤ 0 := by cases ro <;> (intro h; cases h)
abbrev Post (R : Type) := R → Exit → Act → World → Prop
section defs
variable (K : Cx) {R S Y : Type}
def Sim (Q : Post R) (c : Code) (E : Env) (H : List HA) (o : Option R) : Prop :=
  ∀ r, o = some r → ∀ a w, Has K.n K.ds E a → Sat K.W H w → c.wpIn (fen K.ro) 0 K.P (Q r) a w
def SimL (Q : Post R) (ops : Array Oper) (l : List Oper) (E : Env) (H : List HA) (o : Option R) : Prop :=
  ∀ r, o = some r → ∀ a w, Has K.n K.ds E a → Sat K.W H w → wpListIn (fen K.ro) 0 K.P ops (Q r) l a w
def Nrm (Q : Post R) (E : Env) (H : List HA) (o : Option R) : Prop :=
  ∀ r, o = some r → ∀ a w, Has K.n K.ds E a → Sat K.W H w → Q r .normal a w
def thenQ (c : Code) (Q : Post R) : Post R := fun r => Exit.then (c.wpIn (fen K.ro) 0 K.P (Q r)) (Q r)
def blockQ (id : Nat) (Q : Post R) : Post R := fun r => Exit.inBlock id (Q r)
def cutQ (E : S → Y → Env) (H : S → Y → List HA) : Post S := fun s e a w =>
  match e with
  | .normal => ∃ y, Has K.n K.ds (E s y) a ∧ Sat K.W (H s y) w
  | _ => False
def cutR (Q : Post R) (E : S → Y → Env) (H : S → Y → List HA) : Post (S ⊕ R) := fun sr e a w =>
  match sr with
  | .inl s => match e with
    | .normal => ∃ y, Has K.n K.ds (E s y) a ∧ Sat K.W (H s y) w
    | _ => False
  | .inr r => match e with
    | .normal => False
    | e => Q r e a w
def loopQ (L : S → Option R) (E : S → Y → Env) (H : S → Y → List HA) (Q : Post R) : Post R := fun r e a w =>
  match e with
  | .normal => ∃ s y, L s = some r ∧ Has K.n K.ds (E s y) a ∧ Sat K.W (H s y) w
  | e => Q r e a w
def retQ (fn : Func) (val : R → Y → Value) (B : R → Y → List HA) : Post R := fun r e a w =>
  bodyPost K.P fn (fun e w' => ∃ y, e = .returned (val r y) ∧ Sat K.W (B r y) w') e a w
end defs

def orR {S R : Type} (o1 : Option (S ⊕ R)) (o2 : S → Option R) : Option R :=
  match o1 with
  | none => none
  | some (.inl s) => o2 s
  | some (.inr r) => some r

section rules
variable {K : Cx} {R S Y : Type} {Q : Post R} {E : Env} {H : List HA} {o : Option R}
theorem sim_seq {c1 c2 : Code} (h : Sim K (thenQ K c2 Q) c1 E H o) : Sim K Q (.seq c1 c2) E H o :=
  fun r hr a w he hs => wpIn_seq (h r hr a w he hs)
theorem sim_block {id : Nat} {c : Code} (h : Sim K (blockQ id Q) c E H o) : Sim K Q (.block id c) E H o :=
  fun r hr a w he hs => wpIn_block (h r hr a w he hs)
theorem sim_skip (h : Nrm K Q E H o) : Sim K Q .skip E H o := fun r hr a w he hs => wpIn_skip (h r hr a w he hs)
theorem sim_region {id : Nat} {l : List Oper} (h : SimL K Q l.toArray l E H o) : Sim K Q (.region id l.toArray false) E H o :=
  fun r hr a w he hs => wpIn_region_lit (h r hr a w he hs)
theorem simL_nil {ops : Array Oper} (h : Nrm K Q E H o) : SimL K Q ops [] E H o := h
theorem nrm_then {c : Code} (h : Sim K Q c E H o) : Nrm K (thenQ K c Q) E H o := h
theorem nrm_block {id : Nat} (h : Nrm K Q E H o) : Nrm K (blockQ id Q) E H o := h
theorem sim_none {c : Code} : Sim K Q c E H none := fun _ h => nomatch h
theorem simL_none {ops : Array Oper} {l : List Oper} : SimL K Q ops l E H none := fun _ h => nomatch h
theorem sim_cond {x : Operand} {c1 c2 : Code} {p : Prop} [Decidable p] {o1 o2 : Option R} (hx : ev E x = some (.bool (decide p)))
    (h1 : p → Sim K Q c1 E H o1) (h2 : ¬ p → Sim K Q c2 E H o2) : Sim K Q (.cond x c1 c2) E H (if p then o1 else o2) := by
  intro r hr a w he hs
  by_cases hp : p
  · rw [if_pos hp] at hr
    exact wpIn_cond_true (by rw [he.ev hx]; simp [hp]) (h1 hp r hr a w he hs)
  · rw [if_neg hp] at hr
    exact wpIn_cond_false (by rw [he.ev hx]; simp [hp]) (h2 hp r hr a w he hs)
theorem sim_condb {x : Operand} {c1 c2 : Code} {b : Bool} {o1 o2 : Option R} (hx : ev E x = some (.bool b))
    (h1 : b = true → Sim K Q c1 E H o1) (h2 : b = false → Sim K Q c2 E H o2) : Sim K Q (.cond x c1 c2) E H (if b = true then o1 else o2) := by
  intro r hr a w he hs
  cases b with
  | true => exact wpIn_cond_true (he.ev hx) (h1 rfl r (by simpa using hr) a w he hs)
  | false => exact wpIn_cond_false (he.ev hx) (h2 rfl r (by simpa using hr) a w he hs)
theorem sim_condn {x : Operand} {c1 c2 : Code} {p : Prop} [Decidable p] {o1 o2 : Option R} (hx : ev E x = some (.bool (!decide p)))
    (h1 : p → Sim K Q c2 E H o1) (h2 : ¬ p → Sim K Q c1 E H o2) : Sim K Q (.cond x c1 c2) E H (if p then o1 else o2) := by
  intro r hr a w he hs
  by_cases hp : p
  · rw [if_pos hp] at hr
    exact wpIn_cond_false (by rw [he.ev hx]; simp [hp]) (h1 hp r hr a w he hs)
  · rw [if_neg hp] at hr
    exact wpIn_cond_true (by rw [he.ev hx]; simp [hp]) (h2 hp r hr a w he hs)
theorem sim_if {c : Code} {p : Prop} [Decidable p] {o1 o2 : Option R} (h1 : p → Sim K Q c E H o1) (h2 : ¬ p → Sim K Q c E H o2) : Sim K Q c E H (if p then o1 else o2) := by
  by_cases hp : p
  · rw [if_pos hp]; exact h1 hp
  · rw [if_neg hp]; exact h2 hp
theorem simL_if {ops : Array Oper} {l : List Oper} {p : Prop} [Decidable p] {o1 o2 : Option R} (h1 : p → SimL K Q ops l E H o1) (h2 : ¬ p → SimL K Q ops l E H o2) : SimL K Q ops l E H (if p then o1 else o2) := by
  by_cases hp : p
  · rw [if_pos hp]; exact h1 hp
  · rw [if_neg hp]; exact h2 hp
theorem simL_ask {ops : Array Oper} {l : List Oper} {p : Prop} [Decidable p] {o1 : Option R} (h1 : p → SimL K Q ops l E H o1) : SimL K Q ops l E H (if p then o1 else none) :=
  simL_if h1 fun _ => simL_none
theorem sim_ask {c : Code} {p : Prop} [Decidable p] {o1 : Option R} (h1 : p → Sim K Q c E H o1) : Sim K Q c E H (if p then o1 else none) :=
  sim_if h1 fun _ => sim_none
theorem simL_bind {ops : Array Oper} {l : List Oper} {o1 : Option S} {o2 : S → Option R} (h : ∀ s, o1 = some s → SimL K Q ops l E H (o2 s)) : SimL K Q ops l E H (o1.bind o2) := by
  cases o1 with
  | none => exact simL_none
  | some s => exact h s rfl
theorem sim_bind {c : Code} {o1 : Option S} {o2 : S → Option R} (h : ∀ s, o1 = some s → Sim K Q c E H (o2 s)) : Sim K Q c E H (o1.bind o2) := by
  cases o1 with
  | none => exact sim_none
  | some s => exact h s rfl
theorem simL_ent {ops : Array Oper} {l : List Oper} {H' : List HA} (e : Ent H H') (h : SimL K Q ops l E H' o) : SimL K Q ops l E H o :=
  fun r hr a w he hs => h r hr a w he (hs.ent e)
theorem nrm_ent {H' : List HA} (e : Ent H H') (h : Nrm K Q E H' o) : Nrm K Q E H o :=
  fun r hr a w he hs => h r hr a w he (hs.ent e)
theorem simL_pr {ops : Array Oper} {l : List Oper} {p : Prop} (h : p → SimL K Q ops l E H o) : SimL K Q ops l E (pr p :: H) o :=
  fun r hr a w he hs => h hs.pr_out.1 r hr a w he hs.pr_out.2
theorem sim_cut (Y : Type) {c1 c2 : Code} {o1 : Option S} {o2 : S → Option R} (E2 : S → Y → Env) (H2 : S → Y → List HA)
    (h1 : Sim K (cutQ K E2 H2) c1 E H o1) (h2 : ∀ s y, Sim K Q c2 (E2 s y) (H2 s y) (o2 s)) : Sim K Q (.seq c1 c2) E H (o1.bind o2) := by
  intro r hr a w he hs
  cases ho : o1 with
  | none => rw [ho] at hr; cases hr
  | some s =>
    rw [ho] at hr
    refine wpIn_seq (wpIn_mono (h1 s ho a w he hs) ?_)
    intro e a' w' hq
    cases e with
    | normal => obtain ⟨y, x1, x2⟩ := hq; exact h2 s y r hr a' w' x1 x2
    | _ => exact hq.elim
theorem sim_cutR (Y : Type) {c1 c2 : Code} {o1 : Option (S ⊕ R)} {o2 : S → Option R} (E2 : S → Y → Env) (H2 : S → Y → List HA)
    (h1 : Sim K (cutR K Q E2 H2) c1 E H o1) (h2 : ∀ s y, Sim K Q c2 (E2 s y) (H2 s y) (o2 s)) : Sim K Q (.seq c1 c2) E H (orR o1 o2) := by
  intro r hr a w he hs
  cases ho : o1 with
  | none => rw [ho] at hr; cases hr
  | some sr =>
    rw [ho] at hr
    cases sr with
    | inl s =>
      refine wpIn_seq (wpIn_mono (h1 _ ho a w he hs) ?_)
      intro e a' w' hq
      cases e with
      | normal => obtain ⟨y, x1, x2⟩ := hq; exact h2 s y r hr a' w' x1 x2
      | _ => exact hq.elim
    | inr r' =>
      obtain rfl : r' = r := by simpa [orR] using hr
      refine wpIn_seq (wpIn_mono (h1 _ ho a w he hs) ?_)
      intro e a' w' hq
      cases e with
      | normal => exact hq.elim
      | _ => exact hq
theorem nrm_cut {E2 : S → Y → Env} {H2 : S → Y → List HA} {s : S} (y : Y) (hE : Sub (E2 s y) E) (hH : Ent H (H2 s y)) : Nrm K (cutQ K E2 H2) E H (some s) := by
  intro r hr a w he hs
  cases hr
  exact ⟨y, he.sub hE, hs.ent hH⟩
theorem nrm_cutR {E2 : S → Y → Env} {H2 : S → Y → List HA} {s : S} (y : Y) (hE : Sub (E2 s y) E) (hH : Ent H (H2 s y)) : Nrm K (cutR K Q E2 H2) E H (some (.inl s)) := by
  intro r hr a w he hs
  cases hr
  exact ⟨y, he.sub hE, hs.ent hH⟩
theorem wpList_app {F : Fence} {n : Nat} {P : Program} {ops : Array Oper} {Q1 Q2 : Exit → Act → World → Prop} : ∀ (l1 l2 : List Oper) (a : Act) (w : World),
    wpListIn F n P ops Q1 l1 a w → (∀ a w, Q1 .normal a w → wpListIn F n P ops Q2 l2 a w) → (∀ c a w, Q1 (.panic c) a w → Q2 (.panic c) a w) → (∀ a w, Q1 .outgrown a w → Q2 .outgrown a w) → wpListIn F n P ops Q2 (l1 ++ l2) a w
  | [], l2, a, w, h, h2, _, _ => h2 a w h
  | o :: l1, l2, a, w, h, h2, h3, h4 => by
    simp only [List.cons_append, wpListIn] at h ⊢
    split
    · rename_i hw
      rw [if_pos hw] at h
      refine ⟨h.1, ?_⟩
      have mono : ∀ (r : Result Next), o.uponIn F n P a (wpListIn F n P ops Q1 l1) Q1 r → o.uponIn F n P a (wpListIn F n P ops Q2 (l1 ++ l2)) Q2 r := by
        intro r hr
        have nx : ∀ a w, wpListIn F n P ops Q1 l1 a w → wpListIn F n P ops Q2 (l1 ++ l2) a w := fun a w x => wpList_app l1 l2 a w x h2 h3 h4
        have og : LetsOut Q1 → LetsOut Q2 := fun ⟨a, w, x⟩ => ⟨a, w, h4 a w x⟩
        cases r with
        | ok nxt w' =>
          cases nxt with
          | value v => exact nx _ _ hr
          | skip => exact nx _ _ hr
          | defer d => exact nx _ _ hr
          | enter f args =>
            refine ⟨hr.1, hr.2.mono ?_⟩
            intro e w'' x
            cases e with
            | returned v => exact nx _ _ x
            | panicked c => exact h3 _ _ _ x
            | outgrown => exact og x
          | row row args => exact ⟨hr.1, hr.2.mono fun v w'' x => nx _ _ x⟩
          | round l f tmps assign body =>
            refine ⟨hr.1, hr.2.mono ?_⟩
            intro e w'' x
            cases e with
            | returned v => exact nx _ _ x
            | panicked c => exact h3 _ _ _ x
            | outgrown => exact og x
          | _ => exact hr.elim
        | halt h w' => cases h <;> first | exact h3 _ _ _ hr | exact hr.elim
      exact mono _ h.2
    · rename_i hw
      rw [if_neg hw] at h
      exact ⟨h.1, wpList_app l1 l2 _ w h.2 h2 h3 h4⟩
theorem simL_cut (Y : Type) {ops : Array Oper} {l1 l2 : List Oper} {o1 : Option S} {o2 : S → Option R} (E2 : S → Y → Env) (H2 : S → Y → List HA)
    (h1 : SimL K (cutQ K E2 H2) ops l1 E H o1) (h2 : ∀ s y, SimL K Q ops l2 (E2 s y) (H2 s y) (o2 s)) : SimL K Q ops (l1 ++ l2) E H (o1.bind o2) := by
  intro r hr a w he hs
  cases ho : o1 with
  | none => rw [ho] at hr; cases hr
  | some s =>
    rw [ho] at hr
    exact wpList_app l1 l2 a w (h1 s ho a w he hs) (fun a' w' ⟨y, x1, x2⟩ => h2 s y r hr a' w' x1 x2) (fun _ _ _ x => x.elim) (fun _ _ x => x.elim)

theorem sim_loop {c : Code} (Y : Type) (L : Nat → S → Option R) (Es : S → Y → Env) (Hs : S → Y → List HA) (h0 : ∀ s, L 0 s = none)
    (hb : ∀ k s y, Sim K (loopQ K (L k) Es Hs Q) c (Es s y) (Hs s y) (L (k + 1) s)) (k : Nat) (s : S) (y : Y) (hE : Sub (Es s y) E) (hH : Ent H (Hs s y)) :
    Sim K Q (.loop c) E H (L k s) := by
  intro r hr a w he hs
  refine wpIn_wpghost (fun j a w => ∃ s y, L j s = some r ∧ Has K.n K.ds (Es s y) a ∧ Sat K.W (Hs s y) w) k ⟨s, y, hr, he.sub hE, hs.ent hH⟩ ?_
  rintro j a w ⟨s, y, hr, he, hs⟩
  cases j with
  | zero => rw [h0] at hr; cases hr
  | succ j =>
    refine wpIn_mono (hb j s y r hr a w he hs) ?_
    intro e a' w' hq
    cases e with
    | normal => exact ⟨j, Nat.lt_succ_self j, hq⟩
    | _ => exact hq
where
  wpIn_wpghost {F : Fence} {n : Nat} {P : Program} {Q : Exit → Act → World → Prop} {a : Act} {w : World} {c : Code} (I : Nat → Act → World → Prop) (n₀ : Nat) (h₀ : I n₀ a w)
      (round : ∀ m a w, I m a w → c.wpIn F n P (Exit.then (fun a' w' => ∃ k, k < m ∧ I k a' w') Q) a w) : (Code.loop c).wpIn F n P Q a w := by
    intro b k cs hro hb hr
    have key : ∀ j a w, I j a w →
        ∃ e a' w', Q e a' w' ∧ ArrivesIn (Machine.fenced P F) P (lone (b.atR a (.code c :: .inLoop c :: k)) cs w) b k cs e a' w' := by
      intro j
      induction j using Nat.strongRecOn with
      | _ j ih =>
        intro a w hI
        obtain ⟨e, a₁, w₁, hq, harr⟩ := round j a w hI b (.inLoop c :: k) cs hro hb hr
        cases e with
        | normal =>
          obtain ⟨j', hlt, hI₁⟩ := hq
          obtain ⟨e₂, a₂, w₂, hq₂, harr₂⟩ := ih j' hlt a₁ w₁ hI₁
          exact ⟨e₂, a₂, w₂, hq₂, .of_steps (StepsIn.trans harr (.one (fenced_calm hb hr rfl) stepR_inLoop)) harr₂⟩
        | exit id => exact ⟨_, a₁, w₁, hq, .pass (x := .inLoop c) rfl (fun _ _ => .inl (by simp)) harr⟩
        | goto l => exact ⟨_, a₁, w₁, hq, .pass (x := .inLoop c) rfl (fun _ _ => .inl (by simp)) harr⟩
        | ret => exact ⟨_, a₁, w₁, hq, .pass (x := .inLoop c) rfl (fun _ _ => .inl (by simp)) harr⟩
        | panic ch => exact ⟨_, a₁, w₁, hq, .pass (x := .inLoop c) rfl (fun _ _ => .inl (by simp)) harr⟩
        | outgrown => exact ⟨_, a₁, w₁, hq, .pass (x := .inLoop c) rfl (fun _ _ => .inl (by simp)) harr⟩
    obtain ⟨e, a', w', hq, harr⟩ := key _ a w h₀
    exact ⟨e, a', w', hq, .of_steps (.one (fenced_calm hb hr rfl) stepR_loop) harr⟩
theorem nrm_again {L : S → Option R} {Es : S → Y → Env} {Hs : S → Y → List HA} {s : S} (y : Y) (hE : Sub (Es s y) E) (hH : Ent H (Hs s y)) : Nrm K (loopQ K L Es Hs Q) E H (L s) :=
  fun _ hr _ _ he hs => ⟨s, y, hr, he.sub hE, hs.ent hH⟩
/-! ### Results -/
def resL : List ResultVar → Env → Option (List Value)
  | [], _ => some []
  | .tmp t :: l, E => match lk E t, resL l E with
    | some v, some vs => some (v :: vs)
    | _, _ => none
  | .cell .. :: _, _ => none
def tup : List Value → Value
  | [v] => v
  | vs => .tuple vs.toArray
theorem mapM_res {n : Nat} {ds : List Deferred} {a : Act} {P : Program} {w : World} (he : Has n ds E a) (g : ResultVar → Sem Value) (hg : ∀ t, g (.tmp t) = Sem.pure (a.tmps.getD t undef)) : ∀ (l : List ResultVar) (vs : List Value), resL l E = some vs →
    (l.mapM g).run P w = .ok vs w
  | [], vs, h => by simp [resL] at h; subst h; rfl
  | .tmp t :: l, vs, h => by
    simp only [resL] at h
    split at h
    · rename_i v vs' h1 h2
      cases h
      have ih := mapM_res (P := P) (w := w) he g hg l vs' h2
      have := he.get _ _ h1
      simp only [List.mapM_cons, Sem.run_bind, hg, Sem.run_pure', Result.andThen_ok]
      rw [ih]
      simp [Array.getD_eq_getD_getElem?, this]
    · cases h
  | .cell .. :: l, vs, h => by simp [resL] at h
theorem results_of {n : Nat} {ds : List Deferred} {a : Act} {P : Program} {w : World} {fn : Func} (he : Has n ds E a) {vs : List Value} (h : resL fn.results.toList E = some vs) :
    (results fn a.tmps).run P w = .ok (tup vs) w := by
  unfold results
  simp only [Sem.run_bind]
  rw [← Array.toArray_toList (xs := fn.results), List.mapM_toArray]
  simp only [Sem.run_map]
  rw [mapM_res (P := P) (w := w) he _ (fun _ => rfl) fn.results.toList vs h]
  simp only [Result.andThen_ok]
  match vs with
  | [] => simp [tup]
  | [v] => simp [tup]
  | v :: u :: t => simp [tup]
theorem nrm_ret {fn : Func} {val : R → Y → Value} {B : R → Y → List HA} {r : R} {vs : List Value} (y : Y) (hd : K.ds = []) (hres : resL fn.results.toList E = some vs) (hv : tup vs = val r y) (hH : Ent H (B r y)) :
    ∀ r', some r = some r' → ∀ a w, Has K.n K.ds E a → Sat K.W H w → a.defers = [] ∧ ∃ v, (results fn a.tmps).run K.P w = .ok v w ∧ ∃ y, Ending.returned v = .returned (val r' y) ∧ Sat K.W (B r' y) w := by
  intro r' hr a w he hs
  cases hr
  exact ⟨he.defers.trans hd, _, results_of he hres, y, by rw [hv], hs.ent hH⟩
/-! ### Functions -/
end rules
def Fn (P : Program) (W : World) (f : FuncId) (args : List Value) (A : List HA) (F : HA) {R Y : Type} (o : Option R) (val : R → Y → Value) (B : R → Y → List HA) : Prop :=
  ∀ r, o = some r → ∀ w, Sat W (A ++ [F]) w → Calls P f args.toArray w fun e w' => ∃ y, e = .returned (val r y) ∧ Sat W (B r y ++ [F]) w'
def argE : Nat → List Value → Env
  | _, [] => []
  | i, v :: l => (i, v) :: argE (i + 1) l
theorem argE_get : ∀ (l : List Value) (i j : Nat) (v : Value), lk (argE i l) j = some v → ∃ k, j = i + k ∧ l[k]? = some v
  | [], i, j, v, h => by simp [argE, lk] at h
  | u :: l, i, j, v, h => by
    simp only [argE, lk] at h
    cases hb : Nat.beq i j with
    | true =>
      rw [hb] at h
      exact ⟨0, (Nat.eq_of_beq_eq_true hb).symm, by simpa using h⟩
    | false =>
      rw [hb] at h
      obtain ⟨k, h1, h2⟩ := argE_get l (i + 1) j v h
      exact ⟨k + 1, by omega, by simpa using h2⟩
theorem has_args (args : List Value) (n : Nat) (hn : args.length ≤ n) : Has n [] (argE 0 args) { tmps := args.toArray ++ Array.replicate (n - args.toArray.size) undef, defers := [] } := by
  refine ⟨by simp; omega, rfl, fun i v h => ?_⟩
  obtain ⟨k, rfl, h2⟩ := argE_get args 0 i v h
  have hk : k < args.length := (List.getElem?_eq_some_iff.1 h2).1
  simp only [Nat.zero_add]
  rw [Array.getElem?_append_left (by simpa using hk)]
  simpa using h2
theorem fn_intro {P : Program} {W : World} {f : FuncId} {args : List Value} {A : List HA} {F : HA} {R Y : Type} {o : Option R} {val : R → Y → Value} {B : R → Y → List HA}
    {fn : Func} {c : Code} (n : Nat) (hf : P.funcs[f]? = some fn) (hb : fn.body = some c) (hn : fn.ntmps = n) (hl : Nat.ble args.length n = true)
    (h : Sim ⟨P, W, none, n, []⟩ (retQ ⟨P, W, none, n, []⟩ fn val fun r y => B r y ++ [F]) c (argE 0 args) (A ++ [F]) o) : Fn P W f args A F o val B := by
  intro r hr w hs
  refine (callsIn_wide (n := 0)).1 (callsIn_of_wp hf hb trivial ?_ rfl)
  have := h r hr _ w (has_args args n (by simpa [Nat.ble_eq] using hl)) hs
  rw [hn]
  exact this

/-! ### Operations -/
section ops
variable (K : Cx) {R Y : Type}
def RQ (o : Oper) (E : Env) (H : List HA) (v : Value) : Prop :=
  ∀ a w, Has K.n K.ds E a → Sat K.W H w → ∀ next Q, (∀ w', Sat K.W H w' → next (a.put o.dst v) w') → o.wpIn (fen K.ro) 0 K.P a w next Q
def RE (o : Oper) (E : Env) (H : List HA) (v : Y → Value) (H' : Y → List HA) : Prop :=
  ∀ a w, Has K.n K.ds E a → Sat K.W H w → ∀ next Q, (∀ y w', Sat K.W (H' y) w' → next (a.put o.dst (v y)) w') → o.wpIn (fen K.ro) 0 K.P a w next Q
end ops
section
variable {K : Cx} {R S Y : Type} {Q : Post R} {E : Env} {H : List HA} {opt : Option R} {ops : Array Oper} {rest : List Oper} {o : Oper}
theorem RE.rq {v : Y → Value} {H' : Y → List HA} {u : Value} (h : RE K o E H v H') (hv : ∀ y, v y = u) (hH : ∀ y, Ent (H' y) H) : RQ K o E H u :=
  fun a w he hs next Q hn => h a w he hs next Q fun y w' s => by rw [hv]; exact hn w' (s.ent (hH y))
theorem RQ.sub {v : Value} {E' : Env} (s : Sub E' E) (h : RQ K o E' H v) : RQ K o E H v := fun a w he hs => h a w (he.sub s) hs
theorem simL_val {d : Nat} {v : Value} (hr : RQ K o E H v) (hg : o.guard = none) (hd : o.dst = some d) (hn : Nat.blt d K.n = true)
    (h : SimL K Q ops rest ((d, v) :: E) H opt) : SimL K Q ops (o :: rest) E H opt := by
  intro r hr' a w he hs
  refine wpListIn_plain hg fun K' hK' => hr a w he hs _ _ fun w' s => hK' _ _ ?_
  rw [hd]
  exact h r hr' _ w' (he.put v hn) s
theorem simL_do {v : Y → Value} {H' : Y → List HA} (hr : RE K o E H v H') (hg : o.guard = none) (hd : o.dst = none)
    (h : ∀ y, SimL K Q ops rest E (H' y) opt) : SimL K Q ops (o :: rest) E H opt := by
  intro r hr' a w he hs
  refine wpListIn_plain hg fun K' hK' => hr a w he hs _ _ fun y w' s => hK' _ _ ?_
  rw [hd]
  exact h y r hr' _ w' he s
theorem simL_eff {d : Nat} {v : Y → Value} {H' : Y → List HA} (hr : RE K o E H v H') (hg : o.guard = none) (hd : o.dst = some d) (hn : Nat.blt d K.n = true)
    (h : ∀ y, SimL K Q ops rest ((d, v y) :: E) (H' y) opt) : SimL K Q ops (o :: rest) E H opt := by
  intro r hr' a w he hs
  refine wpListIn_plain hg fun K' hK' => hr a w he hs _ _ fun y w' s => hK' _ _ ?_
  rw [hd]
  exact h y r hr' _ w' (he.put _ hn) s
/-! A guard: the operation is carried out, or not. -/
theorem wanted_of {E : Env} {n : Nat} {ds : List Deferred} {a : Act} (he : Has n ds E a) {j dj : Nat} {want b : Bool} (hg : o.guard = some (j, want)) (hj : ((ops[j]?).bind (·.dst)) = some dj) (hb : lk E dj = some (.bool b)) :
    Region.wanted o (yielded ops a.tmps) = (b == want) := by
  simp only [Region.wanted, hg, yielded, hj, Option.bind_some, he.get _ _ hb]
  cases b <;> cases want <;> rfl
theorem simL_yes {j dj : Nat} {want b : Bool} (hg : o.guard = some (j, want)) (hj : ((ops[j]?).bind (·.dst)) = some dj) (hb : lk E dj = some (.bool b)) (hw : (b == want) = true)
    (h : ∀ r, opt = some r → ∀ a w, Has K.n K.ds E a → Sat K.W H w → ∀ next, (∀ a w, wpListIn (fen K.ro) 0 K.P ops (Q r) rest a w → next a w) → o.wpIn (fen K.ro) 0 K.P a w next (Q r)) : SimL K Q ops (o :: rest) E H opt := by
  intro r hr' a w he hs
  refine wpListIn_step fun K' hK' => ?_
  rw [wanted_of he hg hj hb, hw]
  simp only [if_true]
  exact h r hr' a w he hs K' hK'
theorem simL_valg {d j dj : Nat} {want b : Bool} {v : Value} (hr : RQ K o E H v) (hg : o.guard = some (j, want)) (hj : ((ops[j]?).bind (·.dst)) = some dj) (hb : lk E dj = some (.bool b)) (hw : (b == want) = true) (hd : o.dst = some d) (hn : Nat.blt d K.n = true)
    (h : SimL K Q ops rest ((d, v) :: E) H opt) : SimL K Q ops (o :: rest) E H opt :=
  simL_yes hg hj hb hw fun r hr' a w he hs next hK' => hr a w he hs _ _ fun w' s => hK' _ _ (by rw [hd]; exact h r hr' _ w' (he.put v hn) s)
theorem simL_effg {d j dj : Nat} {want b : Bool} {v : Y → Value} {H' : Y → List HA} (hr : RE K o E H v H') (hg : o.guard = some (j, want)) (hj : ((ops[j]?).bind (·.dst)) = some dj) (hb : lk E dj = some (.bool b)) (hw : (b == want) = true) (hd : o.dst = some d) (hn : Nat.blt d K.n = true)
    (h : ∀ y, SimL K Q ops rest ((d, v y) :: E) (H' y) opt) : SimL K Q ops (o :: rest) E H opt :=
  simL_yes hg hj hb hw fun r hr' a w he hs next hK' => hr a w he hs _ _ fun y w' s => hK' _ _ (by rw [hd]; exact h y r hr' _ w' (he.put _ hn) s)
def cv (g : Bool) (v : Value) : Value := bif g then v else undef
theorem simL_valc {d j dj : Nat} {want b : Bool} {v : Value} (hr : (b == want) = true → RQ K o E H v) (hg : o.guard = some (j, want)) (hj : ((ops[j]?).bind (·.dst)) = some dj) (hb : lk E dj = some (.bool b)) (hd : o.dst = some d) (hn : Nat.blt d K.n = true)
    (h : SimL K Q ops rest ((d, cv (b == want) v) :: E) H opt) : SimL K Q ops (o :: rest) E H opt := by
  cases hw : (b == want) with
  | true =>
    rw [hw] at h
    exact simL_valg (hr hw) hg hj hb hw hd hn h
  | false =>
    rw [hw] at h
    intro r hr' a w he hs
    refine wpListIn_step fun K' hK' => ?_
    rw [wanted_of he hg hj hb, hw]
    simp only [Bool.false_eq_true, if_false]
    refine ⟨fun f _ => fen_fn _ _, hK' _ _ ?_⟩
    rw [hd]
    exact h r hr' _ w (he.put undef hn) hs
end

end Go.Proofs.YtbcnegennmpliaaDoor

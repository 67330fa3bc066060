/- Maps whose values are pointers to variables of our own: what each key's pointer leads to belongs to the map; one key's may be taken out. Conditions: none. -/
import Derived.Test.YtbcnegennmpliaaDoorSl21
namespace Go.Proofs.YtbcnegennmpliaaDoor
set_option linter.unusedVariables false
set_option linter.unusedSimpArgs false
set_option linter.unusedSectionVars false
open Go.RowKit
theorem star_pr {p : Prop} {A : HA} {h : Hp} : star (pr p) A h ↔ p ∧ star tt A h := by
  constructor
  · rintro ⟨a, b, d, e, hp, hb⟩; exact ⟨hp, a, b, d, e, trivial, hb⟩
  · rintro ⟨hp, a, b, d, e, _, hb⟩; exact ⟨a, b, d, e, hp, hb⟩
theorem star_left {A A' B : HA} (h : Hp) (ha : ∀ h, A h → A' h) (s : star A B h) : star A' B h := star_mono h ha (fun _ x => x) s
theorem star_right {A B B' : HA} (h : Hp) (hb : ∀ h, B h → B' h) (s : star A B h) : star A B' h := star_mono h (fun _ x => x) hb s
theorem star_swap {A B C : HA} {h : Hp} (s : star A (star B C) h) : star B (star A C) h := by
  rw [← star_assoc, star_comm A B, star_assoc] at s; exact s
abbrev Kps := List (List UInt8 × Nat)
abbrev encP (p : Nat) : Value := .pointer (some ⟨p, 0, none⟩)
section
variable {α β Z : Type} [DecidableEq α] {ek : α → Value} {fp : Nat → β → Z → List HA}
def fileA (fp : Nat → β → Z → List HA) (p : Nat) (v : β) : HA := exs fun y => stars (fp p v y)
def filesA (fp : Nat → β → Z → List HA) : List (α × Nat) → List (α × β) → HA
  | [], [] => tt
  | (k, p) :: l, (k', v) :: m => star (pr (k = k')) (star (fileA fp p v) (filesA fp l m))
  | _, _ => pr False
def filesH (fp : Nat → β → Z → List HA) (x : α) : List (α × Nat) → List (α × β) → HA
  | [], [] => tt
  | (k, p) :: l, (k', v) :: m => star (pr (k = k')) (if k = x then filesA fp l m else star (fileA fp p v) (filesH fp x l m))
  | _, _ => pr False
def fptr (kps : List (α × Nat)) (x : α) : Nat := (mget kps x).getD 0
theorem pr_absorb {p : Prop} {X : HA} {h : Hp} (s : star X (pr p) h) : p := by obtain ⟨_, _, _, _, _, hp⟩ := s; exact hp
theorem filesA_absorb (X : HA) : ∀ (l : List (α × Nat)) (m : List (α × β)) (h : Hp), star X (filesA fp l m) h → filesA fp l m h
  | [], [], h, _ => trivial
  | (k, p) :: l, (k', v) :: m, h, s => by
    simp only [filesA] at s ⊢
    have s1 := star_swap s
    refine star_right h (fun h s => ?_) s1
    have s2 := star_swap s
    exact star_right h (fun h s => filesA_absorb X l m h s) s2
  | [], _ :: _, h, s => pr_absorb s
  | _ :: _, [], h, s => pr_absorb s
theorem filesH_absorb (X : HA) (x : α) : ∀ (l : List (α × Nat)) (m : List (α × β)) (h : Hp), star X (filesH fp x l m) h → filesH fp x l m h
  | [], [], h, _ => trivial
  | (k, p) :: l, (k', v) :: m, h, s => by
    simp only [filesH] at s ⊢
    have s1 := star_swap s
    refine star_right h (fun h s => ?_) s1
    split at s
    · rename_i hk; rw [if_pos hk]; exact filesA_absorb X l m h s
    · rename_i hk; rw [if_neg hk]
      have s2 := star_swap s
      exact star_right h (fun h s => filesH_absorb X x l m h s) s2
  | [], _ :: _, h, s => pr_absorb s
  | _ :: _, [], h, s => pr_absorb s
theorem filesA_keys : ∀ (l : List (α × Nat)) (m : List (α × β)) (h : Hp), filesA fp l m h → l.map (·.1) = m.map (·.1)
  | [], [], h, _ => rfl
  | (k, p) :: l, (k', v) :: m, h, s => by
    simp only [filesA] at s
    obtain ⟨hk, s⟩ := star_pr.1 s
    obtain ⟨_, _, _, _, _, _, h2, _, _, _, s⟩ := s
    simp only [List.map_cons]
    rw [hk, filesA_keys l m h2 s]
  | [], _ :: _, h, s => s.elim
  | _ :: _, [], h, s => s.elim
theorem filesH_keys (x : α) : ∀ (l : List (α × Nat)) (m : List (α × β)) (h : Hp), filesH fp x l m h → l.map (·.1) = m.map (·.1)
  | [], [], h, _ => rfl
  | (k, p) :: l, (k', v) :: m, h, s => by
    simp only [filesH] at s
    obtain ⟨hk, s⟩ := star_pr.1 s
    obtain ⟨_, h1, _, _, _, s⟩ := s
    simp only [List.map_cons]
    split at s
    · rw [hk, filesA_keys l m h1 s]
    · obtain ⟨_, h2, _, _, _, s⟩ := s
      rw [hk, filesH_keys x l m h2 s]
  | [], _ :: _, h, s => s.elim
  | _ :: _, [], h, s => s.elim
theorem mget_isSome_keys {γ δ : Type} : ∀ (l : List (α × γ)) (m : List (α × δ)) (x : α), l.map (·.1) = m.map (·.1) → (mget l x).isSome = (mget m x).isSome
  | [], [], x, _ => rfl
  | p :: l, q :: m, x, h => by
    simp only [List.map_cons, List.cons.injEq] at h
    simp only [mget, h.1]
    split
    · rfl
    · exact mget_isSome_keys l m x h.2
  | [], _ :: _, x, h => by simp at h
  | _ :: _, [], x, h => by simp at h
theorem fptr_of {kps : List (α × Nat)} {x : α} (h : (mget kps x).isSome = true) : mget kps x = some (fptr kps x) := by
  unfold fptr
  cases hm : mget kps x with
  | none => rw [hm] at h; cases h
  | some p => rfl
theorem filesA_take (x : α) (v : β) : ∀ (l : List (α × Nat)) (m : List (α × β)) (h : Hp), mget m x = some v → filesA fp l m h → star (fileA fp (fptr l x) v) (filesH fp x l m) h
  | [], [], h, hx, _ => by simp [mget] at hx
  | (k, p) :: l, (k', u) :: m, h, hx, s => by
    simp only [filesA] at s
    have hk := (star_pr.1 s).1
    subst hk
    rw [filesH]
    by_cases hkx : k = x
    · rw [if_pos hkx]
      simp only [mget, if_pos hkx, Option.some.injEq] at hx
      have hp : fptr ((k, p) :: l) x = p := by simp [fptr, mget, hkx]
      rw [hp, ← hx]
      exact star_swap s
    · rw [if_neg hkx]
      simp only [mget, if_neg hkx] at hx
      have hp : fptr ((k, p) :: l) x = fptr l x := by simp [fptr, mget, hkx]
      rw [hp]
      have s2 := star_right h (fun h s => star_right h (fun h s => filesA_take x v l m h hx s) s) s
      exact star_swap (star_right h (fun h s => star_swap s) s2)
  | [], _ :: _, h, _, s => s.elim
  | _ :: _, [], h, _, s => s.elim
theorem filesH_fill (x : α) (v : β) : ∀ (l : List (α × Nat)) (m : List (α × β)) (h : Hp), (mget l x).isSome = true → star (fileA fp (fptr l x) v) (filesH fp x l m) h → filesA fp l (mput m x v) h
  | [], m, h, hx, _ => by simp [mget] at hx
  | (k, p) :: l, (k', u) :: m, h, hx, s => by
    simp only [filesH] at s
    have s1 := star_swap s
    have hk := (star_pr.1 s1).1
    subst hk
    by_cases hkx : k = x
    · have hp : fptr ((k, p) :: l) x = p := by simp [fptr, mget, hkx]
      rw [hp, if_pos hkx] at s1
      subst hkx
      rw [mput, if_pos rfl, filesA]
      exact s1
    · simp only [mget, if_neg hkx] at hx
      have hp : fptr ((k, p) :: l) x = fptr l x := by simp [fptr, mget, hkx]
      rw [hp, if_neg hkx] at s1
      rw [mput, if_neg hkx, filesA]
      exact star_right h (fun h s => star_right h (fun h s => filesH_fill x v l m h hx s) (star_swap s)) s1
  | _ :: _, [], h, _, s => (pr_absorb s).elim
theorem filesH_del (x : α) : ∀ (l : List (α × Nat)) (m : List (α × β)) (h : Hp), filesH fp x l m h → filesA fp (mdel l x) (mdel m x) h
  | [], [], h, _ => trivial
  | (k, p) :: l, (k', u) :: m, h, s => by
    simp only [filesH] at s
    have hk := (star_pr.1 s).1
    subst hk
    by_cases hkx : k = x
    · rw [if_pos hkx] at s
      simp only [mdel, if_pos hkx]
      exact filesA_absorb _ _ _ _ s
    · rw [if_neg hkx] at s
      rw [mdel, mdel, if_neg hkx, if_neg hkx, filesA]
      exact star_right h (fun h s => star_right h (fun h s => filesH_del x l m h s) s) s
  | [], _ :: _, h, s => s.elim
  | _ :: _, [], h, s => s.elim
theorem filesA_del (x : α) : ∀ (l : List (α × Nat)) (m : List (α × β)) (h : Hp), filesA fp l m h → filesA fp (mdel l x) (mdel m x) h
  | [], [], h, _ => trivial
  | (k, p) :: l, (k', u) :: m, h, s => by
    simp only [filesA] at s
    have hk := (star_pr.1 s).1
    subst hk
    by_cases hkx : k = x
    · simp only [mdel, if_pos hkx]
      exact filesA_absorb _ _ _ _ (filesA_absorb_star s)
    · rw [mdel, mdel, if_neg hkx, if_neg hkx, filesA]
      exact star_right h (fun h s => star_right h (fun h s => filesA_del x l m h s) s) s
  | [], _ :: _, h, s => s.elim
  | _ :: _, [], h, s => s.elim
where
  filesA_absorb_star {X Y C : HA} {h : Hp} (s : star X (star Y C) h) : star (star X Y) C h := by rw [star_assoc]; exact s
theorem filesA_put (x : α) (p : Nat) (v : β) : ∀ (l : List (α × Nat)) (m : List (α × β)) (h : Hp), star (fileA fp p v) (filesA fp l m) h → filesA fp (mput l x p) (mput m x v) h
  | [], [], h, s => by
    simp only [mput, filesA]
    exact star_pr.2 ⟨trivial, tt_star_self s⟩
  | (k, q) :: l, (k', u) :: m, h, s => by
    simp only [filesA] at s
    have s1 := star_swap s
    have hk := (star_pr.1 s1).1
    subst hk
    by_cases hkx : k = x
    · rw [mput, mput, if_pos hkx, if_pos hkx, filesA]
      refine star_pr.2 ⟨rfl, star_right h (fun h s => ?_) (star_pr.1 s1).2⟩
      exact star_right h (fun h s => filesA_absorb _ _ _ _ s) s
    · rw [mput, mput, if_neg hkx, if_neg hkx, filesA]
      exact star_right h (fun h s => star_right h (fun h s => filesA_put x p v l m h s) (star_swap s)) s1
  | [], _ :: _, h, s => (pr_absorb s).elim
  | _ :: _, [], h, s => (pr_absorb s).elim
def mapF (M : HA) (fp : Nat → β → Z → List HA) (kps : List (α × Nat)) (kvs : List (α × β)) : HA := star M (filesA fp kps kvs)
def mapH (M : HA) (fp : Nat → β → Z → List HA) (kps : List (α × Nat)) (kvs : List (α × β)) (x : α) : HA := star (pr ((mget kps x).isSome = true)) (star M (filesH fp x kps kvs))
def mapU (M : HA) (fp : Nat → β → Z → List HA) (kps : List (α × Nat)) (kvs : List (α × β)) (x : α) (p : Nat) : HA := star M (filesA fp kps kvs)
end
section
variable {α β Z : Type} [DecidableEq α] {ek : α → Value} {fp : Nat → β → Z → List HA} {M : HA} {kps : List (α × Nat)} {kvs : List (α × β)} {l m : List HA}
theorem stars_cons2 {A : HA} {l m : List HA} {h : Hp} : stars (l ++ m) h ↔ star (stars l) (stars m) h := stars_app l m h
theorem Ent.openF {H : List HA} {x : α} {v : β} (k : Nat) (hk : H[k]? = some (mapF M fp kps kvs)) (hx : mget kvs x = some v) :
    Ent H (exs (fun y => stars (fp (fptr kps x) v y)) :: mapH M fp kps kvs x :: H.eraseIdx k) := by
  intro h s
  rw [stars_sel H k _ hk] at s
  have s1 : star (star M (filesA fp kps kvs)) (stars (H.eraseIdx k)) h := s
  have hkeys : (mget kps x).isSome = true := by
    obtain ⟨_, _, _, _, ⟨_, h2, _, _, _, s2⟩, _⟩ := s1
    rw [mget_isSome_keys kps kvs x (filesA_keys _ _ _ s2), hx]; rfl
  rw [star_assoc] at s1
  have s2 := star_right h (fun h s => star_left h (fun h s => filesA_take x v kps kvs h hx s) s) s1
  show star (fileA fp (fptr kps x) v) (star (mapH M fp kps kvs x) (stars (H.eraseIdx k))) h
  unfold mapH
  have s3 : star (fileA fp (fptr kps x) v) (star (star M (filesH fp x kps kvs)) (stars (H.eraseIdx k))) h := by
    rw [star_assoc]
    have s4 := star_right h (fun h s => by rw [star_assoc] at s; exact s) s2
    exact star_swap s4
  refine star_right h (fun h s => ?_) s3
  rw [star_assoc]
  exact star_pr.2 ⟨hkeys, tt_star_self s⟩
theorem Ent.foldF {x : α} {v : β} {p : Nat} (y : Z) (hp : p = fptr kps x) (r : Ent l (mapH M fp kps kvs x :: (fp p v y ++ m))) : Ent l (mapF M fp kps (mput kvs x v) :: m) := by
  intro h s
  subst hp
  have s1 : star (mapH M fp kps kvs x) (stars (fp (fptr kps x) v y ++ m)) h := r h s
  unfold mapH at s1
  rw [star_assoc] at s1
  obtain ⟨hx, s2⟩ := star_pr.1 s1
  have s3 : star (star M (filesH fp x kps kvs)) (star (stars (fp (fptr kps x) v y)) (stars m)) h := by
    have s4 := stars_absorb_tt s2
    exact star_right h (fun h s => (stars_app _ _ h).1 s) s4
  show star (star M (filesA fp kps (mput kvs x v))) (stars m) h
  rw [star_assoc] at s3 ⊢
  refine star_right h (fun h s => ?_) s3
  have s5 := star_swap s
  rw [← star_assoc] at s5
  exact star_left h (fun h s => filesH_fill x v kps kvs h hx (star_left h (fun h s => ⟨y, s⟩) s)) s5
where
  stars_absorb_tt {A : HA} {l : List HA} {h : Hp} (s : star tt (star A (stars l)) h) : star A (stars l) h := star_right h (fun h s => stars_absorb l tt h s) (star_swap s)
theorem mput_same {x : α} {v : β} : ∀ {kvs : List (α × β)}, mget kvs x = some v → mput kvs x v = kvs
  | [], h => by simp [mget] at h
  | p :: l, h => by
    rw [mget] at h
    rw [mput]
    by_cases hp : p.1 = x
    · rw [if_pos hp] at h ⊢
      cases h
      rw [← hp]
    · rw [if_neg hp] at h ⊢
      rw [mput_same h]
theorem Ent.foldF0 {x : α} {v : β} {p : Nat} (y : Z) (hp : p = fptr kps x) (hx : mget kvs x = some v) (r : Ent l (mapH M fp kps kvs x :: (fp p v y ++ m))) : Ent l (mapF M fp kps kvs :: m) := by
  have := Ent.foldF (v := v) y hp r
  rwa [mput_same hx] at this
theorem Ent.foldU {x : α} {v : β} {p : Nat} (y : Z) (r : Ent l (mapU M fp kps kvs x p :: (fp p v y ++ m))) : Ent l (mapF M fp (mput kps x p) (mput kvs x v) :: m) := by
  intro h s
  have s1 : star (star M (filesA fp kps kvs)) (stars (fp p v y ++ m)) h := r h s
  show star (star M (filesA fp (mput kps x p) (mput kvs x v))) (stars m) h
  rw [star_assoc] at s1 ⊢
  refine star_right h (fun h s => ?_) s1
  have s2 := star_right h (fun h s => (stars_app _ _ h).1 s) s
  have s3 := star_swap s2
  rw [← star_assoc] at s3
  exact star_left h (fun h s => filesA_put x p v kps kvs h (star_left h (fun h s => ⟨y, s⟩) s)) s3
theorem Ent.makeF (r : Ent l (M :: m)) : Ent l (mapF M fp [] ([] : List (α × β)) :: m) := by
  intro h s
  have s1 : star M (stars m) h := r h s
  exact star_left h (fun h s => star_tt s) s1
theorem Ent.headF {M2 : HA} (hM : ∀ h, M h → M2 h) (r : Ent l (mapF M fp kps kvs :: m)) : Ent l (mapF M2 fp kps kvs :: m) := fun h s => star_left h (fun h s => star_left h hM s) (r h s)
theorem getD_some {δ : Type} {o : Option δ} {d : δ} (h : o.isSome = true) : o = some (o.getD d) := by cases o with
  | none => cases h
  | some x => rfl
theorem isNone_of {δ : Type} {o : Option δ} (h : ¬ o.isSome = true) : o = none := by cases o with
  | none => rfl
  | some x => exact absurd rfl h
end
section
variable {K : Cx} {R S Y : Type} {Q : Post R} {E : Env} {H : List HA} {opt : Option R} {ops : Array Oper} {rest : List Oper} {o : Oper} {α β Z : Type} [DecidableEq α] {ek : α → Value} {fp : Nat → β → Z → List HA} {T VT t : TypeId} {M : HA} {kps : List (α × Nat)} {kvs : List (α × β)} {c : Code}
theorem sim_openF {x : α} {v : β} (k : Nat) (hk : H[k]? = some (mapF M fp kps kvs)) (hx : mget kvs x = some v)
    (h : ∀ y, Sim K Q c E (fp (fptr kps x) v y ++ (mapH M fp kps kvs x :: H.eraseIdx k)) opt) : Sim K Q c E H opt := by
  refine sim_ent (Ent.openF k hk hx) (sim_exs fun y => sim_ent ?_ (h y))
  intro h s
  exact (stars_app _ _ h).2 s
theorem simL_openF {x : α} {v : β} (k : Nat) (hk : H[k]? = some (mapF M fp kps kvs)) (hx : mget kvs x = some v)
    (h : ∀ y, SimL K Q ops rest E (fp (fptr kps x) v y ++ (mapH M fp kps kvs x :: H.eraseIdx k)) opt) : SimL K Q ops rest E H opt := by
  refine simL_ent (Ent.openF k hk hx) (simL_exs fun y => simL_ent ?_ (h y))
  intro h s
  exact (stars_app _ _ h).2 s
end
section
variable {K : Cx} {R S Y : Type} {Q : Post R} {E : Env} {H : List HA} {opt : Option R} {ops : Array Oper} {rest : List Oper} {o : Oper} {α β Z : Type} [DecidableEq α] {ek : α → Value} {fp : Nat → β → Z → List HA} {T VT t : TypeId} {b : Nat} {kps : List (α × Nat)} {kvs : List (α × β)} {c : Code}
theorem ent_mapF (k : Nat) (hk : H[k]? = some (mapF (mapO b ek encP kps) fp kps kvs)) : Ent H (mapO b ek encP kps :: filesA fp kps kvs :: H.eraseIdx k) := by
  intro h s
  rw [stars_sel H k _ hk] at s
  have s1 : star (star (mapO b ek encP kps) (filesA fp kps kvs)) (stars (H.eraseIdx k)) h := s
  rw [star_assoc] at s1
  exact s1
theorem ent_mapH {x : α} (k : Nat) (hk : H[k]? = some (mapH (mapO b ek encP kps) fp kps kvs x)) : Ent H (mapO b ek encP kps :: filesH fp x kps kvs :: H.eraseIdx k) := by
  intro h s
  rw [stars_sel H k _ hk] at s
  have s1 : star (star (pr ((mget kps x).isSome = true)) (star (mapO b ek encP kps) (filesH fp x kps kvs))) (stars (H.eraseIdx k)) h := s
  rw [star_assoc, star_assoc] at s1
  obtain ⟨_, s2⟩ := star_pr.1 s1
  exact star_right h (fun h s => star_right h (fun h s => stars_absorb _ tt h s) (star_swap s)) (star_swap s2)
def TellsP (H : List HA) (b : Nat) (ek : α → Value) (kps : List (α × Nat)) (kvs : List (α × β)) : Prop := ∃ X rst, Ent H (mapO b ek encP kps :: X :: rst) ∧ ∀ h, X h → kps.map (·.1) = kvs.map (·.1)
theorem tellsF (k : Nat) (hk : H[k]? = some (mapF (mapO b ek encP kps) fp kps kvs)) : TellsP H b ek kps kvs := ⟨_, _, ent_mapF k hk, fun h s => filesA_keys _ _ h s⟩
theorem tellsH {x : α} (k : Nat) (hk : H[k]? = some (mapH (mapO b ek encP kps) fp kps kvs x)) : TellsP H b ek kps kvs := ⟨_, _, ent_mapH k hk, fun h s => filesH_keys x _ _ h s⟩
theorem TellsP.keys (t : TellsP H b ek kps kvs) {W w : World} (s : Sat W H w) : kps.map (·.1) = kvs.map (·.1) := by
  obtain ⟨X, rst, e, hX⟩ := t
  obtain ⟨_, _, _, _, _, ⟨_, _, _, _, hx, _⟩⟩ := (s.ent e).hp
  exact hX _ hx
theorem q_mlookY {x y : Operand} (v : α) (tl : TellsP H b ek kps kvs) (hm : (mget kvs v).isSome = true) (ho : o.op = .lookup t x y false) (hx : Go.Proofs.YtbcnegennmpliaaDoor.ev E x = some (.map (some b))) (hy : Go.Proofs.YtbcnegennmpliaaDoor.ev E y = some (ek v)) (hu : K.P.underlying t = some (.map T VT)) (hK : KeyT K.P T ek) :
    RQ K o E H (.pointer (some ⟨fptr kps v, 0, none⟩)) :=
  rq_same (by rw [ho]; intro c h; cases h) fun a w he s => by
    have hkeys := tl.keys s
    have hp := fptr_of (by rw [mget_isSome_keys kps kvs v hkeys]; exact hm)
    obtain ⟨X, rst, e, hX⟩ := tl
    obtain ⟨es, clock, h1, h2, h3, s2⟩ := (s.ent e).map_open
    have hb := s2.pts_at (i := 0) rfl
    have hf := hK.find w h1 v
    have hg := mpos_get kps v 0
    rw [hp] at hg
    unfold execOp; simp only [ho]; rw [he.ev hx, he.ev hy]
    cases hq : mpos kps v 0 with
    | none => rw [hq] at hg; simp at hg
    | some q =>
      rw [hq] at hf hg
      simp at hg
      simp [Instr.lookup, underlying, program, Sem.run, hu, getObj, hb, hK.chk, hf, hg]
theorem q_mlookN {x y : Operand} (v : α) (tl : TellsP H b ek kps kvs) (hm : mget kvs v = none) (ho : o.op = .lookup t x y false) (hx : Go.Proofs.YtbcnegennmpliaaDoor.ev E x = some (.map (some b))) (hy : Go.Proofs.YtbcnegennmpliaaDoor.ev E y = some (ek v)) (hu : K.P.underlying t = some (.map T VT)) (hK : KeyT K.P T ek) (hz : ∀ w, (zeroValue VT).run K.P w = .ok (.pointer none) w) :
    RQ K o E H (.pointer none) :=
  rq_same (by rw [ho]; intro c h; cases h) fun a w he s => by
    have hkeys := tl.keys s
    have hp : mget kps v = none := by
      have := mget_isSome_keys kps kvs v hkeys
      rw [hm] at this
      exact isNone_of (by rw [this]; simp)
    obtain ⟨X, rst, e, hX⟩ := tl
    obtain ⟨es, clock, h1, h2, h3, s2⟩ := (s.ent e).map_open
    have hb := s2.pts_at (i := 0) rfl
    have hf := hK.find w h1 v
    have hg := mpos_get kps v 0
    rw [hp] at hg
    unfold execOp; simp only [ho]; rw [he.ev hx, he.ev hy]
    cases hq : mpos kps v 0 with
    | none => rw [hq] at hf; simp [Instr.lookup, underlying, program, Sem.run, hu, getObj, hb, hK.chk, hf, hz]
    | some q => rw [hq] at hg; simp at hg
theorem q_mlenF {x : Operand} {ts : Array TypeId} (tl : TellsP H b ek kps kvs) (ho : o.op = .call { callee := .builtin .len, args := #[x], argTypes := ts }) (hx : Go.Proofs.YtbcnegennmpliaaDoor.ev E x = some (.map (some b))) (ht : ts[0]? = some t) (hu : K.P.underlying t = some (.map T VT)) :
    RQ K o E H (.int .i64 (kvs.length : Int)) :=
  rq_same (by rw [ho]; intro c h; cases h) fun a w he s => by
    have hkeys := congrArg List.length (tl.keys s)
    simp only [List.length_map] at hkeys
    obtain ⟨X, rst, e, hX⟩ := tl
    obtain ⟨es, clock, h1, h2, h3, s2⟩ := (s.ent e).map_open
    have hb := s2.pts_at (i := 0) rfl
    have hsz : es.size = kvs.length := by have := congrArg List.length h1; simpa [esOk, hkeys] using this
    unfold execOp; simp only [ho]
    simp [resolve, invoke, builtin, Builtin.len_, ht, underlying, program, Sem.run, hu, he.ev hx, getObj, hb, goInt, hsz]
theorem re_onF {Y : Type} {v : Y → Value} {X : HA} (k : Nat) {M M2 : HA} (hk : H[k]? = some (star M X)) (h : RE K o E (M :: X :: H.eraseIdx k) v (fun _ : Y => M2 :: X :: H.eraseIdx k)) : RE K o E H v (fun _ => H.set k (star M2 X)) := by
  have hl : k < H.length := (List.getElem?_eq_some_iff.1 hk).1
  refine re_eq (RE.ent ?_ h) (fun _ => rfl) fun y => ?_
  · intro h s
    rw [stars_sel H k _ hk] at s
    have s1 : star (star M X) (stars (H.eraseIdx k)) h := s
    rw [star_assoc] at s1
    exact s1
  · intro h s
    rw [← stars_put H k _ hl]
    show star (star M2 X) (stars (H.eraseIdx k)) h
    rw [star_assoc]
    exact s
theorem re_mputF {x y z : Operand} (k : Nat) (v : α) (p : Nat) (ho : o.op = .mapUpdate t x y z) (hx : Go.Proofs.YtbcnegennmpliaaDoor.ev E x = some (.map (some b))) (hy : Go.Proofs.YtbcnegennmpliaaDoor.ev E y = some (ek v)) (hz : Go.Proofs.YtbcnegennmpliaaDoor.ev E z = some (encP p)) (hu : K.P.underlying t = some (.map T VT)) (hK : KeyT K.P T ek) (hk : H[k]? = some (mapF (mapO b ek encP kps) fp kps kvs)) :
    RE K (Y := Unit) o E H (fun _ => undef) (fun _ => H.set k (mapU (mapO b ek encP (mput kps v p)) fp kps kvs v p)) :=
  re_onF k hk (re_mput (kvs := kps) (ev := encP) 0 v p ho hx hy hz hu hK rfl)
theorem re_mdelF {x y : Operand} {ts : Array TypeId} (k : Nat) (v : α) (ho : o.op = .call { callee := .builtin .delete, args := #[x, y], argTypes := ts }) (hx : Go.Proofs.YtbcnegennmpliaaDoor.ev E x = some (.map (some b))) (hy : Go.Proofs.YtbcnegennmpliaaDoor.ev E y = some (ek v)) (ht : ts[0]? = some t) (hu : K.P.underlying t = some (.map T VT)) (hK : KeyT K.P T ek) (hk : H[k]? = some (mapF (mapO b ek encP kps) fp kps kvs)) :
    RE K (Y := Unit) o E H (fun _ => .tuple #[]) (fun _ => H.set k (mapF (mapO b ek encP (mdel kps v)) fp (mdel kps v) (mdel kvs v))) :=
  re_eq (re_onF k hk (re_mdel (kvs := kps) (ev := encP) 0 v ho hx hy ht hu hK rfl)) (fun _ => rfl) fun y => Ent.set k fun h s => star_right h (fun h s => filesA_del v kps kvs h s) s
theorem re_mdelH {x y : Operand} {ts : Array TypeId} (k : Nat) (v : α) (ho : o.op = .call { callee := .builtin .delete, args := #[x, y], argTypes := ts }) (hx : Go.Proofs.YtbcnegennmpliaaDoor.ev E x = some (.map (some b))) (hy : Go.Proofs.YtbcnegennmpliaaDoor.ev E y = some (ek v)) (ht : ts[0]? = some t) (hu : K.P.underlying t = some (.map T VT)) (hK : KeyT K.P T ek) (hk : H[k]? = some (mapH (mapO b ek encP kps) fp kps kvs v)) :
    RE K (Y := Unit) o E H (fun _ => .tuple #[]) (fun _ => H.set k (mapF (mapO b ek encP (mdel kps v)) fp (mdel kps v) (mdel kvs v))) := by
  have hl : k < H.length := (List.getElem?_eq_some_iff.1 hk).1
  have e : Ent H (H.set k (star (mapO b ek encP kps) (filesH fp v kps kvs))) := Ent.set' k hk fun h s => by
    obtain ⟨_, s2⟩ := star_pr.1 s
    exact star_right h (fun h s => filesH_absorb tt v _ _ h s) (star_swap s2)
  have hk2 : (H.set k (star (mapO b ek encP kps) (filesH fp v kps kvs)))[k]? = some (star (mapO b ek encP kps) (filesH fp v kps kvs)) := by simp [hl]
  have r := RE.ent e (re_onF k hk2 (re_mdel (kvs := kps) (ev := encP) 0 v ho hx hy ht hu hK rfl))
  refine re_eq r (fun _ => rfl) fun y => ?_
  intro h s
  rw [List.set_set] at s
  exact Ent.set k (fun h s => star_right h (fun h s => filesH_del v kps kvs h s) s) h s
theorem re_mkmapF {t : TypeId} (ho : o.op = .makeMap t none) : RE K (Y := Nat) o E H (fun b => .map (some b)) (fun b => mapF (mapO b ek encP ([] : List (α × Nat))) fp ([] : List (α × Nat)) ([] : List (α × β)) :: H) :=
  re_eq (re_mkmap (ek := ek) (ev := encP) ho) (fun _ => rfl) fun b => Ent.makeF (Ent.refl _)
theorem isSome_mput {γ : Type} (l : List (α × γ)) (x : α) (v : γ) : (mget (mput l x v) x).isSome = true := by
  induction l with
  | nil => simp [mput, mget]
  | cons p l ih =>
    rw [mput]
    by_cases h : p.1 = x
    · rw [if_pos h, mget, if_pos rfl]; rfl
    · rw [if_neg h, mget, if_neg h]; exact ih
theorem addr_add0 (a : Addr) : a.add 0 = a := by unfold Addr.add; split <;> simp_all
theorem row_take {T : TypeId} {a : Option Addr} {m c n : Nat} {l : List UInt8} (h1 : n ≤ l.length) (h2 : l.length ≤ c) (h : Hp) (s : Row T 1 a m c (encB l) h) : Row T 1 a (l.take n).length n (encB (l.take n)) h := by
  have hl : (l.take n).length = n := by simp; omega
  rcases s with ⟨rfl, h3, h4, h5⟩ | ⟨b, off, pre, junk, fz, rfl, ok, hb⟩
  · have : l = [] := List.eq_nil_of_length_eq_zero (by omega)
    subst this
    have : n = 0 := by simpa using h1
    subst this
    exact Or.inl ⟨rfl, rfl, rfl, rfl⟩
  · refine .inr ⟨b, off, pre, encB (l.drop n) ++ junk, fz, rfl, ⟨ok.offs, by omega, ?_, ?_, ?_, ?_, ?_⟩, ?_⟩
    · have := ok.cap; omega
    · simp [encB_length]; omega
    · simp [encB_length]
    · simp [encB_length]; omega
    · rcases ok.fzok with h | h
      · exact .inl h
      · exact .inr (by omega)
    · have e : encB l = encB (l.take n) ++ encB (l.drop n) := by rw [← encB_take, ← encB_drop, List.take_append_drop]
      rw [hb, e]
      simp only [List.append_assoc]
theorem re_cut3 {x hi mx : Operand} {t e c : Nat} {T : TypeId} {a : Option Addr} {l : List UInt8} {k k' : IntKind} {n : Int} (j : Nat) (ho : o.op = .slice t x none (some hi) (some mx)) (hx : Go.Proofs.YtbcnegennmpliaaDoor.ev E x = some (.slice a l.length c)) (hh : Go.Proofs.YtbcnegennmpliaaDoor.ev E hi = some (.int k n)) (hm : Go.Proofs.YtbcnegennmpliaaDoor.ev E mx = some (.int k' n))
    (hu : K.P.underlying t = some (.slice e)) (hs : ∀ w, (sizeOf e).run K.P w = .ok 1 w) (hk : H[j]? = some (Row T 1 a l.length c (encB l))) (hb : 0 ≤ n ∧ n ≤ (l.length : Int)) :
    RE K (Y := Unit) o E H (fun _ => .slice a (l.take n.toNat).length n.toNat) (fun _ => H.set j (Row T 1 a (l.take n.toNat).length n.toNat (encB (l.take n.toNat)))) :=
  re_run (by rw [ho]; intro c h; cases h) fun a' w he s => by
    obtain ⟨N, rfl⟩ := Int.eq_ofNat_of_zero_le hb.1
    have hN : N ≤ l.length := by omega
    have hlc : l.length ≤ c := by
      rcases (s.focus hk).row_cases with ⟨_, h1, h2, _⟩ | ⟨b, off, pre, junk, fz, _, ok, _⟩
      · omega
      · exact ok.le
    have hlen : (l.take N).length = N := by simp; omega
    refine ⟨(), w, ?_, s.ent (Ent.set' j hk fun h x => row_take hN hlc h x)⟩
    unfold execOp; simp only [ho]
    have e0 : a.map (fun x => x.add 0) = a := by cases a <;> simp [addr_add0]
    have hNc : N ≤ c := by omega
    simp [Instr.sliceAt, Instr.slice, underlying, program, Sem.run, hu, he.ev hx, he.ev hh, he.ev hm, Instr.sliceBounds, Instr.sliceBound, asIntOf, hs, hNc, hlen, e0]
end
end Go.Proofs.YtbcnegennmpliaaDoor

/- The plain law DiskLoads. Conditions: none. -/
import Derived.Test.YtkkbgcocpkipjaaPlDkP
namespace Go.Proofs.Ytkkbgcocpkipjaa
set_option linter.unusedVariables false
set_option linter.unusedSimpArgs false
set_option linter.unusedSectionVars false
open Go.RowKit
/-! ### Load -/
def loadM : List FileT → FSt → Int ⊕ FSt
  | [], fs => .inr fs
  | f :: l, fs => if nmB f.1 = false then .inl 7 else if (mget fs f.1).isSome = true then .inl 9 else if f.2.2 < 0 ∨ (f.2.1.length : Int) < f.2.2 then .inl 1 else loadM l (mput fs f.1 f.2)
structure InvL (fs : FSt) (l : List FileT) : Prop where
  inv : InvN 300 fs
  nmd : Named fs
  len : fs.length + l.length ≤ 300
  sz : szF fs + szF l ≤ 16777216
theorem invL_step {fs : FSt} {f : FileT} {l : List FileT} (h : InvL fs (f :: l)) (h1 : nmB f.1 = true) (h2 : mget fs f.1 = none) (h3 : ¬ (f.2.2 < 0 ∨ (f.2.1.length : Int) < f.2.2)) : InvL (mput fs f.1 f.2) l ∧ (mput fs f.1 f.2).length = fs.length + 1 := by
  obtain ⟨hi, hn, hl, hs⟩ := h
  rw [szF_cons] at hs
  rw [List.length_cons] at hl
  have e1 := szF_mput f.1 f.2 fs
  rw [getF_none (by rw [h2]; rfl)] at e1
  have e2 : (mput fs f.1 f.2).length = fs.length + 1 := by rw [mput_new (by rw [h2]; rfl)]; simp
  have e3 : szF (mput fs f.1 f.2) = szF fs + f.2.1.length := by simpa using e1
  exact ⟨⟨inv_mput hi (nmB_len h1) ⟨by omega, by omega⟩ (by omega) (by omega), named_mput hn h1, by omega, by omega⟩, e2⟩
theorem loadM_ok : ∀ {l : List FileT} {fs gs : FSt}, InvL fs l → loadM l fs = .inr gs → InvL gs [] ∧ gs.length = fs.length + l.length
  | [], fs, gs, h, e => by
    simp only [loadM, Sum.inr.injEq] at e
    subst e
    exact ⟨h, by simp⟩
  | f :: l, fs, gs, h, e => by
    rw [loadM] at e
    split at e
    · cases e
    split at e
    · cases e
    split at e
    · cases e
    rename_i h1 h2 h3
    have h2' : mget fs f.1 = none := by cases hq : mget fs f.1 with
      | none => rfl
      | some v => rw [hq] at h2; simp at h2
    obtain ⟨hi, hl⟩ := invL_step h (by simpa using h1) h2' h3
    obtain ⟨a, b⟩ := loadM_ok hi e
    exact ⟨a, by rw [b, hl, List.length_cons]; omega⟩
def ldP (r : Int ⊕ FSt) : FSt ⊕ (Bool × FSt × List UInt8 × Int × Bool × Int) := match r with
  | .inl e => .inr (false, [], [], 0, false, e)
  | .inr gs => .inl gs
def ldR (r : Int ⊕ FSt) : (List FileT × Int × Bool × List UInt8) ⊕ (Bool × List FileT × Int × Bool × List UInt8 × Int) := match r with
  | .inl e => .inr (false, [], 0, false, [], e)
  | .inr gs => .inl (filesM gs, 0, false, [])
theorem rng_eq (n : Nat) (v : Int) : ((decide (v < (0 : Int))) || (decide ((n : Int) < v))) = decide (v < 0 ∨ (n : Int) < v) := by
  by_cases h1 : v < 0 <;> by_cases h2 : (n : Int) < v <;> simp [h1, h2]
def NamesUp (M : Nat) (X : List FileT) : Prop := X.length < 2 ^ 40 ∧ M < 2 ^ 40 ∧ ∀ f ∈ X, f.1.length + 1 ≤ M
theorem load_l0 (X : List FileT) {M : Nat} (hX : NamesUp M X) (s1 : DS) : ∀ (d i k : Nat) (fs : FSt), i + d = X.length → d + M + 400 ≤ k → InvL fs (X.drop i) → disk_Load.l0 X s1 k (i : Int) fs = some (ldP (loadM (X.drop i) fs))
  | d, i, 0, fs, _, hk, _ => by omega
  | 0, i, k + 1, fs, h, _, _ => by
    simp only [disk_Load.l0]
    rw [if_neg (by omega), List.drop_of_length_le (by omega)]; rfl
  | d + 1, i, k + 1, fs, h, hk, hI => by
    obtain ⟨x1, x2, x3⟩ := hX
    have hi : i < X.length := by omega
    have hnm := x3 _ (getD_mem (d := dz36) hi)
    rw [drop_at X dz36 hi] at hI ⊢
    obtain ⟨f, hf⟩ : ∃ f, X.getD i dz36 = f := ⟨_, rfl⟩
    have hlen := hI.len
    rw [List.length_cons, List.length_drop] at hlen
    rw [hf] at hI hnm ⊢
    have hsz := hI.sz
    rw [szF_cons] at hsz
    simp only [disk_Load.l0]
    rw [if_pos (by omega), if_pos (by omega), Int.toNat_natCast, hf, loadM, named_eq (by omega) (by omega), Option.bind_some, Has_eq]
    cases hb : nmB f.1 with
    | false => rfl
    | true =>
      simp only [Bool.not_true, Bool.false_eq_true, if_false, Bool.true_eq_false, Option.bind_some]
      cases hm : (mget fs f.1).isSome with
      | true => rfl
      | false =>
        simp only [Bool.false_eq_true, if_false]
        rw [rng_eq]
        simp only [decide_eq_true_eq]
        by_cases hr : f.2.2 < 0 ∨ (f.2.1.length : Int) < f.2.2
        · rw [if_pos hr, if_pos hr]; rfl
        · rw [if_neg hr, if_neg hr, fresh_eq (by omega), Option.bind_some, wi1 (by omega)]
          have hm' : mget fs f.1 = none := by cases hq : mget fs f.1 with
            | none => rfl
            | some v => rw [hq] at hm; cases hm
          exact load_l0 X ⟨x1, x2, x3⟩ s1 d (i + 1) k _ (by omega) (by omega) (invL_step hI hb hm' hr).1
theorem rload_l0 (X : List FileT) {M : Nat} (hX : NamesUp M X) : ∀ (d i k : Nat) (fs : FSt), i + d = X.length → d + M + 400 ≤ k → InvL fs (X.drop i) → synodref4_Load.l0 X k (i : Int) (filesM fs) 0 false [] = some (ldR (loadM (X.drop i) fs))
  | d, i, 0, fs, _, hk, _ => by omega
  | 0, i, k + 1, fs, h, _, _ => by
    simp only [synodref4_Load.l0]
    rw [if_neg (by omega), List.drop_of_length_le (by omega)]; rfl
  | d + 1, i, k + 1, fs, h, hk, hI => by
    obtain ⟨x1, x2, x3⟩ := hX
    have hi : i < X.length := by omega
    have hnm := x3 _ (getD_mem (d := dz36) hi)
    rw [drop_at X dz36 hi] at hI ⊢
    obtain ⟨f, hf⟩ : ∃ f, X.getD i dz36 = f := ⟨_, rfl⟩
    have hlen := hI.len
    rw [List.length_cons, List.length_drop] at hlen
    rw [hf] at hI hnm ⊢
    have hsz := hI.sz
    rw [szF_cons] at hsz
    have c1 : 0 ≤ (i : Int) ∧ (i : Int) < (X.length : Int) := by omega
    simp only [synodref4_Load.l0]
    simp only [c1, and_self, if_true, Int.toNat_natCast, hf]
    rw [loadM, rname_eq (by omega) (by omega), Option.bind_some, rat_eq hI.inv (by decide) _ _ _ _ (by omega)]
    cases hb : nmB f.1 with
    | false => rfl
    | true =>
      simp only [Bool.not_true, Bool.false_eq_true, if_false, Bool.true_eq_false, Option.bind_some]
      cases hm : (mget fs f.1).isSome with
      | true =>
        rw [at_low hm, if_pos (by omega)]; rfl
      | false =>
        have ha : ¬ (0 : Int) ≤ atM fs f.1 := by unfold atM; rw [hm]; simp
        rw [if_neg ha]
        have e1 : ((if f.2.2 < (0 : Int) then (some true) else (some (decide ((f.2.1.length : Int) < f.2.2)))) : Option Bool) = some (decide (f.2.2 < 0 ∨ (f.2.1.length : Int) < f.2.2)) := by
          by_cases h0 : f.2.2 < 0
          · rw [if_pos h0]; simp [h0]
          · rw [if_neg h0]; simp [h0]
        rw [e1]
        simp only [Option.bind_some, Bool.false_eq_true, if_false, decide_eq_true_eq]
        by_cases hr : f.2.2 < 0 ∨ (f.2.1.length : Int) < f.2.2
        · rw [if_pos hr, if_pos hr]; rfl
        · have hm' : mget fs f.1 = none := by cases hq : mget fs f.1 with
            | none => rfl
            | some v => rw [hq] at hm; cases hm
          have hln := hI.inv.ln
          rw [if_neg hr, if_neg hr, rbytes_eq (by omega), Option.bind_some, rput_eq (filesM fs) (by rw [filesM_len]; omega) _ _ _ _ f.2 (by rw [filesM_len]; omega), Option.bind_some, wi1 (by omega), ← filesM_put_new hI.inv.nd hm']
          exact rload_l0 X ⟨x1, x2, x3⟩ d (i + 1) k _ (by omega) (by omega) (invL_step hI hb hm' hr).1
theorem filesM_nil : filesM [] = [] := by simp [filesM, keysS]
def okS (r : Int ⊕ FSt) : Int ⊕ FSt := match r with
  | .inl e => .inl e
  | .inr gs => if (256 : Int) < (gs.length : Int) then .inl 10 else .inr gs
def outP (r : Int ⊕ FSt) : Bool × FSt × List UInt8 × Int × Bool × Int := match r with
  | .inl e => (false, [], [], 0, false, e)
  | .inr gs => (true, gs, [], 0, false, 0)
def outL (r : Int ⊕ FSt) : Bool × List FileT × Int × Bool × List UInt8 × Int := match r with
  | .inl e => (false, [], 0, false, [], e)
  | .inr gs => (true, filesM gs, 0, false, [], 0)
theorem invL_0 {X : List FileT} (h1 : X.length ≤ 300) (h2 : szF X ≤ 16777216) : InvL [] X := ⟨inv0 300, fun x hx => by simp at hx, by simpa using h1, by simpa [szF] using h2⟩
theorem Load_M {X : List FileT} {M : Nat} (hX : NamesUp M X) (h1 : X.length ≤ 300) (h2 : szF X ≤ 16777216) {k : Nat} (hk : M + 800 ≤ k) : disk_Load.f k X = some (outP (okS (loadM X []))) := by
  have h := load_l0 X hX d0 X.length 0 k [] (by omega) (by omega) (invL_0 h1 h2)
  rw [show ((0 : Nat) : Int) = 0 from rfl, List.drop_zero] at h
  unfold disk_Load.f
  rw [show disk_New.f = some d0 from rfl, Option.bind_some, show d0.1 = ([] : FSt) from rfl, h]
  cases hr : loadM X [] with
  | inl e => rfl
  | inr gs =>
    obtain ⟨a, b⟩ := loadM_ok (invL_0 h1 h2) hr
    have hb : gs.length = X.length := by simpa using b
    have hs := a.sz
    simp only [ldP, orR, okS]
    rw [hb]
    by_cases hc : (256 : Int) < (X.length : Int)
    · rw [if_pos hc, if_pos hc]; rfl
    · rw [if_neg hc, if_neg hc, Size_eq a.inv, Option.bind_some]
      have : ¬ ((16777216 : Int) < (szF gs : Int)) := by omega
      rw [decide_eq_false this]; rfl
theorem rLoad_M {X : List FileT} {M : Nat} (hX : NamesUp M X) (h1 : X.length ≤ 300) (h2 : szF X ≤ 16777216) {k : Nat} (hk : M + 800 ≤ k) : synodref4_Load.f k X = some (outL (okS (loadM X []))) := by
  have h := rload_l0 X hX X.length 0 k [] (by omega) (by omega) (invL_0 h1 h2)
  rw [show ((0 : Nat) : Int) = 0 from rfl, List.drop_zero, filesM_nil] at h
  unfold synodref4_Load.f
  rw [h]
  cases hr : loadM X [] with
  | inl e => rfl
  | inr gs =>
    obtain ⟨a, b⟩ := loadM_ok (invL_0 h1 h2) hr
    have hb : gs.length = X.length := by simpa using b
    have hs := a.sz
    simp only [ldR, orR, okS]
    rw [filesM_len]
    by_cases hc : (256 : Int) < (gs.length : Int)
    · rw [if_pos hc, if_pos hc]; rfl
    · rw [if_neg hc, if_neg hc, rsize_eq a.inv (by decide) _ _ _ (by omega), Option.bind_some]
      have : ¬ ((16777216 : Int) < (szF gs : Int)) := by omega
      rw [decide_eq_false this]; rfl
/-! ### The rest -/
theorem rfiles_loop (X : List FileT) (hl : X.length < 2 ^ 40) (hX : ∀ f ∈ X, f.2.1.length < 2 ^ 40) : ∀ (d i k : Nat) (acc : List FileT), i + d = X.length → d + 1 ≤ k → acc.length + d < 2 ^ 41 → synodref_Files.l0 X k acc (i : Int) = some (acc ++ X.drop i)
  | d, i, 0, acc, _, hk, _ => by omega
  | 0, i, k + 1, acc, h, _, _ => by
    simp only [synodref_Files.l0]
    rw [if_neg (by omega), List.drop_of_length_le (by omega)]; simp
  | d + 1, i, k + 1, acc, h, hk, ha => by
    have hi : i < X.length := by omega
    have hnm := hX _ (getD_mem (d := dz36) hi)
    have c1 : 0 ≤ (i : Int) ∧ (i : Int) < (X.length : Int) := by omega
    simp only [synodref_Files.l0]
    rw [drop_at X dz36 hi]
    obtain ⟨f, hf⟩ : ∃ f, X.getD i dz36 = f := ⟨_, rfl⟩
    simp only [c1, and_self, if_true, Int.toNat_natCast, hf]
    rw [hf] at hnm
    rw [rbytes_eq hnm, Option.bind_some, if_pos (by simp; omega), wi1 (by omega), rfiles_loop X hl hX d (i + 1) k _ (by omega) (by omega) (by simp; omega)]
    simp
theorem rfiles_eq {X : List FileT} (hl : X.length < 2 ^ 40) (hX : ∀ f ∈ X, f.2.1.length < 2 ^ 40) {k : Nat} (hk : X.length + 1 ≤ k) : synodref_Files.f k X = some X := by
  have := rfiles_loop X hl hX X.length 0 k [] (by omega) hk (by simp; omega)
  rw [show ((0 : Nat) : Int) = 0 from rfl, List.drop_zero, List.nil_append] at this
  unfold synodref_Files.f
  rw [this]; rfl
theorem loads_l0 (X : List FileT) (hl : X.length < 2 ^ 40) : ∀ (d i k : Nat) (z : Int), i + d = X.length → d + 1 ≤ k → ∃ s, synodlaw4_DiskLoads.l0 X k z (i : Int) = some s
  | d, i, 0, _, _, hk => by omega
  | 0, i, k + 1, z, h, _ => by
    simp only [synodlaw4_DiskLoads.l0]
    rw [if_neg (by simp; omega)]
    exact ⟨_, rfl⟩
  | d + 1, i, k + 1, z, h, hk => by
    simp only [synodlaw4_DiskLoads.l0]
    by_cases hc : ((decide ((i : Int) < (X.length : Int))) && (decide ((i : Int) < (300 : Int)))) = true
    · rw [if_pos hc, if_pos (by omega), if_pos (by omega), wi1 (by omega)]
      exact loads_l0 X hl d (i + 1) k _ (by omega) (by omega)
    · rw [if_neg hc]; exact ⟨_, rfl⟩
theorem loads_l2 (X : List FileT) (i : Nat) (hi : i < X.length) (hl : (X.getD i dz36).2.1.length < 2 ^ 40) : ∀ (d z k : Nat), z + d = (X.getD i dz36).2.1.length → d + 1 ≤ k → synodlaw4_DiskLoads.l2 X (i : Int) k (z : Int) = some ()
  | d, z, 0, _, hk => by omega
  | 0, z, k + 1, h, _ => by
    simp only [synodlaw4_DiskLoads.l2]
    rw [if_pos (by omega), Int.toNat_natCast, if_neg (by omega)]
  | d + 1, z, k + 1, h, hk => by
    simp only [synodlaw4_DiskLoads.l2]
    rw [if_pos (by omega), Int.toNat_natCast, if_pos (by omega), if_pos (by omega), if_pos (by omega), wi1 (by omega)]
    exact loads_l2 X i hi hl d (z + 1) k (by omega) (by omega)
theorem loads_l1 (X : List FileT) (hl : X.length < 2 ^ 40) {M : Nat} (hM : M < 2 ^ 40) (hX : ∀ f ∈ X, f.2.1.length ≤ M) : ∀ (d i k : Nat), i + d = X.length → d + M + 2 ≤ k → synodlaw4_DiskLoads.l1 X k (i : Int) = some ()
  | d, i, 0, _, hk => by omega
  | 0, i, k + 1, h, _ => by
    simp only [synodlaw4_DiskLoads.l1]
    rw [if_neg (by omega)]
  | d + 1, i, k + 1, h, hk => by
    have hi : i < X.length := by omega
    have hm := hX _ (getD_mem (d := dz36) hi)
    have h2 := loads_l2 X i hi (by omega) (X.getD i dz36).2.1.length 0 k (by omega) (by omega)
    rw [show ((0 : Nat) : Int) = 0 from rfl] at h2
    simp only [synodlaw4_DiskLoads.l1]
    rw [if_pos (by omega), h2, Option.bind_some, wi1 (by omega)]
    exact loads_l1 X hl hM hX d (i + 1) k (by omega) (by omega)
theorem loads_l3 (l : List OpD) {M : Nat} (hl : smallL M l) (hn : l.length < 2 ^ 60) (ho : ∀ e ∈ l, okI .i64 e.2.1) (hM : ∀ e ∈ l, e.2.2.2.2.length + 1 ≤ M) : ∀ (d i k : Nat) (s : DS), i + d = l.length → d + M + 20001000 ≤ k → Inv4 s →
    synodlaw4_DiskLoads.l3 l k true (i : Int) s.1 s.2.1 s.2.2.1 s.2.2.2 (filesM s.1) s.2.2.1 s.2.2.2 s.2.1 = some true
  | d, i, 0, s, _, hk, _ => by omega
  | 0, i, k + 1, s, h, _, _ => by
    simp only [synodlaw4_DiskLoads.l3]
    rw [if_neg (by simp; omega)]
  | d + 1, i, k + 1, s, h, hk, hs => by
    have hi : i < l.length := by omega
    have hmem := getD_mem (d := dz52) hi
    have hsm := hl _ hmem
    have hB := hM _ hmem
    have hok := ho _ hmem
    obtain ⟨e, he⟩ : ∃ e, l.getD i dz52 = e := ⟨_, rfl⟩
    rw [he] at hsm hB hok
    have hT := inv4_told hs hok
    simp only [synodlaw4_DiskLoads.l3]
    rw [if_pos (by simp; omega), if_pos (by omega), Int.toNat_natCast, he, does_eq hs hsm.1 (by omega) ⟨by omega, by omega, by omega⟩, Option.bind_some]
    unfold bothR
    simp only [if_true]
    rw [same_eq hT.inv _ _ _ (by omega)]
    simp only [Option.bind_some]
    rw [wi1 (by omega)]
    exact loads_l3 l hl hn ho hM d (i + 1) k (toldM s e).2 (by omega) (by omega) hT
theorem mu_file (f : FileT) : Mu.mu f = (f.1.length + 1) + ((f.2.1.length + 1) + 1) := by
  obtain ⟨a, b, c⟩ := f
  rw [mu_pair, mu_pair, mu_bytes, mu_bytes, mu_int]
theorem szF_mu : ∀ X : List FileT, szF X ≤ Mu.mu X
  | [] => by simp [szF]
  | f :: l => by
    have := szF_mu l
    rw [szF_cons, mu_cons, mu_file]; omega
theorem ops_data' {l : List OpD} (h : Mu.mu l ≤ 1048576) : ∀ e ∈ l, e.2.2.2.2.length + 1 ≤ 1048577 := fun e he => by
  have h1 := mu_mem he
  rw [mu_op] at h1
  omega
theorem pure_DiskLoads {Q : FileT → Prop} (X : List FileT) (hX : X.length * 48 ≤ reachBytes ∧ ∀ e ∈ X, Q e) (l : List OpD) (h : l.length * 72 ≤ reachBytes ∧ ∀ e ∈ l, Ok52 e) (hu : Mu.mu X + Mu.mu l ≤ 1048576) :
    ∃ k, synodlaw4_DiskLoads.f k X l = some true := by
  obtain ⟨k, hk0⟩ : ∃ k, k = 40000000 + 60 := ⟨_, rfl⟩
  have hf : synodlaw4_first.f k = some true := by rw [hk0]; exact first_eq 40000000
  refine ⟨k, ?_⟩
  have hk : 40000000 ≤ k := by omega
  clear hk0
  obtain ⟨h1, h2⟩ := ops_small (l := l) (by omega)
  obtain ⟨b1, hb1⟩ := few_eq (x := l) (by omega) (k := k) (by omega)
  have hXl : X.length ≤ 1048576 := Nat.le_trans (mu_len fun e => by rw [mu_file]; omega) (show Mu.mu X ≤ 1048576 by omega)
  have hXe : ∀ f ∈ X, f.1.length + 1 ≤ 1048577 ∧ f.2.1.length ≤ 1048576 := fun f hf => by
    have h1 := mu_mem hf
    rw [mu_file] at h1
    exact ⟨by omega, by omega⟩
  obtain ⟨z, hz⟩ := loads_l0 X (by omega) X.length 0 k 0 (by omega) (by omega)
  rw [show ((0 : Nat) : Int) = 0 from rfl] at hz
  unfold synodlaw4_DiskLoads.f
  rw [hf, hb1, hz]
  simp only [Option.bind_some]
  by_cases hc : ((((!true) || (!b1)) || (decide ((300 : Int) < (X.length : Int)))) || (decide ((20000 : Int) < z))) = true
  · rw [if_pos hc]
  · rw [if_neg hc]
    have h300 : X.length ≤ 300 := by
      by_cases h3 : (300 : Int) < (X.length : Int)
      · exfalso; apply hc; simp [h3]
      · omega
    have hN : NamesUp 1048577 X := ⟨by omega, by decide, fun f hf => (hXe f hf).1⟩
    have hS : szF X ≤ 16777216 := by have := szF_mu X; omega
    have hSF : synodref_SameFiles.f k X X = some true := by
      rw [SameFiles_eq (M := 1048577) (fun e he => ⟨by have := (hXe e he).2; omega, by have := (hXe e he).2; omega⟩) (by omega) (by omega), decide_eq_true rfl]
    rw [rfiles_eq (by omega) (fun f hf => by have := (hXe f hf).2; omega) (by omega), Option.bind_some, Load_M hN h300 hS (by omega), Option.bind_some, rLoad_M hN h300 hS (by omega), Option.bind_some, hSF]
    simp only [Option.bind_some, show ∀ x, synodref_Num.f x = some x from fun _ => rfl]
    cases hr : okS (loadM X []) with
    | inl e =>
      simp [outP, outL]
    | inr gs =>
      have hgs : InvL gs [] ∧ gs.length ≤ 256 := by
        cases hq : loadM X [] with
        | inl e => rw [hq] at hr; cases hr
        | inr hs =>
          rw [hq] at hr
          simp only [okS] at hr
          split at hr
          · cases hr
          · simp only [Sum.inr.injEq] at hr
            subst hr
            exact ⟨(loadM_ok (invL_0 h300 hS) hq).1, by omega⟩
      have hI : Inv4 (gs, [], 0, false) := ⟨⟨hgs.1.inv.nd, hgs.1.inv.sy, hgs.1.inv.nm, hgs.1.inv.sz, hgs.2⟩, hgs.1.nmd, .inl rfl, arm0⟩
      have e1 := loads_l1 X (by omega) (M := 1048576) (by decide) (fun f hf => (hXe f hf).2) X.length 0 k (by omega) (by omega)
      have e3 := loads_l3 l h1 (by omega) (fun e he => (h.2 e he).2.1) (ops_data' (by omega)) l.length 0 k (gs, [], 0, false) (by omega) (by omega) hI
      rw [show ((0 : Nat) : Int) = 0 from rfl] at e1 e3
      have e2 := same_eq hI.inv ([] : List UInt8) 0 false (k := k) (by omega)
      simp only at e2 e3
      simp only [outP, outL, if_true, Bool.not_true, Bool.false_eq_true, if_false, decide_true, Option.bind_some, Bool.or_self, e1, e2, e3]
end Go.Proofs.Ytkkbgcocpkipjaa

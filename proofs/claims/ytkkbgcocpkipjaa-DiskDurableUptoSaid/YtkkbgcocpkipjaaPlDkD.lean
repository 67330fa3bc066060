/- The plain law DiskDurable. Conditions: none. -/
import Derived.Test.YtkkbgcocpkipjaaPlDkF
namespace Go.Proofs.Ytkkbgcocpkipjaa
set_option linter.unusedVariables false
set_option linter.unusedSimpArgs false
open Go.RowKit
def leftR (keep : Int) (u v : FileT) : Prop := u.1 = v.1 ∧ u.2.2 = (u.2.1.length : Int) ∧ v.2.2 ≤ (u.2.1.length : Int) ∧ (u.2.1.length : Int) ≤ (v.2.1.length : Int) ∧ u.2.1 = v.2.1.take u.2.1.length ∧ (u.2.1.length : Int) - v.2.2 ≤ max keep 0 ∧ 0 ≤ v.2.2 ∧ v.2.1.length ≤ 16777216
def moreP (p : FileT × FileT) : Bool := decide (p.2.2.2 < (p.1.2.1.length : Int))
theorem dur_loop (keep : Int) (ps : List (FileT × FileT)) (hp : ∀ p ∈ ps, leftR keep p.1 p.2) (hl : ps.length < 2 ^ 40) : ∀ (d i k c : Nat), i + d = ps.length → d + 16777219 ≤ k → c + d < 2 ^ 41 → synodlaw4_DiskDurable.l0 keep (ps.map (·.2)) (ps.map (·.1)) k (c : Int) (i : Int) = some (.inl ((c + (ps.drop i).countP moreP : Nat) : Int))
  | d, i, 0, c, _, hk, _ => by omega
  | 0, i, k + 1, c, h, _, _ => by
    simp only [synodlaw4_DiskDurable.l0]
    rw [if_neg (by simp; omega), List.drop_of_length_le (by omega)]; rfl
  | d + 1, i, k + 1, c, h, hk, hc => by
    have hi : i < ps.length := by omega
    have ha : i < (ps.map (·.1)).length := by simpa using hi
    have hb : i < (ps.map (·.2)).length := by simpa using hi
    have hr := hp _ (List.getElem_mem hi)
    have ed : ps.drop i = ps[i] :: ps.drop (i + 1) := List.drop_eq_getElem_cons hi
    have la : ((ps.map (·.1)).length : Int) = (ps.length : Int) := by simp
    have lb : ((ps.map (·.2)).length : Int) = (ps.length : Int) := by simp
    simp only [synodlaw4_DiskDurable.l0]
    simp only [Int.toNat_natCast, getD_at' _ _ _ ha, getD_at' _ _ _ hb, List.getElem_map, la, lb]
    rw [ed, List.countP_cons]
    obtain ⟨p, hpp⟩ : ∃ p, ps[i] = p := ⟨_, rfl⟩
    simp only [hpp] at hr ⊢
    obtain ⟨u, v⟩ := p
    obtain ⟨r1, r2, r3, r4, r5, r6, r7, r8⟩ := hr
    simp only at r1 r2 r3 r4 r5 r6 r7 r8 ⊢
    have cI : 0 ≤ (i : Int) ∧ (i : Int) < (ps.length : Int) := by omega
    have ec : cut v.2.1 (0 : Int) (u.2.1.length : Int) = u.2.1 := by
      show (v.2.1.take (u.2.1.length : Int).toNat).drop 0 = _
      rw [Int.toNat_natCast, List.drop_zero]; exact r5.symm
    have hsb : synodref_SameBytes.f k u.2.1 u.2.1 = some true := by rw [SameBytes_eq (by omega) (by omega)]; simp
    have n1 : ¬ (u.2.1.length : Int) < v.2.2 := by omega
    have n2 : decide ((v.2.1.length : Int) < (u.2.1.length : Int)) = false := decide_eq_false (by omega)
    have n3 : decide (max keep (0 : Int) < IntKind.i64.wrap ((u.2.1.length : Int) - v.2.2)) = false := by rw [w64 (by omega) (by omega)]; exact decide_eq_false (by omega)
    have n4 : 0 ≤ (0 : Int) ∧ (0 : Int) ≤ (u.2.1.length : Int) ∧ (u.2.1.length : Int) ≤ (v.2.1.length : Int) := ⟨by omega, by omega, r4⟩
    have n5 : (i : Int) < (ps.length : Int) := cI.2
    simp only [n5, cI, and_self, if_true, r1, r2, n1, if_false, n2, Option.bind_some, Bool.false_eq_true, n4, ec, hsb, Bool.not_true, n3]
    have n4' : (0 : Int) ≤ (0 : Int) ∧ (0 : Int) ≤ (u.2.1.length : Int) ∧ (u.2.1.length : Int) ≤ (v.2.1.length : Int) := n4
    have wI := wi1 (i := i) (by omega)
    have wC := wi1 (i := c) (by omega)
    by_cases hm : v.2.2 < (u.2.1.length : Int)
    · have hm' : moreP (u, v) = true := by simp [moreP, hm]
      simp only [hm, if_true, wI, wC, hm']
      rw [dur_loop keep ps hp hl d (i + 1) k (c + 1) (by omega) (by omega) (by omega)]
      congr 3; omega
    · have hm' : moreP (u, v) = false := by simp [moreP, hm]
      simp only [hm, if_false, wI, hm', Bool.false_eq_true]
      rw [dur_loop keep ps hp hl d (i + 1) k c (by omega) (by omega) (by omega)]
      congr 3
theorem countP_one {α : Type} [DecidableEq α] {p : α → Bool} {x : α} : ∀ {l : List α}, l.Nodup → (∀ y ∈ l, p y = true → y = x) → l.countP p ≤ 1
  | [], _, _ => by simp
  | y :: l, hn, h => by
    rw [List.nodup_cons] at hn
    rw [List.countP_cons]
    have ih := countP_one (p := p) (x := x) hn.2 fun z hz => h z (List.mem_cons_of_mem _ hz)
    by_cases hy : p y = true
    · have : l.countP p = 0 := by
        rw [List.countP_eq_zero]
        intro z hz hpz
        have e1 := h y (by simp) hy
        have e2 := h z (List.mem_cons_of_mem _ hz) hpz
        exact hn.1 (by rw [e1, ← e2]; exact hz)
      rw [if_pos hy]; omega
    · rw [if_neg hy]; omega
theorem keys_crash (fs : FSt) (l : List UInt8) (keep : Int) : keysS (crashM fs l keep) = keysS fs := by unfold keysS; rw [crash_keys]
theorem getF_crash (l : List UInt8) (keep : Int) {x : List UInt8} : ∀ {fs : FSt}, (mget fs x).isSome = true → getF (crashM fs l keep) x = crF l keep x (getF fs x)
  | [], h => by simp [mget] at h
  | p :: fs, h => by
    rw [mget] at h
    rw [crashM, List.map_cons, getF_cons, getF_cons]
    by_cases hp : p.1 = x
    · rw [if_pos hp, if_pos hp, hp]
    · rw [if_neg hp] at h
      rw [if_neg hp, if_neg hp]
      exact getF_crash l keep h
theorem left_crash {n : Nat} {fs : FSt} (h : InvN n fs) (l : List UInt8) (keep : Int) {x : List UInt8} (hx : (mget fs x).isSome = true) : leftR keep (fileM (crashM fs l keep) x) (fileM fs x) ∧ (moreP (fileM (crashM fs l keep) x, fileM fs x) = true → x = l) := by
  have hs := getF_sy h hx
  have hb := crN_bd (l := l) (keep := keep) (x := x) hs
  have hlen := Nat.le_trans (le_szF (getF_mem hx)) h.sz
  simp only at hlen
  unfold leftR moreP fileM
  rw [getF_crash l keep hx]
  generalize getF fs x = v at *
  have e : ((v.1.take (crN l keep x v).toNat).length : Int) = crN l keep x v := by rw [List.length_take]; omega
  have e' : (v.1.take (crN l keep x v).toNat).length = (crN l keep x v).toNat := by rw [List.length_take]; omega
  have hd : crN l keep x v - v.2 ≤ max keep 0 := by unfold crN; split <;> omega
  refine ⟨⟨rfl, e.symm, ?_, ?_, ?_, ?_, hs.1, hlen⟩, fun hm => ?_⟩
  · show v.2 ≤ ((v.1.take (crN l keep x v).toNat).length : Int)
    rw [e]; exact hb.2.2
  · show ((v.1.take (crN l keep x v).toNat).length : Int) ≤ (v.1.length : Int)
    rw [e]; exact hb.2.1
  · show v.1.take (crN l keep x v).toNat = v.1.take (v.1.take (crN l keep x v).toNat).length
    rw [e']
  · show ((v.1.take (crN l keep x v).toNat).length : Int) - v.2 ≤ max keep 0
    rw [e]; exact hd
  · have hm : v.2 < ((v.1.take (crN l keep x v).toNat).length : Int) := of_decide_eq_true hm
    rw [e] at hm
    unfold crN at hm
    split at hm
    · assumption
    · omega
theorem crash_again {n : Nat} {fs : FSt} (h : InvN n fs) (l : List UInt8) (keep again : Int) : crashM (crashM fs l keep) [] again = crashM fs l keep := by
  rw [crashM, crashM, List.map_map]
  refine List.map_congr_left fun p hp => ?_
  have hb := crN_bd (l := l) (keep := keep) (x := p.1) (h.sy p hp)
  simp only [Function.comp, crF]
  generalize crN l keep p.1 p.2 = m at *
  have e : ((p.2.1.take m.toNat).length : Int) = m := by rw [List.length_take]; omega
  have e2 : crN [] again p.1 (p.2.1.take m.toNat, m) = m := by
    unfold crN
    simp only [e]
    split <;> omega
  rw [e2, List.take_take, Nat.min_self]
theorem pure_DiskDurable {P : OpD → Prop} (l : List OpD) (h : l.length * 72 ≤ reachBytes ∧ ∀ e ∈ l, P e) (keep : Int) (hk1 : (Lit.int .i64 keep).wf = true) (again : Int) (ha1 : (Lit.int .i64 again).wf = true) (hu : Mu.mu l ≤ 1048576) :
    ∃ k, synodlaw4_DiskDurable.f k l keep again = some true := by
  obtain ⟨k, hk0⟩ : ∃ k, k = 40000000 + 60 := ⟨_, rfl⟩
  have hf : synodlaw4_first.f k = some true := by rw [hk0]; exact first_eq 40000000
  refine ⟨k, ?_⟩
  have hk : 40000000 ≤ k := by omega
  clear hk0
  obtain ⟨h1, h2⟩ := ops_small (l := l) (by omega)
  obtain ⟨b1, hb1⟩ := few_eq (x := l) (by omega) (k := k) (by omega)
  unfold synodlaw4_DiskDurable.f
  rw [hf, hb1]
  simp only [Option.bind_some]
  cases b1 with
  | false => rfl
  | true =>
    simp only [Bool.not_true, Bool.or_self, Bool.false_eq_true, if_false]
    rw [made_eq l h1 (by omega) (by omega)]
    simp only [Option.bind_some]
    have ia := inv_fold l (s := d0) (inv0 256)
    generalize l.foldl tM d0 = s at ia
    have ic := inv_crash ia s.2.1 keep
    rw [Files_eq ia (by decide) _ _ _ (by omega), Crash_eq ia]
    simp only [Option.bind_some]
    rw [Files_eq ic (by decide) _ _ _ (by omega)]
    simp only [Option.bind_some, Down_eq]
    have hlen : ((filesM s.1).length : Int) = ((filesM (crashM s.1 s.2.1 keep)).length : Int) := by rw [filesM_len, filesM_len, crashM, List.length_map]
    rw [if_pos hlen, Option.bind_some]
    simp only [Bool.false_eq_true, if_false]
    have ks := fun x (hx : x ∈ keysS s.1) => left_crash ia s.2.1 keep (keysS_some hx)
    have e1 : filesM s.1 = (((keysS s.1).map fun x => (fileM (crashM s.1 s.2.1 keep) x, fileM s.1 x))).map (·.2) := by rw [List.map_map]; rfl
    have e2 : filesM (crashM s.1 s.2.1 keep) = (((keysS s.1).map fun x => (fileM (crashM s.1 s.2.1 keep) x, fileM s.1 x))).map (·.1) := by rw [List.map_map, filesM, keys_crash]; rfl
    have hln := ia.ln
    have hd := dur_loop keep ((keysS s.1).map fun x => (fileM (crashM s.1 s.2.1 keep) x, fileM s.1 x)) (fun p hp => by obtain ⟨x, hx, rfl⟩ := List.mem_map.1 hp; exact (ks x hx).1) (by rw [List.length_map, keysS_len]; omega) (keysS s.1).length 0 k 0 (by rw [List.length_map]; omega) (by rw [keysS_len]; omega) (by rw [keysS_len]; omega)
    rw [← e1, ← e2, List.drop_zero, Nat.zero_add] at hd
    rw [show synodlaw4_DiskDurable.l0 keep (filesM s.1) (filesM (crashM s.1 s.2.1 keep)) k 0 0 = _ from hd]
    simp only [orR]
    have hcnt : ((keysS s.1).map fun x => (fileM (crashM s.1 s.2.1 keep) x, fileM s.1 x)).countP moreP ≤ 1 := by
      rw [List.countP_map]
      exact countP_one (x := s.2.1) ((keysS_perm s.1).nodup_iff.2 ia.nd) fun y hy hp => (ks y hy).2 hp
    rw [Crash_eq ic, crash_again ia]
    simp only [Option.bind_some]
    rw [Files_eq ic (by decide) _ _ _ (by omega)]
    simp only [Option.bind_some]
    rw [SameFiles_M ic (by decide) (by omega)]
    simp only [Option.bind_some, decide_true, Bool.true_and]
    rw [decide_eq_true (by omega)]
end Go.Proofs.Ytkkbgcocpkipjaa

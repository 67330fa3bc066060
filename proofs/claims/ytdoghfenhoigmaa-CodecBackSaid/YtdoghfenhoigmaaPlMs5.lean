/- The codec's plain laws: what the document's reading of a message answers. Conditions: as each says. -/
import Derived.Test.YtdoghfenhoigmaaPlMs4
import Derived.Test.YtdoghfenhoigmaaPlMsR
namespace Go.Proofs.Ytdoghfenhoigmaa
set_option linter.unusedVariables false
set_option linter.unusedSimpArgs false
open Go.RowKit
theorem fail_eq (b : List UInt8) (p e x : Int) : synodref3_fail.f b p e x = some (p, if e = 0 then x else e) := by unfold synodref3_fail.f; split <;> rfl
section
variable {b : List UInt8}
theorem rdEs_len : ∀ (n p : Nat), p ≤ b.length → (rdEs b n p).1.length ≤ n ∧ ∀ e ∈ (rdEs b n p).1, e.2.2.2.length ≤ b.length
  | 0, p, h => ⟨Nat.le_refl _, fun e he => by cases he⟩
  | n + 1, p, h => by
    have h1 := rBytes_le (b := b) (e := 0) (most := 8192) h
    by_cases hd : (rBytes b p 0 8192).2.2 = 0
    · by_cases hx : (getE (rBytes b p 0 8192).1).2.2.2.2 = 0
      · by_cases hr : (rdEs b n (rBytes b p 0 8192).2.1).2.2 = 0
        · rw [rdEs_ok hd hx hr]
          obtain ⟨i1, i2⟩ := rdEs_len n _ h1.1
          refine ⟨by simp only [List.length_cons]; omega, fun e he => ?_⟩
          rcases List.mem_cons.1 he with rfl | he
          · exact Nat.le_trans (getE_len _) h1.2
          · exact i2 e he
        · rw [rdEs_r hd hx hr]; exact ⟨Nat.zero_le _, fun e he => by cases he⟩
      · rw [rdEs_x hd hx]; exact ⟨Nat.zero_le _, fun e he => by cases he⟩
    · rw [rdEs_d hd]; exact ⟨Nat.zero_le _, fun e he => by cases he⟩
end
section
variable {k : Nat} {b : List UInt8} (hb : b.length ≤ 100000000)
include hb
theorem room_of (hk : b.length + 300 ≤ k) {m : Msg} (h1 : m.es.length ≤ 64) (h2 : ∀ e ∈ m.es, e.2.2.2.length ≤ b.length) (h3 : m.sd.length ≤ b.length) : Room k m :=
  ⟨by omega, fun e he => by have := h2 e he; omega, by omega, by omega, by omega, fun e he => by have := h2 e he; omega, by omega⟩
theorem rLast {p : Nat} (hp : p ≤ b.length) (e : Int) (m : Msg) (hR : e = 0 → Room k m) :
    ((synodref1_Reader_Done.f b (p : Int) e).bind fun s97v => ((if s97v = (0 : Int) then ((synodref3_CheckMessage.f k m.kd m.fr m.to m.tm m.ix m.lt m.cm m.hi m.cx m.rj m.es m.si m.st m.sd).bind fun s114v => (some s114v)) else (some s97v)).bind fun s100v => (if s100v = (0 : Int) then (some (m.kd, m.fr, m.to, m.tm, m.ix, m.lt, m.cm, m.hi, m.cx, m.rj, m.es, m.si, m.st, m.sd, s100v)) else (some (0, 0, 0, 0, 0, 0, 0, 0, 0, false, ([] : List (Int × Int × Int × List UInt8)), 0, 0, ([] : List UInt8), s100v)))))
    = some (tupM (finM b (m, p, e)).1 (finM b (m, p, e)).2) := by
  rw [rDone hb hp, Option.bind_some]
  by_cases he : e = 0
  · have hc := rM (hR he)
    unfold rcheckM at hc
    rw [hc]
    simp only [Option.bind_some, ends_bind]
    unfold finM
    simp only []
    split
    · rename_i h; rw [h]; rfl
    · rfl
  · rw [rEnd_err he, if_neg he, Option.bind_some, if_neg he, finM_err he]; rfl
theorem rents_l0 (s : Int × Int × Int) : ∀ (r k p : Nat) (acc : List EnT) (i : Int), i + r = s.1 → 0 ≤ i → s.1 ≤ 64 → (acc.length : Int) ≤ i → r + 20 ≤ k → p ≤ b.length →
    ((rdEs b r p).2.2 = 0 → synodref3_entries.l0 b s k acc i (p : Int) 0 = some (acc ++ (rdEs b r p).1, (((rdEs b r p).2.1 : Nat) : Int), 0)) ∧
    ((rdEs b r p).2.2 ≠ 0 → ∃ (l : List EnT) (q : Nat), q ≤ b.length ∧ synodref3_entries.l0 b s k acc i (p : Int) 0 = some (l, (q : Int), (rdEs b r p).2.2))
  | r, 0, p, acc, i, _, _, _, _, hk, _ => by omega
  | 0, k + 1, p, acc, i, h, _, _, _, _, hp => by
    simp only [synodref3_entries.l0, rdEs]
    rw [if_neg (by simp; omega)]
    simp
  | r + 1, k + 1, p, acc, i, h, hi, h64, ha, hk, hp => by
    have hq := rBytes_le (b := b) (e := 0) (most := 8192) hp
    obtain ⟨k', rfl⟩ : ∃ k', k = k' + 1 := ⟨k - 1, by omega⟩
    have stop : ∀ (l : List EnT) (j : Int) (q : Nat) (e : Int), e ≠ 0 → synodref3_entries.l0 b s (k' + 1) l j (q : Int) e = some (l, (q : Int), e) := by
      intro l j q e he
      simp only [synodref3_entries.l0]
      rw [if_neg (by simp [he])]
    have wi : IntKind.i64.wrap (i + 1) = i + 1 := w64 (by omega) (by omega)
    rw [synodref3_entries.l0]
    rw [if_pos (by simp; omega), rB' (by omega) hb hp, Option.bind_some]
    simp only []
    by_cases hd : (rBytes b p 0 8192).2.2 = 0
    · rw [if_pos hd, rGetE (by omega) (by omega), Option.bind_some, fail_eq, Option.bind_some, if_pos hd]
      simp only []
      rw [if_pos (by simp only [List.length_singleton]; omega), wi]
      by_cases hx : (getE (rBytes b p 0 8192).1).2.2.2.2 = 0
      · rw [hx]
        have ih := rents_l0 s r (k' + 1) (rBytes b p 0 8192).2.1 (acc ++ [((getE (rBytes b p 0 8192).1).1, (getE (rBytes b p 0 8192).1).2.1, (getE (rBytes b p 0 8192).1).2.2.1, (getE (rBytes b p 0 8192).1).2.2.2.1)]) (i + 1) (by omega) (by omega) h64 (by simp only [List.length_append, List.length_singleton]; omega) (by omega) hq.1
        by_cases hr : (rdEs b r (rBytes b p 0 8192).2.1).2.2 = 0
        · rw [rdEs_ok hd hx hr]
          refine ⟨fun _ => ?_, fun x => absurd rfl x⟩
          rw [ih.1 hr]; simp
        · rw [rdEs_r hd hx hr]
          exact ⟨fun x => absurd x hr, fun _ => ih.2 hr⟩
      · rw [rdEs_x hd hx]
        exact ⟨fun x => absurd x hx, fun _ => ⟨_, _, hq.1, stop _ _ _ _ hx⟩⟩
    · rw [if_neg hd, wi, rdEs_d hd]
      exact ⟨fun x => absurd x hd, fun _ => ⟨_, _, hq.1, stop _ _ _ _ hd⟩⟩
theorem rGetM (hk : b.length + 300 ≤ k) : synodref3_GetMessage.f k b = some (tupM (getM b).1 (getM b).2) := by
  have p0 : (0 : Nat) ≤ b.length := Nat.zero_le _
  have p1 := rI_le (e := 0) p0
  unfold synodref3_GetMessage.f
  rw [rI0 (by omega) hb, Option.bind_some]; simp only []
  rw [rwithin_node]
  simp only [Option.bind_some, fail_eq]
  unfold getM
  generalize ha : rI b 0 0 = a at p1 ⊢
  obtain ⟨kd, pa, ea⟩ := a
  simp only [] at p1 ⊢
  by_cases hok : ea = 0 ∧ nodeP kd
  · obtain ⟨he, hn⟩ := hok
    subst he
    have he0 : ¬ ((0 : Int) ≠ 0) := by simp
    rw [if_neg he0, if_neg (not_not_intro hn), if_neg (by simpa using hn), Option.bind_some]
    simp only []
    have p2 := rI_le (e := 0) p1
    generalize hf : rI b pa 0 = f at p2
    have p3 := rI_le (e := f.2.2) p2
    generalize ht : rI b f.2.1 f.2.2 = t at p3
    have p4 := rI_le (e := t.2.2) p3
    generalize hm : rI b t.2.1 t.2.2 = m at p4
    rw [rI' (by omega) hb p1, Option.bind_some]; simp only []
    rw [hf, rI' (by omega) hb p2, Option.bind_some]; simp only []
    rw [ht, rI' (by omega) hb p3, Option.bind_some]; simp only []
    rw [hm]
    unfold rdK
    have q1 := rI_le (e := m.2.2) p4
    generalize h1 : rI b m.2.1 m.2.2 = a1 at q1
    have q2 := rI_le (e := a1.2.2) q1
    generalize h2 : rI b a1.2.1 a1.2.2 = a2 at q2
    by_cases k1 : kd = 1
    · rw [if_pos k1, if_pos k1, rI' (by omega) hb p4, Option.bind_some]; simp only []
      rw [h1, rI' (by omega) hb q1, Option.bind_some]; simp only [Option.bind_some, if_true]
      rw [h2]
      exact rLast hb q2 a2.2.2 ⟨kd, f.1, t.1, m.1, a1.1, a2.1, 0, 0, 0, false, [], 0, 0, []⟩ (fun _ => room_of hb hk (by simp) (by simp) (by simp))
    rw [if_neg k1, if_neg k1]
    by_cases k2 : kd = 2
    · have qb := rBool_le (e := m.2.2) p4
      rw [if_pos k2, if_pos k2, rO' (by omega) hb p4, Option.bind_some]; simp only [Option.bind_some, if_true]
      exact rLast hb qb (rBool b m.2.1 m.2.2).2.2 ⟨kd, f.1, t.1, m.1, 0, 0, 0, 0, 0, (rBool b m.2.1 m.2.2).1, [], 0, 0, []⟩ (fun _ => room_of hb hk (by simp) (by simp) (by simp))
    rw [if_neg k2, if_neg k2]
    by_cases k3 : kd = 3
    · have q3 := rI_le (e := a2.2.2) q2
      generalize h3 : rI b a2.2.1 a2.2.2 = a3 at q3
      rw [if_pos k3, if_pos k3, rI' (by omega) hb p4, Option.bind_some]; simp only []
      rw [h1, rI' (by omega) hb q1, Option.bind_some]; simp only []
      rw [h2, rI' (by omega) hb q2, Option.bind_some]; simp only []
      rw [h3]
      unfold synodref3_entries.f
      rw [rI' (by omega) hb q3, Option.bind_some]; simp only []
      have q4 := rI_le (e := a3.2.2) q3
      have hbad := rI_bad (b := b) (p := a3.2.1) (e := a3.2.2)
      have hcase := rNum_cases b a3.2.1 a3.2.2
      have hrI : rI b a3.2.1 a3.2.2 = ((rNum b a3.2.1 a3.2.2).1, rPos b a3.2.1 a3.2.2, (rNum b a3.2.1 a3.2.2).2.2) := rfl
      generalize h4 : rI b a3.2.1 a3.2.2 = n at q4 hbad hrI
      obtain ⟨nv, np, ne⟩ := n
      simp only [fail_eq, Option.bind_some] at hbad q4 ⊢
      obtain ⟨k', rfl⟩ : ∃ k', k = k' + 1 := ⟨k - 1, by omega⟩
      have stop : ∀ (l : List EnT) (j : Int) (q : Nat) (e : Int), e ≠ 0 → synodref3_entries.l0 b (nv, (np : Int), ne) (k' + 1) l j (q : Int) e = some (l, (q : Int), e) := by
        intro l j q e he
        simp only [synodref3_entries.l0]
        rw [if_neg (by simp [he])]
      by_cases hne : ne = 0
      · subst hne
        simp only [ne_eq, not_true_eq_false, if_false, if_true]
        by_cases h64 : 64 < nv
        · rw [if_pos h64, if_pos h64]
          simp only [Option.bind_some]
          rw [stop _ _ _ 3 (by decide)]
          simp only [Option.bind_some]
          have := rLast hb (k := k' + 1) q4 3 ⟨kd, f.1, t.1, m.1, a1.1, a2.1, a3.1, 0, 0, false, [], 0, 0, []⟩ (fun x => by cases x)
          simp only [] at this
          rw [this]
        · rw [if_neg h64, if_neg h64]
          simp only [Option.bind_some]
          have hnn : 0 ≤ nv := by
            rcases hcase with ⟨_, n, j, h5, _⟩ | ⟨h5, h6, _⟩
            · rw [h5] at hrI; have := congrArg (·.1) hrI; simp at this; omega
            · rw [h6] at hrI; have := congrArg (·.1) hrI; simp at this; omega
          have hl := rents_l0 hb (nv, (np : Int), 0) nv.toNat (k' + 1) np [] 0 (by simp; omega) (by omega) (by simp only []; omega) (by simp) (by omega) q4
          simp only [List.nil_append] at hl
          have q5 := rdEs_le nv.toNat np q4
          have q6 := rdEs_len nv.toNat np q4
          by_cases hr : (rdEs b nv.toNat np).2.2 = 0
          · rw [hl.1 hr]
            simp only [Option.bind_some]
            have := rLast hb (k := k' + 1) q5 0 ⟨kd, f.1, t.1, m.1, a1.1, a2.1, a3.1, 0, 0, false, (rdEs b nv.toNat np).1, 0, 0, []⟩ (fun _ => room_of hb hk (by simp only []; omega) q6.2 (by simp))
            simp only [] at this
            rw [this, hr]
          · obtain ⟨l, q, hq, h5⟩ := hl.2 hr
            rw [h5]
            simp only [Option.bind_some]
            have := rLast hb (k := k' + 1) hq (rdEs b nv.toNat np).2.2 ⟨kd, f.1, t.1, m.1, a1.1, a2.1, a3.1, 0, 0, false, l, 0, 0, []⟩ (fun x => absurd x hr)
            simp only [] at this
            rw [this, finM_err hr, finM_err hr]
      · have hv := hbad hne
        subst hv
        simp only [Int.reduceLT, if_false, ne_eq, hne, not_false_eq_true, if_true, Option.bind_some]
        rw [stop _ _ _ ne hne]
        simp only [Option.bind_some]
        have := rLast hb (k := k' + 1) q4 ne ⟨kd, f.1, t.1, m.1, a1.1, a2.1, a3.1, 0, 0, false, [], 0, 0, []⟩ (fun x => absurd x hne)
        simp only [] at this
        rw [this]
    rw [if_neg k3, if_neg k3]
    by_cases k4 : kd = 4
    · have qb := rBool_le (e := a1.2.2) q1
      have qc := rI_le (e := (rBool b a1.2.1 a1.2.2).2.2) qb
      rw [if_pos k4, if_pos k4, rI' (by omega) hb p4, Option.bind_some]; simp only []
      rw [h1, rO' (by omega) hb q1, Option.bind_some]; simp only []
      rw [rI' (by omega) hb qb, Option.bind_some]; simp only [Option.bind_some, if_true]
      exact rLast hb qc (rI b (rBool b a1.2.1 a1.2.2).2.1 (rBool b a1.2.1 a1.2.2).2.2).2.2 ⟨kd, f.1, t.1, m.1, a1.1, 0, 0, (rI b (rBool b a1.2.1 a1.2.2).2.1 (rBool b a1.2.1 a1.2.2).2.2).1, 0, (rBool b a1.2.1 a1.2.2).1, [], 0, 0, []⟩ (fun _ => room_of hb hk (by simp) (by simp) (by simp))
    rw [if_neg k4, if_neg k4]
    by_cases k5 : kd = 5
    · rw [if_pos k5, if_pos k5, rI' (by omega) hb p4, Option.bind_some]; simp only []
      rw [h1, rI' (by omega) hb q1, Option.bind_some]; simp only [Option.bind_some, if_true]
      rw [h2]
      exact rLast hb q2 a2.2.2 ⟨kd, f.1, t.1, m.1, 0, 0, a1.1, 0, a2.1, false, [], 0, 0, []⟩ (fun _ => room_of hb hk (by simp) (by simp) (by simp))
    rw [if_neg k5, if_neg k5]
    by_cases k6 : kd = 6
    · rw [if_pos k6, if_pos k6, rI' (by omega) hb p4, Option.bind_some]; simp only [Option.bind_some, if_true]
      rw [h1]
      exact rLast hb q1 a1.2.2 ⟨kd, f.1, t.1, m.1, 0, 0, 0, 0, a1.1, false, [], 0, 0, []⟩ (fun _ => room_of hb hk (by simp) (by simp) (by simp))
    have k7 : kd = 7 := by have := hn.1; have := hn.2; omega
    have qd := rBytes_le (b := b) (e := m.2.2) (most := 1048576) p4
    rw [if_neg k6, if_neg k6, if_pos k7, rB' (by omega) hb p4, Option.bind_some]
    simp only []
    by_cases hd : (rBytes b m.2.1 m.2.2 1048576).2.2 = 0
    · rw [if_pos hd, if_neg (not_not_intro hd), rGetP (by omega) (by omega), Option.bind_some]
      simp only [hd, if_true, Option.bind_some]
      have hl := getP_len (rBytes b m.2.1 m.2.2 1048576).1
      exact rLast hb qd.1 _ ⟨kd, f.1, t.1, m.1, 0, 0, 0, 0, 0, false, [], (getP (rBytes b m.2.1 m.2.2 1048576).1).1, (getP (rBytes b m.2.1 m.2.2 1048576).1).2.1, (getP (rBytes b m.2.1 m.2.2 1048576).1).2.2.1⟩ (fun _ => room_of hb hk (by simp) (by simp) (by simp only []; omega))
    · rw [if_neg hd, if_pos hd]
      simp only [Option.bind_some]
      exact rLast hb qd.1 _ ⟨kd, f.1, t.1, m.1, 0, 0, 0, 0, 0, false, [], 0, 0, []⟩ (fun x => absurd x hd)
  · -- an error
    obtain ⟨ee, hee, hs⟩ : ∃ ee : Int, ee ≠ 0 ∧ (if (!decide (nodeP kd)) = true then (some (((pa : Nat) : Int), if ea = 0 then (6 : Int) else ea)) else some ((pa : Int), ea)) = some ((pa : Int), ee) ∧ (if ea ≠ 0 then (zM, ea) else if ¬ nodeP kd then (zM, 6) else finM b (rdK b kd (rI b pa 0).1 (rI b (rI b pa 0).2.1 (rI b pa 0).2.2).1 (rI b (rI b (rI b pa 0).2.1 (rI b pa 0).2.2).2.1 (rI b (rI b pa 0).2.1 (rI b pa 0).2.2).2.2).1 (rI b (rI b (rI b pa 0).2.1 (rI b pa 0).2.2).2.1 (rI b (rI b pa 0).2.1 (rI b pa 0).2.2).2.2).2.1 (rI b (rI b (rI b pa 0).2.1 (rI b pa 0).2.2).2.1 (rI b (rI b pa 0).2.1 (rI b pa 0).2.2).2.2).2.2)) = (zM, ee) := by
      by_cases he : ea = 0
      · have hn : ¬ nodeP kd := fun x => hok ⟨he, x⟩
        exact ⟨6, by decide, by rw [if_pos (by simpa using hn), if_pos he], by rw [if_neg (not_not_intro he), if_pos hn]⟩
      · refine ⟨ea, he, ?_, by rw [if_pos he]⟩
        split <;> simp [he]
    obtain ⟨hs1, hs2⟩ := hs
    have hv : ∀ q : Nat, rI b q ee = (0, q, ee) := fun q => rI_err hee
    have hvb : ∀ q : Nat, rBool b q ee = (false, q, ee) := fun q => rO_err hee
    have hvB : ∀ (q : Nat) (m : Int), rBytes b q ee m = ([], q, ee) := fun q m => rB_err hee
    rw [hs2, hs1]
    simp only [Option.bind_some]
    rw [rI' (by omega) hb p1, hv, Option.bind_some]; simp only []
    rw [rI' (by omega) hb p1, hv, Option.bind_some]; simp only []
    rw [rI' (by omega) hb p1, hv, Option.bind_some]; simp only []
    obtain ⟨k', rfl⟩ : ∃ k', k = k' + 1 := ⟨k - 1, by omega⟩
    have stop : ∀ (s : Int × Int × Int) (l : List EnT) (j : Int) (q : Nat), synodref3_entries.l0 b s (k' + 1) l j (q : Int) ee = some (l, (q : Int), ee) := by
      intro s l j q
      simp only [synodref3_entries.l0]
      rw [if_neg (by simp [hee])]
    have rs : synodref3_entries.f (k' + 1) b (pa : Int) ee = some ([], (pa : Int), ee) := by
      unfold synodref3_entries.f
      rw [rI' (by omega) hb p1, hv, Option.bind_some]
      simp only [Int.reduceLT, if_false, Option.bind_some]
      rw [stop, Option.bind_some]
    have fin : ∀ m : Msg, (finM b (m, pa, ee)) = (zM, ee) := fun m => finM_err hee
    have go : ∀ (m : Msg), ((synodref1_Reader_Done.f b (pa : Int) ee).bind fun s97v => ((if s97v = (0 : Int) then ((synodref3_CheckMessage.f (k' + 1) m.kd m.fr m.to m.tm m.ix m.lt m.cm m.hi m.cx m.rj m.es m.si m.st m.sd).bind fun s114v => (some s114v)) else (some s97v)).bind fun s100v => (if s100v = (0 : Int) then (some (m.kd, m.fr, m.to, m.tm, m.ix, m.lt, m.cm, m.hi, m.cx, m.rj, m.es, m.si, m.st, m.sd, s100v)) else (some (0, 0, 0, 0, 0, 0, 0, 0, 0, false, ([] : List (Int × Int × Int × List UInt8)), 0, 0, ([] : List UInt8), s100v))))) = some (tupM zM ee) := fun m => by
      rw [rLast hb p1 ee m (fun x => absurd x hee), fin]
    have eI : synodref1_Reader_Int.f (k' + 1) b (pa : Int) ee = some (0, (pa : Int), ee) := by rw [rI' (by omega) hb p1, hv]
    have eO : synodref1_Reader_Bool.f (k' + 1) b (pa : Int) ee = some (false, (pa : Int), ee) := by rw [rO' (by omega) hb p1, hvb]
    have eB : ∀ m : Int, synodref1_Reader_Bytes.f (k' + 1) b (pa : Int) ee m = some ([], (pa : Int), ee) := fun m => by rw [rB' (by omega) hb p1, hvB]
    simp only [eI, eO, eB, rs, Option.bind_some, hee, if_false, ite_self]
    exact go ⟨kd, 0, 0, 0, 0, 0, 0, 0, 0, false, [], 0, 0, []⟩
end
end Go.Proofs.Ytdoghfenhoigmaa

/- The plain law of WireBack: what was written is read, and written again. Conditions: as each says. -/
import Derived.Test.YtdolffamgbcokaaPlWr
namespace Go.Proofs.Ytdolffamgbcokaa
set_option linter.unusedVariables false
set_option linter.unusedSimpArgs false
open Go.RowKit
/-- The bytes of one thing, where it may be. -/
def encP (x : PutT) : List UInt8 :=
  if x.1 = 0 then bytesV x.2.1 else if x.1 = 1 then bytesV (b01 x.2.2.2.1) else if x.1 = 2 then bytesV (x.2.2.2.2.length : Int) ++ x.2.2.2.2 else if x.1 = 3 then bytesV (x.2.2.2.2.length : Int) ++ x.2.2.2.2 else []
def okP (x : PutT) : Prop :=
  if x.1 = 0 then okN x.2.1 else if x.1 = 1 then True else if x.1 = 2 then ¬ max x.2.2.1 0 < (x.2.2.2.2.length : Int) else if x.1 = 3 then ¬ max x.2.2.1 0 < (x.2.2.2.2.length : Int) else True
theorem okN_b01 (v : Bool) : okN (b01 v) := by cases v <;> (unfold okN b01; simp)
theorem told_ok {x : PutT} (h : okP x) (b : List UInt8) : told b 0 x = (b ++ encP x, 0) := by
  unfold told encP
  unfold okP at h
  unfold wNum wBytes
  split
  · rename_i h0
    rw [if_pos h0] at h
    rw [if_pos rfl, (errV_zero _).2 h]
  · rename_i h0
    rw [if_neg h0] at h
    split
    · rw [if_pos rfl, (errV_zero _).2 (okN_b01 _)]
    · rename_i h1
      rw [if_neg h1] at h
      split
      · rename_i h2
        rw [if_pos h2] at h
        rw [if_pos rfl, if_neg h, List.append_assoc]
      · rename_i h2
        rw [if_neg h2] at h
        split
        · rename_i h3
          rw [if_pos h3] at h
          rw [if_pos rfl, if_neg h, List.append_assoc]
        · simp
theorem told_bad {x : PutT} (h : ¬ okP x) (b : List UInt8) : (told b 0 x).2 ≠ 0 := by
  unfold told
  unfold okP at h
  unfold wNum wBytes
  split
  · rename_i h0
    rw [if_pos h0] at h
    rw [if_pos rfl]
    exact fun e => h ((errV_zero _).1 e)
  · rename_i h0
    rw [if_neg h0] at h
    split
    · rename_i h1
      rw [if_pos h1] at h
      exact absurd trivial h
    · rename_i h1
      rw [if_neg h1] at h
      split
      · rename_i h2
        rw [if_pos h2] at h
        rw [if_pos rfl, if_pos (Classical.not_not.1 h)]; simp
      · rename_i h2
        rw [if_neg h2] at h
        split
        · rename_i h3
          rw [if_pos h3] at h
          rw [if_pos rfl, if_pos (Classical.not_not.1 h)]; simp
        · rename_i h3
          rw [if_neg h3] at h
          exact absurd trivial h
theorem told_err {x : PutT} {e : Int} (he : e ≠ 0) (b : List UInt8) : told b e x = (b, e) := by
  unfold told wNum wBytes
  rw [if_neg he, if_neg he, if_neg he]
  split
  · rfl
  · split
    · rfl
    · split
      · rfl
      · split <;> rfl
def allTold : List PutT → List UInt8 × Int → List UInt8 × Int
  | [], s => s
  | x :: l, s => allTold l (told s.1 s.2 x)
theorem allTold_err : ∀ (l : List PutT) (b : List UInt8) (e : Int), e ≠ 0 → allTold l (b, e) = (b, e)
  | [], b, e, _ => rfl
  | x :: l, b, e, h => by simp only [allTold]; rw [told_err h]; exact allTold_err l b e h
theorem allTold_ok : ∀ (l : List PutT) (b : List UInt8), (allTold l (b, 0)).2 = 0 → (∀ x ∈ l, okP x) ∧ allTold l (b, 0) = (b ++ l.flatMap encP, 0)
  | [], b, _ => by simp [allTold]
  | x :: l, b, h => by
    simp only [allTold] at h ⊢
    by_cases hx : okP x
    · rw [told_ok hx] at h ⊢
      obtain ⟨h1, h2⟩ := allTold_ok l _ h
      refine ⟨fun y hy => ?_, by rw [h2]; simp⟩
      rcases List.mem_cons.1 hy with rfl | hy
      · exact hx
      · exact h1 y hy
    · have hb := told_bad hx b
      have : allTold l (told b 0 x) = told b 0 x := allTold_err l _ _ hb
      rw [this] at h
      exact absurd h hb
theorem tell_eq {k : Nat} (hk : 10 ≤ k) {b : List UInt8} (x : PutT) (hb : b.length + 9 + (bOf x).length < 140737488355328) (e : Int) : synodlaw1_tell.f k b e x.1 x.2.1 x.2.2.1 x.2.2.2.1 x.2.2.2.2 = some (told b e x) := by
  unfold synodlaw1_tell.f told
  unfold bOf at hb
  by_cases h0 : x.1 = 0
  · rw [if_pos h0, if_pos h0, wInt_eq (by omega) (by omega)]; rfl
  by_cases h1 : x.1 = 1
  · rw [if_neg h0, if_neg h0, if_pos h1, if_pos h1, wBool_eq (by omega) (by omega)]; rfl
  by_cases h2 : x.1 = 2
  · rw [if_neg h0, if_neg h0, if_neg h1, if_neg h1, if_pos h2, if_pos h2, wBytes_eq (by omega) (by omega)]; rfl
  by_cases h3 : x.1 = 3
  · rw [if_neg h0, if_neg h0, if_neg h1, if_neg h1, if_neg h2, if_neg h2, if_pos h3, if_pos h3, wText_eq (by omega) (by omega)]; rfl
  · rw [if_neg h0, if_neg h0, if_neg h1, if_neg h1, if_neg h2, if_neg h2, if_neg h3, if_neg h3]
theorem tells_loop (x0 : List PutT) (hx : x0.length ≤ 300) (hB : ∀ j, j < x0.length → (bOf (x0.getD j dPut)).length ≤ 20000) : ∀ (d i k : Nat) (b : List UInt8) (e : Int), i + d = x0.length → 7000000 + d ≤ k → b.length ≤ i * 20009 →
    synodlaw1_WireBack.l0 x0 k (i : Int) b e = some (allTold (x0.drop i) (b, e)) ∧ (allTold (x0.drop i) (b, e)).1.length ≤ 6002700
  | d, i, 0, b, e, _, hk, _ => by omega
  | 0, i, k + 1, b, e, h, hk, hb => by
    simp only [synodlaw1_WireBack.l0]
    rw [if_neg (by omega), List.drop_of_length_le (by omega)]
    exact ⟨rfl, by simp only [allTold]; omega⟩
  | d + 1, i, k + 1, b, e, h, hk, hb => by
    have hi : i < x0.length := by omega
    have hBi := hB i hi
    have hlen := told_len b e (x0.getD i dPut)
    have hd : x0.drop i = x0.getD i dPut :: x0.drop (i + 1) := by rw [getD_at _ _ _ hi]; exact List.drop_eq_getElem_cons hi
    obtain ⟨h1, h2⟩ := tells_loop x0 hx hB d (i + 1) k (told b e (x0.getD i dPut)).1 (told b e (x0.getD i dPut)).2 (by omega) (by omega) (by omega)
    rw [hd]
    simp only [allTold]
    refine ⟨?_, h2⟩
    rw [← h1]
    simp only [synodlaw1_WireBack.l0]
    have e2 : IntKind.i64.wrap ((i : Int) + 1) = ((i + 1 : Nat) : Int) := by rw [w64 (by omega) (by omega)]; simp
    rw [if_pos (by omega), if_pos (by omega), e2]
    simp only [Int.toNat_natCast]
    rw [tell_eq (by omega) (x0.getD i dPut) (by omega)]
    rfl
/-- A number that stands next is read. -/
theorem rNum_next {pre r : List UInt8} {x : Int} (hx : okN x) : rNum (pre ++ (bytesV x ++ r)) pre.length 0 = (x, (((bytesV x).length : Nat) : Int), (0 : Int)) := by
  obtain ⟨n, rfl⟩ := Int.eq_ofNat_of_zero_le hx.1
  have hn : n ≤ 2 ^ 62 := by have := hx.2; omega
  have hb : bytesV (n : Int) = sv n := by unfold bytesV; rw [if_pos hx]; rfl
  have hp := sv_pos n
  unfold rNum decAt
  rw [if_pos rfl, hb, if_neg (by rw [List.length_append, List.length_append]; omega), Int.toNat_natCast, List.drop_left']
  · exact dec_sv hn r
  · rfl
theorem rPos_next {pre r : List UInt8} {x : Int} (hx : okN x) : rPos (pre ++ (bytesV x ++ r)) pre.length 0 = pre.length + (bytesV x).length := by
  unfold rPos; rw [rNum_next hx]; rfl
theorem rBytes_next {pre r l : List UInt8} {most : Int} (hl : l.length < 2 ^ 47) (hm : ¬ max most 0 < (l.length : Int)) :
    rBytes (pre ++ ((bytesV (l.length : Int) ++ l) ++ r)) pre.length 0 most = (l, pre.length + (bytesV (l.length : Int) ++ l).length, 0) := by
  have hx := okN_len hl
  have e1 : pre ++ ((bytesV (l.length : Int) ++ l) ++ r) = pre ++ (bytesV (l.length : Int) ++ (l ++ r)) := by simp
  rw [e1]
  unfold rBytes
  rw [rNum_next hx, rPos_next hx]
  simp only [if_true, Int.toNat_natCast]
  rw [if_neg hm, if_neg (by simp only [List.length_append]; omega)]
  have e2 : (pre ++ (bytesV (l.length : Int) ++ (l ++ r))).drop (pre.length + (bytesV (l.length : Int)).length) = l ++ r := by
    rw [← List.append_assoc, List.drop_left']
    simp
  rw [e2, List.take_left']
  · simp [Nat.add_assoc]
  · rfl
theorem back_loop (x0 : List PutT) (z : List UInt8 × Int × Int) (B : List UInt8) (hz : z.1 = B) (hx : x0.length ≤ 300) (hB : ∀ j, j < x0.length → (bOf (x0.getD j dPut)).length ≤ 20000) (hlen : B.length ≤ 6002700) : ∀ (d i k : Nat) (pre : List UInt8), i + d = x0.length → 7000000 + d ≤ k →
    (∀ x ∈ x0.drop i, okP x) → B = pre ++ (x0.drop i).flatMap encP → synodlaw1_WireBack.l1 x0 z k (i : Int) pre 0 (pre.length : Int) 0 = some (.inl (B, 0, (B.length : Int), 0))
  | d, i, 0, pre, _, hk, _, _ => by omega
  | 0, i, k + 1, pre, h, hk, hok, hpre => by
    simp only [synodlaw1_WireBack.l1]
    rw [List.drop_of_length_le (by omega)] at hpre
    simp at hpre
    rw [if_neg (by omega), hpre]
  | d + 1, i, k + 1, pre, h, hk, hok, hpre => by
    have hi : i < x0.length := by omega
    have hBi := hB i hi
    have hd : x0.drop i = x0.getD i dPut :: x0.drop (i + 1) := by rw [getD_at _ _ _ hi]; exact List.drop_eq_getElem_cons hi
    rw [hd] at hok hpre
    have hokx := hok (x0.getD i dPut) (List.mem_cons_self ..)
    have hB2 : B = pre ++ (encP (x0.getD i dPut) ++ (x0.drop (i + 1)).flatMap encP) := by simpa using hpre
    have hplen : pre.length + (encP (x0.getD i dPut)).length ≤ B.length := by rw [hB2]; simp only [List.length_append]; omega
    have hstep := back_loop x0 z B hz hx hB hlen d (i + 1) k (pre ++ encP (x0.getD i dPut)) (by omega) (by omega) (fun x hxm => hok x (by simp only [List.mem_cons]; exact .inr hxm)) (by rw [hB2]; simp)
    rw [← hstep]
    clear hstep
    simp only [synodlaw1_WireBack.l1]
    have e2 : IntKind.i64.wrap ((i : Int) + 1) = ((i + 1 : Nat) : Int) := by rw [w64 (by omega) (by omega)]; simp
    rw [if_pos (by omega), if_pos (by omega), e2, hz]
    obtain ⟨x, hxe⟩ : ∃ x, x0.getD i dPut = x := ⟨_, rfl⟩
    obtain ⟨Rr, hRr⟩ : ∃ R, (x0.drop (i + 1)).flatMap encP = R := ⟨_, rfl⟩
    rw [hRr] at hB2
    rw [hxe] at hBi hokx hB2 hplen
    simp only [Int.toNat_natCast, hxe]
    clear hok hpre hd hB
    unfold bOf at hBi
    unfold okP at hokx
    unfold encP at hB2 hplen ⊢
    have hpl : pre.length ≤ B.length := by omega
    by_cases h0 : x.1 = 0
    · rw [if_pos h0] at hokx hB2 hplen ⊢
      rw [if_pos h0, rInt_eq (by omega) (by omega) _ _ hpl, hB2, rNum_next hokx, rPos_next hokx, Option.bind_some]
      have hl := bytesV_len x.2.1
      rw [wInt_eq (by omega) (by omega), Option.bind_some]
      unfold wNum
      rw [if_pos rfl, (errV_zero _).2 hokx]
      simp
    by_cases h1 : x.1 = 1
    · rw [if_neg h0, if_pos h1] at hB2 hplen ⊢
      have hv := okN_b01 x.2.2.2.1
      have hl := bytesV_len (b01 x.2.2.2.1)
      have hr : rBool B pre.length 0 = (x.2.2.2.1, pre.length + (bytesV (b01 x.2.2.2.1)).length, 0) := by
        unfold rBool
        rw [hB2, rNum_next hv, rPos_next hv]
        cases x.2.2.2.1 <;> simp [b01]
      rw [if_neg h0, if_pos h1, rBool_eq (by omega) (by omega) _ _ hpl, hr, Option.bind_some]
      simp only []
      rw [wBool_eq (by omega) (by omega), Option.bind_some]
      unfold wNum
      rw [if_pos rfl, (errV_zero _).2 hv]
      simp
    by_cases h2 : x.1 = 2
    · rw [if_neg h0, if_neg h1, if_pos h2] at hokx hB2 hplen ⊢
      have hr := rBytes_next (pre := pre) (r := Rr) (l := x.2.2.2.2) (most := x.2.2.1) (by omega) hokx
      rw [← hB2] at hr
      rw [if_neg h0, if_neg h1, if_pos h2, rBytes_eq (by omega) (by omega) _ _ _ hpl, hr, Option.bind_some]
      simp only []
      rw [wBytes_eq (by omega) (by omega), Option.bind_some, SameBytes_eq (by omega) (by omega)]
      unfold wBytes
      rw [if_pos rfl, if_neg (by omega)]
      simp
    by_cases h3 : x.1 = 3
    · rw [if_neg h0, if_neg h1, if_neg h2, if_pos h3] at hokx hB2 hplen ⊢
      have hr := rBytes_next (pre := pre) (r := Rr) (l := x.2.2.2.2) (most := x.2.2.1) (by omega) hokx
      rw [← hB2] at hr
      rw [if_neg h0, if_neg h1, if_neg h2, if_pos h3, rText_eq (by omega) (by omega) _ _ _ hpl, hr, Option.bind_some]
      simp only []
      rw [wText_eq (by omega) (by omega), Option.bind_some, if_pos trivial]
      unfold wBytes
      rw [if_pos rfl, if_neg (by omega)]
      simp
    · rw [if_neg h0, if_neg h1, if_neg h2, if_neg h3, if_neg h0, if_neg h1, if_neg h2, if_neg h3]
      simp
theorem back_k {k : Nat} (x0 : List PutT) (hx : x0.length * 56 ≤ reachBytes) (hk : x0.length + 8000000 ≤ k) : synodlaw1_WireBack.f k x0 = some true := by
  have hm := reach_lt
  have hx1 := hx
  unfold synodlaw1_WireBack.f
  rw [first_k (by omega), Option.bind_some, parts_eq (by omega) (by omega), Option.bind_some]
  obtain ⟨r, h1, h2⟩ := Few_eq (k := k) (l := x0.map bOf) (by rw [List.length_map]; omega) (by rw [List.length_map]; omega)
  rw [h1, Option.bind_some]
  by_cases hbig : (300 : Int) < (x0.length : Int) ∨ r = false
  · rw [if_pos (by simp; omega)]
  have hr : r = true := by cases r <;> simp_all
  have hB : ∀ j, j < x0.length → (bOf (x0.getD j dPut)).length ≤ 20000 := fun j hj => by
    have := h2 hr j (by simpa using hj)
    rwa [map_getD hj] at this
  have hnw : wire_NewWriter.f = some ([], 0) := rfl
  rw [if_neg (by simp [hr]; omega), hnw, Option.bind_some]
  obtain ⟨h3, h4⟩ := tells_loop x0 (by omega) hB x0.length 0 k [] 0 (by omega) (by omega) (by simp)
  rw [show ((0 : Nat) : Int) = 0 from rfl, List.drop_zero] at h3
  rw [List.drop_zero] at h4
  rw [h3, Option.bind_some]
  by_cases he : (allTold x0 ([], 0)).2 = 0
  · obtain ⟨hok, hall⟩ := allTold_ok x0 [] he
    rw [List.nil_append] at hall
    rw [hall] at h4 ⊢
    simp only [] at h4
    generalize hBB : x0.flatMap encP = B at h4 ⊢
    have hd : wDone B 0 = (B, 0) := by unfold wDone; rw [if_pos rfl]
    have hn : wire_NewReader.f B = some (B, 0, 0) := by unfold wire_NewReader.f; rw [fresh_eq (by omega)]; rfl
    have hl := back_loop x0 (B, 0, 0) B rfl (by omega) hB (by omega) x0.length 0 k [] (by omega) (by omega) (by simpa using hok) (by simpa using hBB.symm)
    rw [show ((0 : Nat) : Int) = 0 from rfl] at hl
    simp only [List.length_nil] at hl
    rw [show ((0 : Nat) : Int) = 0 from rfl] at hl
    rw [wDone_eq (by simp only []; omega)]
    simp only [hd, Option.bind_some, synodref_Num.f, if_true]
    rw [hn, Option.bind_some, hl]
    simp only [orR]
    rw [wDone_eq (by omega), hd, Option.bind_some, SameBytes_eq (by omega) (by omega)]
    have hw0 : IntKind.i64.wrap ((B.length : Int) - (B.length : Int)) = 0 := by rw [w64 (by omega) (by omega)]; omega
    have hw1 : IntKind.i64.wrap 0 = 0 := by decide
    simp [wire_Reader_Done.f, wire_Reader_Left.f, hw0, hw1]
  · have hd : wDone (allTold x0 ([], 0)).1 (allTold x0 ([], 0)).2 = ([], (allTold x0 ([], 0)).2) := by unfold wDone; rw [if_neg he]
    rw [wDone_eq (by omega), hd, Option.bind_some]
    simp only [synodref_Num.f, Option.bind_some]
    rw [if_neg he]
    rfl
theorem pure_WireBack (x0 : List PutT) (hx : x0.length * 56 ≤ reachBytes ∧ ∀ y ∈ x0, Ok62 y) : ∃ k, synodlaw1_WireBack.f k x0 = some true := ⟨_, back_k x0 hx.1 (Nat.le_refl _)⟩
end Go.Proofs.Ytdolffamgbcokaa

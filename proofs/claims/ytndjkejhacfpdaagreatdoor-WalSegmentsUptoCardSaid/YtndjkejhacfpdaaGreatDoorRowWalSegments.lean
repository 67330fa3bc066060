/- The row of the law WalSegments, out of its pure law and the printed walk. Conditions: none. -/
import Derived.Test.YtndjkejhacfpdaaGreatDoorM9
import Derived.Deep.CondSized
import Derived.JoinedCond
import Derived.Lib.ItoaMem
import Derived.Lib.Repeat
import Derived.Lib.SlTrimSet
import Derived.Lib.LaidTab
import Derived.Deep.DeepHandedRow
import Derived.Lay
import Derived.MakeChecks
import Derived.Test.YtndjkejhacfpdaaGreatDoorCards
import Derived.Test.YtndjkejhacfpdaaGreatDoorTie
set_option linter.unusedVariables false
set_option linter.unusedSimpArgs false
set_option linter.unusedSectionVars false
namespace Go.Proofs.YtndjkejhacfpdaaGreatDoor
open Go.RowKit Go.ChangeShapes Go.WideShapes Go.ChangeAt
class Mu (α : Type) where
 mu : α → Nat
instance : Mu Int := ⟨fun _ => 1⟩
instance : Mu Bool := ⟨fun _ => 1⟩
instance : Mu UInt8 := ⟨fun _ => 1⟩
instance {α β : Type} [Mu α] [Mu β] : Mu (α × β) := ⟨fun x => Mu.mu x.1 + Mu.mu x.2⟩
instance {α : Type} [Mu α] : Mu (List α) := ⟨fun l => (l.map Mu.mu).sum + 1⟩
theorem kz (x : Int) : Mu.mu x = 1 := rfl
theorem uH (x : Bool) : Mu.mu x = 1 := rfl
theorem fH {α β : Type} [Mu α] [Mu β] (x : α) (y : β) : Mu.mu (x, y) = Mu.mu x + Mu.mu y := rfl
theorem jL {α : Type} [Mu α] (l : List α) : Mu.mu l = (l.map Mu.mu).sum + 1 := rfl
theorem qQ {α : Type} [Mu α] (x : α) (l : List α) : Mu.mu (x :: l) = Mu.mu x + Mu.mu l := by simp [jL]; omega
theorem pC (l : List UInt8) : Mu.mu l = l.length + 1 := by
 have : ∀ l : List UInt8, (l.map Mu.mu).sum = l.length := by
  intro l
  induction l with
  | nil => rfl
  | cons x l ih =>
   simp only [List.map_cons, List.sum_cons, ih, List.length_cons]
   show 1 + _ = _
   omega
 rw [jL, this]
theorem jc {H : Type} (d : DataW H) : 1 ≤ Rows.uptoBulk d := by
 cases d with
 | lit l => cases l <;> simp [Rows.uptoBulk]
 | nil => simp [Rows.uptoBulk]
 | ptr d => simp [Rows.uptoBulk]
 | slice elems spare => simp [Rows.uptoBulk]
 | agg parts => simp [Rows.uptoBulk]
 | iface t d => simp [Rows.uptoBulk]
 | map entries => simp [Rows.uptoBulk]
 | held h => simp [Rows.uptoBulk]
theorem qh {H : Type} : ∀ l : List (DataW H), l.length ≤ Rows.uptoBulkAll l
 | [] => by simp
 | d :: l => by have := qh l; have := jc d; simp [Rows.uptoBulkAll]; omega
section
variable {H : Type} {enc : TypeId × Value → H} {P : Program} {W : World} {held : Bool} {α β : Type} [Mu α] [Mu β]
def fo (enc : TypeId × Value → H) (P : Program) (W : World) (held : Bool) (t : TypeId) (V : α → List Value → Prop) (r : α → Prop) : Prop :=
 ∀ q cs x, DataW.trod enc P W 0 (fun _ => true) held q t cs = some x → (∀ n ∈ x.1.weights P t, n ≤ reachBytes) → ∃ y, V y cs ∧ one cs ∧ cs.length = P.cellsOf t ∧ r y ∧ Mu.mu y ≤ Rows.uptoBulk x.1
theorem fo.mono {t : TypeId} {V D : α → List Value → Prop} {G q : α → Prop} (h : fo enc P W held t V G) (I : ∀ x r, V x r → D x r) (J : ∀ x, G x → q x) : fo enc P W held t D q := fun u cs x h1 L =>
 let ⟨y, a, b, c, d⟩ := h u cs x h1 L; ⟨y, I _ _ a, b, c, J _ d.1, d.2⟩
theorem fo.map {α β : Type} [Mu α] [Mu β] {H : Type} {enc : TypeId × Value → H} {P : Program} {W : World} {held : Bool} {t : TypeId} {V : α → List Value → Prop} {D : β → List Value → Prop} {G : α → Prop} {q : β → Prop} (f : α → β) (h : fo enc P W held t V G) (I : ∀ x r, V x r → D (f x) r) (J : ∀ x, G x → q (f x)) (L : ∀ x, Mu.mu (f x) = Mu.mu x) : fo enc P W held t D q := fun u cs x h1 U =>
 let ⟨y, a, b, c, d⟩ := h u cs x h1 U; ⟨f y, I _ _ a, b, c, J _ d.1, by rw [L]; exact d.2⟩
theorem fj {t : TypeId} {k : IntKind} (u : P.underlying t = some (.int k)) (D : P.cellsOf t = 1) : fo enc P W held t (fun x r => r = [.int k x]) (okI k) := by
 intro q cs x h _
 cases q with
 | zero => simp [DataW.trod] at h
 | succ n =>
  unfold DataW.trod at h
  rw [u] at h
  split at h <;> simp_all
  rename_i G m
  obtain ⟨rfl, h1⟩ := h.1
  refine ⟨aS rfl, ?_, ?_⟩
  ·simpa [Lit.wf, okI] using h1
  ·first | exact jc _ | (rw [← h.2]; exact jc _)
theorem qw {t : TypeId} (u : P.underlying t = some .bool) (D : P.cellsOf t = 1) : fo enc P W held t (fun x r => r = [.bool x]) (fun _ => True) := by
 intro q cs x h _
 cases q with
 | zero => simp [DataW.trod] at h
 | succ n =>
  unfold DataW.trod at h
  rw [u] at h
  split at h <;> simp_all
  exact ⟨aS rfl, jc _⟩
theorem qi {t e : TypeId} (I : P.underlying t = some (.slice e)) (J : P.underlying e = some (.int .u8)) (L : P.cellsOf e = 1) (hB : P.bytesOf e = 1) (u : P.cellsOf t = 1) :
  fo enc P W held t (fun x r => ∃ a c, r = [.slice a x.length c] ∧ Rd (hJ W) a (ax x) ∧ x.length ≤ c ∧ c ≤ maxLen) (fun x => x.length ≤ reachBytes) := by
 intro U cs x h hw
 obtain ⟨a, c, l, h1, h2, h3, h4, h5⟩ := rG I J L hB h hw
 refine ⟨l, ⟨a, c, h1, h2, h3, h4⟩, by rw [h1]; exact aS rfl, by rw [h1, u]; rfl, h5, ?_⟩
 rw [pC]
 rcases open_ints I J L h with ⟨q, rfl⟩ | ⟨y, n, c', D, q, _, hl, hm, X, rfl, G, a7⟩
 ·rw [h1] at q
  have : l.length = 0 := by simp only [List.cons.injEq, Value.slice.injEq] at q; exact q.1.2.1
  rw [this]
  exact jc _
 ·rw [h1] at q
  have e1 : l.length = n := by simp only [List.cons.injEq, Value.slice.injEq] at q; exact q.1.2.1
  have X : D.length = c' := by simpa using X
  have := qh (lits (H := H) .u8 (D.take n))
  have e2 : (lits (H := H) .u8 (D.take n)).length = n := by simp [lits]; omega
  simp only [Rows.uptoBulk]
  omega
theorem mi {t e : TypeId} {n B : Nat} {V : α → List Value → Prop} {Ok : α → Prop} (ht : P.underlying t = some (.slice e)) (hn : P.cellsOf e = n) (hB : P.bytesOf e = B) (U : P.cellsOf t = 1) (a8 : fo enc P W held e V Ok) :
  fo enc P W held t (fun (xs : List α) r => ∃ a c, r = [.slice a xs.length c] ∧ RdV (hJ W) n V a xs ∧ xs.length ≤ c ∧ c ≤ maxLen) (fun xs => xs.length * B ≤ reachBytes ∧ ∀ y ∈ xs, Ok y) := by
 intro b5 cs x h hw
 rcases DataW.trod_slice ht h with ⟨I, _⟩ | ⟨a, len, cap, u, rest, m, _, rfl, rfl, hb, hl, hm, X, bc, _, _⟩
 ·exact ⟨[], ⟨none, 0, I, RdV.nil, Nat.le_refl _, Nat.zero_le _⟩, by rw [I]; exact aS rfl, by rw [I, U]; rfl, ⟨by simp, by simp⟩, by rw [jL]; exact jc _⟩
 ·subst hn
  have be : len * B ≤ reachBytes := by
   have := hw (((u.map (·.1)).length + (rest.map (·.1)).length) * P.bytesOf e) (by simp [DataW.weights, ht])
   rw [hB] at this
   simp only [List.length_map, X] at this
   exact Nat.le_trans (Nat.mul_le_mul_right _ (Nat.le_add_right _ _)) this
  have ab : ∀ i, i < len → ∃ y r, V y r ∧ one r ∧ r.length = P.cellsOf e ∧ (Ok y ∧ ∀ q, u[i]? = some q → Mu.mu y ≤ Rows.uptoBulk q.1) ∧ ∀ j v, r[j]? = some v → W.cell? (a.add (i * P.cellsOf e + j)) = some v := by
   intro i hi
   have h1 := bc i hi
   obtain ⟨q, L⟩ : ∃ q, u[i]? = some q := ⟨_, List.getElem?_eq_getElem (by omega)⟩
   rw [L] at h1
   obtain ⟨r, hr, br⟩ := Option.bind_eq_some_iff.1 h1
   obtain ⟨bs, b0⟩ := rV hr
   obtain ⟨y, v1, v2, v3, v4⟩ := a8 _ r q br (fun n hn => hw n (by
    simp only [DataW.weights, ht, List.mem_cons, List.mem_append]
    exact .inr (.inl (kG (List.mem_map_of_mem (List.mem_of_getElem? L)) n hn))))
   refine ⟨y, r, v1, v2, bs, ⟨v4.1, fun q' D => by rw [L] at D; cases D; exact v4.2⟩, fun j v G => ?_⟩
   have := b0 j v G
   have ad : (a.add (i * P.cellsOf e)).add j = a.add (i * P.cellsOf e + j) := by
    by_cases h1 : i * P.cellsOf e = 0 <;> by_cases h2 : j = 0 <;> simp [Addr.add, h1, h2, Nat.add_assoc]
   rwa [ad] at this
  have J : ∀ d i, i + d = len → ∃ xs rs, bL (P.cellsOf e) V xs rs ∧ xs.length = d ∧ ((∀ y ∈ xs, Ok y) ∧ (xs.map Mu.mu).sum ≤ Rows.uptoBulkAll ((u.drop i).map (·.1))) ∧ ∀ j v, rs.flatten[j]? = some v → W.cell? (a.add (i * P.cellsOf e + j)) = some v := by
   intro d
   induction d with
   | zero => intro i hi; exact ⟨[], [], trivial, rfl, ⟨by simp, by simp⟩, by simp⟩
   | succ d ih =>
    intro i hi
    obtain ⟨y, r, v1, v2, v3, v4, v5⟩ := ab i (by omega)
    obtain ⟨xs, rs, w1, w2, w3, w4⟩ := ih (i + 1) (by omega)
    refine ⟨y :: xs, r :: rs, ⟨⟨v3, v2, v1⟩, w1⟩, by simp [w2], ⟨?_, ?_⟩, fun j v G => ?_⟩
    ·intro z hz
     rcases List.mem_cons.1 hz with rfl | hz
     ·exact v4.1
     ·exact w3.1 z hz
    ·obtain ⟨q, L⟩ : ∃ q, u[i]? = some q := ⟨_, List.getElem?_eq_getElem (by omega)⟩
     have h1 := v4.2 q L
     have h2 := w3.2
     obtain ⟨hi', D⟩ := List.getElem?_eq_some_iff.1 L
     rw [List.drop_eq_getElem_cons hi', D]
     simp only [List.map_cons, List.sum_cons, Rows.uptoBulkAll]
     omega
    ·simp only [List.flatten_cons] at G
     by_cases hjl : j < r.length
     ·rw [List.getElem?_append_left hjl] at G; exact v5 j v G
     ·rw [List.getElem?_append_right (by omega)] at G
      have := w4 _ v G
      rw [v3, Nat.add_mul] at this
      have e1 : i * P.cellsOf e + 1 * P.cellsOf e + (j - P.cellsOf e) = i * P.cellsOf e + j := by omega
      rwa [e1] at this
  obtain ⟨xs, rs, w1, w2, w3, w4⟩ := J len 0 (by omega)
  refine ⟨xs, ⟨some a, cap, by rw [w2], ⟨rs, w1, pI fun j v G => ?_⟩, by rw [w2]; exact hl, hm⟩, aS rfl, by rw [U]; rfl, ⟨by rw [w2]; exact be, w3.1⟩, by have h2 := w3.2; simp only [List.drop_zero] at h2; rw [jL]; simp only [Rows.uptoBulk]; omega⟩
  have := w4 j v G
  simpa using this
def lV (enc : TypeId × Value → H) (P : Program) (W : World) (held : Bool) (r : List TypeId) (V : α → List Value → Prop) (u : α → Prop) : Prop :=
 ∀ q cs xs, rW enc P W held q r cs xs → (∀ n ∈ DataW.weightsEach P r (xs.map (·.1)), n ≤ reachBytes) → ∃ y, V y cs ∧ one cs ∧ u y ∧ Mu.mu y ≤ Rows.uptoBulkAll (xs.map (·.1))
theorem jk {t : TypeId} {V : α → List Value → Prop} {q : α → Prop} (h : fo enc P W held t V q) : lV enc P W held [t] V q := by
 rintro fuel cs xs ⟨u, c2, x, r, rfl, rfl, h1, rfl, rfl⟩ hw
 obtain ⟨y, a, b, c, d⟩ := h fuel u x h1 (fun n D => hw n (by simp [DataW.weightsEach]; exact D))
 exact ⟨y, by simpa using a, by simpa using b, d.1, by simp only [List.map_cons, List.map_nil, Rows.uptoBulkAll]; exact d.2⟩
theorem dW {t : TypeId} {G : List TypeId} {V : α → List Value → Prop} {I : α → Prop} {J : β → List Value → Prop} {q : β → Prop} (h : fo enc P W held t V I) (U : lV enc P W held G J q) :
  lV enc P W held (t :: G) (fun (x : α × β) cs => ∃ u c2, cs = u ++ c2 ∧ V x.1 u ∧ J x.2 c2) (fun x => I x.1 ∧ q x.2) := by
 rintro fuel cs xs ⟨u, c2, x, r, rfl, rfl, h1, X⟩ hw
 obtain ⟨y, a, b, c, d⟩ := h fuel u x h1 (fun n D => hw n (by simp only [List.map_cons, DataW.weightsEach, List.mem_append]; exact .inl D))
 obtain ⟨z, a2, b2, L⟩ := U fuel c2 r X (fun n D => hw n (by simp only [List.map_cons, DataW.weightsEach, List.mem_append]; exact .inr D))
 exact ⟨(y, z), ⟨u, c2, rfl, a, a2⟩, rR b b2, ⟨d.1, L.1⟩, by have h4 := d.2; have h5 := L.2; simp only [List.map_cons, Rows.uptoBulkAll, fH]; omega⟩
theorem im {t : TypeId} {fs : Array Field} {V : α → List Value → Prop} {D : α → Prop} (G : P.underlying t = some (.struct fs)) (q : oS P 0 fs.toList = true) (I : qj P fs.toList = P.cellsOf t) {J : List TypeId} (r : fs.toList.map (·.type) = J) (h : lV enc P W held J V D) : fo enc P W held t V D := by
 intro L cs x X hw
 obtain ⟨xs, n, rfl, rfl, U, u, hf⟩ := DataW.trod_struct G X
 have := qk n fs.toList 0 cs xs q (by rw [U]; omega) (by simpa using u) (fun i f hi => hf i f (by simpa using hi))
 rw [r] at this
 obtain ⟨y, a, b, c⟩ := h n cs xs (by simpa using this) (fun n hn => hw n (by simp only [DataW.weights, G, r]; exact hn))
 exact ⟨y, a, b, U, c.1, by have h4 := c.2; simp only [Rows.uptoBulk]; omega⟩
end
end Go.Proofs.YtndjkejhacfpdaaGreatDoor

namespace Go.Proofs.YtndjkejhacfpdaaGreatDoor
open Go.RowKit
end Go.Proofs.YtndjkejhacfpdaaGreatDoor

namespace Go.Proofs.YtndjkejhacfpdaaGreatDoor
open Go.RowKit
def inU (z : Int) : Prop := 0 ≤ z ∧ z < 4294967296
theorem fl (n : Int) (q : 0 ≤ n) (r : n < 2 ^ 32) : IntKind.u32.wrap n = n := by rw [IntKind.wrap_u32]; omega
theorem kB (b : BinOp) (m n : Int) : inU (bQ b .u32 m n) := by
 unfold bQ inU
 rw [IntKind.wrap_u32]
 omega
theorem wu {n : Int} (h : inU n) : bQ .and .u32 n 1 = n % 2 := bits_mask .u32 32 (by decide) fl 1 (by decide) n h.1 h.2
theorem sG (m n : Int) : bQ .or .u32 m n = bQ .or .u32 n m := by simp only [bQ, BitVec.or_comm]
theorem pF (i : Nat) {x y : Int} (q : 0 ≤ x) (G : x % 2 ^ i = 0) (r : x < 4294967296) (u : 0 ≤ y) (I : y < 2 ^ i) (D : y < 4294967296) : bQ .or .u32 y x = x + y := by
 rw [sG]
 exact bits_join .u32 32 (by decide) fl i x y q G r u I D
def h1 (z : Int) : Int := if z % 2 = 1 then bQ .xor .u32 (z / 2) 2197175160 else z / 2
def hN : Nat → Int → Int
 | 0, z => z
 | n + 1, z => hN n (h1 z)
theorem sH {z : Int} (h : inU z) : inU (h1 z) := by
 unfold h1
 split
 ·exact kB _ _ _
 ·have := h.1; have := h.2; unfold inU; omega
theorem pG : ∀ (n : Nat) {z : Int}, inU z → inU (hN n z)
 | 0, z, h => h
 | n + 1, z, h => pG n (sH h)
def kT (s : Int) (l : List UInt8) : Int := l.foldl (fun s c => hN 8 (bQ .xor .u32 s (c.toNat : Int))) s
theorem mA : ∀ (l : List UInt8) {s : Int}, inU s → inU (kT s l)
 | [], s, h => h
 | c :: l, s, h => by
  show inU (kT (hN 8 (bQ .xor .u32 s (c.toNat : Int))) l)
  exact mA l (pG 8 (kB _ _ _))
theorem pH (s : Int) (a b : List UInt8) : kT s (a ++ b) = kT (kT s a) b := by unfold kT; rw [List.foldl_append]
theorem wa {i n : Nat} (h : i + n < 2 ^ 62) : IntKind.i64.wrap ((i : Int) + (n : Int)) = ((i + n : Nat) : Int) := by rw [w64 (by omega) (by omega)]; simp
theorem ws1 {n : Nat} (h : n < 2 ^ 61) : IntKind.i64.wrap ((n : Int) + 1) = ((n + 1 : Nat) : Int) := by rw [w64 (by omega) (by omega)]; simp
theorem frG {l : List UInt8} {i : Nat} (h : i < l.length) : l.drop i = l.getD i 0 :: l.drop (i + 1) := by
 rw [List.getD_eq_getElem?_getD, List.getElem?_eq_getElem h]
 exact List.drop_eq_getElem_cons h
theorem nH : ∀ (k i : Nat) (z : Int), 8 - i < k → i ≤ 8 → inU z → bU.l1 k z (i : Int) = some (hN (8 - i) z)
 | 0, i, z, h, _, _ => by omega
 | k + 1, i, z, h, hi, hz => by
  rw [bU.l1]
  by_cases hlt : i < 8
  ·have r : Int.fdiv z (2 ^ (min (1 : Int).toNat IntKind.u32.bits)) = z / 2 := by
    show Int.fdiv z 2 = _
    rw [Int.fdiv_eq_ediv_of_nonneg _ (by decide)]
   have e : 8 - i = (8 - (i + 1)) + 1 := by omega
   have q := sH hz
   unfold h1 at q
   rw [if_pos (by omega), wu hz, r, ws1 (by omega), e]
   show _ = some (hN (8 - (i + 1)) (h1 z))
   unfold h1
   by_cases hb : z % 2 = 1
   ·rw [if_pos hb] at q
    rw [if_pos hb, if_pos hb, nH k (i + 1) _ (by omega) (by omega) q]
   ·rw [if_neg hb] at q
    rw [if_neg hb, if_neg hb, nH k (i + 1) _ (by omega) (by omega) q]
  ·rw [if_neg (by omega), show 8 - i = 0 by omega]
   rfl
theorem qU {x : List UInt8} (q : x.length < 2 ^ 40) : ∀ (k i : Nat) (z : Int), x.length - i + 9 < k → i ≤ x.length → inU z → bU.l0 x k z (i : Int) = some (kT z (x.drop i))
 | 0, i, z, h, _, _ => by omega
 | k + 1, i, z, h, hi, hz => by
  rw [bU.l0]
  by_cases hlt : i < x.length
  ·have r : ((x.getD i 0).toNat : Int) < 256 := by have := qV x i; omega
   rw [if_pos (by omega), if_pos (by omega), frG hlt]
   simp only [Int.toNat_natCast]
   rw [fl _ (by omega) (by omega), show (0 : Int) = ((0 : Nat) : Int) from rfl, nH k 0 _ (by omega) (by omega) (kB _ _ _), Option.bind_some, ws1 (by omega), qU q k (i + 1) _ (by omega) (by omega) (pG _ (kB _ _ _))]
   rfl
  ·rw [if_neg (by omega), List.drop_of_length_le (by omega)]
   rfl
theorem na {x : List UInt8} {z : Int} {k : Nat} (q : x.length < 2 ^ 40) (r : inU z) (u : x.length + 9 < k) : bU.f k z x = some (kT z x) := by
 unfold bU.f
 have := qU q k 0 z (by omega) (by omega) r
 rw [List.drop_zero] at this
 rw [show (0 : Int) = ((0 : Nat) : Int) from rfl, this]
 rfl
abbrev wv : Int := if IntKind.u32.signed then -1 else IntKind.u32.max
def kU (l : List UInt8) : Int := bQ .xor .u32 wv (kT 4294967295 l)
theorem tC (l : List UInt8) : inU (kU l) := kB _ _ _
theorem rE : inU 4294967295 := ⟨by decide, by decide⟩
def eX (n : Int) : List UInt8 := [(dr (IntKind.u8.wrap n)), (dr (IntKind.u8.wrap (Int.fdiv n (2 ^ (min (8 : Int).toNat IntKind.u32.bits))))), (dr (IntKind.u8.wrap (Int.fdiv n (2 ^ (min (16 : Int).toNat IntKind.u32.bits))))), (dr (IntKind.u8.wrap (Int.fdiv n (2 ^ (min (24 : Int).toNat IntKind.u32.bits)))))]
theorem il (n : Int) : 0 ≤ IntKind.u8.wrap n ∧ IntKind.u8.wrap n < 256 := by rw [IntKind.wrap_u8]; omega
theorem sI (n : Int) : fB.f n = some (eX n) := by
 unfold fB.f
 rw [if_pos (il _), if_pos (il _), if_pos (il _), if_pos (il _)]
 rfl
theorem iq (n : Int) : (eX n).length = 4 := rfl
def frB (p : List UInt8) : List UInt8 := eX (p.length : Int) ++ eX (kU (eX (p.length : Int) ++ p)) ++ p
theorem jK (p : List UInt8) : (frB p).length = 8 + p.length := by simp [frB, iq]; omega
theorem wg {q p : List UInt8} {k : Nat} (r : q.length ≤ 2 ^ 40) (hp : p.length ≤ 1048576) (u : p.length + 20 < k) : gS.f k q p = some (q ++ frB p) := by
 unfold gS.f
 rw [fl _ (by omega) (by omega), sI, Option.bind_some, na (by rw [iq]; omega) rE (by rw [iq]; omega), Option.bind_some, na (by omega) (mA _ rE) (by omega), Option.bind_some,
  if_pos (by rw [iq]; omega), sI, Option.bind_some, if_pos (by rw [List.length_append, iq, iq]; omega), if_pos (by simp only [List.length_append, iq]; omega), ← pH]
 simp only [frB, kU, List.append_assoc]
theorem vZ {p : List UInt8} {k : Nat} (q : p.length + 20 < k) : gq.f k p = some (if 1048576 < p.length then ([], 3) else (frB p, 0)) := by
 unfold gq.f
 by_cases h : 1048576 < p.length
 ·rw [if_pos (by omega), if_pos h]
 ·rw [if_neg (by omega), if_neg h, show (8 : Int) + (p.length : Int) = ((8 + p.length : Nat) : Int) by simp, w64 (by omega) (by omega), if_pos (by omega)]
  have : List.replicate (0 : Int).toNat (0 : UInt8) = [] := rfl
  rw [this, wg (by simp) (by omega) q]
  rfl
end Go.Proofs.YtndjkejhacfpdaaGreatDoor

namespace Go.Proofs.YtndjkejhacfpdaaGreatDoor
open Go.RowKit
def nb (l : List UInt8) (i : Nat) : Nat := (l.getD i 0).toNat
theorem kk (l : List UInt8) (i : Nat) : nb l i < 256 := qV l i
def gi (l : List UInt8) : Nat := nb l 0 + 256 * nb l 1 + 65536 * nb l 2 + 16777216 * nb l 3
theorem tY (l : List UInt8) : gi l < 4294967296 := by
 have := kk l 0; have := kk l 1; have := kk l 2; have := kk l 3
 unfold gi; omega
theorem ta {l : List UInt8} (h : 4 ≤ l.length) : fC.f l = some (gi l : Int) := by
 have q := kk l 0; have r := kk l 1; have u := kk l 2; have D := kk l 3
 unfold fC.f
 rw [if_pos (by omega), if_pos (by omega), if_pos (by omega), if_pos (by omega)]
 show some (bQ .or .u32 (bQ .or .u32 (bQ .or .u32 (IntKind.u32.wrap ((nb l 0 : Nat) : Int)) (IntKind.u32.wrap ((IntKind.u32.wrap ((nb l 1 : Nat) : Int)) * 256))) (IntKind.u32.wrap ((IntKind.u32.wrap ((nb l 2 : Nat) : Int)) * 65536))) (IntKind.u32.wrap ((IntKind.u32.wrap ((nb l 3 : Nat) : Int)) * 16777216))) = _
 rw [fl ((nb l 0 : Nat) : Int) (by omega) (by omega), fl ((nb l 1 : Nat) : Int) (by omega) (by omega), fl ((nb l 2 : Nat) : Int) (by omega) (by omega), fl ((nb l 3 : Nat) : Int) (by omega) (by omega),
  fl (((nb l 1 : Nat) : Int) * 256) (by omega) (by omega), fl (((nb l 2 : Nat) : Int) * 65536) (by omega) (by omega), fl (((nb l 3 : Nat) : Int) * 16777216) (by omega) (by omega),
  pF 8 (x := ((nb l 1 : Nat) : Int) * 256) (y := ((nb l 0 : Nat) : Int)) (by omega) (by omega) (by omega) (by omega) (by omega) (by omega), pF 16 (x := ((nb l 2 : Nat) : Int) * 65536) (y := ((nb l 1 : Nat) : Int) * 256 + ((nb l 0 : Nat) : Int)) (by omega) (by omega) (by omega) (by omega) (by omega) (by omega), pF 24 (x := ((nb l 3 : Nat) : Int) * 16777216) (by omega) (by omega) (by omega) (by omega) (by omega) (by omega)]
 unfold gi
 congr 1
 try omega
theorem np {n : Int} (q : 0 ≤ n) (h1 : n < 256) : ((dr n).toNat : Int) = n := gx q h1
theorem oA {n : Int} (h : inU n) (r : List UInt8) : ((gi (eX n ++ r) : Nat) : Int) = n := by
 have G := h.1
 have I := h.2
 have q : Int.fdiv n (2 ^ (min (8 : Int).toNat IntKind.u32.bits)) = n / 256 := by show Int.fdiv n 256 = _; rw [Int.fdiv_eq_ediv_of_nonneg _ (by decide)]
 have u : Int.fdiv n (2 ^ (min (16 : Int).toNat IntKind.u32.bits)) = n / 65536 := by show Int.fdiv n 65536 = _; rw [Int.fdiv_eq_ediv_of_nonneg _ (by decide)]
 have D : Int.fdiv n (2 ^ (min (24 : Int).toNat IntKind.u32.bits)) = n / 16777216 := by show Int.fdiv n 16777216 = _; rw [Int.fdiv_eq_ediv_of_nonneg _ (by decide)]
 have J : ((nb (eX n ++ r) 0 : Nat) : Int) = n % 256 := by
  show ((dr (IntKind.u8.wrap n)).toNat : Int) = _
  rw [np (il _).1 (il _).2, IntKind.wrap_u8]
 have L : ((nb (eX n ++ r) 1 : Nat) : Int) = n / 256 % 256 := by
  show ((dr (IntKind.u8.wrap (Int.fdiv n (2 ^ (min (8 : Int).toNat IntKind.u32.bits))))).toNat : Int) = _
  rw [np (il _).1 (il _).2, IntKind.wrap_u8, q]
 have U : ((nb (eX n ++ r) 2 : Nat) : Int) = n / 65536 % 256 := by
  show ((dr (IntKind.u8.wrap (Int.fdiv n (2 ^ (min (16 : Int).toNat IntKind.u32.bits))))).toNat : Int) = _
  rw [np (il _).1 (il _).2, IntKind.wrap_u8, u]
 have X : ((nb (eX n ++ r) 3 : Nat) : Int) = n / 16777216 % 256 := by
  show ((dr (IntKind.u8.wrap (Int.fdiv n (2 ^ (min (24 : Int).toNat IntKind.u32.bits))))).toNat : Int) = _
  rw [np (il _).1 (il _).2, IntKind.wrap_u8, D]
 unfold gi
 omega
def sd (r : List UInt8) : List UInt8 × Int × Int :=
 if r.length < 4 then ([], 0, 2)
 else if 1048576 < gi r then ([], 0, 3)
 else if r.length < 8 + gi r then ([], 0, 2)
 else if kU (r.take 4 ++ (r.drop 8).take (gi r)) = (gi (r.drop 4) : Int) then ((r.drop 8).take (gi r), ((8 + gi r : Nat) : Int), 0)
 else ([], 0, 5)
theorem wd {b : List UInt8} {i k : Nat} (hb : b.length ≤ 2 ^ 40) (hi : i ≤ b.length) (hk : 1048600 < k) : gd.f k b (i : Int) = some (sd (b.drop i)) := by
 obtain ⟨r, q⟩ : ∃ r, b.drop i = r := ⟨_, rfl⟩
 have D : r.length = b.length - i := by rw [← q]; simp
 unfold gd.f sd
 rw [q]
 by_cases h4 : r.length < 4
 ·rw [if_pos (by rw [w64 (by omega) (by omega)]; simp; omega), if_pos h4]
 ·have G : cut b (i : Int) (b.length : Int) = r := by rw [sF, Int.toNat_natCast, q]
  rw [if_neg (by rw [w64 (by omega) (by omega)]; simp; omega), if_neg h4, if_pos (by omega), G, ta (by omega), Option.bind_some]
  have I := tY r
  obtain ⟨n, J⟩ : ∃ n, gi r = n := ⟨_, rfl⟩
  rw [J] at I ⊢
  rw [w64 (n := (n : Int)) (by omega) (by omega)]
  by_cases h1 : 1048576 < n
  ·rw [if_pos (by omega), if_pos h1]
  ·rw [if_neg (by omega), if_neg h1, show (8 : Int) + (n : Int) = ((8 + n : Nat) : Int) by simp, w64 (by omega) (by omega)]
   by_cases h2 : r.length < 8 + n
   ·rw [if_pos (by omega), if_pos h2]
   ·have L : cut r (0 : Int) (4 : Int) = r.take 4 := by simp [cut]
    have c2 : cut r (8 : Int) ((8 + n : Nat) : Int) = (r.drop 8).take n := wx r 8 n
    have U : cut r (4 : Int) (r.length : Int) = r.drop 4 := by rw [sF]; rfl
    have X : (r.take 4).length = 4 := by simp; omega
    have u : ((r.drop 8).take n).length = n := by simp; omega
    rw [if_neg (by omega), if_neg h2, if_pos (by omega), if_pos (by omega), L, c2, na (by omega) rE (by omega), Option.bind_some, na (by omega) (mA _ rE) (by omega), Option.bind_some, if_pos (by omega), U, ta (by simp; omega), Option.bind_some, ← pH]
    show (if kU (r.take 4 ++ (r.drop 8).take n) = (gi (r.drop 4) : Int) then _ else _) = _
    by_cases h3 : kU (r.take 4 ++ (r.drop 8).take n) = (gi (r.drop 4) : Int)
    ·rw [if_pos h3, if_pos h3, if_pos (by omega), if_pos (by rw [u]; simp; omega)]
     rfl
    ·rw [if_neg h3, if_neg h3]
theorem uA {p : List UInt8} (hp : p.length ≤ 1048576) (r : List UInt8) : sd (frB p ++ r) = (p, ((8 + p.length : Nat) : Int), 0) := by
 have h1 : gi (frB p ++ r) = p.length := by
  have := oA (n := (p.length : Int)) ⟨by omega, by omega⟩ (eX (kU (eX (p.length : Int) ++ p)) ++ p ++ r)
  have e : eX (p.length : Int) ++ (eX (kU (eX (p.length : Int) ++ p)) ++ p ++ r) = frB p ++ r := by simp [frB]
  rw [e] at this
  omega
 have I : (frB p ++ r).length = 8 + p.length + r.length := by rw [List.length_append, jK]
 have q : (frB p ++ r).take 4 = eX (p.length : Int) := by simp [frB, eX]
 have u : (frB p ++ r).drop 4 = eX (kU (eX (p.length : Int) ++ p)) ++ (p ++ r) := by simp [frB, eX]
 have D : ((frB p ++ r).drop 8).take p.length = p := by simp [frB, eX]
 have G := oA (tC (eX (p.length : Int) ++ p)) (p ++ r)
 unfold sd
 rw [h1, D, q, u, G, if_neg (by omega), if_neg (by omega), if_neg (by omega), if_pos rfl]
end Go.Proofs.YtndjkejhacfpdaaGreatDoor

namespace Go.Proofs.YtndjkejhacfpdaaGreatDoor
open Go.RowKit
theorem gJ {α : Type} {l : List α} {i : Nat} {d : α} (h : i < l.length) : l.getD i d = l[i] := by
 rw [List.getD_eq_getElem?_getD, List.getElem?_eq_getElem h]; rfl
theorem sQ {α : Type} {l : List α} {i : Nat} {d : α} (h : i < l.length) : l.drop i = l.getD i d :: l.drop (i + 1) := by
 rw [gJ h]
 exact List.drop_eq_getElem_cons h
theorem vR {p : UInt8 → Bool} (h : ((List.range 256).all fun n => p (UInt8.ofNat n)) = true) (c : UInt8) : p c = true := by
 have := List.all_eq_true.1 h c.toNat (List.mem_range.2 (UInt8.toNat_lt c))
 simpa using this
theorem wn1 {n : Nat} (h : n < 2 ^ 61) : IntKind.i64.wrap ((n : Int) + 1) = ((n + 1 : Nat) : Int) := by rw [w64 (by omega) (by omega)]; simp
def dg (c : UInt8) : Prop := 48 ≤ c.toNat ∧ c.toNat ≤ 57
def iM (a : Nat) (l : List UInt8) : Nat := l.foldl (fun a c => a * 10 + (c.toNat - 48)) a
instance (c : UInt8) : Decidable (dg c) := inferInstanceAs (Decidable (48 ≤ c.toNat ∧ c.toNat ≤ 57))
theorem qt (a : Nat) (c : UInt8) (l : List UInt8) : iM a (c :: l) = iM (a * 10 + (c.toNat - 48)) l := by simp only [iM, List.foldl_cons]
theorem qv (a : Nat) (c : UInt8) (l : List UInt8) : iM a (l ++ [c]) = iM a l * 10 + (c.toNat - 48) := by simp [iM, List.foldl_append]
theorem uo {n : Nat} (h : n < 256) : (UInt8.ofNat n).toNat = n := by simp; omega
theorem rb : ∀ (k u : Nat), u < 10 ^ (k + 1) → (Lib.decDigits u).length ≤ k + 1
 | 0, u, h => by rw [Lib.decDigits, dif_pos (by simpa using h)]; simp
 | k + 1, u, h => by
  rw [Lib.decDigits]
  split
  ·simp
  ·have := rb k (u / 10) (by rw [Nat.pow_succ] at h; omega)
   simp; omega
theorem tK {n : Int} (h : 0 ≤ n) : Lib.itoa n = Lib.decDigits n.toNat := by unfold Lib.itoa; rw [if_neg (by omega)]
def pad : Nat → Nat → List UInt8
 | 0, _ => []
 | k + 1, n => pad k (n / 10) ++ [UInt8.ofNat (48 + n % 10)]
theorem nL : ∀ k n, (pad k n).length = k
 | 0, _ => rfl
 | k + 1, n => by rw [pad, List.length_append, nL k]; rfl
theorem qb : ∀ k, pad k 0 = Lib.repeatL [48] k
 | 0 => rfl
 | k + 1 => by
  have e : ∀ k, Lib.repeatL [48] k ++ [48] = Lib.repeatL [48] (k + 1) := fun k => by
   induction k with
   | zero => rfl
   | succ k ih => rw [Lib.repeatL, List.append_assoc, ih]; rfl
  rw [pad, show (0 : Nat) / 10 = 0 from rfl, qb k]
  exact e k
theorem rc : ∀ (k n : Nat), n < 10 ^ (k + 1) → Lib.repeatL [48] (k + 1 - (Lib.decDigits n).length) ++ Lib.decDigits n = pad (k + 1) n
 | k, n, h => by
  by_cases h10 : n < 10
  ·rw [Lib.decDigits, dif_pos h10, pad, show n / 10 = 0 by omega, show n % 10 = n by omega, qb]
   rfl
  ·rw [Lib.decDigits, dif_neg h10]
   cases k with
   | zero => exact absurd h (by simp; omega)
   | succ k =>
    have q := rc k (n / 10) (by rw [Nat.pow_succ] at h; omega)
    rw [pad, ← q, List.length_append]
    simp only [List.length_cons, List.length_nil]
    rw [show k + 1 + 1 - ((Lib.decDigits (n / 10)).length + (0 + 1)) = k + 1 - (Lib.decDigits (n / 10)).length by omega]
    simp
theorem pW : ∀ (k n : Nat) c, c ∈ pad k n → dg c
 | 0, _, c, h => by cases h
 | k + 1, n, c, h => by
  rw [pad] at h
  rcases List.mem_append.1 h with h | h
  ·exact pW k _ c h
  ·have e : (UInt8.ofNat (48 + n % 10)).toNat = 48 + n % 10 := uo (by omega)
   rw [List.mem_singleton.1 h, dg, e]; omega
theorem pV : ∀ (k n : Nat), n < 10 ^ k → iM 0 (pad k n) = n
 | 0, n, h => by simp at h; subst h; rfl
 | k + 1, n, h => by
  have e : (UInt8.ofNat (48 + n % 10)).toNat = 48 + n % 10 := uo (by omega)
  rw [pad, qv, pV k (n / 10) (by rw [Nat.pow_succ] at h; omega), e]
  omega
end Go.Proofs.YtndjkejhacfpdaaGreatDoor

namespace Go.Proofs.YtndjkejhacfpdaaGreatDoor
open Go.RowKit
abbrev pT : List UInt8 := [119, 97, 108, 45]
def aD (n : Nat) : List UInt8 := pT ++ pad 8 n
def ks (s : List UInt8) : Nat := if s.length = 12 ∧ s.take 4 = pT ∧ (∀ c, c ∈ s.drop 4 → dg c) then iM 0 (s.drop 4) else 0
instance (l : List UInt8) : Decidable (∀ c, c ∈ l → dg c) := inferInstanceAs (Decidable (∀ c ∈ l, dg c))
theorem pU (l : List UInt8) (u : l.length ≤ 8) : ∀ (k j : Nat), 8 - l.length - j < k → j ≤ 8 - l.length → eJ.l0 k (Lib.repeatL [48] j ++ l) = some (Lib.repeatL [48] (8 - l.length) ++ l)
 | 0, j, h, _ => by omega
 | k + 1, j, h, hj => by
  have q : (Lib.repeatL [48] j).length = j := by rw [Lib.repeatL_length]; simp
  rw [eJ.l0]
  by_cases hlt : j < 8 - l.length
  ·rw [if_pos (by rw [List.length_append, q]; omega), if_pos (by rw [List.length_append, q]; simp only [List.length_cons, List.length_nil]; omega)]
   have r := pU l u k (j + 1) (by omega) (by omega)
   rw [Lib.repeatL, List.append_assoc] at r
   exact r
  ·rw [if_neg (by rw [List.length_append, q]; omega), show j = 8 - l.length by omega]
theorem uS {n k : Nat} (r : 1 ≤ n) (h1 : n ≤ 99999999) (u : 10 ≤ k) : eJ.f k (n : Int) = some (aD n, 0) := by
 have q := rb 7 n (by omega)
 have hp := rc 7 n (by omega)
 unfold eJ.f
 have l0 := pU (Lib.decDigits n) (by omega) k 0 (by omega) (by omega)
 rw [if_neg (by simp; omega), gp.f, if_pos (by omega), Option.bind_some, tK (by omega), Int.toNat_natCast]
 rw [show Lib.repeatL [48] 0 ++ Lib.decDigits n = Lib.decDigits n from rfl] at l0
 rw [l0, hp, Option.bind_some, if_pos (by rw [nL]; simp only [List.length_cons, List.length_nil]; omega)]
 rfl
theorem re {s : List UInt8} (u : s.length = 12) : ∀ (k i n : Nat), 8 - i < k → i ≤ 8 → n < 10 ^ i →
  dw.l0 s k (n : Int) (i : Int) = some (if (∀ c, c ∈ (s.drop 4).drop i → dg c) then .inl ((iM n ((s.drop 4).drop i) : Nat) : Int) else .inr (0, false))
 | 0, i, n, h, _, _ => by omega
 | k + 1, i, n, hk, hi, hn => by
  rw [dw.l0]
  have D : cut s (4 : Int) (s.length : Int) = s.drop 4 := by unfold cut; simp
  have G : (s.drop 4).length = 8 := by simp; omega
  rw [D, G]
  by_cases hlt : i < 8
  ·have hm : n * 10 + 9 < 10 ^ 9 := by
    have : (10 : Nat) ^ i ≤ 10 ^ 7 := Nat.pow_le_pow_right (by omega) (by omega)
    omega
   have I : n * 10 < 10 ^ (i + 1) := by rw [Nat.pow_succ]; omega
   have r : (s.drop 4).drop i = (s.drop 4).getD i 0 :: (s.drop 4).drop (i + 1) := by
    have J := sQ (l := s.drop 4) (d := (0 : UInt8)) (i := i) (by omega)
    exact J
   rw [if_pos (by omega), if_pos (by omega), r]
   simp only [Int.toNat_natCast]
   obtain ⟨c, L⟩ : ∃ c, (s.drop 4).getD i 0 = c := ⟨_, rfl⟩
   simp only [L]
   by_cases hd : dg c
   ·have d1 := hd.1
    have d2 := hd.2
    rw [if_neg (by simp; omega)]
    have U : IntKind.i64.wrap (IntKind.i64.wrap (10 * (n : Int)) + IntKind.i64.wrap (IntKind.u8.wrap (((c.toNat : Nat) : Int) - 48))) = ((n * 10 + (c.toNat - 48) : Nat) : Int) := by
     rw [w8 (by omega) (by omega), w64 (n := 10 * (n : Int)) (by omega) (by omega), w64 (n := ((c.toNat : Nat) : Int) - 48) (by omega) (by omega), w64 (by omega) (by omega)]
     omega
    rw [U, wn1 (by omega), re u k (i + 1) _ (by omega) (by omega) (by rw [Nat.pow_succ]; omega), qt]
    have X : (∀ d, d ∈ c :: (s.drop 4).drop (i + 1) → dg d) ↔ (∀ d, d ∈ (s.drop 4).drop (i + 1) → dg d) := ⟨fun h d q => h d (List.mem_cons_of_mem _ q), fun h d q => by
     rcases List.mem_cons.1 q with rfl | q
     ·exact hd
     ·exact h d q⟩
    simp only [X]
   ·rw [if_pos (by
     unfold dg at hd
     simp only [Bool.or_eq_true, decide_eq_true_eq]
     omega), if_neg (fun h => hd (h c (by simp)))]
  ·rw [if_neg (by omega), List.drop_of_length_le (l := s.drop 4) (by omega), if_pos (fun c h => (by cases h))]
   rfl
theorem sL {s : List UInt8} {k : Nat} (u : s.length ≤ 2 ^ 40) (D : 10 ≤ k) : dw.f k s = some ((ks s : Int), decide (0 < ks s)) := by
 unfold dw.f ks
 by_cases hl : s.length = 12
 ·rw [if_pos (by omega), if_pos (by omega), Option.bind_some]
  have q : cut s (0 : Int) (4 : Int) = s.take 4 := by unfold cut; simp
  rw [q]
  by_cases hp : s.take 4 = pT
  ·have l0 := re hl k 0 0 (by omega) (by omega) (by omega)
   rw [show ((0 : Nat) : Int) = (0 : Int) from rfl] at l0
   have r : (cut s (4 : Int) (s.length : Int)).length = 8 := by unfold cut; simp; omega
   rw [if_neg (by simp [hp]), if_pos (show 0 ≤ (4 : Int) ∧ (4 : Int) ≤ (s.length : Int) ∧ (s.length : Int) ≤ (s.length : Int) by omega), if_pos (by rw [r]; omega), l0]
   rw [List.drop_zero]
   by_cases hd : ∀ c, c ∈ s.drop 4 → dg c
   ·rw [if_pos hd, if_pos ⟨hl, hp, hd⟩]
    simp [orR]
   ·rw [if_neg hd, if_neg (fun h => hd h.2.2)]
    rfl
  ·rw [if_pos (by simp [hp]), if_neg (fun h => hp h.2.1)]
   rfl
 ·rw [if_neg (by omega), Option.bind_some, if_pos rfl, if_neg (fun h => hl h.1)]
  rfl
theorem iz (n : Nat) : (aD n).length = 12 := by simp [aD, nL]
theorem kV {n : Nat} (h : n ≤ 99999999) : ks (aD n) = n := by
 have q : (aD n).take 4 = pT := by simp [aD]
 have r : (aD n).drop 4 = pad 8 n := by simp [aD]
 unfold ks
 rw [r, pV 8 n (by omega), if_pos ⟨iz n, q, fun c u => pW 8 n c u⟩]
end Go.Proofs.YtndjkejhacfpdaaGreatDoor

namespace Go.Proofs.YtndjkejhacfpdaaGreatDoor
open Go.RowKit
abbrev EnT := Int × Int × Int × List UInt8
abbrev HeT := Int × Int × Int × List UInt8 × Int
abbrev dM := Int × Int × Int × Int × Int × Int × Int × Int × Int × Int × List UInt8
def eA (r : dM) : List UInt8 :=
 dG r.1 ++ (if r.1 = 0 then dG r.2.1 else []) ++ (if r.1 = 0 ∨ r.1 = 1 then dG r.2.2.1 ++ dG r.2.2.2.1 ++ dG r.2.2.2.2.1 else []) ++ (if r.1 = 0 ∨ r.1 = 3 then dG r.2.2.2.2.2.1 ++ dG r.2.2.2.2.2.2.1 else []) ++
  (if r.1 = 2 then bB (txE r.2.2.2.2.2.2.2.1 r.2.2.2.2.2.2.2.2.1 r.2.2.2.2.2.2.2.2.2.1 r.2.2.2.2.2.2.2.2.2.2) else [])
structure OkR (r : dM) : Prop where
 kd : 0 ≤ r.1 ∧ r.1 ≤ 3
 nu : okN r.2.1
 t : okN r.2.2.1
 v : okN r.2.2.2.1
 c : okN r.2.2.2.2.1
 i : okN r.2.2.2.2.2.1
 m : okN r.2.2.2.2.2.2.1
 e : r.1 = 2 → jz r.2.2.2.2.2.2.2.1 r.2.2.2.2.2.2.2.2.1 r.2.2.2.2.2.2.2.2.2.1 r.2.2.2.2.2.2.2.2.2.2 = 0
theorem ij : bz.f 0 = some () := rfl
theorem qF (t i kd : Int) (d : List UInt8) : (txE t i kd d).length ≤ d.length + 36 := by
 have q := cu t; have r := cu i; have u := cu kd; have D := oX d
 unfold txE
 simp only [List.length_append]
 omega
theorem jR (r : dM) : (eA r).length ≤ r.2.2.2.2.2.2.2.2.2.2.length + 120 := by
 have q := cu r.1; have u := cu r.2.1; have D := cu r.2.2.1; have G := cu r.2.2.2.1; have I := cu r.2.2.2.2.1; have J := cu r.2.2.2.2.2.1; have L := cu r.2.2.2.2.2.2.1
 have U := qF r.2.2.2.2.2.2.2.1 r.2.2.2.2.2.2.2.2.1 r.2.2.2.2.2.2.2.2.2.1 r.2.2.2.2.2.2.2.2.2.2
 have X := oX (txE r.2.2.2.2.2.2.2.1 r.2.2.2.2.2.2.2.2.1 r.2.2.2.2.2.2.2.2.2.1 r.2.2.2.2.2.2.2.2.2.2)
 unfold eA
 simp only [List.length_append]
 have e1 : (if r.1 = 0 then dG r.2.1 else []).length ≤ 9 := by split <;> first | omega | simp
 have e2 : (if r.1 = 0 ∨ r.1 = 1 then dG r.2.2.1 ++ dG r.2.2.2.1 ++ dG r.2.2.2.2.1 else []).length ≤ 27 := by split <;> first | (simp only [List.length_append]; omega) | simp
 have e3 : (if r.1 = 0 ∨ r.1 = 3 then dG r.2.2.2.2.2.1 ++ dG r.2.2.2.2.2.2.1 else []).length ≤ 18 := by split <;> first | (simp only [List.length_append]; omega) | simp
 have e4 : (if r.1 = 2 then bB (txE r.2.2.2.2.2.2.2.1 r.2.2.2.2.2.2.2.2.1 r.2.2.2.2.2.2.2.2.2.1 r.2.2.2.2.2.2.2.2.2.2) else []).length ≤ r.2.2.2.2.2.2.2.2.2.2.length + 45 := by split <;> first | omega | simp
 omega
theorem qG {r : dM} (h : OkR r) {k : Nat} (hk : 10000 ≤ k) : dy.f k r.1 r.2.1 r.2.2.1 r.2.2.2.1 r.2.2.2.2.1 r.2.2.2.2.2.1 r.2.2.2.2.2.2.1 r.2.2.2.2.2.2.2.1 r.2.2.2.2.2.2.2.2.1 r.2.2.2.2.2.2.2.2.2.1 r.2.2.2.2.2.2.2.2.2.2 = some (frB (eA r)) := by
 have I := jR r
 obtain ⟨kd, nu, t, v, c, i, m, L, U, ek, X⟩ := r
 obtain ⟨ab, J, ht, hv, hc, hi, hm, he⟩ := h
 simp only at ab J ht hv hc hi hm he I ⊢
 have b0 := cu kd; have b1 := cu nu; have b2 := cu t; have b3 := cu v; have b4 := cu c; have b5 := cu i; have b6 := cu m
 have q : 10 ≤ k := by omega
 have u : ∀ p : List UInt8, p.length ≤ 9000 → ((dd.f p 0).bind fun D => ((bz.f D.2).bind fun a7 => ((gq.f k D.1).bind fun G => ((bz.f G.2).bind fun a8 => (some G.1))))) = some (frB p) := fun p hp => by
  rw [wD (by omega), Option.bind_some]
  simp only []
  rw [ij, Option.bind_some, vZ (by omega), if_neg (by omega), Option.bind_some]
  simp only []
  rw [ij, Option.bind_some]
 unfold dy.f
 rw [show dY.f = some (([] : List UInt8), 0) from rfl, Option.bind_some]
 simp only []
 rw [wI q (by simp) (show okN kd by unfold okN; omega), Option.bind_some]
 simp only [List.nil_append]
 have a1 : kd = 0 ∨ kd = 1 ∨ kd = 2 ∨ kd = 3 := by omega
 rcases a1 with rfl | rfl | rfl | rfl
 ·rw [if_pos rfl, wI q (by omega) J]
  simp only [Option.bind_some]
  rw [if_pos (by decide), wI q (by first | omega | (simp only [List.length_append, List.length_nil]; omega)) ht, Option.bind_some, wI q (by first | omega | (simp only [List.length_append, List.length_nil]; omega)) hv, Option.bind_some, wI q (by first | omega | (simp only [List.length_append, List.length_nil]; omega)) hc]
  simp only [Option.bind_some]
  rw [if_pos (by decide), wI q (by first | omega | (simp only [List.length_append, List.length_nil]; omega)) hi, Option.bind_some, wI q (by first | omega | (simp only [List.length_append, List.length_nil]; omega)) hm]
  simp only [Option.bind_some]
  rw [if_neg (by decide)]
  simp only [Option.bind_some]
  rw [u _ (by first | omega | (simp only [List.length_append, List.length_nil]; omega))]
  unfold eA
  simp [List.append_assoc]
 ·rw [if_neg (by decide)]
  simp only [Option.bind_some]
  rw [if_pos (by decide), wI q (by first | omega | (simp only [List.length_append, List.length_nil]; omega)) ht, Option.bind_some, wI q (by first | omega | (simp only [List.length_append, List.length_nil]; omega)) hv, Option.bind_some, wI q (by first | omega | (simp only [List.length_append, List.length_nil]; omega)) hc]
  simp only [Option.bind_some]
  rw [if_neg (by decide)]
  simp only [Option.bind_some]
  rw [if_neg (by decide)]
  simp only [Option.bind_some]
  rw [u _ (by first | omega | (simp only [List.length_append, List.length_nil]; omega))]
  unfold eA
  simp [List.append_assoc]
 ·rw [if_neg (by decide)]
  simp only [Option.bind_some]
  rw [if_neg (by decide)]
  simp only [Option.bind_some]
  rw [if_neg (by decide)]
  simp only [Option.bind_some]
  have hE := he rfl
  have be := gW hE
  have b7 := qF L U ek X
  have b8 := oX (txE L U ek X)
  first | rw [if_pos rfl] | rw [if_pos trivial]
  rw [wb q]
  unfold tq
  rw [if_pos hE]
  simp only [Option.bind_some]
  rw [ij, Option.bind_some, wB q (by omega) (by omega) (by omega)]
  simp only [Option.bind_some]
  rw [u _ (by have := cu ((txE L U ek X).length : Int); simp only [List.length_append]; omega)]
  unfold eA
  simp [List.append_assoc, bB]
 ·rw [if_neg (by decide)]
  simp only [Option.bind_some]
  rw [if_neg (by decide)]
  simp only [Option.bind_some]
  rw [if_pos (by decide), wI q (by omega) hi, Option.bind_some, wI q (by first | omega | (simp only [List.length_append, List.length_nil]; omega)) hm]
  simp only [Option.bind_some]
  rw [if_neg (by decide)]
  simp only [Option.bind_some]
  rw [u _ (by first | omega | (simp only [List.length_append, List.length_nil]; omega))]
  unfold eA
  simp [List.append_assoc]
end Go.Proofs.YtndjkejhacfpdaaGreatDoor

namespace Go.Proofs.YtndjkejhacfpdaaGreatDoor
open Go.RowKit
abbrev dzH : HeT := (0, 0, 0, [], 0)
abbrev St := Int × Int × Int × Int × Int × List HeT
structure gj (s : St) : Prop where
 t : okN s.1
 v : okN s.2.1
 c : okN s.2.2.1
 b : okN s.2.2.2.1
 bt : okN s.2.2.2.2.1
 idx : ∀ i, i < s.2.2.2.2.2.length → (s.2.2.2.2.2.getD i dzH).2.1 = s.2.2.2.1 + ((i + 1 : Nat) : Int)
 chk : ∀ e, e ∈ s.2.2.2.2.2 → jz e.1 e.2.1 e.2.2.1 e.2.2.2.1 = 0
theorem mU : gj (0, 0, 0, 0, 0, []) := ⟨⟨by decide, by decide⟩, ⟨by decide, by decide⟩, ⟨by decide, by decide⟩, ⟨by decide, by decide⟩, ⟨by decide, by decide⟩, fun i h => by simp at h, fun e h => by cases h⟩
def dR (s : St) : Int × Int := if 0 < s.2.2.2.2.2.length then ((s.2.2.2.2.2.getD (s.2.2.2.2.2.length - 1) dzH).2.1, (s.2.2.2.2.2.getD (s.2.2.2.2.2.length - 1) dzH).1) else (s.2.2.2.1, s.2.2.2.2.1)
theorem nT {s : St} (h : gj s) : (dR s).1 = s.2.2.2.1 + (s.2.2.2.2.2.length : Int) := by
 unfold dR
 split
 ·rw [h.idx _ (by omega)]; omega
 ·simp; omega
theorem kH {l : List HeT} {i : Nat} (h : i < l.length) : l.getD i dzH ∈ l := by rw [gJ h]; exact List.getElem_mem _
theorem lu {s : St} (h : gj s) : s.2.2.2.1 + (s.2.2.2.2.2.length : Int) ≤ 4611686018427387904 := by
 by_cases hl : 0 < s.2.2.2.2.2.length
 ·have h1 := h.idx (s.2.2.2.2.2.length - 1) (by omega)
  have q := (gW (h.chk _ (kH (i := s.2.2.2.2.2.length - 1) (by omega)))).2.1
  have r := q.2
  rw [h1] at r
  omega
 ·have := h.b.2; omega
theorem pc (fs : FSt) (la : List UInt8) (a : Int) (d : Bool) (most : Int) (sg : List Int) (sz : Int) (s : St) (q : Bool) (r : s.2.2.2.2.2.length < 2 ^ 40) : cg.f fs la a d most sg sz s.1 s.2.1 s.2.2.1 s.2.2.2.1 s.2.2.2.2.1 s.2.2.2.2.2 q = some (dR s) := by
 unfold cg.f dR
 by_cases h0 : 0 < s.2.2.2.2.2.length
 ·have e : (s.2.2.2.2.2.length : Int) - 1 = ((s.2.2.2.2.2.length - 1 : Nat) : Int) := by omega
  rw [if_pos (by omega), if_pos h0, e, w64 (by omega) (by omega), if_pos (by omega), Int.toNat_natCast]
 ·rw [if_neg (by omega), if_neg h0]
def ml (s : St) (i m : Int) : Bool :=
 if i = s.2.2.2.1 then decide (m = s.2.2.2.2.1) else if s.2.2.2.1 < i ∧ i - s.2.2.2.1 ≤ (s.2.2.2.2.2.length : Int) then decide ((s.2.2.2.2.2.getD (i - s.2.2.2.1 - 1).toNat dzH).1 = m) else false
theorem ru (fs : FSt) (la : List UInt8) (a : Int) (d : Bool) (most : Int) (sg : List Int) (sz : Int) {s : St} (h : gj s) (q : Bool) {i : Int} (hi : okN i) (m : Int) : cQ.f fs la a d most sg sz s.1 s.2.1 s.2.2.1 s.2.2.2.1 s.2.2.2.2.1 s.2.2.2.2.2 q i m = some (ml s i m) := by
 have r := h.b
 unfold okN at r hi
 unfold cQ.f ml
 by_cases e : i = s.2.2.2.1
 ·rw [if_pos e, if_pos e]
 ·rw [if_neg e, if_neg e, w64 (n := i - s.2.2.2.1) (by omega) (by omega)]
  by_cases h2 : s.2.2.2.1 < i ∧ i - s.2.2.2.1 ≤ (s.2.2.2.2.2.length : Int)
  ·rw [if_pos (by simpa using h2), if_pos h2, w64 (by omega) (by omega), if_pos (by omega)]; rfl
  ·rw [if_neg (by simpa using h2), if_neg h2]; rfl
def gz (s : St) (r : dM) (sg : Int) : St :=
 if r.1 = 1 then (r.2.2.1, r.2.2.2.1, r.2.2.2.2.1, s.2.2.2.1, s.2.2.2.2.1, s.2.2.2.2.2)
 else if r.1 = 2 then
  (if s.2.2.2.1 + (s.2.2.2.2.2.length : Int) + 1 < r.2.2.2.2.2.2.2.2.1 then s
  else if r.2.2.2.2.2.2.2.2.1 ≤ s.2.2.2.1 then (s.1, s.2.1, s.2.2.1, r.2.2.2.2.2.2.2.2.1 - 1, 0, [(r.2.2.2.2.2.2.2.1, r.2.2.2.2.2.2.2.2.1, r.2.2.2.2.2.2.2.2.2.1, r.2.2.2.2.2.2.2.2.2.2, sg)])
  else (s.1, s.2.1, s.2.2.1, s.2.2.2.1, s.2.2.2.2.1, s.2.2.2.2.2.take (r.2.2.2.2.2.2.2.2.1 - s.2.2.2.1 - 1).toNat ++ [(r.2.2.2.2.2.2.2.1, r.2.2.2.2.2.2.2.2.1, r.2.2.2.2.2.2.2.2.2.1, r.2.2.2.2.2.2.2.2.2.2, sg)]))
 else if ml s r.2.2.2.2.2.1 r.2.2.2.2.2.2.1 = true then s else (s.1, s.2.1, s.2.2.1, r.2.2.2.2.2.1, r.2.2.2.2.2.2.1, [])
theorem vw (l : List HeT) (n : Nat) : cut l (0 : Int) (n : Int) = l.take n := by unfold cut; simp
theorem vx (fs : FSt) (la : List UInt8) (a : Int) (d : Bool) (most : Int) (q : List Int) (sz : Int) {s : St} (h : gj s) (hl : s.2.2.2.2.2.length < 2 ^ 30) {r : dM} (u : OkR r) (h0 : r.1 ≠ 0) (sg : Int) :
  ∃ b, dJ.f fs la a d most q sz s.1 s.2.1 s.2.2.1 s.2.2.2.1 s.2.2.2.2.1 s.2.2.2.2.2 false r.1 r.2.1 r.2.2.1 r.2.2.2.1 r.2.2.2.2.1 r.2.2.2.2.2.1 r.2.2.2.2.2.2.1 r.2.2.2.2.2.2.2.1 r.2.2.2.2.2.2.2.2.1 r.2.2.2.2.2.2.2.2.2.1 r.2.2.2.2.2.2.2.2.2.2 sg =
   some (b, most, q, sz, (gz s r sg).1, (gz s r sg).2.1, (gz s r sg).2.2.1, (gz s r sg).2.2.2.1, (gz s r sg).2.2.2.2.1, (gz s r sg).2.2.2.2.2, false) := by
 have hk := u.kd
 have I := h.b
 unfold okN at I
 unfold dJ.f gz
 by_cases h1 : r.1 = 1
 ·rw [if_pos h1, if_pos h1]; exact ⟨true, rfl⟩
 rw [if_neg h1, if_neg h1]
 by_cases h2 : r.1 = 2
 ·rw [if_pos h2, if_pos h2, show cY.f = some () from rfl, Option.bind_some]
  unfold fq.f
  have D := (gW (u.e h2)).2.1
  have J := D.1
  have L := D.2
  have G := lu h
  rw [w64 (n := s.2.2.2.1 + (s.2.2.2.2.2.length : Int)) (by omega) (by omega), w64 (n := s.2.2.2.1 + (s.2.2.2.2.2.length : Int) + 1) (by omega) (by omega)]
  by_cases g1 : s.2.2.2.1 + (s.2.2.2.2.2.length : Int) + 1 < r.2.2.2.2.2.2.2.2.1
  ·rw [if_pos g1, if_pos g1]; exact ⟨false, rfl⟩
  ·rw [if_neg g1, if_neg g1]
   by_cases g2 : r.2.2.2.2.2.2.2.2.1 ≤ s.2.2.2.1
   ·rw [if_pos g2, if_pos g2, w64 (n := r.2.2.2.2.2.2.2.2.1 - 1) (by omega) (by omega)]
    simp only [Option.bind_some]
    rw [show r.2.2.2.2.2.2.2.2.1 - (r.2.2.2.2.2.2.2.2.1 - 1) = 1 by omega, show IntKind.i64.wrap (1 : Int) = 1 from by decide, show IntKind.i64.wrap ((1 : Int) - 1) = 0 from by decide, if_pos ⟨by omega, by omega, by simp⟩]
    have U : cut ([] : List HeT) (0 : Int) (0 : Int) = [] := rfl
    rw [U, if_pos (by simp)]
    exact ⟨true, rfl⟩
   ·rw [if_neg g2, if_neg g2]
    simp only [Option.bind_some]
    have X : IntKind.i64.wrap (IntKind.i64.wrap (r.2.2.2.2.2.2.2.2.1 - s.2.2.2.1) - 1) = (((r.2.2.2.2.2.2.2.2.1 - s.2.2.2.1 - 1).toNat : Nat) : Int) := by
     rw [w64 (n := r.2.2.2.2.2.2.2.2.1 - s.2.2.2.1) (by omega) (by omega), w64 (by omega) (by omega)]
     omega
    rw [X, if_pos ⟨by omega, by omega, by omega⟩, vw, if_pos (by simp only [List.length_take, List.length_cons, List.length_nil]; omega)]
    exact ⟨true, rfl⟩
 rw [if_neg h2, if_neg h2, if_pos (by omega), show cY.f = some () from rfl, Option.bind_some]
 unfold ft.f
 rw [ru fs la a d most q sz h false u.i, Option.bind_some]
 cases hh : ml s r.2.2.2.2.2.1 r.2.2.2.2.2.2.1 with
 | true => exact ⟨true, rfl⟩
 | false => exact ⟨true, rfl⟩
theorem sm (l : List HeT) {i n : Nat} (h : i < n) : (l.take n).getD i dzH = l.getD i dzH := by
 simp only [List.getD_eq_getElem?_getD, List.getElem?_take, if_pos h]
theorem nU {s : St} (h : gj s) {r : dM} (D : OkR r) (h0 : r.1 ≠ 0) (sg : Int) : gj (gz s r sg) := by
 have hk := D.kd
 have L := h.b
 unfold okN at L
 unfold gz
 by_cases h1 : r.1 = 1
 ·rw [if_pos h1]; exact ⟨D.t, D.v, D.c, h.b, h.bt, h.idx, h.chk⟩
 rw [if_neg h1]
 by_cases h2 : r.1 = 2
 ·rw [if_pos h2]
  have G := D.e h2
  have J := (gW G).2.1
  have U := J.1
  have X := J.2
  by_cases g1 : s.2.2.2.1 + (s.2.2.2.2.2.length : Int) + 1 < r.2.2.2.2.2.2.2.2.1
  ·rw [if_pos g1]; exact h
  ·rw [if_neg g1]
   by_cases g2 : r.2.2.2.2.2.2.2.2.1 ≤ s.2.2.2.1
   ·rw [if_pos g2]
    refine ⟨h.t, h.v, h.c, ⟨by show 0 ≤ r.2.2.2.2.2.2.2.2.1 - 1; omega, by show r.2.2.2.2.2.2.2.2.1 - 1 ≤ _; omega⟩, ⟨Int.le_refl 0, by show (0 : Int) ≤ _; omega⟩, fun i hi => ?_, fun e q => ?_⟩
    ·have : i = 0 := by simp at hi; omega
     subst this
     show r.2.2.2.2.2.2.2.2.1 = r.2.2.2.2.2.2.2.2.1 - 1 + ((0 + 1 : Nat) : Int)
     omega
    ·rw [List.mem_singleton.1 q]; exact G
   ·rw [if_neg g2]
    have u : (s.2.2.2.2.2.take (r.2.2.2.2.2.2.2.2.1 - s.2.2.2.1 - 1).toNat).length = (r.2.2.2.2.2.2.2.2.1 - s.2.2.2.1 - 1).toNat := by rw [List.length_take]; omega
    refine ⟨h.t, h.v, h.c, h.b, h.bt, fun i hi => ?_, fun e q => ?_⟩
    ·simp only [List.length_append, u, List.length_cons, List.length_nil] at hi
     by_cases hlt : i < (r.2.2.2.2.2.2.2.2.1 - s.2.2.2.1 - 1).toNat
     ·have I : (s.2.2.2.2.2.take (r.2.2.2.2.2.2.2.2.1 - s.2.2.2.1 - 1).toNat ++ [(r.2.2.2.2.2.2.2.1, r.2.2.2.2.2.2.2.2.1, r.2.2.2.2.2.2.2.2.2.1, r.2.2.2.2.2.2.2.2.2.2, sg)]).getD i dzH = s.2.2.2.2.2.getD i dzH := by
       rw [List.getD_eq_getElem?_getD, List.getElem?_append_left (by omega), ← List.getD_eq_getElem?_getD, sm _ hlt]
      simp only [I]
      exact h.idx i (by omega)
     ·have ei : i = (r.2.2.2.2.2.2.2.2.1 - s.2.2.2.1 - 1).toNat := by omega
      have I : (s.2.2.2.2.2.take (r.2.2.2.2.2.2.2.2.1 - s.2.2.2.1 - 1).toNat ++ [(r.2.2.2.2.2.2.2.1, r.2.2.2.2.2.2.2.2.1, r.2.2.2.2.2.2.2.2.2.1, r.2.2.2.2.2.2.2.2.2.2, sg)]).getD i dzH = (r.2.2.2.2.2.2.2.1, r.2.2.2.2.2.2.2.2.1, r.2.2.2.2.2.2.2.2.2.1, r.2.2.2.2.2.2.2.2.2.2, sg) := by
       rw [List.getD_eq_getElem?_getD, List.getElem?_append_right (by omega), u, ei, Nat.sub_self]; rfl
      simp only [I]
      omega
    ·rcases List.mem_append.1 q with q | q
     ·exact h.chk e (List.mem_of_mem_take q)
     ·rw [List.mem_singleton.1 q]; exact G
 rw [if_neg h2]
 split
 ·exact h
 ·exact ⟨h.t, h.v, h.c, D.i, D.m, fun i hi => by simp at hi, fun e q => by cases q⟩
theorem pd (s : St) (r : dM) (sg : Int) : (gz s r sg).2.2.2.2.2.length ≤ s.2.2.2.2.2.length + 1 := by
 unfold gz
 split
 ·exact Nat.le_succ _
 split
 ·split
  ·exact Nat.le_succ _
  split
  ·simp
  ·simp only [List.length_append, List.length_take, List.length_cons, List.length_nil]; omega
 split
 ·exact Nat.le_succ _
 ·simp
/-! ### Which batches may be -/
def jS (t v c : Int) : Int := if ¬ (rg t 0 ∧ rg c 0) ∨ v < 0 ∨ 7 < v then 1 else if v ≠ 0 ∧ t = 0 then 4 else 0
theorem wt (t v c : Int) : cZ.f t v c = some (jS t v c) := by
 unfold cZ.f jS
 rw [nv, Option.bind_some]
 by_cases h1 : rg t 0
 ·rw [decide_eq_true h1]
  simp only [Bool.not_true, Bool.false_eq_true, if_false, nv, Option.bind_some]
  by_cases h2 : rg c 0
  ·rw [decide_eq_true h2]
   simp only [Bool.not_true, Bool.false_or]
   by_cases h3 : v < 0 ∨ 7 < v
   ·rw [if_pos (by simpa using h3), if_pos (c := ¬ (rg t 0 ∧ rg c 0) ∨ v < 0 ∨ 7 < v) (.inr h3)]
   ·rw [if_neg (c := ¬ (rg t 0 ∧ rg c 0) ∨ v < 0 ∨ 7 < v) (fun x => x.elim (fun y => y ⟨h1, h2⟩) h3), if_neg (by simpa using h3)]
    by_cases h5 : v ≠ 0 ∧ t = 0
    ·rw [if_pos (c := v ≠ 0 ∧ t = 0) h5, if_pos (by simpa using h5)]
    ·rw [if_neg (c := v ≠ 0 ∧ t = 0) h5, if_neg (by simpa using h5)]
  ·rw [decide_eq_false h2]
   simp only [Bool.not_false, Bool.true_or, if_true]
   rw [if_pos (.inl fun x => h2 x.2)]
 ·rw [decide_eq_false h1]
  simp only [Bool.not_false, if_true, Option.bind_some, Bool.true_or]
  rw [if_pos (.inl fun x => h1 x.1)]
theorem pe {t v c : Int} (h : jS t v c = 0) : okN t ∧ okN v ∧ okN c := by
 unfold jS at h
 split at h
 ·omega
 ·rename_i g
  have q : rg t 0 ∧ rg c 0 := Decidable.not_not.1 fun x => g (.inl x)
  have r : 0 ≤ v ∧ v ≤ 7 := by constructor <;> (apply Int.not_lt.1; intro x; exact g (.inr (by omega)))
  exact ⟨oK q.1 (by decide), ⟨by omega, by omega⟩, oK q.2 (by decide)⟩
abbrev BaT := Bool × Int × Int × Int × Int × Int × List EnT
def eG : List EnT → Int
 | [] => 0
 | e :: r => if jz e.1 e.2.1 e.2.2.1 e.2.2.2 = 0 then eG r else jz e.1 e.2.1 e.2.2.1 e.2.2.2
def mm : Int → List EnT → Int
 | _, [] => 0
 | l, e :: r => if l + 1 < e.2.1 then 13 else mm e.2.1 r
def gZ (s : St) (b : BaT) : Bool := !decide (b.2.2.2.2.1 = 0) && !ml s b.2.2.2.2.1 b.2.2.2.2.2.1
def kq (b : BaT) : Prop := ((b.2.2.2.2.1 < 0 ∨ 4611686018427387904 < b.2.2.2.2.1) ∨ (b.2.2.2.2.2.1 < 0 ∨ 4611686018427387904 < b.2.2.2.2.2.1)) ∨ ¬ (b.2.2.2.2.1 = 0 ↔ b.2.2.2.2.2.1 = 0)
instance (b : BaT) : Decidable (kq b) := by unfold kq; exact inferInstance
def ig (s : St) (b : BaT) : Int :=
 if b.1 = true ∧ jS b.2.1 b.2.2.1 b.2.2.2.1 ≠ 0 then jS b.2.1 b.2.2.1 b.2.2.2.1
 else if kq b then 1
 else if eG b.2.2.2.2.2.2 ≠ 0 then eG b.2.2.2.2.2.2
 else mm (if gZ s b = true then b.2.2.2.2.1 else (dR s).1) b.2.2.2.2.2.2
theorem pf (l : List EnT) (q : l.length < 2 ^ 40) : ∀ (k i : Nat), l.length - i < k → i ≤ l.length → bJ.l0 l k (i : Int) = some (if eG (l.drop i) = 0 then .inl () else .inr (eG (l.drop i)))
 | 0, i, h, _ => by omega
 | k + 1, i, h, hi => by
  rw [bJ.l0]
  by_cases hlt : i < l.length
  ·rw [if_pos (by omega), if_pos (by omega), cE, Option.bind_some, ws1 (by omega), pf l q k (i + 1) (by omega) (by omega), fT l bA hlt]
   simp only [eG, Int.toNat_natCast]
   by_cases hc : jz (l.getD i bA).1 (l.getD i bA).2.1 (l.getD i bA).2.2.1 (l.getD i bA).2.2.2 = 0
   ·simp only [hc, if_true]
   ·simp only [hc, if_false]
  ·rw [if_neg (by omega), List.drop_of_length_le (by omega)]; rfl
theorem pg (l : List EnT) (D : l.length < 2 ^ 40) (G : eG l = 0) : ∀ (k i : Nat) (z last : Int), l.length - i < k → i ≤ l.length → (0 ≤ last ∧ last ≤ 4611686018427387904) → eG (l.drop i) = 0 →
  bJ.l1 l k z last (i : Int) = some (if mm last (l.drop i) = 0 then .inl () else .inr (mm last (l.drop i)))
 | 0, i, z, last, h, _, _, _ => by omega
 | k + 1, i, z, last, h, hi, hla, hf => by
  rw [bJ.l1]
  by_cases hlt : i < l.length
  ·rw [fT l bA hlt] at hf ⊢
   simp only [eG] at hf
   split at hf
   ·rename_i q
    have u := (gW q).2.1
    have I := u.1
    have r := u.2
    rw [if_pos (by omega), if_pos (by omega), ws1 (by omega), w64 (n := last + 1) (by omega) (by omega)]
    simp only [mm, Int.toNat_natCast]
    by_cases hg : last + 1 < (l.getD i bA).2.1
    ·simp only [if_pos hg]; rfl
    ·simp only [if_neg hg]
     exact pg l D G k (i + 1) _ _ (by omega) (by omega) ⟨by omega, r⟩ hf
   ·rename_i q
    exact absurd hf q
  ·rw [if_neg (by omega), List.drop_of_length_le (by omega)]; rfl
theorem uy (fs : FSt) (la : List UInt8) (a : Int) (d : Bool) (most : Int) (sg : List Int) (sz : Int) {s : St} (h : gj s) (D : Bool) (U : s.2.2.2.2.2.length < 2 ^ 40) (b : BaT) (I : b.2.2.2.2.2.2.length < 2 ^ 40) {k : Nat} (hk : b.2.2.2.2.2.2.length < k) :
  bJ.f k fs la a d most sg sz s.1 s.2.1 s.2.2.1 s.2.2.2.1 s.2.2.2.2.1 s.2.2.2.2.2 D b.1 b.2.1 b.2.2.1 b.2.2.2.1 b.2.2.2.2.1 b.2.2.2.2.2.1 b.2.2.2.2.2.2 = some (ig s b) := by
 have J := pf b.2.2.2.2.2.2 I k 0 (by omega) (by omega)
 rw [List.drop_zero, show ((0 : Nat) : Int) = (0 : Int) from rfl] at J
 have q : ((((((decide (b.2.2.2.2.1 < (0 : Int))) || (decide ((4611686018427387904 : Int) < b.2.2.2.2.1))) || (decide (b.2.2.2.2.2.1 < (0 : Int)))) || (decide ((4611686018427387904 : Int) < b.2.2.2.2.2.1))) || (!((decide (b.2.2.2.2.1 = (0 : Int))) == (decide (b.2.2.2.2.2.1 = (0 : Int)))))) = true) ↔ kq b := by
  unfold kq
  by_cases x1 : b.2.2.2.2.1 = 0 <;> by_cases x2 : b.2.2.2.2.2.1 = 0 <;> simp [x1, x2] <;> omega
 unfold bJ.f ig
 have h1 : (if b.1 = true then ((cZ.f b.2.1 b.2.2.1 b.2.2.2.1).bind fun r => (if r = (0 : Int) then (some (.inl ())) else (some (.inr r)))) else (some (.inl ())) : Option (Unit ⊕ Int)) = some (if b.1 = true ∧ jS b.2.1 b.2.2.1 b.2.2.2.1 ≠ 0 then .inr (jS b.2.1 b.2.2.1 b.2.2.2.1) else .inl ()) := by
  rw [wt]
  by_cases x : b.1 = true
  ·rw [if_pos x, Option.bind_some]
   by_cases y : jS b.2.1 b.2.2.1 b.2.2.2.1 = 0
   ·rw [if_pos y, if_neg (fun z => z.2 y)]
   ·rw [if_neg y, if_pos ⟨x, y⟩]
  ·rw [if_neg x, if_neg (fun z => x z.1)]
 rw [h1]
 by_cases g1 : b.1 = true ∧ jS b.2.1 b.2.2.1 b.2.2.2.1 ≠ 0
 ·rw [if_pos g1, if_pos g1]; rfl
 ·rw [if_neg g1, if_neg g1]
  simp only [orR]
  by_cases g2 : kq b
  ·rw [if_pos (q.2 g2), if_pos g2]
  ·rw [if_neg (fun x => g2 (q.1 x)), if_neg g2, J]
   have hi : okN b.2.2.2.2.1 := by
    unfold kq at g2
    exact ⟨by omega, by omega⟩
   by_cases g3 : eG b.2.2.2.2.2.2 = 0
   ·rw [if_pos g3, if_neg (c := eG b.2.2.2.2.2.2 ≠ 0) (fun x => x g3)]
    simp only [orR]
    rw [pc fs la a d most sg sz s D U, Option.bind_some]
    have X : (((if ((!decide (b.2.2.2.2.1 = (0 : Int))) == true) = true then (cQ.f fs la a d most sg sz s.1 s.2.1 s.2.2.1 s.2.2.2.1 s.2.2.2.2.1 s.2.2.2.2.2 D b.2.2.2.2.1 b.2.2.2.2.2.1) else some false).bind fun u => (if ((!decide (b.2.2.2.2.1 = (0 : Int))) && (!u)) = true then (some (b.2.2.2.2.1, b.2.2.2.2.1)) else (some (s.2.2.2.1, (dR s).1)))) : Option (Int × Int)) = some (if gZ s b = true then (b.2.2.2.2.1, b.2.2.2.2.1) else (s.2.2.2.1, (dR s).1)) := by
     rw [ru fs la a d most sg sz h D hi]
     unfold gZ
     by_cases x : b.2.2.2.2.1 = 0
     ·simp [x]
     ·cases ml s b.2.2.2.2.1 b.2.2.2.2.2.1 <;> simp [x]
    rw [X, Option.bind_some]
    have G : ∀ p : Int × Int, p = (if gZ s b = true then (b.2.2.2.2.1, b.2.2.2.2.1) else (s.2.2.2.1, (dR s).1)) → p.2 = (if gZ s b = true then b.2.2.2.2.1 else (dR s).1) ∧ 0 ≤ p.2 ∧ p.2 ≤ 4611686018427387904 := fun p hp => by
     have h3 := nT h
     have h4 := lu h
     have h5 := h.b
     unfold okN at h5 hi
     rw [hp]
     split
     ·exact ⟨rfl, hi.1, hi.2⟩
     ·exact ⟨rfl, by show 0 ≤ (dR s).1; omega, by show (dR s).1 ≤ _; omega⟩
    obtain ⟨p, hp⟩ : ∃ p, p = (if gZ s b = true then (b.2.2.2.2.1, b.2.2.2.2.1) else (s.2.2.2.1, (dR s).1)) := ⟨_, rfl⟩
    obtain ⟨p1, p2, p3⟩ := G p hp
    have L := pg b.2.2.2.2.2.2 I g3 k 0 p.1 p.2 (by omega) (by omega) ⟨p2, p3⟩ (by rw [List.drop_zero]; exact g3)
    rw [List.drop_zero, show ((0 : Nat) : Int) = (0 : Int) from rfl] at L
    rw [← hp, L, ← p1]
    by_cases hz : mm p.2 b.2.2.2.2.2.2 = 0
    ·simp only [hz, if_true]
    ·simp only [hz, if_false]
   ·rw [if_neg g3, if_pos (c := eG b.2.2.2.2.2.2 ≠ 0) g3]
end Go.Proofs.YtndjkejhacfpdaaGreatDoor

namespace Go.Proofs.YtndjkejhacfpdaaGreatDoor
open Go.RowKit
/-! ### The records of a batch -/
def iw (e : EnT) : dM := (2, 0, 0, 0, 0, 0, 0, e.1, e.2.1, e.2.2.1, e.2.2.2)
def fS (s : St) (b : BaT) : List dM :=
 (if b.1 = true ∧ (b.2.1 ≠ s.1 ∨ b.2.2.1 ≠ s.2.1) then [(1, 0, b.2.1, b.2.2.1, s.2.2.1, 0, 0, 0, 0, 0, [])] else []) ++ (if gZ s b = true then [(3, 0, 0, 0, 0, b.2.2.2.2.1, b.2.2.2.2.2.1, 0, 0, 0, [])] else []) ++
  b.2.2.2.2.2.2.map iw ++ (if b.1 = true ∧ b.2.2.2.1 ≠ s.2.2.1 then [(1, 0, b.2.1, b.2.2.1, b.2.2.2.1, 0, 0, 0, 0, 0, [])] else [])
theorem ud {x : List UInt8} (h : x.length < 2 ^ 40) : dt.f x = some x := by
 unfold dt.f
 rw [if_pos (by simp; omega)]
 simp
theorem nt (l : List EnT) (q : l.length < 2 ^ 30) (hd : ∀ e, e ∈ l → e.2.2.2.length < 2 ^ 40) : ∀ (k i : Nat) (acc : List dM), l.length - i < k → i ≤ l.length → acc.length ≤ i + 10 → cj.l0 l k acc (i : Int) = some (acc ++ (l.drop i).map iw)
 | 0, i, acc, h, _, _ => by omega
 | k + 1, i, acc, h, hi, ha => by
  rw [cj.l0]
  by_cases hlt : i < l.length
  ·have r : l.getD i bA ∈ l := by rw [gJ hlt]; exact List.getElem_mem _
   rw [if_pos (by omega), if_pos (by omega), Int.toNat_natCast, ud (hd _ r), Option.bind_some, if_pos (by simp only [List.length_cons, List.length_nil]; omega), ws1 (by omega), nt l q hd k (i + 1) _ (by omega) (by omega) (by simp; omega), fT l bA hlt]
   simp [iw]
  ·rw [if_neg (by omega), List.drop_of_length_le (by omega)]; simp
theorem tf (fs : FSt) (la : List UInt8) (a : Int) (d : Bool) (most : Int) (sg : List Int) (sz : Int) {s : St} (h : gj s) (D : Bool) (b : BaT) (hi : okN b.2.2.2.2.1) (hl : b.2.2.2.2.2.2.length < 2 ^ 30) (hd : ∀ e, e ∈ b.2.2.2.2.2.2 → e.2.2.2.length < 2 ^ 40) {k : Nat} (hk : b.2.2.2.2.2.2.length < k) :
  cj.f k fs la a d most sg sz s.1 s.2.1 s.2.2.1 s.2.2.2.1 s.2.2.2.2.1 s.2.2.2.2.2 D b.1 b.2.1 b.2.2.1 b.2.2.2.1 b.2.2.2.2.1 b.2.2.2.2.2.1 b.2.2.2.2.2.2 = some (fS s b) := by
 unfold cj.f fS
 have h1 : ((if b.1 = true then (some ((!decide (b.2.1 = s.1)) || (!decide (b.2.2.1 = s.2.1)))) else (some false)).bind fun G => (if G = true then (if ([((1 : Int), (0 : Int), b.2.1, b.2.2.1, s.2.2.1, (0 : Int), (0 : Int), (0 : Int), (0 : Int), (0 : Int), ([] : List UInt8))] : List dM).length * 104 ≤ 140737488355328 then (some ([((1 : Int), (0 : Int), b.2.1, b.2.2.1, s.2.2.1, (0 : Int), (0 : Int), (0 : Int), (0 : Int), (0 : Int), ([] : List UInt8))] : List dM)) else none) else (some ([] : List dM)))) = some (if b.1 = true ∧ (b.2.1 ≠ s.1 ∨ b.2.2.1 ≠ s.2.1) then [(1, 0, b.2.1, b.2.2.1, s.2.2.1, 0, 0, 0, 0, 0, [])] else []) := by
  rw [if_pos (c := ([((1 : Int), (0 : Int), b.2.1, b.2.2.1, s.2.2.1, (0 : Int), (0 : Int), (0 : Int), (0 : Int), (0 : Int), ([] : List UInt8))] : List dM).length * 104 ≤ 140737488355328) (by simp)]
  cases hb : b.1 with
  | false => simp
  | true => by_cases x : b.2.1 = s.1 <;> by_cases y : b.2.2.1 = s.2.1 <;> simp [x, y]
 rw [h1, Option.bind_some]
 obtain ⟨q, J⟩ : ∃ r : List dM, (if b.1 = true ∧ (b.2.1 ≠ s.1 ∨ b.2.2.1 ≠ s.2.1) then [(1, 0, b.2.1, b.2.2.1, s.2.2.1, 0, 0, 0, 0, 0, [])] else []) = r := ⟨_, rfl⟩
 have l1 : q.length ≤ 1 := by rw [← J]; split <;> simp
 rw [J]
 have h2 : ((if ((!decide (b.2.2.2.2.1 = (0 : Int))) == true) = true then (cQ.f fs la a d most sg sz s.1 s.2.1 s.2.2.1 s.2.2.2.1 s.2.2.2.2.1 s.2.2.2.2.2 D b.2.2.2.2.1 b.2.2.2.2.2.1) else some false).bind fun u => (if ((!decide (b.2.2.2.2.1 = (0 : Int))) && (!u)) = true then (if (q.length + ([((3 : Int), (0 : Int), (0 : Int), (0 : Int), (0 : Int), b.2.2.2.2.1, b.2.2.2.2.2.1, (0 : Int), (0 : Int), (0 : Int), ([] : List UInt8))] : List dM).length) * 104 ≤ 140737488355328 then (some (q ++ ([((3 : Int), (0 : Int), (0 : Int), (0 : Int), (0 : Int), b.2.2.2.2.1, b.2.2.2.2.2.1, (0 : Int), (0 : Int), (0 : Int), ([] : List UInt8))] : List dM))) else none) else (some q))) = some (q ++ (if gZ s b = true then [(3, 0, 0, 0, 0, b.2.2.2.2.1, b.2.2.2.2.2.1, 0, 0, 0, [])] else [])) := by
  rw [if_pos (c := (q.length + ([((3 : Int), (0 : Int), (0 : Int), (0 : Int), (0 : Int), b.2.2.2.2.1, b.2.2.2.2.2.1, (0 : Int), (0 : Int), (0 : Int), ([] : List UInt8))] : List dM).length) * 104 ≤ 140737488355328) (by simp only [List.length_cons, List.length_nil]; omega), ru fs la a d most sg sz h D hi]
  unfold gZ
  by_cases x : b.2.2.2.2.1 = 0
  ·simp [x]
  ·cases ml s b.2.2.2.2.1 b.2.2.2.2.2.1 <;> simp [x]
 rw [h2, Option.bind_some]
 obtain ⟨I, L⟩ : ∃ r : List dM, (if gZ s b = true then [(3, 0, 0, 0, 0, b.2.2.2.2.1, b.2.2.2.2.2.1, 0, 0, 0, [])] else []) = r := ⟨_, rfl⟩
 have l2 : I.length ≤ 1 := by rw [← L]; split <;> simp
 rw [L]
 have U := nt b.2.2.2.2.2.2 hl hd k 0 (q ++ I) (by omega) (by omega) (by simp; omega)
 rw [List.drop_zero, show ((0 : Nat) : Int) = (0 : Int) from rfl] at U
 rw [U, Option.bind_some]
 have af : (q ++ I ++ b.2.2.2.2.2.2.map iw).length < 2 ^ 31 := by simp; omega
 have X : ((b.1 && (!decide (b.2.2.2.1 = s.2.2.1))) = true) ↔ (b.1 = true ∧ b.2.2.2.1 ≠ s.2.2.1) := by simp
 by_cases x : b.1 = true ∧ b.2.2.2.1 ≠ s.2.2.1
 ·rw [if_pos (X.2 x), if_pos x, if_pos (by simp only [List.length_cons, List.length_nil]; omega)]
  rfl
 ·rw [if_neg (fun y => x (X.1 y)), if_neg x, List.append_nil]
  rfl
theorem lK : ∀ {l : List EnT}, eG l = 0 → ∀ e, e ∈ l → jz e.1 e.2.1 e.2.2.1 e.2.2.2 = 0
 | [], _, e, he => by cases he
 | x :: l, h, e, he => by
  rw [eG] at h
  split at h
  ·rename_i q
   rcases List.mem_cons.1 he with rfl | he
   ·exact q
   ·exact lK h e he
  ·rename_i q
   exact absurd h q
theorem ie : okN 0 := ⟨by decide, by decide⟩
theorem ql {s : St} {b : BaT} (h : ig s b = 0) : (b.1 = true → jS b.2.1 b.2.2.1 b.2.2.2.1 = 0) ∧ ¬ kq b ∧ eG b.2.2.2.2.2.2 = 0 ∧ mm (if gZ s b = true then b.2.2.2.2.1 else (dR s).1) b.2.2.2.2.2.2 = 0 := by
 unfold ig at h
 split at h
 ·rename_i g; exact absurd h g.2
 rename_i g
 split at h
 ·omega
 rename_i r
 split at h
 ·rename_i q; exact absurd h q
 rename_i q
 exact ⟨fun x => Decidable.not_not.1 fun y => g ⟨x, y⟩, r, Decidable.not_not.1 q, h⟩
theorem ri {b : BaT} (h : ¬ kq b) : okN b.2.2.2.2.1 ∧ okN b.2.2.2.2.2.1 := by
 unfold kq at h
 exact ⟨⟨by omega, by omega⟩, ⟨by omega, by omega⟩⟩
theorem nG {s : St} (G : gj s) {b : BaT} (h : ig s b = 0) : ∀ r, r ∈ fS s b → OkR r ∧ r.1 ≠ 0 := by
 obtain ⟨h1, I, J, _⟩ := ql h
 have D := ri I
 intro r q
 unfold fS at q
 rcases List.mem_append.1 q with q | q
 ·rcases List.mem_append.1 q with q | q
  ·rcases List.mem_append.1 q with q | q
   ·split at q
    ·rename_i g
     have u := pe (h1 g.1)
     rw [List.mem_singleton.1 q]
     exact ⟨⟨⟨by simp [iw], by simp [iw]⟩, ie, u.1, u.2.1, G.c, ie, ie, fun e => absurd e (by simp)⟩, by simp⟩
    ·cases q
   ·split at q
    ·rw [List.mem_singleton.1 q]
     exact ⟨⟨⟨by simp [iw], by simp [iw]⟩, ie, ie, ie, ie, D.1, D.2, fun e => absurd e (by simp)⟩, by simp⟩
    ·cases q
  ·obtain ⟨e, L, rfl⟩ := List.mem_map.1 q
   exact ⟨⟨⟨by simp [iw], by simp [iw]⟩, ie, ie, ie, ie, ie, ie, fun _ => lK J e L⟩, by simp [iw]⟩
 ·split at q
  ·rename_i g
   have u := pe (h1 g.1)
   rw [List.mem_singleton.1 q]
   exact ⟨⟨⟨by simp [iw], by simp [iw]⟩, ie, u.1, u.2.1, u.2.2, ie, ie, fun e => absurd e (by simp)⟩, by simp⟩
  ·cases q
/-! ### Their bytes -/
def dN : List dM → List UInt8
 | [] => []
 | r :: l => frB (eA r) ++ dN l
def ex (l : List dM) : Nat := (l.map fun r => r.2.2.2.2.2.2.2.2.2.2.length + 128).sum
theorem ku : ∀ l : List dM, (dN l).length ≤ ex l
 | [] => by simp [dN, ex]
 | r :: l => by
  have q := ku l
  have h1 := jR r
  have u := jK (eA r)
  simp only [dN, ex, List.map_cons, List.sum_cons, List.length_append] at q ⊢
  omega
theorem oE (l : List dM) (D : l.length < 2 ^ 40) (G : ex l < 2 ^ 40) (u : ∀ r, r ∈ l → OkR r) : ∀ (k i : Nat) (acc : List UInt8), l.length - i + 10000 < k → i ≤ l.length → acc.length + ex (l.drop i) < 2 ^ 41 → bv.l0 l k acc (i : Int) = some (acc ++ dN (l.drop i))
 | 0, i, acc, h, _, _ => by omega
 | k + 1, i, acc, h, hi, ha => by
  rw [bv.l0]
  by_cases hlt : i < l.length
  ·have I : l.getD i aP ∈ l := by rw [gJ hlt]; exact List.getElem_mem _
   have q := fT l aP hlt
   have h1 := jR (l.getD i aP)
   have L := jK (eA (l.getD i aP))
   have J : ex (l.drop i) = (l.getD i aP).2.2.2.2.2.2.2.2.2.2.length + 128 + ex (l.drop (i + 1)) := by rw [q]; simp [ex]
   rw [if_pos (by omega), if_pos (by omega), Int.toNat_natCast, qG (u _ I) (by omega), Option.bind_some, if_pos (by omega), ws1 (by omega), oE l D G u k (i + 1) _ (by omega) (by omega) (by rw [List.length_append]; omega), q, dN, List.append_assoc]
  ·rw [if_neg (by omega), List.drop_of_length_le (by omega), dN, List.append_nil]
/-! ### A segment that is begun -/
theorem lX (l : List UInt8) : ¬ (eY l 0 false).1 = true := Bool.false_ne_true
theorem iP {fs : FSt} {x : List UInt8} {v : List UInt8 × Int} (h : aQ fs x = some v) : bn fs x = v := by unfold bn; rw [h]; rfl
theorem qo {fs : FSt} {l x : List UInt8} (q : nmB x = true) (r : aQ fs x = none) (u : fs.length < 256) : iX fs l 0 false x = (0, aR fs x ([], 0), l, 0, false) := by
 unfold iX
 rw [if_neg Bool.false_ne_true, if_neg (by rw [q]; decide), if_neg (by rw [r]; decide), if_neg (by omega), if_neg (lX _)]
 rfl
theorem mJ {fs : FSt} {l x b : List UInt8} {v : List UInt8 × Int} (q : aQ fs x = some v) (r : szF fs + b.length ≤ 16777216) : iY fs l 0 false x b = (0, aR fs x (v.1 ++ b, v.2), x, 0, false) := by
 unfold iY
 rw [iP q, if_pos (by rw [q]; rfl), if_neg Bool.false_ne_true, if_neg (by omega), if_neg (lX _)]
 rfl
theorem js {fs : FSt} {l x : List UInt8} {v : List UInt8 × Int} (q : aQ fs x = some v) : ji fs l 0 false x = (0, aR fs x (v.1, (v.1.length : Int)), l, 0, false) := by
 unfold ji
 rw [iP q, if_pos (by rw [q]; rfl), if_neg Bool.false_ne_true, if_neg (lX _)]
 rfl
theorem pw {fs : FSt} {l x : List UInt8} (q : (aQ fs x).isSome = true) : iB fs l 0 false x = (0, dp fs x, (if l = x then [] else l), 0, false) := by
 unfold iB
 rw [if_neg Bool.false_ne_true, if_neg (by rw [q]; decide), if_neg (lX _)]
 rfl
theorem oF (n : Nat) : nmB (aD n) = true := by
 have hd : ∀ c, dg c → lI c = false := fun c q => by
  have := vR (p := fun c => !(decide (48 ≤ c.toNat) && decide (c.toNat ≤ 57)) || !lI c) (by decide +kernel) c
  simp only [decide_eq_true q.1, decide_eq_true q.2, Bool.and_self, Bool.not_true, Bool.false_or, Bool.not_eq_true'] at this
  exact this
 unfold nmB
 rw [Bool.and_eq_true, List.all_eq_true]
 constructor
 ·intro c q
  rcases List.mem_append.1 q with q | q
  ·have : (pT.all fun c => !lI c) = true := by decide +kernel
   exact List.all_eq_true.1 this c q
  ·rw [hd c (pW 8 n c q)]; rfl
 ·rw [iz]; rfl
def eF (n : Nat) (s : St) : dM := (0, (n : Int), s.1, s.2.1, s.2.2.1, (dR s).1, (dR s).2, 0, 0, 0, [])
theorem oG {s : St} (h : gj s) : okN (dR s).1 ∧ okN (dR s).2 := by
 have h1 := nT h
 have r := lu h
 have q := h.b
 unfold okN at q ⊢
 refine ⟨by omega, ?_⟩
 unfold dR
 split
 ·have := (gW (h.chk _ (kH (i := s.2.2.2.2.2.length - 1) (by omega)))).1
  have a := this.1
  have b := this.2
  simp only
  omega
 ·exact h.bt
theorem mp {n : Nat} (q : n ≤ 99999999) {s : St} (h : gj s) : OkR (eF n s) := ⟨⟨by simp [eF], by simp [eF]⟩, ⟨by show 0 ≤ (n : Int); omega, by show (n : Int) ≤ _; omega⟩, h.t, h.v, h.c, (oG h).1, (oG h).2, fun e => absurd e (by simp [eF])⟩
def gB (fs : FSt) (n : Nat) (b : List UInt8) : FSt := aR (aR (aR fs (aD n) ([], 0)) (aD n) ([] ++ b, 0)) (aD n) ([] ++ b, ((([] ++ b : List UInt8)).length : Int))
theorem io (fs : FSt) (n : Nat) (b x : List UInt8) : aQ (gB fs n b) x = if x = aD n then some (b, (b.length : Int)) else aQ fs x := by
 unfold gB
 rw [cK, cK, cK]
 by_cases h : x = aD n
 ·rw [if_pos h.symm, if_pos h]; rfl
 ·rw [if_neg (fun e => h e.symm), if_neg (fun e => h e.symm), if_neg (fun e => h e.symm), if_neg h]
theorem iA {n k : Nat} (q : 1 ≤ n) (h1 : n ≤ 99999999) (r : 10 ≤ k) : cm.f k (n : Int) = some (aD n) := by
 unfold cm.f
 rw [uS q h1 r, Option.bind_some]
 simp only []
 rw [ij, Option.bind_some]
theorem lY {fs : FSt} (hi : fK 256 fs) (U : fs.length < 256) (hz : szF fs + 200 ≤ 16777216) {la : List UInt8} {most : Int} {sg : List Int} (al : sg.length < 2 ^ 40) {sz : Int} {s : St} (hs : gj s) (a1 : s.2.2.2.2.2.length < 2 ^ 30) {n : Nat} (X : 1 ≤ n) (h1 : n ≤ 99999999) (D : aQ fs (aD n) = none) {k : Nat} (hk : 20000 ≤ k) :
  dx.f k fs la 0 false most sg sz s.1 s.2.1 s.2.2.1 s.2.2.2.1 s.2.2.2.2.1 s.2.2.2.2.2 false (n : Int) = some (gB fs n (frB (eA (eF n s))), aD n, 0, false, most, sg ++ [(n : Int)], ((frB (eA (eF n s))).length : Int), s.1, s.2.1, s.2.2.1, s.2.2.2.1, s.2.2.2.2.1, s.2.2.2.2.2, false) ∧
   fK 256 (gB fs n (frB (eA (eF n s)))) ∧ (gB fs n (frB (eA (eF n s)))).length = fs.length + 1 ∧ szF (gB fs n (frB (eA (eF n s)))) ≤ szF fs + (frB (eA (eF n s))).length ∧ (frB (eA (eF n s))).length ≤ 128 := by
 have hr := mp h1 hs
 have a7 := jR (eF n s)
 have G := jK (eA (eF n s))
 have a8 : (eF n s).2.2.2.2.2.2.2.2.2.2.length = 0 := rfl
 have q := qG hr (k := k) (by omega)
 obtain ⟨b, eb⟩ : ∃ b, frB (eA (eF n s)) = b := ⟨_, rfl⟩
 rw [eb] at q G ⊢
 have I := se hi la 0 false (aD n)
 rw [qo (oF n) D U] at I
 have J : aQ (aR fs (aD n) ([], 0)) (aD n) = some ([], 0) := by rw [cK, if_pos rfl]
 have z1 := fa (aD n) (([], 0) : List UInt8 × Int) fs
 rw [tb (by rw [D]; rfl)] at z1
 have l1 := dX fs (aD n) (([], 0) : List UInt8 × Int)
 rw [D] at l1
 simp only [Option.isSome_none, Bool.false_eq_true, if_false, List.length_nil, Nat.add_zero] at l1 z1
 have i2 := nq I la 0 false (aD n) b
 have ha := mJ (l := la) (b := b) J (by omega)
 simp only at i2
 rw [ha] at i2
 have L : aQ (aR (aR fs (aD n) ([], 0)) (aD n) ([] ++ b, 0)) (aD n) = some ([] ++ b, 0) := by rw [cK, if_pos rfl]
 have z2 := fa (aD n) (([] ++ b, 0) : List UInt8 × Int) (aR fs (aD n) ([], 0))
 rw [iP J] at z2
 have l2 := dX (aR fs (aD n) ([], 0)) (aD n) (([] ++ b, 0) : List UInt8 × Int)
 rw [J] at l2
 simp only [Option.isSome_some, if_true, List.length_nil, Nat.add_zero] at l2 z2
 have i3 := jX i2 (aD n) 0 false (aD n)
 have r := js (l := aD n) L
 simp only at i3
 rw [r] at i3
 have z3 := fa (aD n) (([] ++ b, ((([] ++ b : List UInt8)).length : Int)) : List UInt8 × Int) (aR (aR fs (aD n) ([], 0)) (aD n) ([] ++ b, 0))
 rw [iP L] at z3
 have l3 := dX (aR (aR fs (aD n) ([], 0)) (aD n) ([] ++ b, 0)) (aD n) (([] ++ b, ((([] ++ b : List UInt8)).length : Int)) : List UInt8 × Int)
 rw [L] at l3
 simp only [Option.isSome_some, if_true] at l3
 refine ⟨?_, i3, ?_, ?_, by omega⟩
 ·unfold dx.f
  rw [iA X h1 (by omega), Option.bind_some, oe _ _ _ _ _ (by rw [iz]; omega) (by rw [iz]; omega), qo (oF n) D U, Option.bind_some]
  simp only []
  rw [ij, Option.bind_some]
  unfold eW.f
  rw [pc _ _ _ _ _ _ _ s _ (by omega), Option.bind_some]
  have u : dy.f k (0 : Int) (n : Int) s.1 s.2.1 s.2.2.1 (dR s).1 (dR s).2 (0 : Int) (0 : Int) (0 : Int) ([] : List UInt8) = some b := q
  rw [u, Option.bind_some, iA X h1 (by omega), Option.bind_some, lz I _ _ _ _ _ (by omega), ha, Option.bind_some]
  simp only []
  rw [ij, Option.bind_some, Option.bind_some, lP, r, Option.bind_some]
  simp only []
  rw [ij, Option.bind_some, if_pos (by simp only [List.length_cons, List.length_nil]; omega), Option.bind_some]
  rfl
 ·unfold gB; omega
 ·unfold gB; simp only [List.nil_append] at z2 z3 ⊢; omega
end Go.Proofs.YtndjkejhacfpdaaGreatDoor

namespace Go.Proofs.YtndjkejhacfpdaaGreatDoor
open Go.RowKit
def de (s0 m : Nat) : List Int := (List.range' s0 (m + 1)).map fun n : Nat => (n : Int)
theorem eN (s0 m : Nat) : (de s0 m).length = m + 1 := by simp [de]
theorem mv {s0 m i : Nat} (h : i ≤ m) : (de s0 m).getD i 0 = ((s0 + i : Nat) : Int) := by
 unfold de
 rw [List.getD_eq_getElem?_getD, List.getElem?_map, List.getElem?_range' (by omega)]
 simp
theorem tg (s0 m : Nat) : de s0 m ++ [((s0 + m + 1 : Nat) : Int)] = de s0 (m + 1) := by
 unfold de
 rw [List.range'_1_concat (n := m + 1), List.map_append]
 simp [Nat.add_assoc]
theorem sD (s0 m : Nat) : de s0 (m + 1) = (s0 : Int) :: de (s0 + 1) m := by
 unfold de
 rw [List.range'_succ, List.map_cons]
theorem jr (s0 m : Nat) (h : m < 2 ^ 40) : (de s0 m).getD (IntKind.i64.wrap (((de s0 m).length : Int) - 1)).toNat 0 = ((s0 + m : Nat) : Int) := by
 have e : ((de s0 m).length : Int) - 1 = (m : Int) := by rw [eN]; omega
 rw [e, w64 (by omega) (by omega), Int.toNat_natCast, mv (Nat.le_refl _)]
structure Wl where
 fs : FSt
 la : List UInt8
 most : Int
 s0 : Nat
 m : Nat
 size : Nat
 st : St
def Wl.last (w : Wl) : Nat := w.s0 + w.m
abbrev WT := FSt × List UInt8 × Int × Bool × Int × List Int × Int × Int × Int × Int × Int × Int × List HeT × Bool
def Wl.tp (w : Wl) : WT := (w.fs, w.la, 0, false, w.most, de w.s0 w.m, (w.size : Int), w.st.1, w.st.2.1, w.st.2.2.1, w.st.2.2.2.1, w.st.2.2.2.2.1, w.st.2.2.2.2.2, false)
structure WOk (T N Z L : Nat) (w : Wl) : Prop where
 inv : fK 256 w.fs
 num : w.fs.length ≤ N
 siz : szF w.fs ≤ Z
 s1 : 1 ≤ w.s0
 top : w.s0 + w.m ≤ T
 has : ∀ n, w.s0 ≤ n → n ≤ w.s0 + w.m → (aQ w.fs (aD n)).isSome = true
 non : ∀ n, w.s0 + w.m < n → n ≤ 99999999 → aQ w.fs (aD n) = none
 st : gj w.st
 len : w.st.2.2.2.2.2.length ≤ L
 sz : w.size ≤ Z
theorem eV {m n : Nat} (q : m ≤ 99999999) (r : n ≤ 99999999) (h : aD m = aD n) : m = n := by rw [← kV q, h, kV r]
def jn (s : St) (rs : List dM) (sg : Int) : St := rs.foldl (fun s r => gz s r sg) s
theorem mK {sg : Int} : ∀ {rs : List dM} {s : St}, gj s → (∀ r, r ∈ rs → OkR r ∧ r.1 ≠ 0) → gj (jn s rs sg)
 | [], s, h, _ => h
 | r :: rs, s, h, hr => mK (rs := rs) (nU h (hr r (by simp)).1 (hr r (by simp)).2 sg) fun x q => hr x (by simp [q])
theorem oH {sg : Int} : ∀ (rs : List dM) (s : St), (jn s rs sg).2.2.2.2.2.length ≤ s.2.2.2.2.2.length + rs.length
 | [], s => Nat.le_refl _
 | r :: rs, s => by
  have h1 := oH rs (gz s r sg) (sg := sg)
  have q := pd s r sg
  show (jn (gz s r sg) rs sg).2.2.2.2.2.length ≤ _
  rw [List.length_cons]
  omega
theorem rj (p : WT) (q : FSt × List UInt8 × Int × Bool) (rs : List dM) (J : rs.length < 2 ^ 29) (I : ∀ r, r ∈ rs → OkR r ∧ r.1 ≠ 0) {sg : Int} (D : p.2.2.2.2.2.1.getD (IntKind.i64.wrap ((p.2.2.2.2.2.1.length : Int) - 1)).toNat 0 = sg) (most : Int) (u : List Int) (sz : Int) : ∀ (k i : Nat) (s : St), rs.length - i < k → i ≤ rs.length → gj s → s.2.2.2.2.2.length + (rs.length - i) < 2 ^ 30 →
  bv.l1 p rs q k (i : Int) most u sz s.1 s.2.1 s.2.2.1 s.2.2.2.1 s.2.2.2.2.1 s.2.2.2.2.2 false = some (q.1, q.2.1, q.2.2.1, q.2.2.2, most, u, sz, (jn s (rs.drop i) sg).1, (jn s (rs.drop i) sg).2.1, (jn s (rs.drop i) sg).2.2.1, (jn s (rs.drop i) sg).2.2.2.1, (jn s (rs.drop i) sg).2.2.2.2.1, (jn s (rs.drop i) sg).2.2.2.2.2, false)
 | 0, i, s, h, _, _, _ => by omega
 | k + 1, i, s, h, hi, hs, hl => by
  rw [bv.l1]
  by_cases hlt : i < rs.length
  ·have L : rs.getD i aP ∈ rs := by rw [gJ hlt]; exact List.getElem_mem _
   have G := I _ L
   obtain ⟨c, U⟩ := vx q.1 q.2.1 q.2.2.1 q.2.2.2 most u sz hs (by omega) G.1 G.2 sg
   have X := pd s (rs.getD i aP) sg
   rw [if_pos (by omega), if_pos (by omega), Int.toNat_natCast, D, U, Option.bind_some, ws1 (by omega)]
   simp only []
   rw [rj p q rs J I D most u sz k (i + 1) (gz s (rs.getD i aP) sg) (by omega) (by omega) (nU hs G.1 G.2 sg) (by omega), fT rs aP hlt]
   rfl
  ·rw [if_neg (by omega), List.drop_of_length_le (by omega)]
   rfl
def ik (w : Wl) : Wl :=
 if w.most ≤ (w.size : Int) then { w with fs := gB (aR w.fs (aD w.last) ((bn w.fs (aD w.last)).1, ((bn w.fs (aD w.last)).1.length : Int))) (w.last + 1) (frB (eA (eF (w.last + 1) w.st))), la := aD (w.last + 1), m := w.m + 1, size := (frB (eA (eF (w.last + 1) w.st))).length }
 else w
def iT (w : Wl) (rs : List dM) : Wl :=
 { w with fs := if 0 < rs.length then aR w.fs (aD w.last) ((bn w.fs (aD w.last)).1 ++ dN rs, (bn w.fs (aD w.last)).2) else w.fs, la := if 0 < rs.length then aD w.last else w.la, size := w.size + (dN rs).length, st := jn w.st rs (w.last : Int) }
def jW (w : Wl) (b : BaT) : Wl := iT (ik w) (fS (ik w).st b)
theorem iU {fs : FSt} {x : List UInt8} (h : (aQ fs x).isSome = true) : aQ fs x = some (bn fs x) := by
 obtain ⟨v, q⟩ := Option.isSome_iff_exists.1 h
 rw [q, iP q]
theorem nF (w : Wl) : (ik w).st = w.st := by unfold ik; split <;> rfl
theorem nE {T N Z L : Nat} {w : Wl} (h : WOk T N Z L w) (hT : T < 99999999) (hN : N < 256) (hZ : Z + 200 ≤ 16777216) (hL : L < 2 ^ 30) : WOk (T + 1) (N + 1) (Z + 128) L (ik w) := by
 have D := h.num
 have G := h.siz
 have I := h.top
 have J := iU (h.has w.last (by unfold Wl.last; omega) (Nat.le_refl _))
 unfold ik
 by_cases hc : w.most ≤ (w.size : Int)
 ·rw [if_pos hc]
  have r := jX h.inv w.la 0 false (aD w.last)
  rw [js J] at r
  have U := fa (aD w.last) ((bn w.fs (aD w.last)).1, ((bn w.fs (aD w.last)).1.length : Int)) w.fs
  have l1 := eD (v := ((bn w.fs (aD w.last)).1, ((bn w.fs (aD w.last)).1.length : Int))) (h.has w.last (by unfold Wl.last; omega) (Nat.le_refl _))
  have u : ∀ n, w.s0 + w.m < n → n ≤ 99999999 → aQ (aR w.fs (aD w.last) ((bn w.fs (aD w.last)).1, ((bn w.fs (aD w.last)).1.length : Int))) (aD n) = none := fun n h1 q => by
   rw [cK, if_neg (fun e => by have := eV (by unfold Wl.last; omega) q e; unfold Wl.last at this; omega), h.non n h1 q]
  simp only at r U
  obtain ⟨_, X, b3, b4, b5⟩ := lY (la := w.la) (most := w.most) (sg := []) (sz := 0) (k := 20000) r (by omega) (by omega) (by simp) h.st (by have := h.len; have := lu h.st; have := h.st.b; omega) (n := w.last + 1) (by omega) (by unfold Wl.last; omega) (u _ (by unfold Wl.last; omega) (by unfold Wl.last; omega)) (Nat.le_refl _)
  refine ⟨X, by simp only; omega, by simp only; omega, h.s1, by simp only; omega, fun n h1 q => ?_, fun n h1 q => ?_, h.st, h.len, by simp only; omega⟩
  ·simp only at h1 q ⊢
   rw [io]
   split
   ·rfl
   ·rw [cK]
    split
    ·rfl
    ·rename_i g1 g2
     refine h.has n h1 ?_
     by_cases e : n = w.last + 1
     ·exact absurd (congrArg aD e) g1
     ·unfold Wl.last at e; omega
  ·simp only at h1 q ⊢
   rw [io, if_neg (fun e => by have := eV q (by unfold Wl.last; omega) e; unfold Wl.last at this; omega), u n (by omega) q]
 ·rw [if_neg hc]
  exact ⟨h.inv, by omega, by omega, h.s1, by omega, h.has, h.non, h.st, h.len, by have := h.sz; omega⟩
theorem vX {T N Z L : Nat} {w : Wl} (h : WOk T N Z L w) (hT : T ≤ 99999999) {rs : List dM} (u : ∀ r, r ∈ rs → OkR r ∧ r.1 ≠ 0) (hZ : Z + ex rs ≤ 16777216) : WOk T N (Z + ex rs) (L + rs.length) (iT w rs) := by
 have I := iU (h.has w.last (by unfold Wl.last; omega) (Nat.le_refl _))
 have J := ku rs
 have U := h.siz
 have X := h.sz
 have ab := oH (sg := (w.last : Int)) rs w.st
 have ad := h.len
 unfold iT
 by_cases hc : 0 < rs.length
 ·simp only [if_pos hc]
  have D := nq h.inv w.la 0 false (aD w.last) (dN rs)
  rw [mJ I (by omega)] at D
  have z1 := fa (aD w.last) ((bn w.fs (aD w.last)).1 ++ dN rs, (bn w.fs (aD w.last)).2) w.fs
  have l1 := eD (v := ((bn w.fs (aD w.last)).1 ++ dN rs, (bn w.fs (aD w.last)).2)) (h.has w.last (by unfold Wl.last; omega) (Nat.le_refl _))
  simp only [List.length_append] at z1
  have G := h.num
  refine ⟨D, by simp only; omega, by simp only; omega, h.s1, h.top, fun n h1 q => ?_, fun n h1 q => ?_, mK h.st u, by simp only; omega, by simp only; omega⟩
  ·simp only at h1 q ⊢
   rw [cK]
   split
   ·rfl
   ·exact h.has n h1 q
  ·simp only at h1 q ⊢
   have al := h.top
   rw [cK, if_neg (fun e => by have := eV (by unfold Wl.last; omega) q e; unfold Wl.last at this; omega)]
   exact h.non n h1 q
 ·simp only [if_neg hc]
  exact ⟨h.inv, h.num, by simp only; omega, h.s1, h.top, h.has, h.non, mK h.st u, by simp only; omega, by simp only; omega⟩
theorem th {T N Z L : Nat} {w : Wl} (h : WOk T N Z L w) (hT : T < 99999990) (hN : N < 256) {b : BaT} (hc : ig w.st b = 0) (hZ : Z + 200 + ex (fS w.st b) ≤ 16777216) (hL : L + (fS w.st b).length < 2 ^ 29) (hb : b.2.2.2.2.2.2.length < 2 ^ 28) (hd : ∀ e, e ∈ b.2.2.2.2.2.2 → e.2.2.2.length < 2 ^ 40) (hm : w.m < 2 ^ 30) {k : Nat} (hk : 30000 + b.2.2.2.2.2.2.length + (fS w.st b).length ≤ k) :
  bv.f k w.tp.1 w.tp.2.1 w.tp.2.2.1 w.tp.2.2.2.1 w.tp.2.2.2.2.1 w.tp.2.2.2.2.2.1 w.tp.2.2.2.2.2.2.1 w.tp.2.2.2.2.2.2.2.1 w.tp.2.2.2.2.2.2.2.2.1 w.tp.2.2.2.2.2.2.2.2.2.1 w.tp.2.2.2.2.2.2.2.2.2.2.1 w.tp.2.2.2.2.2.2.2.2.2.2.2.1 w.tp.2.2.2.2.2.2.2.2.2.2.2.2.1 w.tp.2.2.2.2.2.2.2.2.2.2.2.2.2 b.1 b.2.1 b.2.2.1 b.2.2.2.1 b.2.2.2.2.1 b.2.2.2.2.2.1 b.2.2.2.2.2.2 = some (jW w b).tp := by
 have b2 := h.num
 have b3 := h.siz
 have b4 := h.top
 have hs := iU (h.has w.last (by unfold Wl.last; omega) (Nat.le_refl _))
 have u := nE h (by omega) hN (by omega) (by omega)
 have G := nG h.st hc
 have al := (ri (ql hc).2.1).1
 have bc := h.len
 -- the segment
 have e1 : ((if w.most ≤ (w.size : Int) then (if 0 ≤ IntKind.i64.wrap (((de w.s0 w.m).length : Int) - 1) ∧ IntKind.i64.wrap (((de w.s0 w.m).length : Int) - 1) < ((de w.s0 w.m).length : Int) then ((cm.f k ((de w.s0 w.m).getD (IntKind.i64.wrap (((de w.s0 w.m).length : Int) - 1)).toNat (0 : Int))).bind fun U => ((cB.f w.fs w.la 0 false U).bind fun D => ((bz.f D.1).bind fun be => ((dx.f k D.2.1 D.2.2.1 D.2.2.2.1 D.2.2.2.2 w.most (de w.s0 w.m) (w.size : Int) w.st.1 w.st.2.1 w.st.2.2.1 w.st.2.2.2.1 w.st.2.2.2.2.1 w.st.2.2.2.2.2 false (IntKind.i64.wrap (((de w.s0 w.m).getD (IntKind.i64.wrap (((de w.s0 w.m).length : Int) - 1)).toNat (0 : Int)) + 1))).bind fun q => (some (q.1, q.2.1, q.2.2.1, q.2.2.2.1, q.2.2.2.2.1, q.2.2.2.2.2.1, q.2.2.2.2.2.2.1, q.2.2.2.2.2.2.2.1, q.2.2.2.2.2.2.2.2.1, q.2.2.2.2.2.2.2.2.2.1, q.2.2.2.2.2.2.2.2.2.2.1, q.2.2.2.2.2.2.2.2.2.2.2.1, q.2.2.2.2.2.2.2.2.2.2.2.2.1, q.2.2.2.2.2.2.2.2.2.2.2.2.2)))))) else none) else (some (w.fs, w.la, 0, false, w.most, de w.s0 w.m, (w.size : Int), w.st.1, w.st.2.1, w.st.2.2.1, w.st.2.2.2.1, w.st.2.2.2.2.1, w.st.2.2.2.2.2, false))) : Option WT) = some (ik w).tp := by
  unfold ik
  by_cases hcm : w.most ≤ (w.size : Int)
  ·have i1 := jX h.inv w.la 0 false (aD w.last)
   rw [js hs] at i1
   have z1 := fa (aD w.last) ((bn w.fs (aD w.last)).1, ((bn w.fs (aD w.last)).1.length : Int)) w.fs
   have l1 := eD (v := ((bn w.fs (aD w.last)).1, ((bn w.fs (aD w.last)).1.length : Int))) (h.has w.last (by unfold Wl.last; omega) (Nat.le_refl _))
   simp only at i1 z1
   obtain ⟨b1, _⟩ := lY (la := w.la) (most := w.most) (sg := de w.s0 w.m) (sz := (w.size : Int)) (k := k) i1 (by omega) (by omega) (by rw [eN]; omega) h.st (by omega) (n := w.last + 1) (by omega) (by unfold Wl.last; omega) (by
    rw [cK, if_neg (fun e => by have := eV (by unfold Wl.last; omega) (by unfold Wl.last; omega) e; omega)]
    exact h.non _ (by unfold Wl.last; omega) (by unfold Wl.last; omega)) (by omega)
   have J : IntKind.i64.wrap (((de w.s0 w.m).length : Int) - 1) = (w.m : Int) := by rw [eN, w64 (by omega) (by omega)]; omega
   rw [if_pos hcm, if_pos hcm, jr _ _ (by omega), J, if_pos (by rw [eN]; omega), show ((w.s0 + w.m : Nat) : Int) = (w.last : Int) from rfl, iA (by have := h.s1; unfold Wl.last; omega) (by unfold Wl.last; omega) (by omega), Option.bind_some, lP, js hs, Option.bind_some]
   simp only []
   rw [ij, Option.bind_some, ws1 (by unfold Wl.last; omega), b1, Option.bind_some]
   unfold Wl.tp
   simp only []
   rw [show (w.last + 1 : Nat) = w.s0 + w.m + 1 from rfl, tg]
  ·rw [if_neg hcm, if_neg hcm]; rfl
 unfold bv.f
 show Option.bind (if w.most ≤ (w.size : Int) then _ else _) _ = _
 rw [show Wl.tp w = (w.fs, w.la, 0, false, w.most, de w.s0 w.m, (w.size : Int), w.st.1, w.st.2.1, w.st.2.2.1, w.st.2.2.2.1, w.st.2.2.2.2.1, w.st.2.2.2.2.2, false) from rfl]
 simp only []
 rw [e1, Option.bind_some]
 have I := nF w
 unfold jW
 rw [I]
 obtain ⟨v, ev⟩ : ∃ v, ik w = v := ⟨_, rfl⟩
 rw [ev] at u I ⊢
 have b8 : v.m ≤ w.m + 1 := by rw [← ev]; unfold ik; split <;> simp
 have b9 := u.top
 have cd := u.siz
 have ch := u.sz
 have a1 := iU (u.has v.last (by unfold Wl.last; omega) (Nat.le_refl _))
 have J : IntKind.i64.wrap (((de v.s0 v.m).length : Int) - 1) = (v.m : Int) := by rw [eN, w64 (by omega) (by omega)]; omega
 have X := tf v.fs v.la 0 false v.most (de v.s0 v.m) (v.size : Int) u.st false b al (by omega) hd (k := k) (by omega)
 rw [I] at X
 have a6 := ku (fS w.st b)
 unfold Wl.tp
 simp only []
 rw [I, X, J, if_pos (by rw [eN]; omega), Option.bind_some]
 obtain ⟨rs, er⟩ : ∃ rs, fS w.st b = rs := ⟨_, rfl⟩
 rw [er] at G hZ hL hk a6 ⊢
 have ab := oE rs (by omega) (by omega) (fun r hr => (G r hr).1) k 0 [] (by omega) (by omega) (by simp; omega)
 rw [List.drop_zero, List.nil_append, show ((0 : Nat) : Int) = (0 : Int) from rfl] at ab
 rw [ab, Option.bind_some]
 have ad := jr v.s0 v.m (by omega)
 rw [J] at ad
 rw [ad, show ((v.s0 + v.m : Nat) : Int) = (v.last : Int) from rfl, iA (by have := u.s1; unfold Wl.last; omega) (by unfold Wl.last; omega) (by omega), Option.bind_some, lz u.inv _ _ _ _ _ (by omega), mJ a1 (by omega), Option.bind_some]
 simp only []
 rw [ij, Option.bind_some]
 have hq : ((if (0 : Int) < (rs.length : Int) then (some (aR v.fs (aD v.last) ((bn v.fs (aD v.last)).1 ++ dN rs, (bn v.fs (aD v.last)).2), aD v.last, 0, false)) else (some (v.fs, v.la, 0, false))) : Option (FSt × List UInt8 × Int × Bool)) = some ((iT v rs).fs, (iT v rs).la, 0, false) := by
  unfold iT
  by_cases hp : 0 < rs.length
  ·simp only [if_pos hp, if_pos (show (0 : Int) < (rs.length : Int) by omega)]
  ·simp only [if_neg hp, if_neg (show ¬ (0 : Int) < (rs.length : Int) by omega)]
 rw [hq, Option.bind_some]
 have af := rj (v.fs, v.la, 0, false, v.most, de v.s0 v.m, (v.size : Int), w.st.1, w.st.2.1, w.st.2.2.1, w.st.2.2.2.1, w.st.2.2.2.2.1, w.st.2.2.2.2.2, false) ((iT v rs).fs, (iT v rs).la, 0, false) rs (by omega) G (sg := (v.last : Int)) (by simp only []; exact jr v.s0 v.m (by omega)) v.most (de v.s0 v.m) (((v.size + (dN rs).length : Nat)) : Int) k 0 w.st (by omega) (by omega) h.st (by omega)
 rw [List.drop_zero, show ((0 : Nat) : Int) = (0 : Int) from rfl] at af
 rw [show IntKind.i64.wrap ((v.size : Int) + ((dN rs).length : Int)) = ((v.size + (dN rs).length : Nat) : Int) by rw [w64 (by omega) (by omega)]; omega, af]
 unfold iT
 rw [I]
def mq (w : Wl) (b : BaT) : Wl := if ig w.st b = 0 then jW w b else w
theorem tE {T N Z L : Nat} {w : Wl} (h : WOk T N Z L w) (D : T < 99999990) (hN : N < 256) {b : BaT} (G : Z + 200 + ex (fS w.st b) ≤ 16777216) (I : L + (fS w.st b).length < 2 ^ 29) (J : b.2.2.2.2.2.2.length < 2 ^ 28) (hd : ∀ e, e ∈ b.2.2.2.2.2.2 → e.2.2.2.length < 2 ^ 40) (U : w.m < 2 ^ 30) {k : Nat} (X : 30000 + b.2.2.2.2.2.2.length + (fS w.st b).length ≤ k) :
  df.f k w.tp.1 w.tp.2.1 w.tp.2.2.1 w.tp.2.2.2.1 w.tp.2.2.2.2.1 w.tp.2.2.2.2.2.1 w.tp.2.2.2.2.2.2.1 w.tp.2.2.2.2.2.2.2.1 w.tp.2.2.2.2.2.2.2.2.1 w.tp.2.2.2.2.2.2.2.2.2.1 w.tp.2.2.2.2.2.2.2.2.2.2.1 w.tp.2.2.2.2.2.2.2.2.2.2.2.1 w.tp.2.2.2.2.2.2.2.2.2.2.2.2.1 w.tp.2.2.2.2.2.2.2.2.2.2.2.2.2 b.1 b.2.1 b.2.2.1 b.2.2.2.1 b.2.2.2.2.1 b.2.2.2.2.2.1 b.2.2.2.2.2.2 = some (ig w.st b, (mq w b).tp) := by
 have u := h.len
 have r := uy w.fs w.la 0 false w.most (de w.s0 w.m) (w.size : Int) h.st false (by omega) b (by omega) (k := k) (by omega)
 unfold df.f mq
 rw [if_neg (show ¬ w.tp.2.2.2.2.2.2.2.2.2.2.2.2.2 = true from Bool.false_ne_true)]
 have q : bJ.f k w.tp.1 w.tp.2.1 w.tp.2.2.1 w.tp.2.2.2.1 w.tp.2.2.2.2.1 w.tp.2.2.2.2.2.1 w.tp.2.2.2.2.2.2.1 w.tp.2.2.2.2.2.2.2.1 w.tp.2.2.2.2.2.2.2.2.1 w.tp.2.2.2.2.2.2.2.2.2.1 w.tp.2.2.2.2.2.2.2.2.2.2.1 w.tp.2.2.2.2.2.2.2.2.2.2.2.1 w.tp.2.2.2.2.2.2.2.2.2.2.2.2.1 w.tp.2.2.2.2.2.2.2.2.2.2.2.2.2 b.1 b.2.1 b.2.2.1 b.2.2.2.1 b.2.2.2.2.1 b.2.2.2.2.2.1 b.2.2.2.2.2.2 = some (ig w.st b) := r
 rw [q, Option.bind_some]
 by_cases hc : ig w.st b = 0
 ·rw [if_pos hc, if_pos hc]
  unfold cM.f
  rw [th h D hN hc G I J hd U X, Option.bind_some, Option.bind_some, hc]
 ·rw [if_neg hc, if_neg hc]
end Go.Proofs.YtndjkejhacfpdaaGreatDoor

namespace Go.Proofs.YtndjkejhacfpdaaGreatDoor
open Go.RowKit
def st0 : St := (0, 0, 0, 0, 0, [])
def fv (fs : FSt) (most : Int) : Wl := { fs := gB fs 1 (frB (eA (eF 1 st0))), la := aD 1, most := most, s0 := 1, m := 0, size := (frB (eA (eF 1 st0))).length, st := st0 }
theorem mL (fs : FSt) (h : ∀ x, x ∈ eQ fs → ks x = 0) {n : Nat} (h1 : 1 ≤ n) (q : n ≤ 99999999) : aQ fs (aD n) = none := by
 cases hv : aQ fs (aD n) with
 | none => rfl
 | some v =>
  have r : aD n ∈ eQ fs := (kR fs).mem_iff.2 ((kQ fs _).2 (by rw [hv]; rfl))
  have := h _ r
  rw [kV q] at this
  omega
theorem rk {s : List (List UInt8)} (q : ∀ x, x ∈ s → x.length ≤ 2 ^ 40 ∧ ks x = 0) (u : s.length < 2 ^ 40) : ∀ (k i : Nat), s.length - i + 10 < k → i ≤ s.length → bT.l0 s k (i : Int) [] = some []
 | 0, i, h, _ => by omega
 | k + 1, i, h, hi => by
  rw [bT.l0]
  by_cases hlt : i < s.length
  ·have D : s.getD i [] ∈ s := by rw [gJ hlt]; exact List.getElem_mem hlt
   have r := q _ D
   rw [if_pos (by omega), if_pos (by omega), Int.toNat_natCast, sL r.1 (by omega), Option.bind_some, r.2]
   simp only [Nat.lt_irrefl, decide_false, Bool.false_eq_true, if_false]
   rw [ws1 (by omega)]
   exact rk q u k (i + 1) (by omega) (by omega)
  ·rw [if_neg (by omega)]
theorem tF {fs : FSt} {N Z : Nat} (hi : fK 256 fs) (D : fs.length ≤ N) (hN : N < 256) (G : szF fs ≤ Z) (I : Z + 200 ≤ 16777216) (r : ∀ x, x ∈ eQ fs → ks x = 0) (most : Int) : WOk 1 (N + 1) (Z + 128) 0 (fv fs most) := by
 obtain ⟨_, u, J, L, U⟩ := lY (la := []) (most := 0) (sg := []) (sz := 0) (k := 20000) hi (by omega) (by omega) (by simp) (s := st0) mU (by simp [st0]) (n := 1) (by omega) (by omega) (mL fs r (by omega) (by omega)) (Nat.le_refl _)
 refine ⟨u, by show (gB fs 1 _).length ≤ _; omega, by show szF (gB fs 1 _) ≤ _; omega, Nat.le_refl _, Nat.le_refl _, fun n h1 q => ?_, fun n h1 q => ?_, mU, Nat.le_refl _, by show (frB (eA (eF 1 st0))).length ≤ _; omega⟩
 ·have : n = 1 := by simp only [fv] at h1 q; omega
  subst this
  show (aQ (gB fs 1 _) (aD 1)).isSome = true
  rw [io, if_pos rfl]; rfl
 ·simp only [fv] at h1
  show aQ (gB fs 1 _) (aD n) = none
  rw [io, if_neg (fun e => by have := eV q (by omega) e; omega), mL fs r (by omega) q]
theorem vN {fs : FSt} {N Z : Nat} (hi : fK 256 fs) (U : fs.length ≤ N) (hN : N < 256) (X : szF fs ≤ Z) (hZ : Z + 200 ≤ 16777216) (r : ∀ x, x ∈ eQ fs → ks x = 0) (G : ∀ x, x ∈ eQ fs → x.length ≤ 2 ^ 40) (la : List UInt8) {most : Int} (h1 : 64 ≤ most) (h2 : most ≤ 1048576) {k : Nat} (I : 30000 ≤ k) :
  bT.f k fs la 0 false most = some (true, (fv fs most).tp.2.2.2.2.1, (fv fs most).tp.2.2.2.2.2.1, (fv fs most).tp.2.2.2.2.2.2.1, (fv fs most).tp.2.2.2.2.2.2.2.1, (fv fs most).tp.2.2.2.2.2.2.2.2.1, (fv fs most).tp.2.2.2.2.2.2.2.2.2.1, (fv fs most).tp.2.2.2.2.2.2.2.2.2.2.1, (fv fs most).tp.2.2.2.2.2.2.2.2.2.2.2.1, (fv fs most).tp.2.2.2.2.2.2.2.2.2.2.2.2.1, (fv fs most).tp.2.2.2.2.2.2.2.2.2.2.2.2.2, false, 0, (fv fs most).tp.1, (fv fs most).tp.2.1, (fv fs most).tp.2.2.1, (fv fs most).tp.2.2.2.1) := by
 have J := od fs
 obtain ⟨L, _⟩ := lY (la := la) (most := most) (sg := []) (sz := 0) (k := k) hi (by omega) (by omega) (by simp) (s := st0) mU (by simp [st0]) (n := 1) (by omega) (by omega) (mL fs r (by omega) (by omega)) (by omega)
 have u := rk (s := eQ fs) (fun x D => ⟨G x D, r x D⟩) (by omega) k 0 (by omega) (by omega)
 rw [show ((0 : Nat) : Int) = (0 : Int) from rfl] at u
 unfold bT.f
 rw [if_neg (by simp; omega), qX hi (by decide), Option.bind_some, u, Option.bind_some]
 rw [if_pos (show ((([] : List Int).length : Nat) : Int) = 0 from rfl)]
 have q : dx.f k fs la 0 false most ([] : List Int) (0 : Int) (0 : Int) (0 : Int) (0 : Int) (0 : Int) (0 : Int) ([] : List HeT) false (1 : Int) = _ := L
 rw [q, Option.bind_some]
 rfl
/-! ### What it tells -/
/-! ### What a batch adds to -/
def ga (l : List EnT) : Nat := (l.map fun e => e.2.2.2.length).sum
theorem kO (e : EnT) (l : List EnT) : ga (e :: l) = e.2.2.2.length + ga l := by simp [ga]
theorem oI : ∀ l : List EnT, ex (l.map iw) = ga l + 128 * l.length
 | [] => by simp [ex, ga]
 | e :: l => by
  have q := oI l
  have : (iw e).2.2.2.2.2.2.2.2.2.2 = e.2.2.2 := rfl
  simp only [ex, List.map_cons, List.sum_cons, this] at q ⊢
  rw [kO, List.length_cons]
  omega
theorem lL (a b : List dM) : ex (a ++ b) = ex a + ex b := by simp [ex]
theorem sM (s : St) (b : BaT) : ex (fS s b) ≤ ga b.2.2.2.2.2.2 + 128 * b.2.2.2.2.2.2.length + 384 ∧ (fS s b).length ≤ b.2.2.2.2.2.2.length + 3 := by
 unfold fS
 constructor
 ·rw [lL, lL, lL, oI]
  have h1 : ex (if b.1 = true ∧ (b.2.1 ≠ s.1 ∨ b.2.2.1 ≠ s.2.1) then [(1, 0, b.2.1, b.2.2.1, s.2.2.1, 0, 0, 0, 0, 0, [])] else []) ≤ 128 := by split <;> simp [ex]
  have q : ex (if gZ s b = true then [(3, 0, 0, 0, 0, b.2.2.2.2.1, b.2.2.2.2.2.1, 0, 0, 0, [])] else []) ≤ 128 := by split <;> simp [ex]
  have r : ex (if b.1 = true ∧ b.2.2.2.1 ≠ s.2.2.1 then [(1, 0, b.2.1, b.2.2.1, b.2.2.2.1, 0, 0, 0, 0, 0, [])] else []) ≤ 128 := by split <;> simp [ex]
  omega
 ·simp only [List.length_append, List.length_map]
  have h1 : (if b.1 = true ∧ (b.2.1 ≠ s.1 ∨ b.2.2.1 ≠ s.2.1) then [((1, 0, b.2.1, b.2.2.1, s.2.2.1, 0, 0, 0, 0, 0, []) : dM)] else []).length ≤ 1 := by split <;> simp
  have q : (if gZ s b = true then [((3, 0, 0, 0, 0, b.2.2.2.2.1, b.2.2.2.2.2.1, 0, 0, 0, []) : dM)] else []).length ≤ 1 := by split <;> simp
  have r : (if b.1 = true ∧ b.2.2.2.1 ≠ s.2.2.1 then [((1, 0, b.2.1, b.2.2.1, b.2.2.2.1, 0, 0, 0, 0, 0, []) : dM)] else []).length ≤ 1 := by split <;> simp
  omega
theorem iW {T N Z L q r u D : Nat} {w : Wl} (h : WOk T N Z L w) (h1 : T ≤ q) (I : N ≤ r) (G : Z ≤ u) (J : L ≤ D) : WOk q r u D w :=
 ⟨h.inv, Nat.le_trans h.num I, Nat.le_trans h.siz G, h.s1, Nat.le_trans h.top h1, h.has, h.non, h.st, Nat.le_trans h.len J, Nat.le_trans h.sz G⟩
theorem vL {T N Z L : Nat} {w : Wl} (h : WOk T N Z L w) (D : T < 99999990) (hN : N < 256) {b : BaT} (G : Z + 600 + ga b.2.2.2.2.2.2 + 128 * b.2.2.2.2.2.2.length ≤ 16777216) (r : L < 2 ^ 30) : WOk (T + 1) (N + 1) (Z + 512 + ga b.2.2.2.2.2.2 + 128 * b.2.2.2.2.2.2.length) (L + b.2.2.2.2.2.2.length + 3) (mq w b) := by
 have I := sM w.st b
 unfold mq
 split
 ·rename_i u
  have h1 := nE h (by omega) hN (by omega) r
  have q := nG h.st u
  unfold jW
  rw [nF]
  exact iW (vX h1 (by omega) q (by omega)) (Nat.le_refl _) (Nat.le_refl _) (by omega) (by omega)
 ·exact iW h (by omega) (by omega) (by omega) (by omega)
end Go.Proofs.YtndjkejhacfpdaaGreatDoor

namespace Go.Proofs.YtndjkejhacfpdaaGreatDoor
open Go.RowKit
def jY (s0 m : Nat) : List (List UInt8) := (List.range' s0 (m + 1)).map aD
theorem jZ (s0 m : Nat) : (jY s0 m).length = m + 1 := by simp [jY]
theorem mt {s0 m i : Nat} (h : i ≤ m) : (jY s0 m).getD i [] = aD (s0 + i) := by
 unfold jY
 rw [List.getD_eq_getElem?_getD, List.getElem?_map, List.getElem?_range' (by omega)]
 simp
theorem qK {s0 m : Nat} (h1 : 1 ≤ s0) (q : s0 + m ≤ 99999999) : ∀ (k i : Nat) (acc : List (List UInt8)), m + 1 - i + 10 < k → i ≤ m + 1 → acc.length ≤ i → bG.l0 (de s0 m) k acc (i : Int) = some (acc ++ (jY s0 m).drop i)
 | 0, i, acc, h, _, _ => by omega
 | k + 1, i, acc, h, hi, ha => by
  rw [bG.l0, eN]
  by_cases hlt : i < m + 1
  ·rw [if_pos (by omega), if_pos (by omega), Int.toNat_natCast, mv (by omega), iA (by omega) (by omega) (by omega), Option.bind_some, if_pos (by simp only [List.length_cons, List.length_nil]; omega), ws1 (by omega), qK h1 q k (i + 1) _ (by omega) (by omega) (by simp; omega), fT (jY s0 m) [] (i := i) (by rw [jZ]; exact hlt), mt (by omega)]
   simp
  ·rw [if_neg (by omega), List.drop_of_length_le (by rw [jZ]; omega)]; simp
theorem sx {T N Z L : Nat} {w : Wl} (h : WOk T N Z L w) (q : T ≤ 99999999) {k : Nat} (r : T + 20 < k) :
  bG.f k w.tp.1 w.tp.2.1 w.tp.2.2.1 w.tp.2.2.2.1 w.tp.2.2.2.2.1 w.tp.2.2.2.2.2.1 w.tp.2.2.2.2.2.2.1 w.tp.2.2.2.2.2.2.2.1 w.tp.2.2.2.2.2.2.2.2.1 w.tp.2.2.2.2.2.2.2.2.2.1 w.tp.2.2.2.2.2.2.2.2.2.2.1 w.tp.2.2.2.2.2.2.2.2.2.2.2.1 w.tp.2.2.2.2.2.2.2.2.2.2.2.2.1 w.tp.2.2.2.2.2.2.2.2.2.2.2.2.2 = some (jY w.s0 w.m) := by
 have h1 := h.s1
 have u := h.top
 have s := qK (s0 := w.s0) (m := w.m) h1 (by omega) k 0 [] (by omega) (by omega) (by simp)
 rw [List.drop_zero, List.nil_append, show ((0 : Nat) : Int) = (0 : Int) from rfl] at s
 unfold bG.f
 rw [show w.tp.2.2.2.2.2.1 = de w.s0 w.m from rfl, s, Option.bind_some]
/-! ### Few operations -/
abbrev OpW := Int × Int × Bool × Int × Int × Int × Int × Int × List EnT
abbrev gC : OpW := ((0 : Int), (0 : Int), false, (0 : Int), (0 : Int), (0 : Int), (0 : Int), (0 : Int), ([] : List EnT))
def OpW.es (o : OpW) : List EnT := o.2.2.2.2.2.2.2.2
def kr (l : List EnT) : Nat := (l.map fun e => min e.2.2.2.length 20000 + 1).sum
theorem nX (e : EnT) (l : List EnT) : kr (e :: l) = min e.2.2.2.length 20000 + 1 + kr l := by simp [kr]
theorem qL : ∀ l : List EnT, l.length ≤ kr l ∧ kr l ≤ 20001 * l.length
 | [] => by simp [kr]
 | e :: l => by
  have q := qL l
  rw [nX, List.length_cons]
  omega
theorem qM : ∀ x : List OpW, (x.map fun o => (OpW.es o).length).sum ≤ (x.map fun o => kr (OpW.es o)).sum
 | [] => Nat.le_refl _
 | o :: x => by
  have q := qM x
  have := (qL (OpW.es o)).1
  simp only [List.map_cons, List.sum_cons]
  omega
theorem po (x : List OpW) (U : x.length < 2 ^ 40) {j : Nat} (J : j < x.length) (z : Int) (hd : ∀ o, o ∈ x → ∀ e, e ∈ OpW.es o → e.2.2.2.length < 2 ^ 40) (q : (OpW.es (x.getD j gC)).length < 2 ^ 40) : ∀ (k i n : Nat), 200 - i < k → i ≤ 200 → n + 20001 * (200 - i) < 2 ^ 50 → ∃ r : Nat, bw.l1 x (z, (j : Int)) k (n : Int) (i : Int) = some (r : Int) ∧ r ≤ n + 20001 * (200 - i) ∧ ((OpW.es (x.getD j gC)).length ≤ 200 → r = n + kr ((OpW.es (x.getD j gC)).drop i))
 | 0, i, n, h, _, _ => by omega
 | k + 1, i, n, h, hi, hn => by
  rw [bw.l1, if_pos (show 0 ≤ (z, (j : Int)).2 ∧ (z, (j : Int)).2 < (x.length : Int) from ⟨by show 0 ≤ (j : Int); omega, by show (j : Int) < _; omega⟩)]
  have X : x.getD j gC ∈ x := by rw [gJ J]; exact List.getElem_mem _
  simp only [Int.toNat_natCast]
  have G : (x.getD j gC).2.2.2.2.2.2.2.2 = OpW.es (x.getD j gC) := rfl
  simp only [G]
  have u := hd _ X
  obtain ⟨l, D⟩ : ∃ l, OpW.es (x.getD j gC) = l := ⟨_, rfl⟩
  simp only [D] at q u ⊢
  by_cases hc : i < l.length ∧ i < 200
  ·have I : l.getD i bA ∈ l := by rw [gJ hc.1]; exact List.getElem_mem _
   have ab := u _ I
   rw [if_pos (by simp; omega), if_pos ⟨by omega, by omega⟩, if_pos (by omega), ws1 (by omega)]
   have e1 : IntKind.i64.wrap (IntKind.i64.wrap ((n : Int) + (min (((l.getD i bA).2.2.2).length : Int) (20000 : Int))) + 1) = ((n + (min (l.getD i bA).2.2.2.length 20000 + 1) : Nat) : Int) := by
    rw [w64 (n := (n : Int) + min (((l.getD i bA).2.2.2).length : Int) 20000) (by omega) (by omega), w64 (by omega) (by omega)]
    omega
   rw [e1]
   obtain ⟨r, r1, r2, r3⟩ := po x U J z hd (by rw [D]; exact q) k (i + 1) (n + (min (l.getD i bA).2.2.2.length 20000 + 1)) (by omega) (by omega) (by omega)
   refine ⟨r, r1, by omega, fun L => ?_⟩
   have := r3 (by rw [D]; exact L)
   rw [D] at this
   rw [this, fT l bA hc.1, nX]
   omega
  ·rw [if_neg (by simp; omega)]
   refine ⟨n, rfl, by omega, fun L => ?_⟩
   rw [List.drop_of_length_le (by omega)]
   simp [kr]
theorem pp (x : List OpW) (U : x.length < 2 ^ 40) (hd : ∀ o, o ∈ x → ∀ e, e ∈ OpW.es o → e.2.2.2.length < 2 ^ 40) (u : ∀ o, o ∈ x → (OpW.es o).length < 2 ^ 40) : ∀ (k i n : Nat), 200 - i + 300 < k → i ≤ 200 → n + 5000000 * (200 - i) < 2 ^ 50 → ∃ r : Int ⊕ Bool, bw.l0 x k (n : Int) (i : Int) = some r ∧ ∀ v, r = .inl v → x.length ≤ 200 → v = ((n + ((x.drop i).map fun o => kr (OpW.es o)).sum : Nat) : Int) ∧ ∀ o, o ∈ x.drop i → (OpW.es o).length ≤ 200
 | 0, i, n, h, _, _ => by omega
 | k + 1, i, n, h, hi, hn => by
  rw [bw.l0]
  by_cases hc : i < x.length ∧ i < 200
  ·have hm : x.getD i gC ∈ x := by rw [gJ hc.1]; exact List.getElem_mem _
   obtain ⟨r, X, r2, r3⟩ := po x U hc.1 (n : Int) hd (u _ hm) k 0 n (by omega) (by omega) (by omega)
   rw [show ((0 : Nat) : Int) = (0 : Int) from rfl] at X
   rw [if_pos (by simp; omega), X, Option.bind_some, if_pos (by omega)]
   have J : (x.getD (i : Int).toNat gC).2.2.2.2.2.2.2.2 = OpW.es (x.getD i gC) := by rw [Int.toNat_natCast]; rfl
   have D : (x.getD (i : Int).toNat ((0 : Int), (0 : Int), false, (0 : Int), (0 : Int), (0 : Int), (0 : Int), (0 : Int), ([] : List EnT))).2.2.2.2.2.2.2.2 = OpW.es (x.getD i gC) := J
   by_cases h2 : (OpW.es (x.getD i gC)).length ≤ 200
   ·rw [if_neg (by rw [D]; omega)]
    simp only [orR]
    rw [ws1 (by omega)]
    have hr := r3 h2
    rw [List.drop_zero] at hr
    obtain ⟨q, q1, q2⟩ := pp x U hd u k (i + 1) r (by omega) (by omega) (by omega)
    refine ⟨q, q1, fun v G I => ?_⟩
    obtain ⟨q3, q4⟩ := q2 v G I
    rw [fT x gC hc.1, List.map_cons, List.sum_cons]
    refine ⟨by rw [q3, hr]; congr 1; omega, fun o L => ?_⟩
    rcases List.mem_cons.1 L with rfl | L
    ·exact h2
    ·exact q4 o L
   ·rw [if_pos (by rw [D]; omega)]
    simp only [orR]
    exact ⟨_, rfl, fun v G => by cases G⟩
  ·rw [if_neg (by simp; omega)]
   refine ⟨_, rfl, fun v G I => ?_⟩
   cases G
   rw [List.drop_of_length_le (by omega)]
   simp
theorem uF (x : List OpW) (G : x.length < 2 ^ 40) (hd : ∀ o, o ∈ x → ∀ e, e ∈ OpW.es o → e.2.2.2.length < 2 ^ 40) (q : ∀ o, o ∈ x → (OpW.es o).length < 2 ^ 40) {k : Nat} (U : 1000 ≤ k) : ∃ b, bw.f k x = some b ∧ (b = true → x.length ≤ 200 ∧ (x.map fun o => (OpW.es o).length).sum ≤ 20000) := by
 obtain ⟨r, D, I⟩ := pp x G hd q k 0 0 (by omega) (by omega) (by omega)
 rw [show ((0 : Nat) : Int) = (0 : Int) from rfl] at D
 unfold bw.f
 rw [D]
 cases r with
 | inr b =>
  cases b with
  | false => exact ⟨false, rfl, fun h => by cases h⟩
  | true => exact ⟨true, rfl, fun _ => by
    exfalso
    have key : ∀ (k i : Nat) (z : Int), bw.l0 x k z (i : Int) ≠ some (.inr true) := by
     intro k
     induction k with
     | zero => intro i z h; simp [bw.l0] at h
     | succ k ih =>
      intro i z h
      rw [bw.l0] at h
      split at h
      ·cases u : bw.l1 x (z, (i : Int)) k z 0 with
       | none => rw [u] at h; simp [orR] at h
       | some v =>
        rw [u, Option.bind_some] at h
        split at h
        ·split at h
         ·simp [orR] at h
         ·simp only [orR] at h
          by_cases hb : i < 2 ^ 40
          ·rw [ws1 (by omega)] at h
           exact ih _ _ h
          ·rename_i g _ _
           simp at g
           omega
        ·simp [orR] at h
      ·simp at h
    exact key _ 0 0 D⟩
 | inl v =>
  simp only [orR]
  refine ⟨_, rfl, fun h => ?_⟩
  simp only [Bool.and_eq_true, decide_eq_true_eq] at h
  have u : x.length ≤ 200 := by omega
  obtain ⟨J, _⟩ := I v rfl u
  rw [List.drop_zero] at J
  refine ⟨u, ?_⟩
  have L := qM x
  omega
/-! ### Compact -/
def kx (s : St) (sg i : Int) : Bool := s.2.2.2.2.2.any fun h => decide (h.2.2.2.2 = sg) && decide (i < h.2.1)
theorem pq (l : List HeT) (q : l.length < 2 ^ 40) (sg i : Int) : ∀ (k j : Nat), l.length - j < k → j ≤ l.length → ∃ r : Unit ⊕ Int, ba.l0 l sg i k (j : Int) = some r ∧ ((∃ v, r = .inr v ∧ 0 ≤ v ∧ ((l.drop j).any fun h => decide (h.2.2.2.2 = sg) && decide (i < h.2.1)) = true) ∨ (r = .inl () ∧ ((l.drop j).any fun h => decide (h.2.2.2.2 = sg) && decide (i < h.2.1)) = false))
 | 0, j, h, _ => by omega
 | k + 1, j, h, hj => by
  rw [ba.l0]
  by_cases hlt : j < l.length
  ·rw [if_pos (by omega), if_pos (by omega), fT l aI hlt]
   unfold eT.f
   simp only [Int.toNat_natCast, Option.bind_some, List.any_cons]
   by_cases hc : (decide ((l.getD j aI).2.2.2.2 = sg) && decide (i < (l.getD j aI).2.1)) = true
   ·rw [if_pos hc]
    exact ⟨_, rfl, .inl ⟨_, rfl, by omega, by rw [hc]; rfl⟩⟩
   ·rw [if_neg hc, ws1 (by omega)]
    rw [Bool.not_eq_true] at hc
    rw [hc, Bool.false_or]
    exact pq l q sg i k (j + 1) (by omega) (by omega)
  ·rw [if_neg (by omega), List.drop_of_length_le (by omega)]
   exact ⟨_, rfl, .inr ⟨rfl, rfl⟩⟩
theorem uG (fs : FSt) (la : List UInt8) (a : Int) (d : Bool) (most : Int) (q : List Int) (sz : Int) (s : St) (G : s.2.2.2.2.2.length < 2 ^ 40) (I : Bool) (sg i : Int) {k : Nat} (J : s.2.2.2.2.2.length < k) : dO.f k fs la a d most q sz s.1 s.2.1 s.2.2.1 s.2.2.2.1 s.2.2.2.2.1 s.2.2.2.2.2 I sg i = some (kx s sg i) := by
 obtain ⟨r, u, D⟩ := pq s.2.2.2.2.2 G sg i k 0 (by omega) (by omega)
 rw [show ((0 : Nat) : Int) = (0 : Int) from rfl] at u
 rw [List.drop_zero] at D
 unfold dO.f bH.f ba.f kx
 rw [u]
 rcases D with ⟨v, rfl, v0, h⟩ | ⟨rfl, h⟩
 ·rw [h]; simp [orR, v0]
 ·rw [h]; rfl
def gf : List HeT → Int → Nat
 | [], _ => 0
 | h :: l, sg => if h.2.2.2.2 = sg then gf l sg + 1 else 0
theorem lQ : ∀ (l : List HeT) (sg : Int), gf l sg ≤ l.length
 | [], _ => Nat.le_refl _
 | h :: l, sg => by
  have := lQ l sg
  rw [gf, List.length_cons]
  split <;> omega
theorem pt : ∀ (l : List HeT) (sg : Int) (i : Nat), i < gf l sg → (l.getD i dzH).2.2.2.2 = sg
 | [], _, i, h => by simp [gf] at h
 | x :: l, sg, i, h => by
  rw [gf] at h
  split at h
  ·rename_i q
   cases i with
   | zero => exact q
   | succ i =>
    have := pt l sg i (by omega)
    simpa using this
  ·omega
theorem qN (l : List HeT) (q : l.length < 2 ^ 40) (sg : Int) : ∀ (k j : Nat), l.length - j < k → j ≤ l.length → ci.l0 l sg k (j : Int) = some ((j + gf (l.drop j) sg : Nat) : Int)
 | 0, j, h, _ => by omega
 | k + 1, j, h, hj => by
  rw [ci.l0]
  by_cases hlt : j < l.length
  ·rw [if_pos (by omega), if_pos (by omega), Option.bind_some, fT l aI hlt, gf]
   simp only [Int.toNat_natCast, decide_eq_true_eq]
   by_cases hc : (l.getD j aI).2.2.2.2 = sg
   ·rw [if_pos hc, if_pos hc, ws1 (by omega), qN l q sg k (j + 1) (by omega) (by omega)]
    congr 2; omega
   ·rw [if_neg hc, if_neg hc]; rfl
  ·rw [if_neg (by omega), List.drop_of_length_le (by omega), Option.bind_some, if_neg Bool.false_ne_true]
   simp [gf]
def fu (s : St) (g : Nat) : St := (s.1, s.2.1, s.2.2.1, if 0 < g then (s.2.2.2.2.2.getD (g - 1) dzH).2.1 else s.2.2.2.1, if 0 < g then (s.2.2.2.2.2.getD (g - 1) dzH).1 else s.2.2.2.2.1, s.2.2.2.2.2.drop g)
theorem tx {x : List HeT} (h : x.length < 2 ^ 40) : dC.f x = some x := by
 unfold dC.f
 rw [if_pos (by simp; omega)]
 simp
theorem vA (fs : FSt) (la : List UInt8) (a : Int) (d : Bool) (most : Int) (q : List Int) (sz : Int) (s : St) (D : s.2.2.2.2.2.length < 2 ^ 40) (r : Bool) (sg : Int) {k : Nat} (L : s.2.2.2.2.2.length < k) :
  ci.f k fs la a d most q sz s.1 s.2.1 s.2.2.1 s.2.2.2.1 s.2.2.2.2.1 s.2.2.2.2.2 r sg = some (most, q, sz, (fu s (gf s.2.2.2.2.2 sg)).1, (fu s (gf s.2.2.2.2.2 sg)).2.1, (fu s (gf s.2.2.2.2.2 sg)).2.2.1, (fu s (gf s.2.2.2.2.2 sg)).2.2.2.1, (fu s (gf s.2.2.2.2.2 sg)).2.2.2.2.1, (fu s (gf s.2.2.2.2.2 sg)).2.2.2.2.2, r) := by
 have hp := lQ s.2.2.2.2.2 sg
 have u := qN s.2.2.2.2.2 D sg k 0 (by omega) (by omega)
 rw [List.drop_zero, Nat.zero_add, show ((0 : Nat) : Int) = (0 : Int) from rfl] at u
 unfold ci.f fu
 rw [u, Option.bind_some]
 obtain ⟨g, G⟩ : ∃ g, gf s.2.2.2.2.2 sg = g := ⟨_, rfl⟩
 rw [G] at hp ⊢
 by_cases hg : 0 < g
 ·have I : IntKind.i64.wrap ((g : Int) - 1) = ((g - 1 : Nat) : Int) := by rw [w64 (by omega) (by omega)]; omega
  have J : cut s.2.2.2.2.2 (g : Int) (s.2.2.2.2.2.length : Int) = s.2.2.2.2.2.drop g := by unfold cut; simp
  rw [if_pos (by omega), I, if_pos (by omega), if_pos (by omega), J, tx (by simp; omega), Option.bind_some, Int.toNat_natCast, if_pos hg, if_pos hg]
 ·rw [if_neg (by omega), if_neg hg, if_neg hg, show g = 0 by omega, List.drop_zero]
theorem pu {s : St} (h : gj s) {g : Nat} (L : g ≤ s.2.2.2.2.2.length) : gj (fu s g) ∧ (fu s g).2.2.2.1 = s.2.2.2.1 + (g : Int) ∧ dR (fu s g) = dR s := by
 have q : (fu s g).2.2.2.1 = s.2.2.2.1 + (g : Int) := by
  unfold fu
  simp only
  split
  ·rw [h.idx _ (by omega)]; omega
  ·omega
 have D := lu h
 have r := h.b
 unfold okN at r
 refine ⟨⟨h.t, h.v, h.c, ⟨by rw [q]; omega, by rw [q]; omega⟩, ?_, fun i hi => ?_, fun e G => h.chk e (List.mem_of_mem_drop G)⟩, q, ?_⟩
 ·unfold fu
  simp only
  split
  ·have := (gW (h.chk _ (kH (i := g - 1) (by omega)))).1
   exact ⟨by have := this.1; omega, this.2⟩
  ·exact h.bt
 ·rw [q]
  have hi' : i + g < s.2.2.2.2.2.length := by
   have : i < (s.2.2.2.2.2.drop g).length := hi
   rw [List.length_drop] at this; omega
  have u : (s.2.2.2.2.2.drop g).getD i dzH = s.2.2.2.2.2.getD (g + i) dzH := by simp only [List.getD_eq_getElem?_getD, List.getElem?_drop]
  show ((s.2.2.2.2.2.drop g).getD i dzH).2.1 = _
  rw [u, h.idx _ (by omega)]
  omega
 ·unfold dR
  have I : (fu s g).2.2.2.2.2 = s.2.2.2.2.2.drop g := rfl
  rw [I, List.length_drop]
  by_cases hlt : g < s.2.2.2.2.2.length
  ·have u : (s.2.2.2.2.2.drop g).getD (s.2.2.2.2.2.length - g - 1) dzH = s.2.2.2.2.2.getD (s.2.2.2.2.2.length - 1) dzH := by
    simp only [List.getD_eq_getElem?_getD, List.getElem?_drop]
    congr 2; omega
   rw [if_pos (by omega), if_pos (by omega), u]
  ·have J : g = s.2.2.2.2.2.length := by omega
   rw [if_neg (by omega)]
   by_cases h0 : 0 < s.2.2.2.2.2.length
   ·rw [if_pos h0]
    unfold fu
    simp only
    rw [if_pos (by omega), if_pos (by omega), J]
   ·rw [if_neg h0]
    unfold fu
    simp only
    rw [if_neg (by omega), if_neg (by omega)]
def jh (w : Wl) : Wl := { w with fs := dp w.fs (aD w.s0), la := if w.la = aD w.s0 then [] else w.la, s0 := w.s0 + 1, m := w.m - 1, st := fu w.st (gf w.st.2.2.2.2.2 (w.s0 : Int)) }
theorem tz {T N Z L : Nat} {w : Wl} (h : WOk T N Z L w) (I : T ≤ 99999999) (J : 0 < w.m) : WOk T N Z L (jh w) := by
 have u := h.s1
 have D := h.top
 have hi := rz h.inv w.la 0 false (aD w.s0)
 have r := h.has w.s0 (Nat.le_refl _) (by omega)
 rw [pw r] at hi
 have U := mw (aD w.s0) w.fs
 have X := mr w.fs (aD w.s0) r
 have hn := h.num
 have hs := h.siz
 have hd := pu h.st (lQ w.st.2.2.2.2.2 (w.s0 : Int))
 have G := h.len
 refine ⟨hi, by show (dp _ _).length ≤ _; omega, by show szF (dp _ _) ≤ _; omega, by show 1 ≤ w.s0 + 1; omega, by show w.s0 + 1 + (w.m - 1) ≤ T; omega, fun n h1 q => ?_, fun n h1 q => ?_, hd.1, ?_, h.sz⟩
 ·simp only [jh] at h1 q
  show (aQ (dp w.fs (aD w.s0)) (aD n)).isSome = true
  rw [jq _ _ _ h.inv.nd, if_neg (fun e => by have := eV (by omega) (by omega) e; omega)]
  exact h.has n (by omega) (by omega)
 ·simp only [jh] at h1
  show aQ (dp w.fs (aD w.s0)) (aD n) = none
  rw [jq _ _ _ h.inv.nd, if_neg (fun e => by have := eV (by omega) q e; omega)]
  exact h.non n (by omega) q
 ·show (w.st.2.2.2.2.2.drop _).length ≤ L
  rw [List.length_drop]; omega
structure Cmp (w v : Wl) (n : Nat) (i : Int) : Prop where
 s0 : v.s0 = w.s0 + n
 m : v.m + n = w.m
 tvc : v.st.1 = w.st.1 ∧ v.st.2.1 = w.st.2.1 ∧ v.st.2.2.1 = w.st.2.2.1
 la : dR v.st = dR w.st
 es : ∃ g, g ≤ w.st.2.2.2.2.2.length ∧ v.st.2.2.2.2.2 = w.st.2.2.2.2.2.drop g ∧ v.st.2.2.2.1 = w.st.2.2.2.1 + (g : Int)
 bd : v.st.2.2.2.1 ≤ max i w.st.2.2.2.1
theorem sA {w : Wl} (h : gj w.st) (D : 0 < w.m) {i : Int} (u : kx w.st (w.s0 : Int) i = false) : Cmp w (jh w) 1 i := by
 have hp := lQ w.st.2.2.2.2.2 (w.s0 : Int)
 have hd := pu h hp
 refine ⟨rfl, by show w.m - 1 + 1 = w.m; omega, ⟨rfl, rfl, rfl⟩, hd.2.2, ⟨_, hp, rfl, hd.2.1⟩, ?_⟩
 show (fu w.st (gf w.st.2.2.2.2.2 (w.s0 : Int))).2.2.2.1 ≤ _
 by_cases h0 : 0 < gf w.st.2.2.2.2.2 (w.s0 : Int)
 ·have r := pt w.st.2.2.2.2.2 (w.s0 : Int) (gf w.st.2.2.2.2.2 (w.s0 : Int) - 1) (by omega)
  have q := kH (l := w.st.2.2.2.2.2) (i := gf w.st.2.2.2.2.2 (w.s0 : Int) - 1) (by omega)
  unfold kx at u
  have := List.any_eq_false.1 u _ q
  simp only [r, decide_true, Bool.true_and, decide_eq_true_eq] at this
  unfold fu
  simp only
  rw [if_pos h0]
  omega
 ·unfold fu
  simp only
  rw [if_neg h0]
  omega
theorem sB {w u v : Wl} {a b : Nat} {i : Int} (h1 : Cmp w u a i) (q : Cmp u v b i) : Cmp w v (a + b) i := by
 obtain ⟨g, L, r, D⟩ := h1.es
 obtain ⟨k, G, I, J⟩ := q.es
 have U := h1.bd
 have X := q.bd
 refine ⟨by rw [q.s0, h1.s0]; omega, by have := h1.m; have := q.m; omega, ⟨q.tvc.1.trans h1.tvc.1, q.tvc.2.1.trans h1.tvc.2.1, q.tvc.2.2.trans h1.tvc.2.2⟩, q.la.trans h1.la, ⟨g + k, ?_, ?_, ?_⟩, by omega⟩
 ·rw [r, List.length_drop] at G; omega
 ·rw [I, r, List.drop_drop]
 ·rw [J, D]; omega
theorem px {w : Wl} {i : Int} : Cmp w w 0 i := ⟨rfl, rfl, ⟨rfl, rfl, rfl⟩, rfl, ⟨0, Nat.zero_le _, rfl, by simp⟩, by omega⟩
theorem mW {P : Wl → Prop} {T N Z L : Nat} (hT : T ≤ 99999999) (hL : L < 2 ^ 40) (hP : ∀ u, WOk T N Z L u → 0 < u.m → P u → P (jh u)) (i : Int) : ∀ (k n : Nat) (w : Wl), w.m + L + 20 < k → n + w.m < 2 ^ 40 → WOk T N Z L w →
  ∃ (v : Wl) (j : Nat), bY.l0 i k w.tp.1 w.tp.2.1 w.tp.2.2.1 w.tp.2.2.2.1 w.tp.2.2.2.2.1 w.tp.2.2.2.2.2.1 w.tp.2.2.2.2.2.2.1 w.tp.2.2.2.2.2.2.2.1 w.tp.2.2.2.2.2.2.2.2.1 w.tp.2.2.2.2.2.2.2.2.2.1 w.tp.2.2.2.2.2.2.2.2.2.2.1 w.tp.2.2.2.2.2.2.2.2.2.2.2.1 w.tp.2.2.2.2.2.2.2.2.2.2.2.2.1 w.tp.2.2.2.2.2.2.2.2.2.2.2.2.2 (n : Int) =
   some (v.tp.1, v.tp.2.1, v.tp.2.2.1, v.tp.2.2.2.1, v.tp.2.2.2.2.1, v.tp.2.2.2.2.2.1, v.tp.2.2.2.2.2.2.1, v.tp.2.2.2.2.2.2.2.1, v.tp.2.2.2.2.2.2.2.2.1, v.tp.2.2.2.2.2.2.2.2.2.1, v.tp.2.2.2.2.2.2.2.2.2.2.1, v.tp.2.2.2.2.2.2.2.2.2.2.2.1, v.tp.2.2.2.2.2.2.2.2.2.2.2.2.1, v.tp.2.2.2.2.2.2.2.2.2.2.2.2.2, ((n + j : Nat) : Int)) ∧ WOk T N Z L v ∧ Cmp w v j i ∧ (P w → P v)
 | 0, n, w, h, _, _ => by omega
 | k + 1, n, w, hk, hn, hw => by
  have a1 := hw.len
  have I := hw.s1
  have a6 := hw.top
  have J : (de w.s0 w.m).getD (0 : Int).toNat 0 = (w.s0 : Int) := by
   have := mv (s0 := w.s0) (m := w.m) (i := 0) (Nat.zero_le _)
   exact this
  rw [bY.l0]
  rw [show w.tp.2.2.2.2.2.1 = de w.s0 w.m from rfl, eN, J]
  by_cases hm : 0 < w.m
  ·have U := uG w.fs w.la 0 false w.most (de w.s0 w.m) (w.size : Int) w.st (by omega) false (w.s0 : Int) i (k := k) (by omega)
   have r : dO.f k w.tp.1 w.tp.2.1 w.tp.2.2.1 w.tp.2.2.2.1 w.tp.2.2.2.2.1 (de w.s0 w.m) w.tp.2.2.2.2.2.2.1 w.tp.2.2.2.2.2.2.2.1 w.tp.2.2.2.2.2.2.2.2.1 w.tp.2.2.2.2.2.2.2.2.2.1 w.tp.2.2.2.2.2.2.2.2.2.2.1 w.tp.2.2.2.2.2.2.2.2.2.2.2.1 w.tp.2.2.2.2.2.2.2.2.2.2.2.2.1 w.tp.2.2.2.2.2.2.2.2.2.2.2.2.2 (w.s0 : Int) i = some (kx w.st (w.s0 : Int) i) := U
   rw [if_pos (show (1 : Int) < ((w.m + 1 : Nat) : Int) by omega), if_pos (show 0 ≤ (0 : Int) ∧ (0 : Int) < ((w.m + 1 : Nat) : Int) by omega), r, Option.bind_some, Option.bind_some]
   cases hnd : kx w.st (w.s0 : Int) i with
   | true =>
    rw [if_neg (by decide)]
    exact ⟨w, 0, rfl, hw, px, id⟩
   | false =>
    have hh := hw.has w.s0 (Nat.le_refl _) (by omega)
    have X := tz hw hT hm
    have ab := sA hw.st hm hnd
    rw [if_pos (show (!false) = true from rfl), if_pos (show 0 ≤ (0 : Int) ∧ (0 : Int) < ((w.m + 1 : Nat) : Int) by omega), iA I (by omega) (by omega), Option.bind_some, sC, show iB w.tp.1 w.tp.2.1 w.tp.2.2.1 w.tp.2.2.2.1 (aD w.s0) = iB w.fs w.la 0 false (aD w.s0) from rfl, pw hh, Option.bind_some]
    simp only []
    rw [ij, Option.bind_some]
    have ad := vA (dp w.fs (aD w.s0)) (if w.la = aD w.s0 then [] else w.la) 0 false w.most (de w.s0 w.m) (w.size : Int) w.st (by omega) false (w.s0 : Int) (k := k) (by omega)
    have D : ci.f k (dp w.fs (aD w.s0)) (if w.la = aD w.s0 then [] else w.la) 0 false w.tp.2.2.2.2.1 (de w.s0 w.m) w.tp.2.2.2.2.2.2.1 w.tp.2.2.2.2.2.2.2.1 w.tp.2.2.2.2.2.2.2.2.1 w.tp.2.2.2.2.2.2.2.2.2.1 w.tp.2.2.2.2.2.2.2.2.2.2.1 w.tp.2.2.2.2.2.2.2.2.2.2.2.1 w.tp.2.2.2.2.2.2.2.2.2.2.2.2.1 w.tp.2.2.2.2.2.2.2.2.2.2.2.2.2 (w.s0 : Int) = _ := ad
    rw [D, Option.bind_some]
    simp only []
    rw [eN, if_pos (by omega), ws1 (by omega)]
    try rw [if_pos (show 0 ≤ (1 : Int) ∧ (1 : Int) ≤ ((w.m + 1 : Nat) : Int) ∧ ((w.m + 1 : Nat) : Int) ≤ ((w.m + 1 : Nat) : Int) by omega)]
    have G : cut (de w.s0 w.m) (1 : Int) ((w.m + 1 : Nat) : Int) = de (w.s0 + 1) (w.m - 1) := by
     obtain ⟨q, hq⟩ : ∃ q, w.m = q + 1 := ⟨w.m - 1, by omega⟩
     rw [hq, Nat.add_sub_cancel]
     unfold cut
     rw [Int.toNat_natCast, List.take_of_length_le (by rw [eN]; omega), sD]
     rfl
    rw [G]
    obtain ⟨v, j, v1, v2, v3, v4⟩ := mW (P := P) hT hL hP i k (n + 1) (jh w) (by show w.m - 1 + L + 20 < k; omega) (by show n + 1 + (w.m - 1) < _; omega) X
    refine ⟨v, 1 + j, ?_, v2, sB ab v3, fun x => v4 (hP w hw hm x)⟩
    rw [show n + (1 + j) = n + 1 + j by omega]
    exact v1
  ·rw [if_neg (show ¬ (1 : Int) < ((w.m + 1 : Nat) : Int) by omega), Option.bind_some, if_neg Bool.false_ne_true]
   exact ⟨w, 0, rfl, hw, px, id⟩
def jV (w : Wl) : Wl := { w with fs := aR w.fs (aD w.last) ((bn w.fs (aD w.last)).1, ((bn w.fs (aD w.last)).1.length : Int)) }
theorem sE {P : Wl → Prop} {T N Z L : Nat} {w : Wl} (h : WOk T N Z L w) (hT : T ≤ 99999999) (hL : L < 2 ^ 30) (hP : ∀ u, WOk T N Z L u → 0 < u.m → P u → P (jh u)) (i : Int) {k : Nat} (hk : T + L + 40 < k) :
  ∃ (v : Wl) (j : Nat) (c : Int), ej.f k w.tp.1 w.tp.2.1 w.tp.2.2.1 w.tp.2.2.2.1 w.tp.2.2.2.2.1 w.tp.2.2.2.2.2.1 w.tp.2.2.2.2.2.2.1 w.tp.2.2.2.2.2.2.2.1 w.tp.2.2.2.2.2.2.2.2.1 w.tp.2.2.2.2.2.2.2.2.2.1 w.tp.2.2.2.2.2.2.2.2.2.2.1 w.tp.2.2.2.2.2.2.2.2.2.2.2.1 w.tp.2.2.2.2.2.2.2.2.2.2.2.2.1 w.tp.2.2.2.2.2.2.2.2.2.2.2.2.2 i =
   some ((j : Int), c, v.tp.1, v.tp.2.1, v.tp.2.2.1, v.tp.2.2.2.1, v.tp.2.2.2.2.1, v.tp.2.2.2.2.2.1, v.tp.2.2.2.2.2.2.1, v.tp.2.2.2.2.2.2.2.1, v.tp.2.2.2.2.2.2.2.2.1, v.tp.2.2.2.2.2.2.2.2.2.1, v.tp.2.2.2.2.2.2.2.2.2.2.1, v.tp.2.2.2.2.2.2.2.2.2.2.2.1, v.tp.2.2.2.2.2.2.2.2.2.2.2.2.1, v.tp.2.2.2.2.2.2.2.2.2.2.2.2.2) ∧ WOk T N Z L v ∧ (P w → P (jV w) → P v) ∧
   ((i < 0 ∨ (dR w.st).1 < i) ∧ c = 1 ∧ j = 0 ∧ v = w ∨ ¬ (i < 0 ∨ (dR w.st).1 < i) ∧ c = 0 ∧ Cmp w v j i) := by
 have a1 := h.len
 have a6 := h.top
 have a7 := h.s1
 have I := pc w.fs w.la 0 false w.most (de w.s0 w.m) (w.size : Int) w.st false (by omega)
 have r : cg.f w.tp.1 w.tp.2.1 w.tp.2.2.1 w.tp.2.2.2.1 w.tp.2.2.2.2.1 w.tp.2.2.2.2.2.1 w.tp.2.2.2.2.2.2.1 w.tp.2.2.2.2.2.2.2.1 w.tp.2.2.2.2.2.2.2.2.1 w.tp.2.2.2.2.2.2.2.2.2.1 w.tp.2.2.2.2.2.2.2.2.2.2.1 w.tp.2.2.2.2.2.2.2.2.2.2.2.1 w.tp.2.2.2.2.2.2.2.2.2.2.2.2.1 w.tp.2.2.2.2.2.2.2.2.2.2.2.2.2 = some (dR w.st) := I
 unfold ej.f
 rw [if_neg (show ¬ w.tp.2.2.2.2.2.2.2.2.2.2.2.2.2 = true from Bool.false_ne_true), r, Option.bind_some]
 by_cases hi : i < 0 ∨ (dR w.st).1 < i
 ·rw [if_pos (by simpa using hi)]
  exact ⟨w, 0, 1, rfl, h, fun x _ => x, .inl ⟨hi, rfl, rfl, rfl⟩⟩
 ·rw [if_neg (by simpa using hi)]
  have X := iU (h.has w.last (by unfold Wl.last; omega) (Nat.le_refl _))
  have J := jX h.inv w.la 0 false (aD w.last)
  rw [js X] at J
  have z1 := fa (aD w.last) ((bn w.fs (aD w.last)).1, ((bn w.fs (aD w.last)).1.length : Int)) w.fs
  have l1 := eD (v := ((bn w.fs (aD w.last)).1, ((bn w.fs (aD w.last)).1.length : Int))) (h.has w.last (by unfold Wl.last; omega) (Nat.le_refl _))
  have ab := h.num
  have ad := h.siz
  simp only at J z1
  have hu : WOk T N Z L (jV w) := by
   unfold jV
   refine ⟨J, by simp only; omega, by simp only; omega, h.s1, h.top, fun n h1 q => ?_, fun n h1 q => ?_, h.st, h.len, h.sz⟩
   ·simp only at h1 q ⊢
    rw [cK]
    split
    ·rfl
    ·exact h.has n h1 q
   ·simp only at h1 q ⊢
    rw [cK, if_neg (fun e => by have := eV (by unfold Wl.last; omega) q e; unfold Wl.last at this; omega)]
    exact h.non n h1 q
  obtain ⟨v, j, v1, v2, v3, v4⟩ := mW (P := P) hT (by omega) hP i k 0 (jV w) (by show w.m + L + 20 < k; omega) (by show 0 + w.m < _; omega) hu
  rw [Nat.zero_add, show ((0 : Nat) : Int) = (0 : Int) from rfl] at v1
  have D : IntKind.i64.wrap (((de w.s0 w.m).length : Int) - 1) = (w.m : Int) := by rw [eN, w64 (by omega) (by omega)]; omega
  refine ⟨v, j, 0, ?_, v2, fun _ x => v4 x, .inr ⟨hi, rfl, ⟨v3.s0, v3.m, v3.tvc, v3.la, v3.es, v3.bd⟩⟩⟩
  unfold cJ.f bY.f
  have G := jr w.s0 w.m (by omega)
  rw [D] at G
  rw [show w.tp.2.2.2.2.2.1 = de w.s0 w.m from rfl, D, G, if_pos (by rw [eN]; omega), show ((w.s0 + w.m : Nat) : Int) = (w.last : Int) from rfl, iA (by unfold Wl.last; omega) (by unfold Wl.last; omega) (by omega), Option.bind_some, lP, show ji w.tp.1 w.tp.2.1 w.tp.2.2.1 w.tp.2.2.2.1 (aD w.last) = ji w.fs w.la 0 false (aD w.last) from rfl, js X, Option.bind_some]
  simp only []
  rw [ij, Option.bind_some]
  have U : bY.l0 i k (aR w.fs (aD w.last) ((bn w.fs (aD w.last)).1, ((bn w.fs (aD w.last)).1.length : Int))) w.la 0 false w.tp.2.2.2.2.1 (de w.s0 w.m) w.tp.2.2.2.2.2.2.1 w.tp.2.2.2.2.2.2.2.1 w.tp.2.2.2.2.2.2.2.2.1 w.tp.2.2.2.2.2.2.2.2.2.1 w.tp.2.2.2.2.2.2.2.2.2.2.1 w.tp.2.2.2.2.2.2.2.2.2.2.2.1 w.tp.2.2.2.2.2.2.2.2.2.2.2.2.1 w.tp.2.2.2.2.2.2.2.2.2.2.2.2.2 (0 : Int) = _ := v1
  rw [U, Option.bind_some, Option.bind_some]
  rfl
end Go.Proofs.YtndjkejhacfpdaaGreatDoor

namespace Go.Proofs.YtndjkejhacfpdaaGreatDoor
open Go.RowKit
def eB : List (List UInt8) → List UInt8
 | [] => []
 | p :: l => frB p ++ eB l
theorem pj : ∀ a b : List (List UInt8), eB (a ++ b) = eB a ++ eB b
 | [], b => rfl
 | p :: a, b => by rw [List.cons_append, eB, eB, pj a b, List.append_assoc]
theorem md : ∀ l : List dM, dN l = eB (l.map eA)
 | [] => rfl
 | r :: l => by rw [dN, List.map_cons, eB, md l]
def okP (ps : List (List UInt8)) : Prop := ∀ p, p ∈ ps → p.length ≤ 1048576
theorem pk : ∀ ps : List (List UInt8), 8 * ps.length ≤ (eB ps).length
 | [] => by simp [eB]
 | p :: l => by
  have q := pk l
  have := jK p
  rw [eB, List.length_append, List.length_cons]
  omega
abbrev uh : (Int × List (List UInt8)) → (Int × List UInt8) → Option (Int × List (List UInt8)) := fun (r : Int × List (List UInt8)) (q : Int × List UInt8) => if (r.2.length + ([q.2] : List (List UInt8)).length) * 24 ≤ 140737488355328 then (some (IntKind.i64.wrap ((IntKind.i64.wrap (q.1 + 8)) + (q.2.length : Int)), r.2 ++ ([q.2] : List (List UInt8)))) else none
theorem sq (b : List UInt8) (J : b.length ≤ 2 ^ 40) : ∀ (ps : List (List UInt8)) (k i : Nat) (r : List (List UInt8)), okP ps → i + (eB ps).length = b.length → b.drop i = eB ps → r.length ≤ i → ps.length + 1048700 < k →
  cG.l0 uh b k (i : Int) ((i : Int), r) = some ((b.length : Int), r ++ ps)
 | [], k, i, r, _, h1, _, _, hk => by
  obtain ⟨q, rfl⟩ : ∃ q, k = q + 1 := ⟨k - 1, by omega⟩
  simp only [eB, List.length_nil, Nat.add_zero] at h1
  rw [cG.l0, if_neg (by omega), h1, List.append_nil]
 | p :: ps, k, i, r, hp, h1, h2, ho, hk => by
  obtain ⟨q, rfl⟩ : ∃ q, k = q + 1 := ⟨k - 1, by omega⟩
  have D := hp p (by simp)
  have u := jK p
  have G : (eB (p :: ps)).length = (8 + p.length) + (eB ps).length := by rw [eB, List.length_append, u]
  rw [G] at h1
  rw [eB] at h2
  rw [List.length_cons] at hk
  have L := wd (b := b) (i := i) (k := q) J (by omega) (by omega)
  rw [h2, uA D] at L
  rw [cG.l0, if_pos (by omega), L, Option.bind_some]
  simp only []
  first | rw [if_pos rfl] | rw [if_pos trivial]
  have I : uh ((i : Int), r) ((i : Int), p) = some (((i + (8 + p.length) : Nat) : Int), r ++ [p]) := by
   show (if (r.length + 1) * 24 ≤ 140737488355328 then some (IntKind.i64.wrap (IntKind.i64.wrap ((i : Int) + 8) + (p.length : Int)), r ++ [p]) else none) = _
   rw [if_pos (by omega), w64 (n := (i : Int) + 8) (by omega) (by omega), w64 (by omega) (by omega)]
   congr 2
   omega
  rw [I, Option.bind_some, Option.bind_some]
  simp only [Bool.false_eq_true, if_false]
  rw [wa (by omega)]
  have hd : b.drop (i + (8 + p.length)) = eB ps := by
   rw [← List.drop_drop, h2, ← u, List.drop_left]
  rw [sq b J ps q (i + (8 + p.length)) (r ++ [p]) (fun x U => hp x (by simp [U])) (by omega) hd (by rw [List.length_append]; simp only [List.length_cons, List.length_nil]; omega) (by omega)]
  simp
theorem we {ps : List (List UInt8)} (hp : okP ps) (q : (eB ps).length ≤ 2 ^ 30) {k : Nat} (r : 2 ^ 30 + 1048700 < k) : fD.f k (eB ps) = some (ps, ((eB ps).length : Int), 0) := by
 have u := pk ps
 have h := sq (eB ps) (by omega) ps k 0 [] hp (by omega) rfl (by simp) (by omega)
 rw [show ((0 : Nat) : Int) = (0 : Int) from rfl, List.nil_append] at h
 unfold fD.f
 rw [show gK.f = some () from rfl, Option.bind_some]
 unfold cG.f
 rw [show cG.l0 _ (eB ps) k 0 (0, ([] : List (List UInt8))) = some (((eB ps).length : Int), ps) from h, Option.bind_some, if_pos rfl]
abbrev eC : List UInt8 := [111, 116, 104, 101, 114]
structure gA (M : Int) (w : Wl) : Prop where
 mo : w.most = M
 fr : ∀ n, w.s0 ≤ n → n ≤ w.last → ∃ ps, okP ps ∧ (bn w.fs (aD n)).1 = eB ps
 big : ∀ n, w.s0 ≤ n → n < w.last → M ≤ ((bn w.fs (aD n)).1.length : Int)
 sz : (bn w.fs (aD w.last)).1.length = w.size
 len : w.fs.length = w.m + 2
 oth : ∃ z, aQ w.fs eC = some ([1, 2], z)
theorem gP (n : Nat) : eC ≠ aD n := fun e => by
 have := congrArg List.length e
 rw [iz] at this
 simp at this
theorem mn (fs : FSt) (x : List UInt8) (v : List UInt8 × Int) (y : List UInt8) : bn (aR fs x v) y = if x = y then v else bn fs y := by
 unfold bn
 rw [cK]
 split <;> rfl
theorem jU (fs : FSt) (n : Nat) (b x : List UInt8) : bn (gB fs n b) x = if x = aD n then (b, (b.length : Int)) else bn fs x := by
 unfold bn
 rw [io]
 split <;> rfl
theorem nC {r : dM} (h : OkR r) (hd : r.2.2.2.2.2.2.2.2.2.2.length ≤ 4096 ∨ r.1 = 2) : (eA r).length ≤ 1048576 := by
 have h1 := jR r
 rcases hd with hd | hd
 ·omega
 ·have := (gW (h.e hd)).2.2.2.1
  omega
theorem nD {M : Int} {w : Wl} (h : gA M w) (u : (aQ w.fs (aD w.last)).isSome = true) : gA M (jV w) := by
 have D := eD (v := ((bn w.fs (aD w.last)).1, ((bn w.fs (aD w.last)).1.length : Int))) u
 have q : ∀ x, (bn (jV w).fs x).1 = (bn w.fs x).1 := fun x => by
  show (bn (aR w.fs (aD w.last) _) x).1 = _
  rw [mn]
  split
  ·rename_i e; rw [e]
  ·rfl
 obtain ⟨z, G⟩ := h.oth
 refine ⟨h.mo, fun n h1 r => by rw [q]; exact h.fr n h1 r, fun n h1 r => by rw [q]; exact h.big n h1 r, by rw [q]; exact h.sz, by show (aR w.fs _ _).length = _; rw [D]; exact h.len, z, ?_⟩
 show aQ (aR w.fs (aD w.last) _) eC = _
 rw [cK, if_neg (fun e => gP _ e.symm), G]
theorem tv {M : Int} {T N Z L : Nat} {w : Wl} (D : WOk T N Z L w) (hT : T < 99999990) (h : gA M w) : gA M (ik w) := by
 have al := D.top
 have hh := D.has w.last (by unfold Wl.last; omega) (Nat.le_refl _)
 have hs := nD h hh
 unfold ik
 by_cases hc : w.most ≤ (w.size : Int)
 ·rw [if_pos hc]
  have q : ∀ n, n ≤ w.last → aD n ≠ aD (w.last + 1) := fun n hn e => by
   have := eV (by unfold Wl.last at hn; omega) (by unfold Wl.last; omega) e
   omega
  have G := eD (v := ((bn w.fs (aD w.last)).1, ((bn w.fs (aD w.last)).1.length : Int))) hh
  have I : aQ (aR w.fs (aD w.last) ((bn w.fs (aD w.last)).1, ((bn w.fs (aD w.last)).1.length : Int))) (aD (w.last + 1)) = none := by
   rw [cK, if_neg (q _ (Nat.le_refl _)), D.non _ (by unfold Wl.last; omega) (by unfold Wl.last; omega)]
  obtain ⟨b, eb⟩ : ∃ b, frB (eA (eF (w.last + 1) w.st)) = b := ⟨_, rfl⟩
  have hb : b = eB [eA (eF (w.last + 1) w.st)] := by rw [← eb, eB, eB, List.append_nil]
  have J := nC (mp (n := w.last + 1) (by unfold Wl.last; omega) D.st) (.inl (Nat.zero_le _))
  obtain ⟨z, hz⟩ := h.oth
  have r : M ≤ ((bn w.fs (aD w.last)).1.length : Int) := by rw [h.sz, ← h.mo]; exact hc
  rw [eb]
  refine ⟨h.mo, fun n h1 u => ?_, fun n h1 u => ?_, ?_, ?_, z, ?_⟩
  ·have u : n ≤ w.s0 + (w.m + 1) := u
   have U : w.last = w.s0 + w.m := rfl
   simp only at h1 ⊢
   rw [jU]
   by_cases e : n = w.last + 1
   ·rw [e, if_pos rfl, hb]
    exact ⟨_, fun p hp => by rw [List.mem_singleton.1 hp]; exact J, rfl⟩
   ·rw [if_neg (q n (by omega))]
    exact hs.fr n h1 (by show n ≤ w.last; omega)
  ·have u : n < w.s0 + (w.m + 1) := u
   have U : w.last = w.s0 + w.m := rfl
   simp only at h1 ⊢
   rw [jU, if_neg (q n (by omega))]
   by_cases e : n = w.last
   ·rw [e, mn, if_pos rfl]; exact r
   ·exact hs.big n h1 (by show n < w.last; omega)
  ·show (bn (gB (aR w.fs (aD w.last) _) (w.last + 1) b) (aD (w.s0 + (w.m + 1)))).1.length = b.length
   rw [jU, show w.s0 + (w.m + 1) = w.last + 1 from rfl, if_pos rfl]
  ·simp only
   have l1 := dX (aR w.fs (aD w.last) ((bn w.fs (aD w.last)).1, ((bn w.fs (aD w.last)).1.length : Int))) (aD (w.last + 1)) (([], 0) : List UInt8 × Int)
   rw [I] at l1
   have m1 : aQ (aR (aR w.fs (aD w.last) ((bn w.fs (aD w.last)).1, ((bn w.fs (aD w.last)).1.length : Int))) (aD (w.last + 1)) ([], 0)) (aD (w.last + 1)) = some ([], 0) := by rw [cK, if_pos rfl]
   have l2 := dX (aR (aR w.fs (aD w.last) ((bn w.fs (aD w.last)).1, ((bn w.fs (aD w.last)).1.length : Int))) (aD (w.last + 1)) ([], 0)) (aD (w.last + 1)) (([] ++ b, 0) : List UInt8 × Int)
   rw [m1] at l2
   have m2 : aQ (aR (aR (aR w.fs (aD w.last) ((bn w.fs (aD w.last)).1, ((bn w.fs (aD w.last)).1.length : Int))) (aD (w.last + 1)) ([], 0)) (aD (w.last + 1)) ([] ++ b, 0)) (aD (w.last + 1)) = some ([] ++ b, 0) := by rw [cK, if_pos rfl]
   have X := dX (aR (aR (aR w.fs (aD w.last) ((bn w.fs (aD w.last)).1, ((bn w.fs (aD w.last)).1.length : Int))) (aD (w.last + 1)) ([], 0)) (aD (w.last + 1)) ([] ++ b, 0)) (aD (w.last + 1)) (([] ++ b, ((([] ++ b : List UInt8)).length : Int)) : List UInt8 × Int)
   rw [m2] at X
   simp only [Option.isSome_none, Option.isSome_some, Bool.false_eq_true, if_false, if_true] at l1 l2 X
   unfold gB
   rw [X, l2, l1, G, h.len]
  ·simp only
   rw [io, if_neg (gP _), cK, if_neg (fun e => gP _ e.symm), hz]
 ·rw [if_neg hc]; exact h
theorem uB {M : Int} {T N Z L : Nat} {w : Wl} (U : WOk T N Z L w) (hT : T < 99999990) (h : gA M w) {rs : List dM} (hr : ∀ r, r ∈ rs → OkR r ∧ r.1 ≠ 0) (hd : ∀ r, r ∈ rs → r.2.2.2.2.2.2.2.2.2.2.length ≤ 4096 ∨ r.1 = 2) : gA M (iT w rs) := by
 have ad := U.top
 have hh := U.has w.last (by unfold Wl.last; omega) (Nat.le_refl _)
 have J := eD (v := ((bn w.fs (aD w.last)).1 ++ dN rs, (bn w.fs (aD w.last)).2)) hh
 obtain ⟨z, X⟩ := h.oth
 have q : ∀ x, (bn (iT w rs).fs x).1 = if aD w.last = x then (bn w.fs (aD w.last)).1 ++ dN rs else (bn w.fs x).1 := fun x => by
  unfold iT
  by_cases hc : 0 < rs.length
  ·simp only [if_pos hc]
   rw [mn]
   split <;> rfl
  ·simp only [if_neg hc]
   have : rs = [] := List.length_eq_zero_iff.1 (by omega)
   rw [this, dN, List.append_nil]
   split
   ·rename_i e; rw [e]
   ·rfl
 have u : (iT w rs).last = w.last := rfl
 have G : ∀ n, n < w.last → aD w.last ≠ aD n := fun n hn e => by
  have := eV (by unfold Wl.last; omega) (by unfold Wl.last at hn; omega) e
  omega
 refine ⟨h.mo, fun n h1 D => ?_, fun n h1 D => ?_, ?_, ?_, z, ?_⟩
 ·rw [u] at D
  rw [q]
  by_cases e : n = w.last
  ·rw [e, if_pos rfl]
   obtain ⟨ps, p1, p2⟩ := h.fr w.last (by unfold Wl.last; omega) (Nat.le_refl _)
   refine ⟨ps ++ rs.map eA, fun p hp => ?_, by rw [pj, p2, md]⟩
   rcases List.mem_append.1 hp with hp | hp
   ·exact p1 p hp
   ·obtain ⟨r, I, rfl⟩ := List.mem_map.1 hp
    exact nC (hr r I).1 (hd r I)
  ·rw [if_neg (G n (by omega))]
   exact h.fr n h1 D
 ·rw [u] at D
  rw [q, if_neg (G n D)]
  exact h.big n h1 D
 ·rw [u, q, if_pos rfl, List.length_append, h.sz]
  rfl
 ·show (if 0 < rs.length then aR w.fs (aD w.last) _ else w.fs).length = w.m + 2
  split
  ·rw [J]; exact h.len
  ·exact h.len
 ·show aQ (if 0 < rs.length then aR w.fs (aD w.last) _ else w.fs) eC = _
  split
  ·rw [cK, if_neg (fun e => gP _ e.symm), X]
  ·exact X
theorem sw {s : St} {b : BaT} : ∀ r, r ∈ fS s b → r.2.2.2.2.2.2.2.2.2.2.length ≤ 4096 ∨ r.1 = 2 := by
 intro r q
 unfold fS at q
 rcases List.mem_append.1 q with q | q
 ·rcases List.mem_append.1 q with q | q
  ·rcases List.mem_append.1 q with q | q
   ·split at q
    ·rw [List.mem_singleton.1 q]; exact .inl (Nat.zero_le _)
    ·cases q
   ·split at q
    ·rw [List.mem_singleton.1 q]; exact .inl (Nat.zero_le _)
    ·cases q
  ·obtain ⟨e, u, rfl⟩ := List.mem_map.1 q
   exact .inr rfl
 ·split at q
  ·rw [List.mem_singleton.1 q]; exact .inl (Nat.zero_le _)
  ·cases q
theorem uC {M : Int} {T N Z L : Nat} {w : Wl} (q : WOk T N Z L w) (I : T < 99999980) (hN : N < 256) (r : Z + 200 ≤ 16777216) (u : L < 2 ^ 30) (h : gA M w) (b : BaT) : gA M (mq w b) := by
 unfold mq
 split
 ·rename_i D
  have h1 := nE q (by omega) hN r u
  have G := tv q (by omega) h
  unfold jW
  rw [nF]
  exact uB h1 (by omega) G (nG q.st D) sw
 ·exact h
theorem tw {M : Int} {T N Z L : Nat} {u : Wl} (G : WOk T N Z L u) (hT : T ≤ 99999999) (hm : 0 < u.m) (h : gA M u) : gA M (jh u) := by
 have J := G.top
 have U := G.has u.s0 (Nat.le_refl _) (by omega)
 have hl := mr u.fs (aD u.s0) U
 obtain ⟨z, X⟩ := h.oth
 have r : (jh u).last = u.last := by unfold Wl.last; show u.s0 + 1 + (u.m - 1) = _; omega
 have I : ∀ n, u.s0 + 1 ≤ n → n ≤ u.last → bn (jh u).fs (aD n) = bn u.fs (aD n) := fun n h1 q => by
  show bn (dp u.fs (aD u.s0)) (aD n) = _
  unfold bn
  rw [jq _ _ _ G.inv.nd, if_neg (fun e => by have := eV (by omega) (by unfold Wl.last at q; omega) e; omega)]
 refine ⟨h.mo, fun n h1 q => ?_, fun n h1 q => ?_, ?_, ?_, z, ?_⟩
 ·rw [r] at q
  have D : u.s0 + 1 ≤ n := h1
  rw [I n D q]
  exact h.fr n (by omega) q
 ·rw [r] at q
  have D : u.s0 + 1 ≤ n := h1
  rw [I n D (by omega)]
  exact h.big n (by omega) q
 ·rw [r, I _ (by unfold Wl.last; omega) (Nat.le_refl _)]
  exact h.sz
 ·show (dp u.fs (aD u.s0)).length = u.m - 1 + 2
  have := h.len
  omega
 ·show aQ (dp u.fs (aD u.s0)) eC = _
  rw [jq _ _ _ G.inv.nd, if_neg (fun e => gP _ e.symm), X]
/-! ### Sync, Bytes -/
theorem uD {T N Z L : Nat} {w : Wl} (h : WOk T N Z L w) (I : T ≤ 99999999) {k : Nat} (J : 20 ≤ k) : dZ.f k w.tp.1 w.tp.2.1 w.tp.2.2.1 w.tp.2.2.2.1 w.tp.2.2.2.2.1 w.tp.2.2.2.2.2.1 w.tp.2.2.2.2.2.2.1 w.tp.2.2.2.2.2.2.2.1 w.tp.2.2.2.2.2.2.2.2.1 w.tp.2.2.2.2.2.2.2.2.2.1 w.tp.2.2.2.2.2.2.2.2.2.2.1 w.tp.2.2.2.2.2.2.2.2.2.2.2.1 w.tp.2.2.2.2.2.2.2.2.2.2.2.2.1 w.tp.2.2.2.2.2.2.2.2.2.2.2.2.2 = some (0, (jV w).fs, (jV w).la, 0, false) := by
 have u := h.top
 have D := h.s1
 have G := iU (h.has w.last (by unfold Wl.last; omega) (Nat.le_refl _))
 have q : IntKind.i64.wrap (((de w.s0 w.m).length : Int) - 1) = (w.m : Int) := by rw [eN, w64 (by omega) (by omega)]; omega
 have r := jr w.s0 w.m (by omega)
 rw [q] at r
 unfold dZ.f cR.f eZ.f
 rw [if_neg (show ¬ w.tp.2.2.2.2.2.2.2.2.2.2.2.2.2 = true from Bool.false_ne_true), show w.tp.2.2.2.2.2.1 = de w.s0 w.m from rfl, q, r, if_pos (by rw [eN]; omega), show ((w.s0 + w.m : Nat) : Int) = (w.last : Int) from rfl, iA (by unfold Wl.last; omega) (by unfold Wl.last; omega) (by omega), Option.bind_some, lP, show ji w.tp.1 w.tp.2.1 w.tp.2.2.1 w.tp.2.2.2.1 (aD w.last) = ji w.fs w.la 0 false (aD w.last) from rfl, js G, Option.bind_some]
 simp only []
 rw [ij, Option.bind_some, Option.bind_some, Option.bind_some]
 rfl
theorem vz {T N Z L : Nat} {w : Wl} (h : WOk T N Z L w) (U : T ≤ 99999999) : WOk T N Z L (jV w) := by
 have G := h.top
 have I := iU (h.has w.last (by unfold Wl.last; omega) (Nat.le_refl _))
 have r := jX h.inv w.la 0 false (aD w.last)
 rw [js I] at r
 have J := fa (aD w.last) ((bn w.fs (aD w.last)).1, ((bn w.fs (aD w.last)).1.length : Int)) w.fs
 have l1 := eD (v := ((bn w.fs (aD w.last)).1, ((bn w.fs (aD w.last)).1.length : Int))) (h.has w.last (by unfold Wl.last; omega) (Nat.le_refl _))
 have u := h.num
 have D := h.siz
 simp only at r J
 unfold jV
 refine ⟨r, by simp only; omega, by simp only; omega, h.s1, h.top, fun n h1 q => ?_, fun n h1 q => ?_, h.st, h.len, h.sz⟩
 ·simp only at h1 q ⊢
  rw [cK]
  split
  ·rfl
  ·exact h.has n h1 q
 ·simp only at h1 q ⊢
  rw [cK, if_neg (fun e => by have := eV (by unfold Wl.last; omega) q e; unfold Wl.last at this; omega)]
  exact h.non n h1 q
theorem qJ {T N Z L : Nat} {w : Wl} (h : WOk T N Z L w) {n : Nat} (h1 : w.s0 ≤ n) (r : n ≤ w.last) : cc.f w.fs w.la 0 false (aD n) = some ((bn w.fs (aD n)).1, 0) := by
 have q := h.has n h1 r
 have u := Nat.le_trans (lw (iV q)) h.inv.sz
 simp only at u
 unfold cc.f
 rw [if_pos q]
 have : eO.f (bn w.fs (aD n)).1 = some (bn w.fs (aD n)).1 := pl (by omega)
 show (eO.f (bn w.fs (aD n)).1).bind _ = _
 rw [this]
 rfl
def jB (w : Wl) : Nat → Nat
 | 0 => 0
 | j + 1 => (bn w.fs (aD (w.last - j))).1.length + jB w j
theorem pm {T N Z L : Nat} {w : Wl} (h : WOk T N Z L w) : ∀ j, j ≤ w.m + 1 → jB w j ≤ 16777216 * j
 | 0, _ => Nat.le_refl _
 | j + 1, hj => by
  have u := pm h j (by omega)
  have q := h.has (w.last - j) (by unfold Wl.last; omega) (by unfold Wl.last; omega)
  have r := Nat.le_trans (lw (iV q)) h.inv.sz
  simp only at r
  rw [jB]
  omega
theorem pn {T N Z L : Nat} {w : Wl} (h : WOk T N Z L w) (q : T ≤ 1000000) : ∀ (k i n : Nat), w.m + 1 - i < k → i ≤ w.m + 1 → n + jB w (w.m + 1 - i) < 2 ^ 60 →
  bR.l0 w.fs w.la 0 false (jY w.s0 w.m) k (n : Int) (i : Int) = some ((n + jB w (w.m + 1 - i) : Nat) : Int)
 | 0, i, n, hk, _, _ => by omega
 | k + 1, i, n, hk, hi, hb => by
  have r := h.top
  rw [bR.l0, jZ]
  by_cases hlt : i < w.m + 1
  ·have u : w.m + 1 - i = (w.m + 1 - (i + 1)) + 1 := by omega
   have D : w.last - (w.m + 1 - (i + 1)) = w.s0 + i := by unfold Wl.last; omega
   rw [u, jB, D] at hb ⊢
   rw [if_pos (by omega), if_pos (by omega), Int.toNat_natCast, mt (by omega), qJ h (by omega) (by unfold Wl.last; omega), Option.bind_some]
   simp only []
   rw [wa (by omega), ws1 (by omega), pn h q k (i + 1) _ (by omega) (by omega) (by omega)]
   congr 2
   omega
  ·rw [if_neg (by omega), show w.m + 1 - i = 0 by omega, jB, Nat.add_zero]
theorem uE {T N Z L : Nat} {w : Wl} (h : WOk T N Z L w) (r : T ≤ 1000000) {k : Nat} (G : T + 30 < k) : bR.f k w.tp.1 w.tp.2.1 w.tp.2.2.1 w.tp.2.2.2.1 w.tp.2.2.2.2.1 w.tp.2.2.2.2.2.1 w.tp.2.2.2.2.2.2.1 w.tp.2.2.2.2.2.2.2.1 w.tp.2.2.2.2.2.2.2.2.1 w.tp.2.2.2.2.2.2.2.2.2.1 w.tp.2.2.2.2.2.2.2.2.2.2.1 w.tp.2.2.2.2.2.2.2.2.2.2.2.1 w.tp.2.2.2.2.2.2.2.2.2.2.2.2.1 w.tp.2.2.2.2.2.2.2.2.2.2.2.2.2 = some (jB w (w.m + 1) : Int) := by
 have u := h.top
 have D := h.s1
 have I := pm h (w.m + 1) (Nat.le_refl _)
 have q := pn h r k 0 0 (by omega) (by omega) (by rw [Nat.sub_zero]; omega)
 rw [Nat.sub_zero, Nat.zero_add, show ((0 : Nat) : Int) = (0 : Int) from rfl] at q
 unfold bR.f
 rw [sx h (by omega) (by omega), Option.bind_some, show bR.l0 w.tp.1 w.tp.2.1 w.tp.2.2.1 w.tp.2.2.2.1 (jY w.s0 w.m) k 0 0 = bR.l0 w.fs w.la 0 false (jY w.s0 w.m) k 0 0 from rfl, q, Option.bind_some]
end Go.Proofs.YtndjkejhacfpdaaGreatDoor

namespace Go.Proofs.YtndjkejhacfpdaaGreatDoor
open Go.RowKit
theorem rC (m : Nat) : eP.f (m + 100) = some true := by kernel_rfl
def opZ (o : OpW) : Nat := 512 + ga (OpW.es o) + 128 * (OpW.es o).length
def ly (l : List OpW) : Nat := (l.map opZ).sum
def kN (l : List OpW) : Nat := (l.map fun o => (OpW.es o).length + 3).sum
theorem nY (o : OpW) (l : List OpW) : ly (o :: l) = opZ o + ly l := by simp [ly]
theorem nZ (o : OpW) (l : List OpW) : kN (o :: l) = (OpW.es o).length + 3 + kN l := by simp [kN]
theorem pB : ∀ l : List EnT, ga l + l.length ≤ Mu.mu l
 | [] => by simp [ga, jL]
 | e :: l => by
  have q := pB l
  obtain ⟨a, b, c, d⟩ := e
  rw [kO, qQ, fH, fH, fH, kz, kz, kz, pC, List.length_cons]
  simp only
  omega
theorem vG (o : OpW) : ga (OpW.es o) + (OpW.es o).length + 1 ≤ Mu.mu o := by
 obtain ⟨a, b, c, d, e, f, g, h, l⟩ := o
 have := pB l
 rw [fH, fH, fH, fH, fH, fH, fH, fH, kz, kz, uH, kz]
 show ga l + l.length + 1 ≤ _
 omega
theorem qR : ∀ l : List OpW, (l.map fun o => ga (OpW.es o)).sum + l.length + (l.map fun o => (OpW.es o).length).sum ≤ Mu.mu l
 | [] => by simp [jL]
 | o :: l => by
  have q := qR l
  have := vG o
  rw [qQ]
  simp only [List.map_cons, List.sum_cons, List.length_cons]
  omega
theorem qS : ∀ l : List OpW, ly l = 512 * l.length + (l.map fun o => ga (OpW.es o)).sum + 128 * (l.map fun o => (OpW.es o).length).sum
 | [] => by simp [ly]
 | o :: l => by
  have q := qS l
  rw [nY, q]
  unfold opZ
  simp only [List.map_cons, List.sum_cons, List.length_cons]
  omega
theorem qT : ∀ l : List OpW, kN l = 3 * l.length + (l.map fun o => (OpW.es o).length).sum
 | [] => by simp [kN]
 | o :: l => by
  have q := qT l
  rw [nZ, q]
  simp only [List.map_cons, List.sum_cons, List.length_cons]
  omega
theorem mx {f : OpW → Nat} : ∀ {l : List OpW} {o : OpW}, o ∈ l → f o ≤ (l.map f).sum
 | [], _, h => by cases h
 | y :: l, o, h => by
  rw [List.map_cons, List.sum_cons]
  rcases List.mem_cons.1 h with rfl | h
  ·omega
  ·have := mx (f := f) h; omega
theorem ob {e : EnT} : ∀ {l : List EnT}, e ∈ l → e.2.2.2.length ≤ ga l
 | [], h => by cases h
 | x :: l, h => by
  rw [kO]
  rcases List.mem_cons.1 h with rfl | h
  ·omega
  ·have := ob h; omega
end Go.Proofs.YtndjkejhacfpdaaGreatDoor

namespace Go.Proofs.YtndjkejhacfpdaaGreatDoor
open Go.RowKit
theorem qW {T N Z L : Nat} {w : Wl} {M : Int} (h : WOk T N Z L w) (I : gA M w) (hT : T ≤ 1000000) : ∀ (k i n : Nat) (u : Int), w.m + 1 - i + 2 ^ 31 < k → i ≤ w.m + 1 → (0 < i → u = ((w.s0 + i - 1 : Nat) : Int)) → n + jB w (w.m + 1 - i) < 2 ^ 60 →
  bl.l1 M w.tp (jY w.s0 w.m) k (n : Int) u (i : Int) = some (.inl ((n + jB w (w.m + 1 - i) : Nat) : Int))
 | 0, i, n, u, hk, _, _, _ => by omega
 | k + 1, i, n, u, hk, hi, hp, hb => by
  have a6 := h.top
  have a7 := h.s1
  rw [bl.l1, jZ]
  by_cases hlt : i < w.m + 1
  ·have e1 : w.m + 1 - i = (w.m + 1 - (i + 1)) + 1 := by omega
   have e2 : w.last - (w.m + 1 - (i + 1)) = w.s0 + i := by unfold Wl.last; omega
   rw [e1, jB, e2] at hb ⊢
   obtain ⟨ps, p1, p2⟩ := I.fr (w.s0 + i) (by omega) (show w.s0 + i ≤ w.s0 + w.m by omega)
   have J := h.has (w.s0 + i) (by omega) (show w.s0 + i ≤ w.s0 + w.m by omega)
   have r := Nat.le_trans (lw (iV J)) h.inv.sz
   simp only at r
   obtain ⟨d, ed⟩ : ∃ d, (bn w.fs (aD (w.s0 + i))).1 = d := ⟨_, rfl⟩
   have D := qJ h (n := w.s0 + i) (by omega) (by unfold Wl.last; omega)
   have q := I.big (w.s0 + i) (by omega)
   rw [ed] at p2 r D hb q ⊢
   have U : fD.f k d = some (ps, (d.length : Int), 0) := by
    rw [p2] at r ⊢
    exact we p1 (by omega) (by omega)
   have X : ((0 : Int) < (i : Int) ∧ ¬ (((w.s0 + i : Nat) : Int) = IntKind.i64.wrap (u + 1))) → False := fun ⟨q1, q2⟩ => by
    have := hp (by omega)
    rw [this, w64 (by omega) (by omega)] at q2
    omega
   have ab : ((i : Int) < IntKind.i64.wrap (((w.m + 1 : Nat) : Int) - 1) ∧ (d.length : Int) < M) → False := fun ⟨q1, q2⟩ => by
    rw [w64 (by omega) (by omega)] at q1
    have := q (by unfold Wl.last; omega)
    omega
   have ad : IntKind.i64.wrap ((n : Int) + (d.length : Int)) = ((n + d.length : Nat) : Int) := by rw [w64 (by omega) (by omega)]; omega
   rw [if_pos (by omega), if_pos (by omega), Int.toNat_natCast, mt (by omega), sL (by rw [iz]; omega) (by omega), kV (by omega), Option.bind_some, if_pos (by omega), show cc.f w.tp.1 w.tp.2.1 w.tp.2.2.1 w.tp.2.2.2.1 (aD (w.s0 + i)) = cc.f w.fs w.la 0 false (aD (w.s0 + i)) from rfl, D, Option.bind_some]
   simp only []
   rw [U, Option.bind_some]
   simp only [show cV.f (0 : Int) = some 0 from rfl, Option.bind_some, show decide (0 < w.s0 + i) = true by simp; omega, Bool.not_true, Bool.false_eq_true, if_false]
   rw [show (decide ((0 : Int) < (i : Int)) && (!decide (((w.s0 + i : Nat) : Int) = IntKind.i64.wrap (u + 1)))) = false by
    rw [Bool.eq_false_iff]
    intro G
    simp only [Bool.and_eq_true, decide_eq_true_eq, Bool.not_eq_true', decide_eq_false_iff_not] at G
    exact X G]
   simp only [Bool.false_eq_true, if_false, decide_true, Bool.not_true, Bool.or_self, Option.bind_some]
   rw [show (decide ((i : Int) < IntKind.i64.wrap (((w.m + 1 : Nat) : Int) - 1)) && decide ((d.length : Int) < M)) = false by
    rw [Bool.eq_false_iff]
    intro G
    simp only [Bool.and_eq_true, decide_eq_true_eq] at G
    exact ab G]
   simp only [Bool.false_eq_true, if_false]
   rw [ad, ws1 (by omega), qW h I hT k (i + 1) _ _ (by omega) (by omega) (fun _ => by omega) (by omega)]
   congr 3
   omega
  ·rw [if_neg (by omega), show w.m + 1 - i = 0 by omega, jB, Nat.add_zero]
def rJ (J : Int) (k : Nat) (q : WT) : Option (WT ⊕ ((FSt × List UInt8 × Int × Bool) ⊕ Bool)) := ((bG.f k q.1 q.2.1 q.2.2.1 q.2.2.2.1 q.2.2.2.2.1 q.2.2.2.2.2.1 q.2.2.2.2.2.2.1 q.2.2.2.2.2.2.2.1 q.2.2.2.2.2.2.2.2.1 q.2.2.2.2.2.2.2.2.2.1 q.2.2.2.2.2.2.2.2.2.2.1 q.2.2.2.2.2.2.2.2.2.2.2.1 q.2.2.2.2.2.2.2.2.2.2.2.2.1 q.2.2.2.2.2.2.2.2.2.2.2.2.2).bind fun r => (orR (bl.l1 J q r k 0 0 0) fun u => ((bR.f k q.1 q.2.1 q.2.2.1 q.2.2.2.1 q.2.2.2.2.1 q.2.2.2.2.2.1 q.2.2.2.2.2.2.1 q.2.2.2.2.2.2.2.1 q.2.2.2.2.2.2.2.2.1 q.2.2.2.2.2.2.2.2.2.1 q.2.2.2.2.2.2.2.2.2.2.1 q.2.2.2.2.2.2.2.2.2.2.2.1 q.2.2.2.2.2.2.2.2.2.2.2.2.1 q.2.2.2.2.2.2.2.2.2.2.2.2.2).bind fun D => ((if D = u then ((dE.f q.1 q.2.1 q.2.2.1 q.2.2.2.1).bind fun G => (some (!decide ((G.length : Int) = IntKind.i64.wrap ((r.length : Int) + 1))))) else (some true)).bind fun I => (if I = true then (some (.inr (.inr false))) else (some (.inl (q.1, q.2.1, q.2.2.1, q.2.2.2.1, q.2.2.2.2.1, q.2.2.2.2.2.1, q.2.2.2.2.2.2.1, q.2.2.2.2.2.2.2.1, q.2.2.2.2.2.2.2.2.1, q.2.2.2.2.2.2.2.2.2.1, q.2.2.2.2.2.2.2.2.2.2.1, q.2.2.2.2.2.2.2.2.2.2.2.1, q.2.2.2.2.2.2.2.2.2.2.2.2.1, q.2.2.2.2.2.2.2.2.2.2.2.2.2))))))))
theorem vK {T N Z L : Nat} {w : Wl} {M : Int} (h : WOk T N Z L w) (u : gA M w) (D : T ≤ 1000000) {k : Nat} (U : 2200000000 < k) : rJ M k w.tp = some (.inl w.tp) := by
 have I := h.top
 have J := h.s1
 have X := pm h (w.m + 1) (Nat.le_refl _)
 have G := qW h u D k 0 0 0 (by omega) (by omega) (fun q => absurd q (by omega)) (by rw [Nat.sub_zero]; omega)
 rw [Nat.sub_zero, Nat.zero_add, show ((0 : Nat) : Int) = (0 : Int) from rfl] at G
 have r : dE.f w.tp.1 w.tp.2.1 w.tp.2.2.1 w.tp.2.2.2.1 = some (eQ w.fs) := qX h.inv (by decide) _ _ _
 unfold rJ
 rw [sx h (by omega) (by omega), Option.bind_some, G]
 show ((bR.f k _ _ _ _ _ _ _ _ _ _ _ _ _ _).bind _) = _
 rw [uE h D (by omega), Option.bind_some, if_pos rfl, r, Option.bind_some, Option.bind_some, od, u.len, jZ]
 rw [show (!decide (((w.m + 2 : Nat) : Int) = IntKind.i64.wrap (((w.m + 1 : Nat) : Int) + 1))) = false by
  rw [w64 (by omega) (by omega)]
  simp only [Bool.not_eq_false', decide_eq_true_eq]
  omega]
 rfl
theorem qY {M : Int} (x : List OpW) (hx : x.length < 2 ^ 20) (hd : ∀ o, o ∈ x → ∀ e, e ∈ OpW.es o → e.2.2.2.length < 2 ^ 40) : ∀ (k i T N Z L : Nat) (w : Wl), x.length - i + 2300000000 + 2 * kN (x.drop i) < k → i ≤ x.length → WOk T N Z L w → gA M w →
  T + (x.length - i) < 900000 → N + (x.length - i) < 256 → Z + ly (x.drop i) + 700 ≤ 16777216 → L + kN (x.drop i) < 2 ^ 28 →
  ∃ v : Wl, bl.l0 M x k (i : Int) w.tp.2.2.2.2.1 w.tp.2.2.2.2.2.1 w.tp.2.2.2.2.2.2.1 w.tp.2.2.2.2.2.2.2.1 w.tp.2.2.2.2.2.2.2.2.1 w.tp.2.2.2.2.2.2.2.2.2.1 w.tp.2.2.2.2.2.2.2.2.2.2.1 w.tp.2.2.2.2.2.2.2.2.2.2.2.1 w.tp.2.2.2.2.2.2.2.2.2.2.2.2.1 w.tp.2.2.2.2.2.2.2.2.2.2.2.2.2 w.tp.1 w.tp.2.1 w.tp.2.2.1 w.tp.2.2.2.1 =
    some (.inl (v.tp.1, v.tp.2.1, v.tp.2.2.1, v.tp.2.2.2.1)) ∧ gA M v
 | 0, i, T, N, Z, L, w, h, _, _, _, _, _, _, _ => by omega
 | k + 1, i, T, N, Z, L, w, hk, hi, hw, hsw, hT, hN, hZ, hL => by
  rw [bl.l0]
  by_cases hlt : i < x.length
  ·have hm : x.getD i gC ∈ x := by rw [gJ hlt]; exact List.getElem_mem _
   have D := fT x gC hlt
   have G := hd _ hm
   have I : ly (x.drop i) = opZ (x.getD i gC) + ly (x.drop (i + 1)) := by rw [D, nY]
   have af : kN (x.drop i) = (OpW.es (x.getD i gC)).length + 3 + kN (x.drop (i + 1)) := by rw [D, nZ]
   have J : x.getD (i : Int).toNat ((0 : Int), (0 : Int), false, (0 : Int), (0 : Int), (0 : Int), (0 : Int), (0 : Int), ([] : List (bI))) = x.getD i gC := by rw [Int.toNat_natCast]
   obtain ⟨o, eo⟩ : ∃ o, x.getD i gC = o := ⟨_, rfl⟩
   rw [eo] at I af G J
   have a8 : x.length - i = (x.length - (i + 1)) + 1 := by omega
   have al : w.m < 2 ^ 30 := by have := hw.top; omega
   have r : ∀ (u : Wl) (F : WT → Option (WT ⊕ ((FSt × List UInt8 × Int × Bool) ⊕ Bool))), WOk (T + 1) (N + 1) (Z + opZ o) (L + (OpW.es o).length + 3) u → gA M u → F = rJ M k →
     ∃ v : Wl, (orR ((some u.tp).bind F) fun q => (bl.l0 M x k ((i + 1 : Nat) : Int) q.2.2.2.2.1 q.2.2.2.2.2.1 q.2.2.2.2.2.2.1 q.2.2.2.2.2.2.2.1 q.2.2.2.2.2.2.2.2.1 q.2.2.2.2.2.2.2.2.2.1 q.2.2.2.2.2.2.2.2.2.2.1 q.2.2.2.2.2.2.2.2.2.2.2.1 q.2.2.2.2.2.2.2.2.2.2.2.2.1 q.2.2.2.2.2.2.2.2.2.2.2.2.2 q.1 q.2.1 q.2.2.1 q.2.2.2.1)) = some (.inl (v.tp.1, v.tp.2.1, v.tp.2.2.1, v.tp.2.2.2.1)) ∧ gA M v := fun u F hu su hF => by
    obtain ⟨v, v1, v2⟩ := qY x hx hd k (i + 1) (T + 1) (N + 1) _ _ u (by omega) (by omega) hu su (by omega) (by omega) (by omega) (by omega)
    refine ⟨v, ?_, v2⟩
    rw [hF, Option.bind_some, vK hu su (by omega) (by omega)]
    exact v1
   rw [if_pos (by omega), ws1 (by omega)]
   simp only [if_pos (show 0 ≤ (i : Int) ∧ (i : Int) < (x.length : Int) by omega)]
   simp only [J]
   by_cases h0 : o.1 = 0
   ·rw [if_pos h0]
    have hz := sM w.st o.2.2
    have U : o.2.2.2.2.2.2.2.2 = OpW.es o := rfl
    rw [U] at hz
    unfold opZ at I
    have ha := tE hw (by omega) (by omega) (b := o.2.2) (by omega) (by omega) (by rw [U]; omega) G al (k := k) (by rw [U]; omega)
    have X := vL hw (by omega) (by omega) (b := o.2.2) (by rw [U]; omega) (by omega)
    rw [U] at X
    have a1 := uC hw (by omega) (by omega) (by omega) (by omega) hsw o.2.2
    rw [ha, Option.bind_some]
    exact r (mq w o.2.2) _ (iW X (by omega) (by omega) (by unfold opZ; omega) (by omega)) a1 rfl
   ·rw [if_neg h0]
    by_cases h1 : o.1 = 1
    ·rw [if_pos h1, uD hw (by omega) (by omega), Option.bind_some]
     exact r (jV w) _ (iW (vz hw (by omega)) (by omega) (by omega) (by omega) (by omega)) (nD hsw (hw.has w.last (by unfold Wl.last; omega) (Nat.le_refl _))) rfl
    ·rw [if_neg h1]
     by_cases h2 : o.1 = 2
     ·rw [if_pos h2]
      obtain ⟨v, j, c, v1, v2, v3, _⟩ := sE (P := gA M) hw (by omega) (by omega) (fun u hu hm hp => tw hu (by omega) hm hp) o.2.1 (k := k) (by omega)
      rw [v1, Option.bind_some]
      exact r v _ (iW v2 (by omega) (by omega) (by omega) (by omega)) (v3 hsw (nD hsw (hw.has w.last (by unfold Wl.last; omega) (Nat.le_refl _)))) rfl
     ·rw [if_neg h2]
      exact r w _ (iW hw (by omega) (by omega) (by omega) (by omega)) hsw rfl
  ·rw [if_neg (by omega)]
   exact ⟨w, rfl, hsw⟩
def fsO : FSt := [(eC, ([1, 2], 0))]
theorem ww {x : Int} : gA x (fv fsO x) := by
 have u : frB (eA (eF 1 st0)) = eB [eA (eF 1 st0)] := by rw [eB, eB, List.append_nil]
 have q := nC (mp (n := 1) (by omega) mU) (.inl (Nat.zero_le _))
 have G : aD 1 ≠ eC := fun e => gP 1 e.symm
 obtain ⟨b, I⟩ : ∃ b, frB (eA (eF 1 st0)) = b := ⟨_, rfl⟩
 unfold fv
 rw [I] at u ⊢
 refine ⟨rfl, fun n h1 r => ?_, fun n h1 r => ?_, ?_, ?_, 0, ?_⟩
 ·have e : n = 1 := by simp only [Wl.last] at h1 r; omega
  simp only
  rw [e, jU, if_pos rfl, u]
  exact ⟨_, fun p hp => by rw [List.mem_singleton.1 hp]; exact q, rfl⟩
 ·simp only [Wl.last] at h1 r; omega
 ·simp only [Wl.last]
  rw [jU, if_pos rfl]
 ·simp only [gB, fsO]
  have l1 := dX fsO (aD 1) (([], 0) : List UInt8 × Int)
  have J : aQ fsO (aD 1) = none := by
   unfold fsO
   rw [aQ, if_neg (fun e => gP 1 e), aQ]
  rw [J] at l1
  have L : aQ (aR fsO (aD 1) ([], 0)) (aD 1) = some ([], 0) := by rw [cK, if_pos rfl]
  have l2 := dX (aR fsO (aD 1) ([], 0)) (aD 1) (([] ++ b, 0) : List UInt8 × Int)
  rw [L] at l2
  have U : aQ (aR (aR fsO (aD 1) ([], 0)) (aD 1) ([] ++ b, 0)) (aD 1) = some ([] ++ b, 0) := by rw [cK, if_pos rfl]
  have D := dX (aR (aR fsO (aD 1) ([], 0)) (aD 1) ([] ++ b, 0)) (aD 1) (([] ++ b, ((([] ++ b : List UInt8)).length : Int)) : List UInt8 × Int)
  rw [U] at D
  simp only [Option.isSome_none, Option.isSome_some, Bool.false_eq_true, if_false, if_true, fsO, List.length_cons, List.length_nil] at l1 l2 D
  omega
 ·show aQ (gB fsO 1 b) eC = _
  rw [io, if_neg (gP _)]
  rfl
theorem vM : fK 256 fsO := ⟨by simp [fsO], by simp [fsO], by simp [fsO], by simp [szF, fsO], by simp [fsO]⟩
theorem uJ : iX [] [] 0 false eC = (0, [(eC, ([], 0))], [], 0, false) := by kernel_rfl
theorem uK : iY [(eC, ([], 0))] [] 0 false eC [1, 2] = (0, fsO, eC, 0, false) := by kernel_rfl
theorem rK : ∀ x, x ∈ eQ fsO → ks x = 0 ∧ x.length ≤ 2 ^ 40 := fun x q => by
 have := (kR fsO).mem_iff.1 q
 simp only [fsO, List.map_cons, List.map_nil, List.mem_singleton] at this
 rw [this]
 exact ⟨by kernel_rfl, by decide⟩
theorem mC {Q : OpW → Prop} {B : Nat} (x : Int) (q : (Lit.int .i64 x).wf = true) (l : List OpW) (h : l.length * B ≤ reachBytes ∧ ∀ e ∈ l, Q e) (hu : Mu.mu l ≤ 1048576) :
  ∃ k, bl.f k x l = some true := by
 have an := qR l
 have hd : ∀ o, o ∈ l → ∀ e, e ∈ OpW.es o → e.2.2.2.length < 2 ^ 40 := fun o u e he => by
  have h1 := ob he
  have D := mx (f := fun o => ga (OpW.es o)) u
  try simp only at D
  omega
 have G : ∀ o, o ∈ l → (OpW.es o).length < 2 ^ 40 := fun o u => by
  have D := mx (f := fun o => (OpW.es o).length) u
  try simp only at D
  omega
 obtain ⟨k, r⟩ : ∃ k, k = 3000000000 + 100 := ⟨_, rfl⟩
 have hf : eP.f k = some true := by rw [r]; exact rC 3000000000
 refine ⟨k, ?_⟩
 have a7 : 3000000000 ≤ k := by omega
 clear r
 obtain ⟨b, hb, I⟩ := uF l (by omega) hd G (k := k) (by omega)
 unfold bl.f
 rw [hf, Option.bind_some, hb, Option.bind_some]
 by_cases hg : ((((!true) || (!b)) || (decide (x < (64 : Int)))) || (decide ((1048576 : Int) < x))) = true
 ·rw [if_pos hg]
 ·rw [if_neg hg]
  simp only [Bool.not_true, Bool.false_or, Bool.or_eq_true, Bool.not_eq_true', decide_eq_true_eq] at hg
  have J : b = true := by
   cases b with
   | true => rfl
   | false => exact absurd (.inl (.inl rfl)) hg
  obtain ⟨s1, s2⟩ := I J
  have oa := vN (fs := fsO) (N := 1) (Z := 2) vM (by simp [fsO]) (by omega) (by simp [szF, fsO]) (by omega) (fun x q => (rK x q).1) (fun x q => (rK x q).2) eC (most := x) (by omega) (by omega) (k := k) (by omega)
  have wa := tF (fs := fsO) (N := 1) (Z := 2) vM (by simp [fsO]) (by omega) (by simp [szF, fsO]) (by omega) (fun x q => (rK x q).1) x
  rw [show gR.f = some (([] : FSt), ([] : List UInt8), (0 : Int), false) from rfl]
  simp only [Option.bind_some]
  rw [oe [] [] 0 false eC (by decide) (by simp; omega), uJ, Option.bind_some]
  simp only []
  rw [lz (n := 256) ⟨by simp, by simp, by simp, by simp [szF], by simp⟩ [] 0 false eC [1, 2] (by simp), uK, Option.bind_some]
  simp only []
  rw [oa]
  simp only [Option.bind_some, if_true]
  obtain ⟨a, ea⟩ : ∃ a, fv fsO x = a := ⟨_, rfl⟩
  have sa : gA x a := by rw [← ea]; exact ww
  rw [ea] at wa ⊢
  have br := qS l
  have bs := qT l
  obtain ⟨v, v1, v2⟩ := qY (M := x) l (by omega) hd k 0 1 (1 + 1) (2 + 128) 0 a (by rw [List.drop_zero]; omega) (by omega) wa sa (by omega) (by omega) (by rw [List.drop_zero]; omega) (by rw [List.drop_zero]; omega)
  rw [show ((0 : Nat) : Int) = (0 : Int) from rfl] at v1
  rw [v1]
  obtain ⟨z, hz⟩ := v2.oth
  have L : cc.f v.tp.1 v.tp.2.1 v.tp.2.2.1 v.tp.2.2.2.1 eC = some ([1, 2], 0) := by
   show cc.f v.fs v.la 0 false eC = _
   have U : bn v.fs eC = ([1, 2], z) := by unfold bn; rw [hz]; rfl
   have X : eO.f [1, 2] = some [1, 2] := pl (by simp)
   unfold cc.f
   rw [if_pos (by rw [hz]; rfl)]
   show (eO.f (bn v.fs eC).1).bind _ = _
   rw [U]
   simp only []
   rw [X]
   rfl
  show ((cc.f v.tp.1 v.tp.2.1 v.tp.2.2.1 v.tp.2.2.2.1 eC).bind fun ab => _) = _
  rw [L, Option.bind_some]
  simp only []
  rw [pN (by simp) (by simp; omega), Option.bind_some]
  simp
end Go.Proofs.YtndjkejhacfpdaaGreatDoor

namespace Go.Proofs.YtndjkejhacfpdaaGreatDoor
open Go.RowKit Go.ChangeShapes Go.WideShapes Go.ChangeAt
def rH (P : Program) (w : World) (n : String) (d : DataW Unit) : Prop :=
 ∃ g t cs q p, P.globalNamed n = some g ∧ (P.globals[g]?).map (·.type) = some t ∧ w.var? P n = some cs ∧ DataW.trod (fun _ => ()) P w 0 (fun _ => true) false q t cs.toList = some (d, p)
theorem pL {P : Program} {w : World} : ∀ {l : List (String × DataW Unit)} {ps : List MemPlace}, DataW.LaidVars P w l ps → ∀ n d, (n, d) ∈ l → rH P w n d
 | [], _, _, _, _, hm => by cases hm
 | (n', d') :: r, ps, h, n, d, hm => by
  obtain ⟨g, t, cs, u, p, q, h1, D, G, I, J, _⟩ := h
  rcases List.mem_cons.1 hm with e | e
  ·cases e
   exact ⟨g, t, cs, u, p, h1, D, G, I⟩
  ·exact pL J n d e
theorem rI {P : Program} {w : World} {l : List (String × DataW Unit)} (h : laidMet P l w) {n : String} {d : DataW Unit} (q : (n, d) ∈ l) : rH P w n d :=
 let ⟨_, hv, _⟩ := h
 pL hv n d q
theorem vI {P : Program} {W : World} {q : String} {k : IntKind} {L : List Int} {g : Nat} {t e : TypeId} {n : Nat} (X : P.globalNamed q = some g) (u : (P.globals[g]?).map (·.type) = some t)
  (ht : P.underlying t = some (.array n e)) (he : P.underlying e = some (.int k)) (D : P.cellsOf e = 1) (G : P.cellsOf t = n) (h : rH P W q (Lib.tabData k L)) : Lib.TabIs P W q k L := by
 obtain ⟨g', t', cs, U, p, I, J, r, hd⟩ := h
 obtain rfl := Option.some.inj (X.symm.trans I)
 obtain rfl := Option.some.inj (u.symm.trans J)
 unfold Lib.TabIs
 rw [r, ← Lib.cells_of_tab ht he D G hd]
theorem mB {P : Program} {W w : World} {n : String} {cs : Array Value} (h : ju (hJ W) w) (q : W.var? P n = some cs) : w.var? P n = some cs := by
 obtain ⟨a, u, e⟩ := h
 unfold World.var? at q ⊢
 cases hg : P.globalNamed n with
 | none => rw [hg] at q; cases q
 | some g =>
  rw [hg] at q
  simp only [Option.bind_some] at q ⊢
  cases ho : W.heap[g]? with
  | none => rw [ho] at q; cases q
  | some o =>
   have r : g < W.heap.size := (Array.getElem?_eq_some_iff.1 ho).1
   have h1 : w.heap[g]? = some o := e g o ((u g r).trans ho)
   rw [ho] at q
   rw [h1]
   exact q
theorem vJ {P : Program} {W : World} (h1 : Lib.TabIs P W "internal/strconv.uint64pow10" .u64 Lib.pow10Tab) (q : (P.globalNamed "strconv.ErrSyntax").isSome = true → ∃ u p, W.var? P "strconv.ErrSyntax" = some #[.iface u p]) (r : (P.globalNamed "strconv.ErrRange").isSome = true → ∃ u p, W.var? P "strconv.ErrRange" = some #[.iface u p]) :
  Glb P (hJ W) :=
 ⟨fun w h => mB h h1, fun e w h => let ⟨u, p, e⟩ := q e; ⟨u, p, mB h e⟩, fun e w h => let ⟨u, p, e⟩ := r e; ⟨u, p, mB h e⟩⟩
theorem pM {H : Type} {enc : TypeId × Value → H} {C : Checked} {os : Os} {f : FuncId} {fn : Func} {s : OpenSpec} {q : List PathCond} {rn : Bool} {r : List (String × DataW Unit)} (u : World) (args : Array Value) (I : u.os = os)
  (J : (u.forCall (fun _ _ => 0) ⟨#[], args, []⟩).Shaped C.prog)
  (D : Input.okWideB C.prog (u.forCall (fun _ _ => 0) ⟨#[], args, []⟩) f ⟨#[], args, []⟩ = true)
  (G : s.preRow enc C.prog fn q rn r (u.forCall (fun _ _ => 0) ⟨#[], args, []⟩).memory args) :
  ∃ (w : World) (tape : Tape) (i : Input), w.os = os ∧ (w.forCall tape i).Shaped C.prog ∧ i.vars = [] ∧ Input.okWide C.prog (w.forCall tape i) .any w.heap.size f i ∧
   s.preRow enc C.prog fn q rn r (w.forCall tape i).memory i.args ∧ ({} : Assume).holds C.prog (lone (Frame.enter C.prog f i.args .normal) [] (w.forCall tape i)) :=
 ⟨u, fun _ _ => 0, ⟨#[], args, []⟩, I, J, (Input.okWide_of_okWideB (base := 0) D).1, (Input.okWide_of_okWideB D).2, G, by
  simp only [Assume.holds]
  exact ⟨by simp, by simp, fun _ => Modest.zero, by simp, by simp⟩⟩
end Go.Proofs.YtndjkejhacfpdaaGreatDoor

namespace Go.Proofs.YtndjkejhacfpdaaGreatDoor.walSegments
open Go.RowKit Go.ChangeShapes Go.WideShapes Go.ChangeAt
open Go.ChangeMaps (open_string shut_string)
theorem own : ownKnob Tryz.prog.godebug = none := by kernel_rfl
theorem laidOut : laidOutB Tryz.prog = true := by kernel_rfl
theorem glb {W : World} (q : laidMetH Tryz.prog Rows.walSegmentsUptoRow.laid W) : Glb Tryz.prog (hJ W) := by
 rw [MakeChecks.laidMetH_plain _ _ _ (by kernel_rfl)] at q
 exact vJ (vI (g := 0) (t := 198) (e := 174) (by kernel_rfl) (by kernel_rfl) Tryz.underlying198 Tryz.underlying174 (by kernel_rfl) (by kernel_rfl) (rI q (n := "internal/strconv.uint64pow10") (d := Rows.laid_internal_strconv_uint64pow10) (.tail _ (.tail _ (.head _))))) (fun h => by rw [show (Tryz.prog.globalNamed "strconv.ErrSyntax").isSome = false by kernel_rfl] at h; cases h) (fun h => by rw [show (Tryz.prog.globalNamed "strconv.ErrRange").isSome = false by kernel_rfl] at h; cases h)
theorem laid_met (os : Os) (args : Array Value) : laidMetH Tryz.prog Rows.walSegmentsUptoRow.laid ((World.laidAll Tryz.prog os Rows.walSegmentsUptoRow.laid).forCall (fun _ _ => 0) ⟨#[], args, []⟩).memory := by
 rw [MakeChecks.laidMetH_plain _ _ _ (by kernel_rfl)]
 exact laidMet_laidAll args (by kernel_rfl) (by kernel_rfl)
theorem opensT35 {H : Type} (W : World) (q : Bool) (enc : TypeId × Value → H) : fo enc Tryz.prog W q 35 (V35 (hJ W)) vW :=
 (im Tryz.underlying35 (by kernel_rfl) (by kernel_rfl) (by kernel_rfl) (dW (fj Tryz.underlying3 (by kernel_rfl)) (dW (fj Tryz.underlying3 (by kernel_rfl)) (dW (fj Tryz.underlying3 (by kernel_rfl)) (jk (qi Tryz.underlying33 Tryz.underlying5 (by kernel_rfl) (by kernel_rfl) (by kernel_rfl))))))).mono (fun x r h => by obtain ⟨_, _, rfl, rfl, ⟨_, _, rfl, rfl, ⟨_, _, rfl, rfl, ⟨a3, u, rfl, D, G, I⟩⟩⟩⟩ := h; exact ⟨a3, u, rfl, ⟨D, G, I⟩⟩) (fun x h => h)
theorem opensT56 {H : Type} (W : World) (q : Bool) (enc : TypeId × Value → H) : fo enc Tryz.prog W q 56 (V56 (hJ W)) wA :=
 fo.map (fun x => (x.1, x.2.1, x.2.2.1, x.2.2.2.1.1, x.2.2.2.1.2.1, x.2.2.2.1.2.2, x.2.2.2.2.1, x.2.2.2.2.2.1, x.2.2.2.2.2.2)) (im Tryz.underlying56 (by kernel_rfl) (by kernel_rfl) (by kernel_rfl) (dW (fj Tryz.underlying3 (by kernel_rfl)) (dW (fj Tryz.underlying3 (by kernel_rfl)) (jk (im Tryz.underlying45 (by kernel_rfl) (by kernel_rfl) (by kernel_rfl) (dW (qw Tryz.underlying4 (by kernel_rfl)) (dW (im Tryz.underlying43 (by kernel_rfl) (by kernel_rfl) (by kernel_rfl) (dW (fj Tryz.underlying3 (by kernel_rfl)) (dW (fj Tryz.underlying3 (by kernel_rfl)) (jk (fj Tryz.underlying3 (by kernel_rfl)))))) (dW (fj Tryz.underlying3 (by kernel_rfl)) (dW (fj Tryz.underlying3 (by kernel_rfl)) (jk (mi (n := 4) (B := 48) Tryz.underlying32 (by kernel_rfl) (by kernel_rfl) (by kernel_rfl) (opensT35 W q enc)))))))))))) (fun x r h => by obtain ⟨_, _, rfl, rfl, ⟨_, _, rfl, rfl, ⟨_, _, rfl, rfl, ⟨_, _, rfl, ⟨_, _, rfl, rfl, ⟨_, _, rfl, rfl, rfl⟩⟩, ⟨_, _, rfl, rfl, ⟨_, _, rfl, rfl, ⟨a8, c8, rfl, h8, k8, m8⟩⟩⟩⟩⟩⟩⟩ := h; exact ⟨a8, c8, rfl, ⟨h8, k8, m8⟩⟩) (fun x h => by obtain ⟨u, D, ⟨o2, ⟨G, I, J⟩, L, U, X⟩⟩ := h; exact ⟨u, D, o2, G, I, J, L, U, X⟩) (fun x => by obtain ⟨u, D, ⟨o2, ⟨G, I, J⟩, L, U, X⟩⟩ := x; simp only [fH, Nat.add_assoc])
set_option maxRecDepth 100000 in
theorem lifted (os : Os) (u : os.Started) (H : Type) (enc : TypeId × Value → H) (F : Stop.Interp) :
  ReturnsInHanded {} Tryz.checked os 5 .any ((Rows.OpenSpec.upto Rows.walSegmentsSpec).preRow enc Tryz.prog Tryz.f5 Rows.walSegmentsUptoRow.domain false Rows.walSegmentsUptoRow.laid) (((Rows.OpenSpec.upto Rows.walSegmentsSpec).at F).post enc Tryz.prog Tryz.f5 false true false false) := by
 refine returnsInHanded_of_row (C := Tryz.checked) (s := (Rows.OpenSpec.upto Rows.walSegmentsSpec)) own u (by kernel_rfl) Tryz.func5
  (pM (enc := enc) (C := Tryz.checked) (World.laidAll Tryz.prog os Rows.walSegmentsUptoRow.laid) #[.int .i64 0, .slice none 0 0] (World.laidAll_os _ _ _) (World.shaped_of_ZipB (by kernel_rfl) (by kernel_rfl)) (by kernel_rfl)
   (OpenSpec.preRow_of_cond 8 (x := ([.lit (.int .i64 0), .nil], [], [])) (by kernel_rfl) (by kernel_rfl) (fun k hk => by cases hk; kernel_rfl) (by kernel_rfl) (laid_met os _))) ?_
 intro W base args ds gs bc D hW b9 L I hL _ _
 have br := glb hL
 have bs := L _ rfl
 have J : (DataW.weightsEach Tryz.prog (Tryz.f5.params.toList ++ (Rows.OpenSpec.upto Rows.walSegmentsSpec).bare.plain.varTypes Tryz.prog) (ds ++ gs)).all (· ≤ reachBytes) = true := I
 have G : ∀ (j : Nat) t v, Tryz.f5.params[j]? = some t → args[j]? = some v → Value.okWide Tryz.prog W .any base t v := D
 have b0 := hW
 obtain ⟨p, q, U, hV, rfl, c6, c7⟩ := hW
 have hA : DataW.TrodAll enc Tryz.prog W 0 (fun _ => true) true Tryz.f5.params.toList args.toList ds p := U
 rw [Tryz.params5] at hA G J
 obtain ⟨v0, c8, d0, c9, p0, q0, b1, rfl, rfl, h0, r0⟩ := trodAll_cons hA
 obtain ⟨v1, d3, d1, d5, p1, q1, rfl, rfl, rfl, h1, r1⟩ := trodAll_cons r0
 obtain ⟨rfl, rfl, rfl⟩ := trodAll_nil r1
 obtain rfl : args = #[v0, v1] := by cases args; simp_all
 obtain ⟨rfl, rfl⟩ := trodVars_none hV
 obtain ⟨a0, rfl, rfl, rfl, w0⟩ := open_int Tryz.underlying3 (G 0 3 v0 rfl rfl) h0
 obtain ⟨b2, X, ab, rfl⟩ := okWide_slice Tryz.underlying51 (G 1 51 v1 rfl rfl)
 have k1 := h1
 have b3 : ∀ x ∈ p1, x.block < W.heap.size := by obtain ⟨m, hm⟩ := k1; exact DataW.trod_lt m _ _ _ hm
 obtain ⟨b4, b5⟩ := h1
 obtain ⟨r, ⟨ad, af, al, an, a1, a6⟩, _, _, b6, a7⟩ := (mi (n := 9) (B := 88) Tryz.underlying51 (by kernel_rfl) (by kernel_rfl) (by kernel_rfl) (opensT56 W true enc)) _ _ _ b5 (rF J (j := 1) (t := 51) rfl rfl)
 replace a7 : _ ≤ Rows.uptoBulk d1 := a7
 have e1 : Value.slice b2 X ab = .slice ad r.length af := by simpa [Value.cells] using al
 injection e1 with ea1 eb1 ec1
 subst ea1 eb1 ec1
 have b7 : Rows.uptoBulkAll [_, _] ≤ 1048576 := of_decide_eq_true bs
 simp only [Rows.uptoBulkAll] at b7
 have hu : Mu.mu r ≤ 1048576 := by omega
 clear U D I J
 obtain ⟨k, hk⟩ := mC a0 w0 r b6 hu
 refine (sK (bl.calls W (hJ W) k a0 _ _ r an a1 a6 br) hk (fun _ => rfl)).mono fun e W' ⟨he, a8⟩ => ?_
 subst he
 exact ⟨_, rfl, _, _, _, [], _, [], b0, trodAll_mk1 (shut_bool Tryz.underlying4 _), (trodAll_cons_mk (shut_int Tryz.underlying3 w0) (trodAll_cons_mk (Below.trod laidOut (by kernel_rfl) (of_decide_eq_true (by kernel_rfl)) k1 a8 b3) trodAll_mk0)), rfl, a8.frame _, fun h => by cases h⟩
theorem said : Rows.WalSegmentsUptoSaid :=
 OpenClaim.holds_of_cond 5 Tryz.f5 rfl rfl rfl rfl rfl rfl rfl ⟨rfl, rfl, rfl, rfl, rfl⟩ rfl rfl rfl rfl rfl (by kernel_rfl) Tryz.func5 (by kernel_rfl)
  (of_decide_eq_true (by kernel_rfl)) (by unfold Func.isWrapper; first | (rw [if_pos (by decide +kernel)]; kernel_rfl) | (rw [if_neg (by decide +kernel)]; exact ⟨rfl, rfl⟩))
  (fun os q H enc _ F => by rw [OpenClaim.pre_eq_preRow]; exact lifted os q H enc F)
theorem plain (f : FuncId) (fn : Func) (G : Tryz.pinned.checked.prog.funcNamed "synod/synodlaw5.WalSegments" = some f) (r : Tryz.pinned.checked.prog.funcs[f]? = some fn) :
  true = Tryz.pinned.checked.prog.looks [] ∧ ∀ (j : Nat) t, fn.params[j]? = some t → Tryz.pinned.checked.prog.wantsStandIn t = false := by
 obtain rfl : f = 5 := Option.some.inj ((show Tryz.prog.funcNamed "synod/synodlaw5.WalSegments" = some 5 by kernel_rfl).symm.trans G) |>.symm
 obtain rfl : fn = Tryz.f5 := (Option.some.inj (Tryz.func5.symm.trans r)).symm
 refine ⟨by kernel_rfl, fun j t D => ?_⟩
 rw [Tryz.params5] at D
 have I : t ∈ [3, 51] := by simpa using Array.mem_of_getElem? D
 have q : ([3, 51].all fun u => !Tryz.prog.wantsStandIn u) = true := by kernel_rfl
 exact (show Tryz.prog.wantsStandIn t = false by simpa using List.all_eq_true.1 q t I)
theorem card : Rows.WalSegmentsUptoCardSaid :=
 Claim7.holds_tied_plain_at .later [] _ _ _ _ said (fun _ h => by cases h) (by kernel_rfl) (fun _ h => by cases h) walSegmentsUpto_row_tie rfl ⟨rfl, rfl⟩ (by kernel_rfl) rfl plain (by kernel_rfl)
end Go.Proofs.YtndjkejhacfpdaaGreatDoor.walSegments
namespace Go.Proofs.YtndjkejhacfpdaaGreatDoor
/-- The card, under a short name, for the claim. -/
theorem walSegments_holds : Rows.WalSegmentsUptoCardSaid := walSegments.card
end Go.Proofs.YtndjkejhacfpdaaGreatDoor

/- Lists whose elements' rows are known with their room; and such lists when what their rows hold is no longer told: they may be written. Conditions: none. -/
import Derived.Test.YtbcnegennmpliaaDoorSl24
namespace Go.Proofs.YtbcnegennmpliaaDoor
set_option linter.unusedVariables false
set_option linter.unusedSimpArgs false
open Go.RowKit
def CapW (T : TypeId) (F : HA) (a : Option Addr) (c : Nat) : Prop := ∀ h, F h → c = 0 ∨ ∃ b off, a = some ⟨b, off, none⟩ ∧ ∃ (l : List Value) (fz : Nat × Nat), h b = some (.cells l.toArray T fz) ∧ off + c ≤ l.length ∧ (fz.1 = fz.2 ∨ off + c ≤ fz.1)
theorem CapW.row {T : TypeId} {a : Option Addr} {n c : Nat} {cs : List Value} : CapW T (Row T 1 a n c cs) a c := by
  rintro h (⟨rfl, rfl, rfl, rfl⟩ | ⟨b, off, pre, junk, fz, rfl, ok, hb⟩)
  · exact .inl rfl
  · have h1 := ok.room; have h2 := ok.offs; have h3 := ok.fzok
    refine .inr ⟨b, off, rfl, _, fz, hb, ?_, ?_⟩
    · simp only [List.length_append]; omega
    · rcases h3 with h | h
      · exact .inl h
      · right; omega
structure RdW (T : TypeId) (F : HA) (a : Option Addr) (c : Nat) (cs : List Value) : Prop where
  rd : Rd F a cs
  cap : CapW T F a c
theorem RdW.row {T : TypeId} {a : Option Addr} {n c : Nat} {cs : List Value} (h : Rd (Row T 1 a n c cs) a cs) : RdW T (Row T 1 a n c cs) a c cs := ⟨h, .row⟩
theorem RdW.none {T : TypeId} {F : HA} : RdW T F none 0 [] := ⟨.inl rfl, fun _ _ => .inl rfl⟩
def UpC (G F : HA) : Prop := ∀ h, F h → ∃ g, G g ∧ ∀ b o, g b = some o → h b = some o
theorem UpC.refl (F : HA) : UpC F F := fun h x => ⟨h, x, fun _ _ e => e⟩
theorem UpC.trans {A B C : HA} (u : UpC A B) (v : UpC B C) : UpC A C := fun h x => by
  obtain ⟨g, hg, e⟩ := v h x
  obtain ⟨f, hf, e'⟩ := u g hg
  exact ⟨f, hf, fun b o y => e b o (e' b o y)⟩
theorem UpC.lend {F : HA} {l : List HA} (k : Nat) (hk : l[k]? = some F) : UpC F (stars l) := fun h x => knows_at l k F hk h x
theorem UpC.up {G F : HA} (u : UpC G F) : Up G F := fun a cs r => by
  rcases r with h | ⟨b, off, ha, hc⟩
  · exact .inl h
  · refine .inr ⟨b, off, ha, fun h x => ?_⟩
    obtain ⟨g, hg, e⟩ := u h x
    obtain ⟨l, T, fz, h1, h2⟩ := hc g hg
    exact ⟨l, T, fz, e _ _ h1, h2⟩
theorem RdW.up {T : TypeId} {G F : HA} {a : Option Addr} {c : Nat} {cs : List Value} (r : RdW T G a c cs) (u : UpC G F) : RdW T F a c cs :=
  ⟨u.up _ _ r.rd, fun h x => by
    obtain ⟨g, hg, e⟩ := u h x
    rcases r.cap g hg with h0 | ⟨b, off, ha, l, fz, h1, h2⟩
    · exact .inl h0
    · exact .inr ⟨b, off, ha, l, fz, e _ _ h1, h2⟩⟩
/-! ### What may be written -/
def updH (h : Hp) (b : Nat) (o : Obj) : Hp := fun i => if i = b then some o else h i
def Shp (z : HA) : HA := fun h' => ∃ h, z h ∧ ∀ b (l : List Value) T fz, h b = some (.cells l.toArray T fz) → ∃ l' : List Value, h' b = some (.cells l'.toArray T fz) ∧ l'.length = l.length
theorem Shp.of {z : HA} (h : Hp) (x : z h) : Shp z h := ⟨h, x, fun _ l _ _ e => ⟨l, e, rfl⟩⟩
def Wrt (T : TypeId) (J : HA) (a : Option Addr) (c : Nat) : Prop := ∀ h, J h → c = 0 ∨ ∃ b off, a = some ⟨b, off, none⟩ ∧ ∃ (l : List Value) (fz : Nat × Nat), h b = some (.cells l.toArray T fz) ∧ off + c ≤ l.length ∧ (fz.1 = fz.2 ∨ off + c ≤ fz.1) ∧
  ∀ l' : List Value, l'.length = l.length → J (updH h b (.cells l'.toArray T fz))
def UpW (J J' : HA) : Prop := ∀ T a c, Wrt T J a c → Wrt T J' a c
theorem UpW.refl (J : HA) : UpW J J := fun _ _ _ h => h
theorem UpW.trans {A B C : HA} (u : UpW A B) (v : UpW B C) : UpW A C := fun T a c h => v T a c (u T a c h)
theorem Wrt.up {T : TypeId} {J J' : HA} {a : Option Addr} {c : Nat} (h : Wrt T J a c) (u : UpW J J') : Wrt T J' a c := u T a c h
theorem UpW.star {A J : HA} : UpW J (star A J) := by
  rintro T a c r h ⟨x, y, d, rfl, hx, hy⟩
  rcases r y hy with h0 | ⟨b, off, ha, l, fz, h1, h2, h3, h4⟩
  · exact .inl h0
  · refine .inr ⟨b, off, ha, l, fz, star_right_some d h1, h2, h3, fun m hm => ⟨x, updH y b (.cells m.toArray T fz), ?_, ?_, hx, h4 m hm⟩⟩
    · intro i
      by_cases hi : i = b
      · subst hi
        rcases d i with e | e
        · exact .inl e
        · rw [h1] at e; cases e
      · simpa [updH, hi] using d i
    · funext i
      by_cases hi : i = b
      · subst hi
        rcases d i with e | e
        · simp [updH, un, e]
        · rw [h1] at e; cases e
      · simp [updH, un, hi]
section
variable {K : Cx} {R S Y : Type} {Q : Post R} {E : Env} {H : List HA} {opt : Option R} {ops : Array Oper} {rest : List Oper} {o : Oper}
end
end Go.Proofs.YtbcnegennmpliaaDoor

/- The row of the law TextBack, out of its pure law and the printed walk. Conditions: none. -/
import Derived.Test.YtbcnegennmpliaaDoorM5
import Derived.Deep.CondSized
import Derived.JoinedCond
import Derived.Lib.LaidTab
import Derived.Deep.DeepHandedRow
import Derived.Lay
import Derived.MakeChecks
import Derived.Test.YtbcnegennmpliaaDoorCards
import Derived.Test.YtbcnegennmpliaaDoorTie
namespace Go.Proofs.YtbcnegennmpliaaDoor
set_option linter.unusedVariables false
set_option linter.unusedSimpArgs false
open Go.RowKit Go.ChangeShapes Go.WideShapes Go.ChangeAt
section
variable {H : Type} {enc : TypeId × Value → H} {P : Program} {W : World} {held : Bool} {α β : Type}
def Opens (enc : TypeId × Value → H) (P : Program) (W : World) (held : Bool) (t : TypeId) (V : α → List Value → Prop) (Ok : α → Prop) : Prop :=
  ∀ fuel cs x, DataW.trod enc P W 0 (fun _ => true) held fuel t cs = some x → (∀ n ∈ x.1.weights P t, n ≤ reachBytes) → ∃ y, V y cs ∧ one cs ∧ cs.length = P.cellsOf t ∧ Ok y
theorem Opens.map {t : TypeId} {V : α → List Value → Prop} {V' : β → List Value → Prop} {Ok : α → Prop} {Ok' : β → Prop} (f : α → β) (h : Opens enc P W held t V Ok) (hV : ∀ x r, V x r → V' (f x) r) (hO : ∀ x, Ok x → Ok' (f x)) : Opens enc P W held t V' Ok' := fun fuel cs x h1 h2 =>
  let ⟨y, a, b, c, d⟩ := h fuel cs x h1 h2; ⟨f y, hV _ _ a, b, c, hO _ d⟩
theorem Opens.mono {t : TypeId} {V V' : α → List Value → Prop} {Ok Ok' : α → Prop} (h : Opens enc P W held t V Ok) (hV : ∀ x r, V x r → V' x r) (hO : ∀ x, Ok x → Ok' x) : Opens enc P W held t V' Ok' := fun fuel cs x h1 h2 =>
  let ⟨y, a, b, c, d⟩ := h fuel cs x h1 h2; ⟨y, hV _ _ a, b, c, hO _ d⟩
theorem opens_int {t : TypeId} {k : IntKind} (ht : P.underlying t = some (.int k)) (hc : P.cellsOf t = 1) : Opens enc P W held t (fun x r => r = [.int k x]) (okI k) := by
  intro fuel cs x h _
  cases fuel with
  | zero => simp [DataW.trod] at h
  | succ n =>
    unfold DataW.trod at h
    rw [ht] at h
    split at h <;> simp_all
    rename_i k' m
    obtain ⟨rfl, h1⟩ := h.1
    refine ⟨one_of rfl, ?_⟩
    simpa [Lit.wf, okI] using h1
theorem opens_str {t : TypeId} (ht : P.underlying t = some .string) (hc : P.cellsOf t = 1) : Opens enc P W held t (fun x r => r = [str x]) (fun x => x.length ≤ reachBytes) := by
  intro fuel cs x h hw
  cases fuel with
  | zero => simp [DataW.trod] at h
  | succ n =>
    unfold DataW.trod at h
    rw [ht] at h
    split at h <;> simp_all
    rename_i s
    obtain ⟨h1, rfl⟩ := h
    refine ⟨s.data.toList, ?_, one_of rfl, ?_⟩
    · simp [str]
    · exact hw s.data.toList.length (by simp [DataW.weights])
/-! Structs: their fields, one behind the other. -/
def trodL (enc : TypeId × Value → H) (P : Program) (W : World) (held : Bool) (fuel : Nat) : List TypeId → List Value → List (DataW H × List MemPlace) → Prop
  | [], cs, xs => cs = [] ∧ xs = []
  | t :: ts, cs, xs => ∃ c1 c2 x r, cs = c1 ++ c2 ∧ xs = x :: r ∧ DataW.trod enc P W 0 (fun _ => true) held fuel t c1 = some x ∧ trodL enc P W held fuel ts c2 r
def OpensL (enc : TypeId × Value → H) (P : Program) (W : World) (held : Bool) (ts : List TypeId) (V : α → List Value → Prop) (Ok : α → Prop) : Prop :=
  ∀ fuel cs xs, trodL enc P W held fuel ts cs xs → (∀ n ∈ DataW.weightsEach P ts (xs.map (·.1)), n ≤ reachBytes) → ∃ y, V y cs ∧ one cs ∧ Ok y
theorem opensL_one {t : TypeId} {V : α → List Value → Prop} {Ok : α → Prop} (h : Opens enc P W held t V Ok) : OpensL enc P W held [t] V Ok := by
  rintro fuel cs xs ⟨c1, c2, x, r, rfl, rfl, h1, rfl, rfl⟩ hw
  obtain ⟨y, a, b, c, d⟩ := h fuel c1 x h1 (fun n hn => hw n (by simp [DataW.weightsEach]; exact hn))
  exact ⟨y, by simpa using a, by simpa using b, d⟩
theorem opensL_cons {t : TypeId} {ts : List TypeId} {V : α → List Value → Prop} {Ok : α → Prop} {V2 : β → List Value → Prop} {Ok2 : β → Prop} (h : Opens enc P W held t V Ok) (h2 : OpensL enc P W held ts V2 Ok2) :
    OpensL enc P W held (t :: ts) (fun (x : α × β) cs => ∃ c1 c2, cs = c1 ++ c2 ∧ V x.1 c1 ∧ V2 x.2 c2) (fun x => Ok x.1 ∧ Ok2 x.2) := by
  rintro fuel cs xs ⟨c1, c2, x, r, rfl, rfl, h1, h3⟩ hw
  obtain ⟨y, a, b, c, d⟩ := h fuel c1 x h1 (fun n hn => hw n (by simp only [List.map_cons, DataW.weightsEach, List.mem_append]; exact .inl hn))
  obtain ⟨z, a2, b2, d2⟩ := h2 fuel c2 r h3 (fun n hn => hw n (by simp only [List.map_cons, DataW.weightsEach, List.mem_append]; exact .inr hn))
  exact ⟨(y, z), ⟨c1, c2, rfl, a, a2⟩, one_append b b2, d, d2⟩
def laidF (P : Program) : Nat → List Field → Bool
  | _, [] => true
  | k, f :: fs => Nat.beq f.offset k && laidF P (k + P.cellsOf f.type) fs
def sumF (P : Program) : List Field → Nat
  | [] => 0
  | f :: fs => P.cellsOf f.type + sumF P fs
theorem trodL_of (fuel : Nat) : ∀ (fs : List Field) (k : Nat) (cs : List Value) (xs : List (DataW H × List MemPlace)), laidF P k fs = true → cs.length = k + sumF P fs → xs.length = fs.length →
    (∀ (i : Nat) (f : Field), fs[i]? = some f → DataW.trod enc P W 0 (fun _ => true) held fuel f.type ((cs.drop f.offset).take (P.cellsOf f.type)) = xs[i]?) → trodL enc P W held fuel (fs.map (·.type)) (cs.drop k) xs
  | [], k, cs, xs, _, hl, hx, _ => by
    have : xs = [] := List.eq_nil_of_length_eq_zero (by simpa using hx)
    exact ⟨by rw [List.drop_of_length_le (by simp [sumF] at hl; omega)], this⟩
  | f :: fs, k, cs, [], _, _, hx, _ => by simp at hx
  | f :: fs, k, cs, x :: xs, hlaid, hl, hx, h => by
    simp only [laidF, Bool.and_eq_true] at hlaid
    have hoff : f.offset = k := Nat.eq_of_beq_eq_true hlaid.1
    simp only [sumF] at hl
    have h0 := h 0 f rfl
    rw [hoff] at h0
    refine ⟨(cs.drop k).take (P.cellsOf f.type), (cs.drop k).drop (P.cellsOf f.type), x, xs, (List.take_append_drop _ _).symm, rfl, by simpa using h0, ?_⟩
    have := trodL_of fuel fs (k + P.cellsOf f.type) cs xs hlaid.2 (by omega) (by simpa using hx) (fun i g hg => by simpa using h (i + 1) g (by simpa using hg))
    rw [List.drop_drop]
    exact this
theorem opens_struct {t : TypeId} {fs : Array Field} {V : α → List Value → Prop} {Ok : α → Prop} (ht : P.underlying t = some (.struct fs)) (hlaid : laidF P 0 fs.toList = true) (hsum : sumF P fs.toList = P.cellsOf t) {ts : List TypeId} (hts : fs.toList.map (·.type) = ts) (h : OpensL enc P W held ts V Ok) : Opens enc P W held t V Ok := by
  intro fuel cs x hx hw
  obtain ⟨xs, n, rfl, rfl, hl, hxl, hf⟩ := DataW.trod_struct ht hx
  have := trodL_of n fs.toList 0 cs xs hlaid (by rw [hl]; omega) (by simpa using hxl) (fun i f hi => hf i f (by simpa using hi))
  rw [hts] at this
  obtain ⟨y, a, b, c⟩ := h n cs xs (by simpa using this) (fun n hn => hw n (by simp only [DataW.weights, ht, hts]; exact hn))
  exact ⟨y, a, b, hl, c⟩
end
end Go.Proofs.YtbcnegennmpliaaDoor

namespace Go.Proofs.YtbcnegennmpliaaDoor
set_option linter.unusedVariables false
set_option linter.unusedSimpArgs false
open Go.RowKit Go.ChangeShapes Go.WideShapes Go.ChangeAt
class Mu (α : Type) where
  mu : α → Nat
instance : Mu Int := ⟨fun _ => 1⟩
instance : Mu Bool := ⟨fun _ => 1⟩
instance : Mu UInt8 := ⟨fun _ => 1⟩
instance {α β : Type} [Mu α] [Mu β] : Mu (α × β) := ⟨fun x => Mu.mu x.1 + Mu.mu x.2⟩
instance {α : Type} [Mu α] : Mu (List α) := ⟨fun l => (l.map Mu.mu).sum + 1⟩
section
variable {H : Type} {enc : TypeId × Value → H} {P : Program} {W : World} {held : Bool} {α β : Type} [Mu α] [Mu β]
def OpensU (enc : TypeId × Value → H) (P : Program) (W : World) (held : Bool) (t : TypeId) (V : α → List Value → Prop) (Ok : α → Prop) : Prop :=
  ∀ fuel cs x, DataW.trod enc P W 0 (fun _ => true) held fuel t cs = some x → (∀ n ∈ x.1.weights P t, n ≤ reachBytes) → ∃ y, V y cs ∧ one cs ∧ cs.length = P.cellsOf t ∧ Ok y ∧ Mu.mu y ≤ Rows.uptoBulk x.1
theorem OpensU.mono {t : TypeId} {V V' : α → List Value → Prop} {Ok Ok' : α → Prop} (h : OpensU enc P W held t V Ok) (hV : ∀ x r, V x r → V' x r) (hO : ∀ x, Ok x → Ok' x) : OpensU enc P W held t V' Ok' := fun fuel cs x h1 h2 =>
  let ⟨y, a, b, c, d⟩ := h fuel cs x h1 h2; ⟨y, hV _ _ a, b, c, hO _ d.1, d.2⟩
end
end Go.Proofs.YtbcnegennmpliaaDoor

namespace Go.Proofs.YtbcnegennmpliaaDoor
set_option linter.unusedVariables false
set_option linter.unusedSimpArgs false
open Go.RowKit Go.ChangeShapes Go.WideShapes Go.ChangeAt
def VRead (P : Program) (w : World) (n : String) (d : DataW Unit) : Prop :=
  ∃ g t cs fuel p, P.globalNamed n = some g ∧ (P.globals[g]?).map (·.type) = some t ∧ w.var? P n = some cs ∧ DataW.trod (fun _ => ()) P w 0 (fun _ => true) false fuel t cs.toList = some (d, p)
theorem vread_of {P : Program} {w : World} : ∀ {l : List (String × DataW Unit)} {ps : List MemPlace}, DataW.LaidVars P w l ps → ∀ n d, (n, d) ∈ l → VRead P w n d
  | [], _, _, _, _, hm => by cases hm
  | (n', d') :: r, ps, h, n, d, hm => by
    obtain ⟨g, t, cs, fuel, p, q, h1, h2, h3, h4, h5, _⟩ := h
    rcases List.mem_cons.1 hm with e | e
    · cases e
      exact ⟨g, t, cs, fuel, p, h1, h2, h3, h4⟩
    · exact vread_of h5 n d e
theorem laid_vread {P : Program} {w : World} {l : List (String × DataW Unit)} (h : laidMet P l w) {n : String} {d : DataW Unit} (hm : (n, d) ∈ l) : VRead P w n d :=
  let ⟨_, hv, _⟩ := h
  vread_of hv n d hm
theorem tab_of {P : Program} {W : World} {name : String} {k : IntKind} {zs : List Int} {g : Nat} {t e : TypeId} {n : Nat} (hg : P.globalNamed name = some g) (hty : (P.globals[g]?).map (·.type) = some t)
    (ht : P.underlying t = some (.array n e)) (he : P.underlying e = some (.int k)) (hce : P.cellsOf e = 1) (hct : P.cellsOf t = n) (h : VRead P W name (Lib.tabData k zs)) : Lib.TabIs P W name k zs := by
  obtain ⟨g', t', cs, fuel, p, hg', ht', hvar, hd⟩ := h
  obtain rfl := Option.some.inj (hg.symm.trans hg')
  obtain rfl := Option.some.inj (hty.symm.trans ht')
  unfold Lib.TabIs
  rw [hvar, ← Lib.cells_of_tab ht he hce hct hd]
theorem iface_of {P : Program} {W : World} {name nm : String} {d : DataW Unit} {g : Nat} {t : TypeId} {ms : _} (hg : P.globalNamed name = some g) (hty : (P.globals[g]?).map (·.type) = some t)
    (ht : P.underlying t = some (.interface ms)) (h : VRead P W name (.iface nm d)) : ∃ u p, W.var? P name = some #[.iface u p] := by
  obtain ⟨g', t', cs, fuel, p, hg', ht', hvar, hd⟩ := h
  obtain rfl := Option.some.inj (hg.symm.trans hg')
  obtain rfl := Option.some.inj (hty.symm.trans ht')
  cases fuel with
  | zero => simp [DataW.trod] at hd
  | succ m =>
    unfold DataW.trod at hd
    rw [ht] at hd
    split at hd <;> simp_all
    rename_i e
    exact ⟨_, _, Array.toList_inj.1 (e.trans rfl)⟩
theorem var_mono {P : Program} {W w : World} {n : String} {cs : Array Value} (h : HoldsW (heapF W) w) (hv : W.var? P n = some cs) : w.var? P n = some cs := by
  obtain ⟨a, ha, e⟩ := h
  unfold World.var? at hv ⊢
  cases hg : P.globalNamed n with
  | none => rw [hg] at hv; cases hv
  | some g =>
    rw [hg] at hv
    simp only [Option.bind_some] at hv ⊢
    cases ho : W.heap[g]? with
    | none => rw [ho] at hv; cases hv
    | some o =>
      have hlt : g < W.heap.size := (Array.getElem?_eq_some_iff.1 ho).1
      have h1 : w.heap[g]? = some o := e g o ((ha g hlt).trans ho)
      rw [ho] at hv
      rw [h1]
      exact hv
theorem glb_of {P : Program} {W : World} (h1 : Lib.TabIs P W "internal/strconv.uint64pow10" .u64 Lib.pow10Tab) (h2 : ∃ u p, W.var? P "strconv.ErrSyntax" = some #[.iface u p]) (h3 : ∃ u p, W.var? P "strconv.ErrRange" = some #[.iface u p]) :
    Glb P (heapF W) :=
  ⟨fun w h => var_mono h h1, fun w h => let ⟨u, p, e⟩ := h2; ⟨u, p, var_mono h e⟩, fun w h => let ⟨u, p, e⟩ := h3; ⟨u, p, var_mono h e⟩⟩
theorem witness_laid {H : Type} {enc : TypeId × Value → H} {C : Checked} {os : Os} {f : FuncId} {fn : Func} {s : OpenSpec} {conds : List PathCond} {apart : Bool} {laid : List (String × DataW Unit)} (w0 : World) (args : Array Value) (hos : w0.os = os)
    (hsh : (w0.forCall (fun _ _ => 0) ⟨#[], args, []⟩).Shaped C.prog)
    (hok : Input.okWideB C.prog (w0.forCall (fun _ _ => 0) ⟨#[], args, []⟩) f ⟨#[], args, []⟩ = true)
    (hrow : s.preRow enc C.prog fn conds apart laid (w0.forCall (fun _ _ => 0) ⟨#[], args, []⟩).memory args) :
    ∃ (w : World) (tape : Tape) (i : Input), w.os = os ∧ (w.forCall tape i).Shaped C.prog ∧ i.vars = [] ∧ Input.okWide C.prog (w.forCall tape i) .any w.heap.size f i ∧
      s.preRow enc C.prog fn conds apart laid (w.forCall tape i).memory i.args ∧ ({} : Assume).holds C.prog (lone (Frame.enter C.prog f i.args .normal) [] (w.forCall tape i)) :=
  ⟨w0, fun _ _ => 0, ⟨#[], args, []⟩, hos, hsh, (Input.okWide_of_okWideB (base := 0) hok).1, (Input.okWide_of_okWideB hok).2, hrow, by
    simp only [Assume.holds]
    exact ⟨by simp, by simp, fun _ => Modest.zero, by simp, by simp⟩⟩
end Go.Proofs.YtbcnegennmpliaaDoor

namespace Go.Proofs.YtbcnegennmpliaaDoor.textBack
open Go.RowKit Go.ChangeShapes Go.WideShapes Go.ChangeAt
open Go.ChangeMaps (open_string shut_string)
set_option linter.unusedVariables false
theorem own : ownKnob Tryd.prog.godebug = none := by kernel_rfl
theorem laidOut : laidOutB Tryd.prog = true := by kernel_rfl
theorem glb {W : World} (hL : laidMetH Tryd.prog Rows.textBackRow.laid W) : Glb Tryd.prog (heapF W) := by
  rw [MakeChecks.laidMetH_plain _ _ _ (by kernel_rfl)] at hL
  exact glb_of (tab_of (g := 0) (t := 169) (e := 152) (by kernel_rfl) (by kernel_rfl) Tryd.underlying169 Tryd.underlying152 (by kernel_rfl) (by kernel_rfl) (laid_vread hL (n := "internal/strconv.uint64pow10") (d := Rows.laid_internal_strconv_uint64pow10) (.tail _ (.tail _ (.head _))))) (iface_of (g := 1) (t := 137) (by kernel_rfl) (by kernel_rfl) Tryd.underlying137 (laid_vread hL (n := "strconv.ErrSyntax") (d := Rows.laid_strconv_ErrSyntax) (.tail _ (.tail _ (.tail _ (.tail _ (.tail _ (.head _)))))))) (iface_of (g := 2) (t := 137) (by kernel_rfl) (by kernel_rfl) Tryd.underlying137 (laid_vread hL (n := "strconv.ErrRange") (d := Rows.laid_strconv_ErrRange) (.tail _ (.tail _ (.tail _ (.tail _ (.head _)))))))
theorem laid_met (os : Os) (args : Array Value) : laidMetH Tryd.prog Rows.textBackRow.laid ((World.laidAll Tryd.prog os Rows.textBackRow.laid).forCall (fun _ _ => 0) ⟨#[], args, []⟩).memory := by
  rw [MakeChecks.laidMetH_plain _ _ _ (by kernel_rfl)]
  exact laidMet_laidAll args (by kernel_rfl) (by kernel_rfl)
set_option maxRecDepth 100000 in
theorem lifted (os : Os) (started : os.Started) (H : Type) (enc : TypeId × Value → H) (F : Stop.Interp) :
    ReturnsInHanded {} Tryd.checked os 5 .any ((OpenSpec.ofChange Rows.textBackSpec).preRow enc Tryd.prog Tryd.f5 Rows.textBackRow.domain false Rows.textBackRow.laid) (((OpenSpec.ofChange Rows.textBackSpec).at F).post enc Tryd.prog Tryd.f5 false true false false) := by
  refine returnsInHanded_of_row (C := Tryd.checked) (s := (OpenSpec.ofChange Rows.textBackSpec)) own started (by kernel_rfl) Tryd.func5
    (witness_laid (enc := enc) (C := Tryd.checked) (World.laidAll Tryd.prog os Rows.textBackRow.laid) #[.string ⟨#[]⟩, .agg #[.int .i64 0, .int .i64 0, .int .i64 0, .int .i64 0, .int .i64 0, .int .i64 0, str ([] : List UInt8), str ([] : List UInt8), str ([] : List UInt8)]] (World.laidAll_os _ _ _) (World.shaped_of_ZipB (by kernel_rfl) (by kernel_rfl)) (by kernel_rfl)
      (OpenSpec.preRow_of_cond 8 (x := ([.lit (.string []), .agg [.lit (.int .i64 0), .lit (.int .i64 0), .lit (.int .i64 0), .lit (.int .i64 0), .lit (.int .i64 0), .lit (.int .i64 0), .lit (.string []), .lit (.string []), .lit (.string [])]], [], [])) (by kernel_rfl) (by kernel_rfl) (fun k hk => by cases hk) (by kernel_rfl) (laid_met os _))) ?_
  intro W base args ds gs before hval0 hW hcnd hk00 hsz0 hL _ _
  have hgl := glb hL
  have hsz : (DataW.weightsEach Tryd.prog (Tryd.f5.params.toList ++ Rows.textBackSpec.plain.varTypes Tryd.prog) (ds ++ gs)).all (· ≤ reachBytes) = true := hsz0
  have hval : ∀ (j : Nat) t v, Tryd.f5.params[j]? = some t → args[j]? = some v → Value.okWide Tryd.prog W .any base t v := hval0
  have hW' := hW
  obtain ⟨p, q, hA0, hV, rfl, hfz, hnd⟩ := hW
  have hA : DataW.TrodAll enc Tryd.prog W 0 (fun _ => true) true Tryd.f5.params.toList args.toList ds p := hA0
  rw [Tryd.params5] at hA hval hsz
  obtain ⟨v0, vs0, d0, ds0, p0, q0, hargs, rfl, rfl, h0, r0⟩ := trodAll_cons hA
  obtain ⟨v1, vs1, d1, ds1, p1, q1, rfl, rfl, rfl, h1, r1⟩ := trodAll_cons r0
  obtain ⟨rfl, rfl, rfl⟩ := trodAll_nil r1
  obtain rfl : args = #[v0, v1] := by cases args; simp_all
  obtain ⟨rfl, rfl⟩ := trodVars_none hV
  obtain ⟨ss0, rfl⟩ := okWide_string Tryd.underlying9 (hval 0 9 v0 rfl rfl)
  have k0 := h0
  have lt0 : ∀ x ∈ p0, x.block < W.heap.size := by obtain ⟨m, hm⟩ := k0; exact DataW.trod_lt m _ _ _ hm
  obtain ⟨fuel0, hf0⟩ := h0
  obtain ⟨z0_0, hcs0, _, _, ok0⟩ := (opens_str Tryd.underlying9 (by kernel_rfl)) _ _ _ hf0 (weights_of hsz (j := 0) (t := 9) rfl rfl)
  have e0 : Value.string ss0 = str z0_0 := by simpa [Value.cells] using hcs0
  unfold str at e0
  injection e0 with ea0
  subst ea0
  obtain ⟨cs1, rfl, _⟩ := okWide_struct Tryd.underlying34 (hval 1 34 v1 rfl rfl)
  have k1 := h1
  have lt1 : ∀ x ∈ p1, x.block < W.heap.size := by obtain ⟨m, hm⟩ := k1; exact DataW.trod_lt m _ _ _ hm
  obtain ⟨fuel1, hf1⟩ := h1
  obtain ⟨⟨z1_0, z1_1, z1_2, z1_3, z1_4, z1_5, z1_6, z1_7, z1_8⟩, ⟨_, _, hcs1, rfl, ⟨_, _, rfl, rfl, ⟨_, _, rfl, rfl, ⟨_, _, rfl, rfl, ⟨_, _, rfl, rfl, ⟨_, _, rfl, rfl, ⟨_, _, rfl, rfl, ⟨_, _, rfl, rfl, rfl⟩⟩⟩⟩⟩⟩⟩⟩, _, _, ok1⟩ := (opens_struct Tryd.underlying34 (by kernel_rfl) (by kernel_rfl) (by kernel_rfl) (opensL_cons (opens_int Tryd.underlying3 (by kernel_rfl)) (opensL_cons (opens_int Tryd.underlying3 (by kernel_rfl)) (opensL_cons (opens_int Tryd.underlying3 (by kernel_rfl)) (opensL_cons (opens_int Tryd.underlying3 (by kernel_rfl)) (opensL_cons (opens_int Tryd.underlying3 (by kernel_rfl)) (opensL_cons (opens_int Tryd.underlying3 (by kernel_rfl)) (opensL_cons (opens_str Tryd.underlying9 (by kernel_rfl)) (opensL_cons (opens_str Tryd.underlying9 (by kernel_rfl)) (opensL_one (opens_str Tryd.underlying9 (by kernel_rfl)))))))))))) _ _ _ hf1 (weights_of hsz (j := 1) (t := 34) rfl rfl)
  have e1 : cs1.toList = [.int .i64 z1_0, .int .i64 z1_1, .int .i64 z1_2, .int .i64 z1_3, .int .i64 z1_4, .int .i64 z1_5, str z1_6, str z1_7, str z1_8] := by simpa [Value.cells] using hcs1
  obtain rfl : cs1 = [.int .i64 z1_0, .int .i64 z1_1, .int .i64 z1_2, .int .i64 z1_3, .int .i64 z1_4, .int .i64 z1_5, str z1_6, str z1_7, str z1_8].toArray := by rw [← e1, Array.toArray_toList]
  clear hA0 hval0 hsz0 hsz
  obtain ⟨k, hk⟩ := pure_TextBack z0_0 ok0 z1_0 z1_1 z1_2 z1_3 z1_4 z1_5 z1_6 z1_7 z1_8 ok1
  refine (row_of_fn (synodlaw17_TextBack.calls W (heapF W) k z0_0 z1_0 z1_1 z1_2 z1_3 z1_4 z1_5 z1_6 z1_7 z1_8 hgl) hk (fun _ => rfl)).mono fun e W' ⟨he, bel⟩ => ?_
  subst he
  exact ⟨_, rfl, _, _, _, [], _, [], hW', trodAll_mk1 (shut_bool Tryd.underlying4 _), (trodAll_cons_mk (Below.trod laidOut (by kernel_rfl) (of_decide_eq_true (by kernel_rfl)) k0 bel lt0) (trodAll_cons_mk (Below.trod laidOut (by kernel_rfl) (of_decide_eq_true (by kernel_rfl)) k1 bel lt1) trodAll_mk0)), rfl, bel.frame _, fun h => by cases h⟩
theorem said : Rows.TextBackSaid :=
  OpenClaim.holds_of_cond 5 Tryd.f5 rfl rfl rfl rfl rfl rfl rfl ⟨rfl, rfl, rfl, rfl, rfl⟩ rfl rfl rfl rfl rfl (by kernel_rfl) Tryd.func5 (by kernel_rfl)
    (of_decide_eq_true (by kernel_rfl)) (by unfold Func.isWrapper; first | (rw [if_pos (by decide +kernel)]; kernel_rfl) | (rw [if_neg (by decide +kernel)]; exact ⟨rfl, rfl⟩))
    (fun os started H enc _ F => by rw [OpenClaim.pre_eq_preRow]; exact lifted os started H enc F)
theorem plain (f : FuncId) (fn : Func) (hf : Tryd.pinned.checked.prog.funcNamed "synod/synodlaw17.TextBack" = some f) (hfn : Tryd.pinned.checked.prog.funcs[f]? = some fn) :
    true = Tryd.pinned.checked.prog.looks [] ∧ ∀ (j : Nat) t, fn.params[j]? = some t → Tryd.pinned.checked.prog.wantsStandIn t = false := by
  obtain rfl : f = 5 := Option.some.inj ((show Tryd.prog.funcNamed "synod/synodlaw17.TextBack" = some 5 by kernel_rfl).symm.trans hf) |>.symm
  obtain rfl : fn = Tryd.f5 := (Option.some.inj (Tryd.func5.symm.trans hfn)).symm
  refine ⟨by kernel_rfl, fun j t ht => ?_⟩
  rw [Tryd.params5] at ht
  have hm : t ∈ [9, 34] := by simpa using Array.mem_of_getElem? ht
  have hall : ([9, 34].all fun u => !Tryd.prog.wantsStandIn u) = true := by kernel_rfl
  exact (show Tryd.prog.wantsStandIn t = false by simpa using List.all_eq_true.1 hall t hm)
theorem card : Rows.TextBackCardSaid :=
  Claim7.holds_tied_plain_at .later [] _ _ _ _ said (fun _ h => by cases h) (by kernel_rfl) (fun _ h => by cases h) textBack_row_tie rfl ⟨rfl, rfl⟩ (by kernel_rfl) rfl plain (by kernel_rfl)
end Go.Proofs.YtbcnegennmpliaaDoor.textBack
namespace Go.Proofs.YtbcnegennmpliaaDoor
/-- The card, under a short name, for the claim. -/
theorem textBack_holds : Rows.TextBackCardSaid := textBack.card
end Go.Proofs.YtbcnegennmpliaaDoor

/- The law PolynomialDerives of eliminantlaw06 returns true for every input, and the input reads behind the call as it read before; there are no conditions. -/
import Derived.Test.YtnjccbacinbhgaaGreatPdS0
import Derived.Test.YtnjccbacinbhgaaGreatPdR0
import Derived.Test.YtnjccbacinbhgaaGreatRows
set_option linter.unusedSimpArgs false
set_option linter.unusedVariables false
namespace Go.Vm.G
open Go Go.Vm
abbrev tyRaw : Ty := .st [.sl (.ar 5 (.i .i8))]
theorem sh_i8s {xs : List (List D)} (h : ∀ x ∈ xs, Sh (.i .i8) x) : ∃ m : List Int, m.length = xs.length ∧ xs.flatten = e8 m ∧ ∀ x ∈ m, -128 ≤ x ∧ x ≤ 127 := by
  induction xs with
  | nil => exact ⟨[], rfl, rfl, by simp⟩
  | cons x xs ih =>
    obtain ⟨m, h1, h2, h3⟩ := ih (fun y hy => h y (by simp [hy]))
    obtain ⟨n, rfl, h4, h5⟩ := h x (by simp)
    have h4 : (-128 : Int) ≤ n := h4
    have h5 : n ≤ 127 := h5
    exact ⟨n :: m, by simp [h1], by rw [List.flatten_cons, h2]; rfl, fun x hx => (List.mem_cons.1 hx).elim (fun e => e ▸ ⟨h4, h5⟩) (h3 x)⟩
theorem sh_rows {es : List (List D)} (h : ∀ x ∈ es, Sh (.ar 5 (.i .i8)) x) : ∃ rows : List (List Int), (∀ r ∈ rows, R5 r) ∧ es = rows.map e8 := by
  induction es with
  | nil => exact ⟨[], by simp, rfl⟩
  | cons x es ih =>
    obtain ⟨rows, h1, h2⟩ := ih (fun y hy => h y (by simp [hy]))
    obtain ⟨xs, hl, rfl, h3⟩ := h x (by simp)
    obtain ⟨m, h4, h5, h6⟩ := sh_i8s h3
    exact ⟨m :: rows, fun r hr => (List.mem_cons.1 hr).elim (fun e => e ▸ ⟨by omega, h6⟩) (h1 r), by rw [h2, h5]; rfl⟩
theorem shv_raw {d : D} (h : ShV tyRaw d) : ∃ rows : List (List Int), (∀ r ∈ rows, R5 r) ∧ d = .a [.sl 5 false (rows.map e8)] := by
  obtain ⟨ds, rfl, a, b, rfl, ⟨es, rfl, h1⟩, rfl⟩ := h
  obtain ⟨rows, h2, rfl⟩ := sh_rows h1
  exact ⟨rows, h2, rfl⟩
theorem law5 (Ds : List D) (h : ShAll [tyRaw, tyRaw, .ar 2 (.i .i8)] Ds) : FnR Go.Proofs.Tryz.prog 5 Ds [] (.b true) := by
  obtain ⟨d1, _, rfl, h1, d2, _, rfl, h2, d3, _, rfl, h3, rfl⟩ := h
  obtain ⟨r1, g1, rfl⟩ := shv_raw h1
  obtain ⟨r2, g2, rfl⟩ := shv_raw h2
  obtain ⟨ds, rfl, xs, hl, rfl, h4⟩ := h3
  obtain ⟨m, k1, k2, k3⟩ := sh_i8s h4
  rw [k2]
  match m, k1.trans hl with
  | [a, b], _ => exact w5 r1 r2 false false g1 g2 a b (k3 a (by simp)) (k3 b (by simp))
end Go.Vm.G
namespace Go.Proofs.YtnjccbacinbhgaaGreat.polynomialDerives
open Go.ChangeShapes Go.WideShapes Go.ChangeAt Go.RowKit
theorem own : ownKnob Tryz.prog.godebug = none := by kernel_rfl
theorem laidOut : laidOutB Tryz.prog = true := by kernel_rfl
set_option maxRecDepth 100000 in
theorem lifted (os : Os) (started : os.Started) (H : Type) (enc : TypeId × Value → H) :
    ReturnsInHanded {} Tryz.checked os 5 .any (Rows.polynomialDerivesSpec.pre6 enc Tryz.prog Tryz.f5 Rows.polynomialDerivesRow.domain false) (Rows.polynomialDerivesSpec.post enc Tryz.prog Tryz.f5 false true false false) := by
  refine returnsInHanded_of_change (C := Tryz.checked) own started (by kernel_rfl) Tryz.func5
    (ChangeSpec.witness6 (enc := enc) (C := Tryz.checked) false ⟨#[], #[.agg #[.slice none 0 0], .agg #[.slice none 0 0], .agg #[.int .i8 0, .int .i8 0]], []⟩ 8 (by kernel_rfl) (by kernel_rfl) (by kernel_rfl) (by kernel_rfl)) ?_
  intro W base args ds gs before hval hW hcnd _
  exact Go.Vm.law_contract (k := 5) (fn := Tryz.f5) (tys := [Go.Vm.G.tyRaw, Go.Vm.G.tyRaw, .ar 2 (.i .i8)]) (tb := Tryz.f5.resultTypes[0]!) Go.Vm.G.law5 (by kernel_rfl) laidOut (by kernel_rfl) (by kernel_rfl) (by kernel_rfl) rfl
    (fun ds h => by
      match ds, h with
      | [_, _, _], _ => rfl) W base args ds gs before hval hW
theorem over : Rows.polynomialDerivesRow.holds Tryz.pinned (OpenSpec.ofChange Rows.polynomialDerivesSpec) :=
  OpenClaim.holds_of_wide 5 Tryz.f5 rfl rfl rfl rfl rfl rfl rfl ⟨rfl, rfl, rfl, rfl, rfl⟩ rfl rfl rfl rfl rfl (by kernel_rfl) Tryz.func5 (by kernel_rfl)
    (of_decide_eq_true (by kernel_rfl)) (by unfold Func.isWrapper; first | (rw [if_pos (by decide +kernel)]; kernel_rfl) | (rw [if_neg (by decide +kernel)]; exact ⟨rfl, rfl⟩))
    (fun os started H enc _ => lifted os started H enc)
theorem proved : Rows.PolynomialDerivesSaid := over
end Go.Proofs.YtnjccbacinbhgaaGreat.polynomialDerives
#print axioms Go.Proofs.YtnjccbacinbhgaaGreat.polynomialDerives.proved

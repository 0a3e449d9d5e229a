/- The law PolynomialValid of eliminantlaw06 returns true for every input, and the input reads behind the call as it read before; there are no conditions. -/
import Derived.Test.YtnjccbacinbhgaaGreatPvS0
import Derived.Test.YtnjccbacinbhgaaGreatPvR0
import Derived.Test.YtnjccbacinbhgaaGreatRows
set_option linter.unusedSimpArgs false
set_option linter.unusedVariables false
namespace Go.Vm.G
open Go Go.Vm Go.RowKit Go.Proofs
abbrev tyInt : Ty := .st [.b, .sl (.i .u32)]
abbrev tyTerm : Ty := .st [.st [tyInt, tyInt], .ar 8 (.i .i64)]
theorem sh_words {ds : List D} (h : Sh (.sl (.i .u32)) ds) : ∃ l, Wd l ∧ ds = [.sl 1 false (eW l)] := by
  obtain ⟨es, rfl, hes⟩ := h
  suffices ∃ l, Wd l ∧ es = eW l by
    obtain ⟨l, h1, h2⟩ := this
    exact ⟨l, h1, by rw [h2]; rfl⟩
  induction es with
  | nil => exact ⟨[], by intro w hw; simp at hw, rfl⟩
  | cons x es ih =>
    obtain ⟨l, h1, h2⟩ := ih (fun y hy => hes y (by simp [hy]))
    obtain ⟨n, rfl, h3, h4⟩ := hes x (by simp)
    have h3 : (0 : Int) ≤ n := h3
    have h4 : n ≤ 4294967295 := h4
    refine ⟨n.toNat :: l, ?_, ?_⟩
    · intro w hw
      rcases List.mem_cons.1 hw with rfl | hw
      · show _ < 4294967296; omega
      · exact h1 w hw
    · rw [h2, eW_cons]
      unfold wD
      rw [Int.toNat_of_nonneg h3]
theorem sh_int {ds : List D} (h : Sh tyInt ds) : ∃ v l, Wd l ∧ ds = [.b v, .sl 1 false (eW l)] := by
  obtain ⟨a, b, rfl, ⟨v, rfl⟩, c, d, rfl, h1, rfl⟩ := h
  obtain ⟨l, h2, rfl⟩ := sh_words h1
  exact ⟨v, l, h2, rfl⟩
theorem sh_i64s {xs : List (List D)} (h : ∀ x ∈ xs, Sh (.i .i64) x) : ∃ m : List Int, m.length = xs.length ∧ xs.flatten = eM m := by
  induction xs with
  | nil => exact ⟨[], rfl, rfl⟩
  | cons x xs ih =>
    obtain ⟨m, h1, h2⟩ := ih (fun y hy => h y (by simp [hy]))
    obtain ⟨n, rfl, _⟩ := h x (by simp)
    exact ⟨n :: m, by simp [h1], by rw [List.flatten_cons, h2]; rfl⟩
theorem sh_term {ds : List D} (h : Sh tyTerm ds) : ∃ t : RT, t.ok0 ∧ ds = tE t := by
  obtain ⟨a, b, rfl, ⟨c, d, rfl, h1, e, f, rfl, h2, rfl⟩, g, k, rfl, ⟨xs, hx, rfl, h3⟩, rfl⟩ := h
  obtain ⟨v, l, hl, rfl⟩ := sh_int h1
  obtain ⟨v', l', hl', rfl⟩ := sh_int h2
  obtain ⟨m, hm, hm2⟩ := sh_i64s h3
  refine ⟨⟨v, l, v', l', m⟩, ⟨hl, hl', by show m.length = 8; omega⟩, ?_⟩
  rw [hm2]
  simp [tE]
theorem sh_poly {es : List (List D)} (h : ∀ x ∈ es, Sh tyTerm x) : ∃ ts : List RT, (∀ t ∈ ts, t.ok0) ∧ es = ts.map tE := by
  induction es with
  | nil => exact ⟨[], by simp, rfl⟩
  | cons x es ih =>
    obtain ⟨ts, h1, h2⟩ := ih (fun y hy => h y (by simp [hy]))
    obtain ⟨t, h3, h4⟩ := sh_term (h x (by simp))
    exact ⟨t :: ts, fun u hu => (List.mem_cons.1 hu).elim (fun e => e ▸ h3) (h1 u), by rw [h2, h4]; rfl⟩
theorem law3 (Ds : List D) (h : ShAll [.sl tyTerm] Ds) : FnR Go.Proofs.Tryz.prog 3 Ds [] (.b true) := by
  obtain ⟨d, l, rfl, h1, rfl⟩ := h
  obtain ⟨es, h2, h3⟩ : Sh (.sl tyTerm) [d] := h1
  obtain ⟨ts, h4, rfl⟩ := sh_poly h3
  injection h2 with h2
  subst h2
  exact w3 ts false h4
end Go.Vm.G
namespace Go.Proofs.YtnjccbacinbhgaaGreat.polynomialValid
open Go.ChangeShapes Go.WideShapes Go.ChangeAt Go.RowKit
theorem own : ownKnob Tryz.prog.godebug = none := by kernel_rfl
theorem laidOut : laidOutB Tryz.prog = true := by kernel_rfl
set_option maxRecDepth 100000 in
theorem lifted (os : Os) (started : os.Started) (H : Type) (enc : TypeId × Value → H) :
    ReturnsInHanded {} Tryz.checked os 3 .any (Rows.polynomialValidSpec.pre6 enc Tryz.prog Tryz.f3 Rows.polynomialValidRow.domain false) (Rows.polynomialValidSpec.post enc Tryz.prog Tryz.f3 false true false false) := by
  refine returnsInHanded_of_change (C := Tryz.checked) own started (by kernel_rfl) Tryz.func3
    (ChangeSpec.witness6 (enc := enc) (C := Tryz.checked) false ⟨#[], #[.slice none 0 0], []⟩ 8 (by kernel_rfl) (by kernel_rfl) (by kernel_rfl) (by kernel_rfl)) ?_
  intro W base args ds gs before hval hW hcnd _
  exact Go.Vm.law_contract (k := 3) (fn := Tryz.f3) (tys := [.sl Go.Vm.G.tyTerm]) (tb := Tryz.f3.resultTypes[0]!) Go.Vm.G.law3 (by kernel_rfl) laidOut (by kernel_rfl) (by kernel_rfl) (by kernel_rfl) rfl
    (fun ds h => by
      match ds, h with
      | [d], _ => rfl) W base args ds gs before hval hW
theorem over : Rows.polynomialValidRow.holds Tryz.pinned (OpenSpec.ofChange Rows.polynomialValidSpec) :=
  OpenClaim.holds_of_wide 3 Tryz.f3 rfl rfl rfl rfl rfl rfl rfl ⟨rfl, rfl, rfl, rfl, rfl⟩ rfl rfl rfl rfl rfl (by kernel_rfl) Tryz.func3 (by kernel_rfl)
    (of_decide_eq_true (by kernel_rfl)) (by unfold Func.isWrapper; first | (rw [if_pos (by decide +kernel)]; kernel_rfl) | (rw [if_neg (by decide +kernel)]; exact ⟨rfl, rfl⟩))
    (fun os started H enc _ => lifted os started H enc)
theorem proved : Rows.PolynomialValidSaid := over
end Go.Proofs.YtnjccbacinbhgaaGreat.polynomialValid
#print axioms Go.Proofs.YtnjccbacinbhgaaGreat.polynomialValid.proved

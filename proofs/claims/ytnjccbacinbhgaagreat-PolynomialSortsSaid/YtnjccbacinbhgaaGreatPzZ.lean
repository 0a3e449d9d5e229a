/- Cmp of polynomials is a total order (PolynomialSorts), for every input. -/
import Derived.Test.YtnjccbacinbhgaaGreatPzS0
import Derived.Test.YtnjccbacinbhgaaGreatPzR0
import Derived.Test.YtnjccbacinbhgaaGreatRows
set_option linter.unusedSimpArgs false
set_option linter.unusedVariables false
namespace Go.Vm.G
open Go Go.Vm
abbrev tyRaw : Ty := .st [.sl (.ar 5 (.i .i8))]
theorem sh_i8s {xs : List (List D)} (h : ∀ x ∈ xs, Sh (.i .i8) x) : ∃ m : List Int, m.length = xs.length ∧ xs.flatten = e8 m ∧ ∀ x ∈ m, -128 ≤ x ∧ x ≤ 127 := by
  induction xs with
  | nil => exact ⟨[], rfl, rfl, by simp⟩
  | cons x xs ih =>
    obtain ⟨m, h1, h2, h3⟩ := ih (fun y hy => h y (by simp [hy]))
    obtain ⟨n, rfl, h4, h5⟩ := h x (by simp)
    have h4 : (-128 : Int) ≤ n := h4
    have h5 : n ≤ 127 := h5
    exact ⟨n :: m, by simp [h1], by rw [List.flatten_cons, h2]; rfl, fun x hx => (List.mem_cons.1 hx).elim (fun e => e ▸ ⟨h4, h5⟩) (h3 x)⟩
theorem sh_rows {es : List (List D)} (h : ∀ x ∈ es, Sh (.ar 5 (.i .i8)) x) : ∃ rows : List (List Int), (∀ r ∈ rows, R5 r) ∧ es = rows.map e8 := by
  induction es with
  | nil => exact ⟨[], by simp, rfl⟩
  | cons x es ih =>
    obtain ⟨rows, h1, h2⟩ := ih (fun y hy => h y (by simp [hy]))
    obtain ⟨xs, hl, rfl, h3⟩ := h x (by simp)
    obtain ⟨m, h4, h5, h6⟩ := sh_i8s h3
    exact ⟨m :: rows, fun r hr => (List.mem_cons.1 hr).elim (fun e => e ▸ ⟨by omega, h6⟩) (h1 r), by rw [h2, h5]; rfl⟩
theorem shv_raw {d : D} (h : ShV tyRaw d) : ∃ rows : List (List Int), (∀ r ∈ rows, R5 r) ∧ d = .a [.sl 5 false (rows.map e8)] := by
  obtain ⟨ds, rfl, a, b, rfl, ⟨es, rfl, h1⟩, rfl⟩ := h
  obtain ⟨rows, h2, rfl⟩ := sh_rows h1
  exact ⟨rows, h2, rfl⟩
open Nat renaming reduceBEq → sB, reduceLeDiff → sL, reduceAdd → sA
open Int renaming reduceEq → sE, reduceNe → sN
theorem cmpP_le {p q r : List Tm} (hp : L8 p) (hq : L8 q) (hr : L8 r) (h1 : cmpP p q ≤ 0) (h2 : cmpP q r ≤ 0) : cmpP p r ≤ 0 ∧ (cmpP p q < 0 → cmpP p r < 0) := by
  by_cases a : cmpP p q = 0
  · have e := cmpP_eq hp hq a
    subst e
    exact ⟨h2, fun h => by omega⟩
  · by_cases b : cmpP q r = 0
    · have e := cmpP_eq hq hr b
      subst e
      exact ⟨h1, fun h => h⟩
    · have := cmpP_trans hp hq hr (by omega) (by omega)
      exact ⟨by omega, fun _ => this⟩
theorem cmpP_nil : ∀ (p : List Tm), cmpP [] p ≤ 0 ∧ (cmpP [] p == 0) = (((p.length : Nat) : Int) == 0)
  | [] => ⟨by simp [cmpP], by simp [cmpP]⟩
  | t :: p => ⟨by simp [cmpP], by
      have e : (((t :: p).length : Nat) : Int) ≠ 0 := by simp only [List.length_cons]; omega
      rw [beq_eq_false_iff_ne.2 e]; rfl⟩
theorem w7 (r1 r2 r3 : List (List Int)) (f1 f2 f3 : Bool) (h1 : ∀ r ∈ r1, R5 r) (h2 : ∀ r ∈ r2, R5 r) (h3 : ∀ r ∈ r3, R5 r) :
    FnR Go.Proofs.Tryz.prog 7 [.a [.sl 5 f1 (r1.map e8)], .a [.sl 5 f2 (r2.map e8)], .a [.sl 5 f3 (r3.map e8)]] [] (.b true) := by
  refine fnr7 (by simp) rfl (by simp) List.nodup_nil fun F out hS => ?_
  have c1 := w33 r1 f1 h1 2 2 3 (by omega) (by omega) (by omega)
  have c2 := w33 r2 f2 h2 2 2 3 (by omega) (by omega) (by omega)
  have c3 := w33 r3 f3 h3 2 2 3 (by omega) (by omega) (by omega)
  have hp : Pl 2 9 3 (madeP r1 2 2 3) := madeP_pl r1 2 2 3 (by omega)
  have hq : Pl 2 9 3 (madeP r2 2 2 3) := madeP_pl r2 2 2 3 (by omega)
  have hr : Pl 2 9 3 (madeP r3 2 2 3) := madeP_pl r3 2 2 3 (by omega)
  generalize madeP r1 2 2 3 = p at *
  generalize madeP r2 2 2 3 = q at *
  generalize madeP r3 2 2 3 = r at *
  have k : ∀ {p q : List Tm}, Pl 2 9 3 p → Pl 2 9 3 q → ∀ f g, FnR Go.Proofs.Tryz.prog 34 [eP f p, eP g q] [] (.i .i64 (cmpP p q)) := fun h h' f g => w34 _ _ f g (A := 9) h.pb h'.pb (by omega) (by have := h.ln; omega) (by have := h'.ln; omega)
  have hn : Pl 2 9 3 [] := ⟨Can.nil, by simp, by simp, by simp⟩
  have v1 := cmpP_vals p q
  have ant := cmpP_anti q p
  have trans := fun h1 h2 => cmpP_le hp.l8 hq.l8 hr.l8 h1 h2
  have heq : decide (p = q) = (cmpP p q == 0) := by
    by_cases h : p = q
    · subst h; rw [cmpP_self]; simp
    · rw [decide_eq_false h, beq_eq_false_iff_ne.2 (fun e => h (cmpP_eq hp.l8 hq.l8 e))]
  obtain ⟨n1, n2⟩ := cmpP_nil p
  have wn : IntKind.wrap .i64 (-cmpP q p) = cmpP p q := by rw [← ant]; exact IntWalk.i64_in _ (by omega)
  have wn' : IntKind.wrap .i64 (0 - cmpP q p) = cmpP p q := by rw [Int.zero_sub]; exact wn
  have b3 : ∀ b : Bool, (b != b) = false := by decide
  have b4 : ∀ b : Bool, (b == b) = true := by decide
  unfold ir7
  simp only [go_sem, sB, reduceCtorEq, sL, sA, sE, sN]
  refine callO_intro w13 ?_
  simp only [go_sem, sB, reduceCtorEq, sL, sA, sE, sN]
  refine callO_intro c1 ?_
  simp only [go_sem, sB, reduceCtorEq, sL, sA, sE, sN]
  refine callO_intro c2 ?_
  simp only [go_sem, sB, reduceCtorEq, sL, sA, sE, sN]
  refine callO_intro c3 ?_
  simp only [go_sem, sB, reduceCtorEq, sL, sA, sE, sN]
  refine callO_intro (k hp hq false false) ?_
  simp only [go_sem, sB, reduceCtorEq, sL, sA, sE, sN]
  refine callO_intro (k hq hr false false) ?_
  simp only [go_sem, sB, reduceCtorEq, sL, sA, sE, sN]
  refine callO_intro (k hp hr false false) ?_
  have g1 : decide (cmpP p q < -1) = false := decide_eq_false (by omega)
  have g2 : decide (cmpP p q > 1) = false := decide_eq_false (by omega)
  simp only [go_sem, sB, reduceCtorEq, sL, sA, sE, sN, g1, g2]
  refine callO_intro (k hq hp false false) ?_
  simp only [go_sem, sB, reduceCtorEq, sL, sA, sE, sN, wn, wn', bne_self_eq_false]
  refine callO_intro (w19 p q false false (A := 9) hp.pb hq.pb (by omega) (by have := hp.ln; omega)) ?_
  rw [heq]
  simp only [go_sem, sB, reduceCtorEq, sL, sA, sE, sN, b3, b4]
  refine callO_intro (w35 p q false false (A := 9) hp.pb hq.pb (by omega) (by have := hp.ln; omega) (by have := hq.ln; omega)) ?_
  have key : ∀ x1 x2 x3 x4 x5 : Bool, decide (cmpP p q ≤ 0) = x1 → decide (cmpP q r ≤ 0) = x2 → decide (cmpP p r > 0) = x3 → decide (cmpP p q < 0) = x4 → decide (cmpP p r ≥ 0) = x5 → (x1 && x2 && x3) = false ∧ (x4 && x2 && x5) = false := by
    rintro _ _ _ _ _ rfl rfl rfl rfl rfl
    constructor
    · by_cases a : cmpP p q ≤ 0
      · by_cases b : cmpP q r ≤ 0
        · rw [decide_eq_false (show ¬ cmpP p r > 0 by have := (trans a b).1; omega)]; simp
        · rw [decide_eq_false b]; simp
      · rw [decide_eq_false a]; simp
    · by_cases a : cmpP p q < 0
      · by_cases b : cmpP q r ≤ 0
        · rw [decide_eq_false (show ¬ cmpP p r ≥ 0 by have := (trans (by omega) b).2 a; omega)]; simp
        · rw [decide_eq_false b]; simp
      · rw [decide_eq_false a]; simp
  have l1 : decide (cmpP [] p ≤ 0) = true := decide_eq_true n1
  have e0 := cmpP_self p
  cases x1 : decide (cmpP p q ≤ 0) <;> cases x2 : decide (cmpP q r ≤ 0) <;> cases x4 : decide (cmpP p q < 0) <;> cases x3 : decide (cmpP p r > 0) <;> cases x5 : decide (cmpP p r ≥ 0)
  all_goals (
    have kk := key _ _ _ _ _ x1 x2 x3 x4 x5
    first
    | exact absurd kk.1 (by decide)
    | exact absurd kk.2 (by decide)
    | (simp only [go_sem, sB, reduceCtorEq, sL, sA, sE, sN, b3, b4, x1, x2, x3, x4, x5]
       refine callO_intro (k hp hp false false) ?_
       rw [e0]
       simp only [go_sem, sB, reduceCtorEq, sL, sA, sE, sN, show ((0 : Int) == 0) = true from rfl]
       refine callO_intro (k hn hp true false) ?_
       simp only [go_sem, sB, reduceCtorEq, sL, sA, sE, sN, l1]
       refine callO_intro (k hn hp true false) ?_
       simp only [go_sem, sB, reduceCtorEq, sL, sA, sE, sN, n2, eP, eP_len, b4, rv7, fin_t]
       exact .refl _))
theorem law7 (Ds : List D) (h : ShAll [tyRaw, tyRaw, tyRaw] Ds) : FnR Go.Proofs.Tryz.prog 7 Ds [] (.b true) := by
  obtain ⟨d1, _, rfl, h1, d2, _, rfl, h2, d3, _, rfl, h3, rfl⟩ := h
  obtain ⟨r1, g1, rfl⟩ := shv_raw h1
  obtain ⟨r2, g2, rfl⟩ := shv_raw h2
  obtain ⟨r3, g3, rfl⟩ := shv_raw h3
  exact w7 r1 r2 r3 false false false g1 g2 g3
end Go.Vm.G
namespace Go.Proofs.YtnjccbacinbhgaaGreat.polynomialSorts
open Go.ChangeShapes Go.WideShapes Go.ChangeAt Go.RowKit
theorem own : ownKnob Tryz.prog.godebug = none := by kernel_rfl
theorem laidOut : laidOutB Tryz.prog = true := by kernel_rfl
set_option maxRecDepth 100000 in
theorem lifted (os : Os) (started : os.Started) (H : Type) (enc : TypeId × Value → H) :
    ReturnsInHanded {} Tryz.checked os 7 .any (Rows.polynomialSortsSpec.pre6 enc Tryz.prog Tryz.f7 Rows.polynomialSortsRow.domain false) (Rows.polynomialSortsSpec.post enc Tryz.prog Tryz.f7 false true false false) := by
  refine returnsInHanded_of_change (C := Tryz.checked) own started (by kernel_rfl) Tryz.func7
    (ChangeSpec.witness6 (enc := enc) (C := Tryz.checked) false ⟨#[], #[.agg #[.slice none 0 0], .agg #[.slice none 0 0], .agg #[.slice none 0 0]], []⟩ 8 (by kernel_rfl) (by kernel_rfl) (by kernel_rfl) (by kernel_rfl)) ?_
  intro W base args ds gs before hval hW hcnd _
  exact Go.Vm.law_contract (k := 7) (fn := Tryz.f7) (tys := [Go.Vm.G.tyRaw, Go.Vm.G.tyRaw, Go.Vm.G.tyRaw]) (tb := Tryz.f7.resultTypes[0]!) Go.Vm.G.law7 (by kernel_rfl) laidOut (by kernel_rfl) (by kernel_rfl) (by kernel_rfl) rfl
    (fun ds h => by
      match ds, h with
      | [_, _, _], _ => rfl) W base args ds gs before hval hW
theorem over : Rows.polynomialSortsRow.holds Tryz.pinned (OpenSpec.ofChange Rows.polynomialSortsSpec) :=
  OpenClaim.holds_of_wide 7 Tryz.f7 rfl rfl rfl rfl rfl rfl rfl ⟨rfl, rfl, rfl, rfl, rfl⟩ rfl rfl rfl rfl rfl (by kernel_rfl) Tryz.func7 (by kernel_rfl)
    (of_decide_eq_true (by kernel_rfl)) (by unfold Func.isWrapper; first | (rw [if_pos (by decide +kernel)]; kernel_rfl) | (rw [if_neg (by decide +kernel)]; exact ⟨rfl, rfl⟩))
    (fun os started H enc _ => lifted os started H enc)
theorem proved : Rows.PolynomialSortsSaid := over
end Go.Proofs.YtnjccbacinbhgaaGreat.polynomialSorts
#print axioms Go.Proofs.YtnjccbacinbhgaaGreat.polynomialSorts.proved

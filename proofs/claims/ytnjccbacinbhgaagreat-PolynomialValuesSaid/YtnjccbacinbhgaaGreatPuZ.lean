/- The value of a sum is the sum of the values, that of a product their product (PolynomialValues), for every input. -/
import Derived.Test.YtnjccbacinbhgaaGreatPuS0
import Derived.Test.YtnjccbacinbhgaaGreatPuR0
import Derived.Test.YtnjccbacinbhgaaGreatRows
set_option linter.unusedSimpArgs false
set_option linter.unusedVariables false
namespace Go.Vm.G
open Go Go.Vm
abbrev tyRaw : Ty := .st [.sl (.ar 5 (.i .i8))]
theorem sh_i8s {xs : List (List D)} (h : ∀ x ∈ xs, Sh (.i .i8) x) : ∃ m : List Int, m.length = xs.length ∧ xs.flatten = e8 m ∧ ∀ x ∈ m, -128 ≤ x ∧ x ≤ 127 := by
  induction xs with
  | nil => exact ⟨[], rfl, rfl, by simp⟩
  | cons x xs ih =>
    obtain ⟨m, h1, h2, h3⟩ := ih (fun y hy => h y (by simp [hy]))
    obtain ⟨n, rfl, h4, h5⟩ := h x (by simp)
    have h4 : (-128 : Int) ≤ n := h4
    have h5 : n ≤ 127 := h5
    exact ⟨n :: m, by simp [h1], by rw [List.flatten_cons, h2]; rfl, fun x hx => (List.mem_cons.1 hx).elim (fun e => e ▸ ⟨h4, h5⟩) (h3 x)⟩
theorem sh_rows {es : List (List D)} (h : ∀ x ∈ es, Sh (.ar 5 (.i .i8)) x) : ∃ rows : List (List Int), (∀ r ∈ rows, R5 r) ∧ es = rows.map e8 := by
  induction es with
  | nil => exact ⟨[], by simp, rfl⟩
  | cons x es ih =>
    obtain ⟨rows, h1, h2⟩ := ih (fun y hy => h y (by simp [hy]))
    obtain ⟨xs, hl, rfl, h3⟩ := h x (by simp)
    obtain ⟨m, h4, h5, h6⟩ := sh_i8s h3
    exact ⟨m :: rows, fun r hr => (List.mem_cons.1 hr).elim (fun e => e ▸ ⟨by omega, h6⟩) (h1 r), by rw [h2, h5]; rfl⟩
theorem shv_raw {d : D} (h : ShV tyRaw d) : ∃ rows : List (List Int), (∀ r ∈ rows, R5 r) ∧ d = .a [.sl 5 false (rows.map e8)] := by
  obtain ⟨ds, rfl, a, b, rfl, ⟨es, rfl, h1⟩, rfl⟩ := h
  obtain ⟨rows, h2, rfl⟩ := sh_rows h1
  exact ⟨rows, h2, rfl⟩
open Nat renaming reduceBEq → sB, reduceLeDiff → sL, reduceAdd → sA
open Int renaming reduceEq → sE, reduceNe → sN
theorem rmul4 (a b c d : Rat) : a * b * (c * d) = a * c * (b * d) := by
  rw [Rat.mul_assoc, Rat.mul_assoc, ← Rat.mul_assoc b c d, Rat.mul_comm b c, Rat.mul_assoc c b d]
theorem ptv_mul : ∀ (v : List Rat) (a b : List Int), a.length = b.length → (∀ x ∈ a, 0 ≤ x) → (∀ x ∈ b, 0 ≤ x) → ptv v (mMul a b) = ptv v a * ptv v b
  | [], a, b, _, _, _ => by simp [ptv, Rat.mul_one]
  | x :: v, [], [], _, _, _ => by simp [ptv, mMul, Rat.mul_one]
  | x :: v, e :: a, k :: b, h, ha, hb => by
    have ih := ptv_mul v a b (by simpa using h) (fun y hy => ha y (by simp [hy])) (fun y hy => hb y (by simp [hy]))
    have h1 := ha e (by simp)
    have h2 := hb k (by simp)
    have e1 : mMul (e :: a) (k :: b) = (e + k) :: mMul a b := rfl
    rw [e1]
    simp only [ptv]
    rw [ih, show (e + k).toNat = e.toNat + k.toNat by omega, pw_add, rmul4]
theorem ptv_one (v : List Rat) : ∀ n, ptv v (List.replicate n 0) = 1
  | 0 => by cases v <;> rfl
  | n + 1 => by
    cases v with
    | nil => rfl
    | cons x v =>
      rw [List.replicate_succ]
      simp only [ptv]
      rw [ptv_one v n, Rat.mul_one]; rfl
theorem ev_prod {e1 e2 A1 A2 n1 n2 : Nat} {p q r : List Tm} (v : List Rat) (hp : Pl e1 A1 n1 p) (hq : Pl e2 A2 n2 q) (h : IsProd p q r) : ev (ptv v) r = ev (ptv v) p * ev (ptv v) q := by
  rw [h, ev_congr (g := fun m => ev (ptv v) q * ptv v m) (fun t ht => by
    rw [ev_congr (g := fun n => ptv v t.1 * ptv v n) (fun u hu => ptv_mul v t.1 u.1 (by rw [hp.l8 t ht, hq.l8 u hu]) (fun x hx => (hp.ex t ht x hx).1) (fun x hx => (hq.ex u hu x hx).1)), ev_mulf, Rat.mul_comm]), ev_mulf, Rat.mul_comm]
theorem ev_const (v : List Rat) (a : Rat) : ev (ptv v) (cP a) = a := by
  unfold cP
  split
  · rename_i h; rw [h]; rfl
  · simp only [ev]
    rw [show ptv v m0 = 1 from ptv_one v 8, Rat.mul_one, Rat.add_zero]
theorem LQ_ptv {X e : Nat} : ∀ (v : List Rat) (m : List Int), (∀ x ∈ v, LQ x ≤ X) → (∀ x ∈ m, 0 ≤ x ∧ x ≤ (e : Int)) → LQ (ptv v m) ≤ v.length * (e * X + 1) + 1
  | [], m, _, _ => by have := LQ_1; simp only [ptv]; omega
  | x :: v, [], _, _ => by have := LQ_1; simp only [ptv]; omega
  | x :: v, k :: m, hv, hm => by
    have ih := LQ_ptv v m (fun y hy => hv y (by simp [hy])) (fun y hy => hm y (by simp [hy]))
    have h1 := hm k (by simp)
    have h2 := pw_bd (hv x (by simp)) (show k.toNat ≤ e by omega)
    have h3 := LQ_mul (pw x k.toNat) (ptv v m)
    have h4 : (v.length + 1) * (e * X + 1) = v.length * (e * X + 1) + (e * X + 1) := by rw [Nat.add_mul, Nat.one_mul]
    simp only [ptv, List.length_cons]; omega
theorem LQ_ev {X e A : Nat} {v : List Rat} (hv : Pt X v) : ∀ (p : List Tm), (∀ t ∈ p, LQ t.2 ≤ A) → (∀ t ∈ p, ∀ x ∈ t.1, 0 ≤ x ∧ x ≤ (e : Int)) → LQ (ev (ptv v) p) ≤ p.length * (A + 8 * (e * X + 1) + 2) + 1
  | [], _, _ => by have := LQ_0; simp only [ev]; omega
  | t :: p, h1, h2 => by
    have ih := LQ_ev hv p (fun u hu => h1 u (by simp [hu])) (fun u hu => h2 u (by simp [hu]))
    have h3 := h1 t (by simp)
    have h4 := LQ_ptv v t.1 hv.lq (h2 t (by simp))
    rw [hv.len] at h4
    have h5 := LQ_mul t.2 (ptv v t.1)
    have h6 := LQ_add (t.2 * ptv v t.1) (ev (ptv v) p)
    have h7 : (p.length + 1) * (A + 8 * (e * X + 1) + 2) = p.length * (A + 8 * (e * X + 1) + 2) + (A + 8 * (e * X + 1) + 2) := by rw [Nat.add_mul, Nat.one_mul]
    simp only [ev, List.length_cons]; omega
theorem Pl.evb {e A n : Nat} {p : List Tm} (h : Pl e A n p) {X : Nat} {v : List Rat} (hv : Pt X v) : LQ (ev (ptv v) p) ≤ n * (A + 8 * (e * X + 1) + 2) + 1 := by
  have h1 := LQ_ev hv p h.lq h.ex
  have h2 : p.length * (A + 8 * (e * X + 1) + 2) ≤ n * (A + 8 * (e * X + 1) + 2) := Nat.mul_le_mul_right _ h.ln
  omega
theorem cP_pl {A : Nat} {a : Rat} (h : LQ a ≤ A) : Pl 0 A 1 (cP a) := by
  unfold cP
  split
  · exact ⟨Can.nil, by simp, by simp, by simp⟩
  · rename_i h0
    refine ⟨⟨fun t ht => ?_, fun t ht => ?_, by simp⟩, fun t ht x hx => ?_, fun t ht => ?_, by simp⟩
    all_goals (rw [List.mem_singleton] at ht; subst ht)
    · rfl
    · exact h0
    · have : x ∈ List.replicate 8 (0 : Int) := hx
      rw [List.eq_of_mem_replicate this]; omega
    · exact h
theorem w28q (q : Rat) (h : LQ q ≤ 4398046511104) : FnR Go.Proofs.Tryz.prog 28 [rW q] [] (.b true) := by
  have := w28 (decide (q.num < 0)) false (toW q.num.natAbs) (toW q.den) false false (Wd_toW _) (Wd_toW _) (by unfold LQ LZ L at h; omega) (by unfold LQ LZ L at h; omega)
  rw [validQ_rat] at this
  exact this
theorem w6 (r1 r2 : List (List Int)) (f1 f2 : Bool) (h1 : ∀ r ∈ r1, R5 r) (h2 : ∀ r ∈ r2, R5 r) (l : List Int) (hl : l.length = 4) (hb : ∀ x ∈ l, -128 ≤ x ∧ x ≤ 127) :
    FnR Go.Proofs.Tryz.prog 6 [.a [.sl 5 f1 (r1.map e8)], .a [.sl 5 f2 (r2.map e8)], .a (e8 l)] [] (.b true) := by
  refine fnr6 (by simp) rfl (by simp) List.nodup_nil fun F out hS => ?_
  have c1 := w16 r1 f1 h1
  have c2 := w16 r2 f2 h2
  have cl := w26 l hl hb
  have hv := atV_pt l
  have hp : Pl 5 18 6 (madeP r1 4 5 6) := madeP_pl r1 4 5 6 (by omega)
  have hq : Pl 5 18 6 (madeP r2 4 5 6) := madeP_pl r2 4 5 6 (by omega)
  have hl8 : (e8 l).length = 4 := by rw [show (e8 l).length = l.length from List.length_map ..]; exact hl
  have ht8 : (e8 l).take 4 = e8 l := List.take_of_length_le (by omega)
  generalize madeP r1 4 5 6 = p at *
  generalize madeP r2 4 5 6 = q at *
  generalize atV l = v at *
  obtain ⟨pq, lpq, ipq, cpq⟩ := mul_ex hp hq (by omega) (by omega) (by omega) (by omega) (by omega) (by omega)
  have hs := hp.add hq
  have ea := hp.evb hv
  have eb := hq.evb hv
  have es := hs.evb hv
  have epq := lpq.evb hv
  have k1 := ev_addP (ptv v) hp.l8 hq.l8
  have k2 := ev_prod v hp hq ipq
  rw [k1] at es
  rw [k2] at epq
  have k3 := ev_const v (ev (ptv v) p)
  have hc := cP_pl (a := ev (ptv v) p) (A := 10000) (by omega)
  have h32 : (eV v).length = 32 := by rw [eV_len, hv.len]
  have t32 : (eV v).take 32 = eV v := List.take_of_length_le (by omega)
  have d32 : (eV v).drop 32 = [] := List.drop_of_length_le (by omega)
  unfold ir6
  simp only [go_sem, sB, reduceCtorEq, sL, sA, sE, sN, hl8, ht8]
  refine callO_intro w13 ?_
  simp only [go_sem, sB, reduceCtorEq, sL, sA, sE, sN]
  refine callO_intro c1 ?_
  simp only [go_sem, sB, reduceCtorEq, sL, sA, sE, sN]
  refine callO_intro c2 ?_
  simp only [go_sem, sB, reduceCtorEq, sL, sA, sE, sN, hl8, ht8]
  refine callO_intro cl ?_
  simp only [go_sem, sB, reduceCtorEq, sL, sA, sE, sN, h32, t32, d32]
  refine callO_intro (w27 p false v hp hv (by omega) (by omega) (by omega) (by omega)) ?_
  simp only [go_sem, sB, reduceCtorEq, sL, sA, sE, sN, h32, t32, d32]
  refine callO_intro (w27 q false v hq hv (by omega) (by omega) (by omega) (by omega)) ?_
  simp only [go_sem, sB, reduceCtorEq, sL, sA, sE, sN, rW_C, rC_len, takeC, dropC]
  refine ⟨?_, ?_⟩
  all_goals (
    refine callO_intro (w28q (ev (ptv v) p) (by omega)) ?_
    simp only [go_sem, sB, reduceCtorEq, sL, sA, sE, sN, rW_C, rC_len, takeC, dropC]
    refine callO_intro (w28q (ev (ptv v) q) (by omega)) ?_
    simp only [go_sem, sB, reduceCtorEq, sL, sA, sE, sN, rW_C, rC_len, takeC, dropC, h32, t32]
    refine callO_intro (w30 p false v hp hv (by omega) (by omega) (by omega) (by omega)) ?_
    simp only [go_sem, sB, reduceCtorEq, sL, sA, sE, sN]
    refine callO_intro (q29 (ev (ptv v) p) _ (by omega)) ?_
    simp only [go_sem, sB, reduceCtorEq, sL, sA, sE, sN, decide_true]
    refine callO_intro (w20 p q false false (A := 18) hp.pb hq.pb (by omega) (by have := hp.ln; have := hq.ln; omega)) ?_
    simp only [go_sem, sB, reduceCtorEq, sL, sA, sE, sN, h32, t32]
    refine callO_intro (w27 (addP p q) false v hs hv (by omega) (by omega) (by omega) (by omega)) ?_
    rw [k1]
    simp only [go_sem, sB, reduceCtorEq, sL, sA, sE, sN, rW_C, rC_len, takeC, dropC]
    refine callO_intro (cpq false false) ?_
    simp only [go_sem, sB, reduceCtorEq, sL, sA, sE, sN]
    refine callO_intro (w17 false _) ?_
    simp only [go_sem, sB, reduceCtorEq, sL, sA, sE, sN, h32, t32]
    refine callO_intro (w27 pq false v lpq hv (by omega) (by omega) (by omega) (by omega)) ?_
    rw [k2]
    simp only [go_sem, sB, reduceCtorEq, sL, sA, sE, sN, rW_C, rC_len, takeC, dropC]
    refine callO_intro (q31 (ev (ptv v) p) (ev (ptv v) q) (by omega) (by omega)) ?_
    simp only [go_sem, sB, reduceCtorEq, sL, sA, sE, sN]
    refine callO_intro (q29 (ev (ptv v) p + ev (ptv v) q) _ (by omega)) ?_
    simp only [go_sem, sB, reduceCtorEq, sL, sA, sE, sN, decide_true, rW_C, rC_len, takeC, dropC]
    refine callO_intro (q32 (ev (ptv v) p) (ev (ptv v) q) (by omega) (by omega)) ?_
    simp only [go_sem, sB, reduceCtorEq, sL, sA, sE, sN]
    refine callO_intro (q29 (ev (ptv v) p * ev (ptv v) q) _ (by omega)) ?_
    simp only [go_sem, sB, reduceCtorEq, sL, sA, sE, sN, decide_true, rW_C, rC_len, takeC, dropC]
    refine callO_intro (w22 (ev (ptv v) p)) ?_
    simp only [go_sem, sB, reduceCtorEq, sL, sA, sE, sN, h32, t32]
    refine callO_intro (w27 _ false v hc hv (by omega) (by omega) (by omega) (by omega)) ?_
    rw [k3]
    simp only [go_sem, sB, reduceCtorEq, sL, sA, sE, sN, rW_C, rC_len, takeC, dropC]
    refine callO_intro (q29 (ev (ptv v) p) _ (by omega)) ?_
    simp only [go_sem, sB, reduceCtorEq, sL, sA, sE, sN, decide_true, rv6, fin_t]
    exact .refl _)
theorem law6 (Ds : List D) (h : ShAll [tyRaw, tyRaw, .ar 4 (.i .i8)] Ds) : FnR Go.Proofs.Tryz.prog 6 Ds [] (.b true) := by
  obtain ⟨d1, _, rfl, h1, d2, _, rfl, h2, d3, _, rfl, h3, rfl⟩ := h
  obtain ⟨r1, g1, rfl⟩ := shv_raw h1
  obtain ⟨r2, g2, rfl⟩ := shv_raw h2
  obtain ⟨ds, rfl, xs, hl, rfl, h4⟩ := h3
  obtain ⟨m, k1, k2, k3⟩ := sh_i8s h4
  rw [k2]
  exact w6 r1 r2 false false g1 g2 m (k1.trans hl) k3
end Go.Vm.G
namespace Go.Proofs.YtnjccbacinbhgaaGreat.polynomialValues
open Go.ChangeShapes Go.WideShapes Go.ChangeAt Go.RowKit
theorem own : ownKnob Tryz.prog.godebug = none := by kernel_rfl
theorem laidOut : laidOutB Tryz.prog = true := by kernel_rfl
set_option maxRecDepth 100000 in
theorem lifted (os : Os) (started : os.Started) (H : Type) (enc : TypeId × Value → H) :
    ReturnsInHanded {} Tryz.checked os 6 .any (Rows.polynomialValuesSpec.pre6 enc Tryz.prog Tryz.f6 Rows.polynomialValuesRow.domain false) (Rows.polynomialValuesSpec.post enc Tryz.prog Tryz.f6 false true false false) := by
  refine returnsInHanded_of_change (C := Tryz.checked) own started (by kernel_rfl) Tryz.func6
    (ChangeSpec.witness6 (enc := enc) (C := Tryz.checked) false ⟨#[], #[.agg #[.slice none 0 0], .agg #[.slice none 0 0], .agg #[.int .i8 0, .int .i8 0, .int .i8 0, .int .i8 0]], []⟩ 8 (by kernel_rfl) (by kernel_rfl) (by kernel_rfl) (by kernel_rfl)) ?_
  intro W base args ds gs before hval hW hcnd _
  exact Go.Vm.law_contract (k := 6) (fn := Tryz.f6) (tys := [Go.Vm.G.tyRaw, Go.Vm.G.tyRaw, .ar 4 (.i .i8)]) (tb := Tryz.f6.resultTypes[0]!) Go.Vm.G.law6 (by kernel_rfl) laidOut (by kernel_rfl) (by kernel_rfl) (by kernel_rfl) rfl
    (fun ds h => by
      match ds, h with
      | [_, _, _], _ => rfl) W base args ds gs before hval hW
theorem over : Rows.polynomialValuesRow.holds Tryz.pinned (OpenSpec.ofChange Rows.polynomialValuesSpec) :=
  OpenClaim.holds_of_wide 6 Tryz.f6 rfl rfl rfl rfl rfl rfl rfl ⟨rfl, rfl, rfl, rfl, rfl⟩ rfl rfl rfl rfl rfl (by kernel_rfl) Tryz.func6 (by kernel_rfl)
    (of_decide_eq_true (by kernel_rfl)) (by unfold Func.isWrapper; first | (rw [if_pos (by decide +kernel)]; kernel_rfl) | (rw [if_neg (by decide +kernel)]; exact ⟨rfl, rfl⟩))
    (fun os started H enc _ => lifted os started H enc)
theorem proved : Rows.PolynomialValuesSaid := over
end Go.Proofs.YtnjccbacinbhgaaGreat.polynomialValues
#print axioms Go.Proofs.YtnjccbacinbhgaaGreat.polynomialValues.proved

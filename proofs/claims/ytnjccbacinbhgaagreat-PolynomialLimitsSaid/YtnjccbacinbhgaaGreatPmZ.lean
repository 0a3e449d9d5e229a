/- Exponents above 65535 are refused, and powers beyond 64 (PolynomialLimits), for every input. -/
import Derived.Test.YtnjccbacinbhgaaGreatPmS0
import Derived.Test.YtnjccbacinbhgaaGreatPmR0
import Derived.Test.YtnjccbacinbhgaaGreatRows
set_option linter.unusedSimpArgs false
set_option linter.unusedVariables false
namespace Go.Vm.G
open Go Go.Vm
abbrev tyRaw : Ty := .st [.sl (.ar 5 (.i .i8))]
theorem sh_i8s {xs : List (List D)} (h : ∀ x ∈ xs, Sh (.i .i8) x) : ∃ m : List Int, m.length = xs.length ∧ xs.flatten = e8 m ∧ ∀ x ∈ m, -128 ≤ x ∧ x ≤ 127 := by
  induction xs with
  | nil => exact ⟨[], rfl, rfl, by simp⟩
  | cons x xs ih =>
    obtain ⟨m, h1, h2, h3⟩ := ih (fun y hy => h y (by simp [hy]))
    obtain ⟨n, rfl, h4, h5⟩ := h x (by simp)
    have h4 : (-128 : Int) ≤ n := h4
    have h5 : n ≤ 127 := h5
    exact ⟨n :: m, by simp [h1], by rw [List.flatten_cons, h2]; rfl, fun x hx => (List.mem_cons.1 hx).elim (fun e => e ▸ ⟨h4, h5⟩) (h3 x)⟩
theorem sh_rows {es : List (List D)} (h : ∀ x ∈ es, Sh (.ar 5 (.i .i8)) x) : ∃ rows : List (List Int), (∀ r ∈ rows, R5 r) ∧ es = rows.map e8 := by
  induction es with
  | nil => exact ⟨[], by simp, rfl⟩
  | cons x es ih =>
    obtain ⟨rows, h1, h2⟩ := ih (fun y hy => h y (by simp [hy]))
    obtain ⟨xs, hl, rfl, h3⟩ := h x (by simp)
    obtain ⟨m, h4, h5, h6⟩ := sh_i8s h3
    exact ⟨m :: rows, fun r hr => (List.mem_cons.1 hr).elim (fun e => e ▸ ⟨by omega, h6⟩) (h1 r), by rw [h2, h5]; rfl⟩
theorem shv_raw {d : D} (h : ShV tyRaw d) : ∃ rows : List (List Int), (∀ r ∈ rows, R5 r) ∧ d = .a [.sl 5 false (rows.map e8)] := by
  obtain ⟨ds, rfl, a, b, rfl, ⟨es, rfl, h1⟩, rfl⟩ := h
  obtain ⟨rows, h2, rfl⟩ := sh_rows h1
  exact ⟨rows, h2, rfl⟩
open Nat renaming reduceBEq → sB, reduceLeDiff → sL, reduceAdd → sA
open Int renaming reduceEq → sE, reduceNe → sN
theorem fillT4 (q : Rat) (l m : List D) (hl : l.length = 8) (hm : m.length = 8) : fillS (rC q ++ l) 4 8 (some m) = some (rC q ++ m) := by
  rw [fillS_s _ _ _ _ hm (by rw [List.length_append, rC_len]; omega)]
  unfold splice
  rw [List.take_left' (by rw [rC_len]), List.drop_of_length_le (by rw [List.length_append, rC_len]; omega), List.append_nil]
def mm (x y : Int) : List Int := [65535 - x, 0, 0, 65535 - y, 0, 0, 0, 0]
def m65 (x : Int) : List Int := [x, 0, 0, 0, 0, 0, 0, 0]
theorem capX : Cap 1 1 1 1 64 := ⟨by decide, by decide, by decide, by decide +kernel, by decide +kernel, by decide +kernel, by decide +kernel⟩
theorem one_pl' {m : List Int} (h8 : m.length = 8) {e : Nat} (hx : ∀ x ∈ m, 0 ≤ x ∧ x ≤ (e : Int)) : Pl e 1 1 [(m, (1 : Rat))] := by
  refine ⟨⟨fun u hu => ?_, fun u hu => ?_, by simp⟩, fun u hu => ?_, fun u hu => ?_, by simp⟩
  all_goals (rw [List.mem_singleton] at hu; subst hu)
  · exact h8
  · exact (by decide : (1 : Rat) ≠ 0)
  · exact hx
  · exact LQ_1
theorem big_pl {m : List Int} (h8 : m.length = 8) {e : Nat} (hx : ∀ x ∈ m, 0 ≤ x ∧ x ≤ (e : Int)) : Pl e 1 1 [(m, (1 : Rat))] := one_pl' h8 hx
theorem w11 (r1 : List (List Int)) (f1 : Bool) (h1 : ∀ r ∈ r1, R5 r) (a b : Int) (ha : 0 ≤ a ∧ a ≤ 255) (hb : 0 ≤ b ∧ b ≤ 255) (n : Int) (hn1 : -9223372036854775808 ≤ n) (hn2 : n ≤ 9223372036854775807) :
    FnR Go.Proofs.Tryz.prog 11 [.a [.sl 5 f1 (r1.map e8)], .a [.i .u8 a, .i .u8 b], .i .i64 n] [] (.b true) := by
  refine fnr11 (by simp) rfl (by simp) List.nodup_nil fun F out hS => ?_
  have c1 := w16 r1 f1 h1
  have c2 := w33 r1 f1 h1 1 1 2 (by omega) (by omega) (by omega)
  have hp : Pl 5 18 6 (madeP r1 4 5 6) := madeP_pl r1 4 5 6 (by omega)
  obtain ⟨su, si, sc, sl⟩ := made_1 r1
  generalize madeP r1 4 5 6 = p at *
  generalize madeP r1 1 1 2 = s at *
  have x0 : ∀ (k : Key) (z o : Nat), ixaO 2 1 (.p k z o) (.i .i64 0) = some (.p k z o) := fun k z o => ixaO_p 2 1 k z o 0 .i64 (by omega)
  have x1 : ∀ (k : Key) (z o : Nat), ixaO 2 1 (.p k z o) (.i .i64 1) = some (.p k z (o + 1)) := fun k z o => ixaO_p 2 1 k z o 1 .i64 (by omega)
  have ra := e_rem .u8 a 8 (by omega)
  have rb := e_rem .u8 b 8 (by omega)
  have a1 := Int.tmod_lt_of_pos a (show (0 : Int) < 8 by omega)
  have a2 := Int.tmod_nonneg (8 : Int) ha.1
  have b1 := Int.tmod_lt_of_pos b (show (0 : Int) < 8 by omega)
  have b2 := Int.tmod_nonneg (8 : Int) hb.1
  generalize Int.tmod a 8 = x at *
  generalize Int.tmod b 8 = y at *
  have wx : IntKind.wrap .i64 x = x := IntWalk.i64_in _ (by omega)
  have wy : IntKind.wrap .i64 y = y := IntWalk.i64_in _ (by omega)
  have wx2 : IntKind.wrap .i64 (65535 - x) = 65535 - x := IntWalk.i64_in _ (by omega)
  have wy2 : IntKind.wrap .i64 (65535 - y) = 65535 - y := IntWalk.i64_in _ (by omega)
  have hme : [D.i .i64 (65535 - x), .i .i64 0, .i .i64 0, .i .i64 (65535 - y), .i .i64 0, .i .i64 0, .i .i64 0, .i .i64 0] = eM (mm x y) := rfl
  have hm8 : (mm x y).length = 8 := rfl
  have hmx : ∀ z ∈ mm x y, 0 ≤ z ∧ z ≤ ((65535 : Nat) : Int) := by
    intro z hz
    simp only [mm, List.mem_cons, List.not_mem_nil, or_false] at hz
    omega
  have hbig := big_pl hm8 hmx
  have hko : (mm x y).all okE = true := hbig.pm (by omega) _ (List.mem_singleton.2 rfl)
  have eB' : rC 1 ++ eM (mm x y) = eT (mm x y, 1) := rfl
  have l12 : (eT (mm x y, (1 : Rat))).length = 12 := eT_len (t := (mm x y, (1 : Rat))) hm8
  have e1r : ((1 : Int) : Rat) = 1 := rfl
  have k42 := w42 1 (mm x y) p false (A := 18) hm8 hko hp.pb (hp.pm (by omega)) (by have := LQ_1; omega) (by omega) (by have := hp.ln; omega)
  have k52 := w52 1 (mm x y) p false (A := 18) hm8 hko hp.pb (hp.pm (by omega)) (by have := LQ_1; omega) (by omega) (by have := hp.ln; omega)
  have ft := fillT4 1 [D.i .i64 0, .i .i64 0, .i .i64 0, .i .i64 0, .i .i64 0, .i .i64 0, .i .i64 0, .i .i64 0] (eM (mm x y)) rfl (len8 hm8)
  unfold ir11
  simp only [go_sem, sB, reduceCtorEq, sL, sA, sE, sN]
  refine callO_intro w13 ?_
  simp only [go_sem, sB, reduceCtorEq, sL, sA, sE, sN]
  refine callO_intro c1 ?_
  simp only [go_sem, sB, reduceCtorEq, sL, sA, sE, sN, x0, x1, ra, rb, wx, wy, wx2, wy2, hme, len8 hm8, take8 hm8]
  refine callO_intro (q23 1 (by omega) (by omega)) ?_
  rw [e1r]
  simp only [go_sem, sB, reduceCtorEq, sL, sA, sE, sN, rW_C, rC_len, takeC, dropC, bM hm8]
  refine callO_intro k42 ?_
  simp only [go_sem, sB, reduceCtorEq, sL, sA, sE, sN, rW_C, rC_len, takeC, dropC, bM hm8]
  refine callO_intro k52 ?_
  simp only [go_sem, sB, reduceCtorEq, sL, sA, sE, sN, rW_C, rC_len, takeC, dropC, bM hm8, ft, eB', l12]
  -- the values of the two products
  have hT1 : timP 1 (mm x y) p = if fitP (mm x y) p then (mulT 1 (mm x y) p, 0) else ([], 2) := if_neg (by decide)
  have hprod : ∃ u : List Tm, ∃ z : Int, timP 1 (mm x y) p = (u, z) ∧ (z == z) = true ∧ PB 20 u ∧ u.length ≤ 6 ∧ FnR Go.Proofs.Tryz.prog 18 [eP false p, eP true [(mm x y, (1 : Rat))]] [] (.t [eP false u, .i .i64 z]) := by
    cases hf : fitP (mm x y) p with
    | true =>
      rw [hf, if_pos rfl] at hT1
      have hT := tim_ev (c := 1) hf
      have hcan := tim_can (c := 1) (by decide) hm8 hp.can
      rw [hT1] at hT hcan
      have hPB := PB_tim (A := 18) (B := 1) (c := 1) hm8 hp.pb LQ_1
      rw [hT1] at hPB
      obtain ⟨r, cr, ir, fr⟩ := mul_fit (A := 18) (n1 := 6) (n2 := 1) hp.can hbig.can hp.pb (hp.pm (by omega)) (hbig.pb.mono (by omega)) (hbig.pm (by omega)) hp.ln hbig.ln (by omega) (by omega) (by omega) (by omega) (by omega) (fun t ht u hu => by
        rw [List.mem_singleton] at hu
        subst hu
        rw [mMul_comm]
        exact List.all_eq_true.1 hf t ht)
      have er : r = mulT 1 (mm x y) p := can_eq cr hcan fun f => by
        rw [ir f, (hT f).1, Rat.one_mul]
        refine ev_congr fun t _ => ?_
        simp only [ev]
        rw [Rat.one_mul, Rat.add_zero, mMul_comm]
      rw [er] at fr
      exact ⟨_, _, hT1, rfl, hPB.mono (by omega), by simp only [mulT, List.length_map]; exact hp.ln, fr false true⟩
    | false =>
      rw [hf, if_neg (by simp)] at hT1
      have hbad : ∃ t ∈ p, (mMul t.1 (mm x y)).all okE = false := by
        unfold fitP at hf
        obtain ⟨t, ht, h2⟩ := List.all_eq_false.1 hf
        exact ⟨t, ht, by rw [mMul_comm]; simpa using h2⟩
      have hw := w18x p [(mm x y, (1 : Rat))] false true (A := 18) hp.pb (hp.pm (by omega)) (hbig.pb.mono (by omega)) (hbig.pm (by omega)) (by have := hp.ln; omega) (by simp) (by omega) (by have := hp.ln; have : p.length * 37 ≤ 6 * 37 := Nat.mul_le_mul_right _ hp.ln; simp only [List.length_cons, List.length_nil]; omega) (mulOut_bad p [] hbad)
      exact ⟨_, _, hT1, rfl, .nil _, by simp, hw⟩
  obtain ⟨u, z, hT2, hzz, hPBu, hlu, k18⟩ := hprod
  rw [hT2]
  have hzn : (z != z) = false := by simp
  refine callO_intro k18 ?_
  simp only [go_sem, sB, reduceCtorEq, sL, sA, sE, sN]
  refine callO_intro c2 ?_
  -- the powers
  have hpow : ∃ v : List Tm, ∃ w : Int, ∃ fw : Bool, (decide (n < 0) = true ∨ decide (n > 64) = true → w = 1) ∧ (decide (n < 0) = false ∧ decide (n > 64) = false → w = 0) ∧ PB 8 v ∧ v.length ≤ 65 ∧ FnR Go.Proofs.Tryz.prog 53 [eP false s, .i .i64 n] [] (.t [eP fw v, .i .i64 w]) ∧ FnR Go.Proofs.Tryz.prog 54 [eP false s, .i .i64 n] [] (.t [eP fw v, .i .i64 w]) := by
    by_cases hn : n < 0 ∨ 64 < n
    · refine ⟨[], 1, true, fun _ => rfl, fun h => ?_, .nil _, by simp, w53x s false n hn, w54x s false n hn⟩
      have h3 := of_decide_eq_false h.1
      have h4 := of_decide_eq_false h.2
      omega
    · obtain ⟨k, rfl⟩ : ∃ k : Nat, n = (k : Int) := ⟨n.toNat, by omega⟩
      have hk : k ≤ 64 := by omega
      have hq : Pl 1 8 2 s := ⟨sc, uv_ex su, fun t ht => isI_lq (si t ht) (by decide), sl⟩
      have hpl := fun j (hj : j ≤ 64) => pow_1pl sc su si sl hj
      have hw := hpl k hk
      refine ⟨powP s k, 0, false, fun h => ?_, fun _ => rfl, hw.pb, hw.ln, w53 s false k hk fun j hj f => ?_, w54 s false k hk fun j hj f => ?_⟩
      · rcases h with h | h
        · have := of_decide_eq_true h; omega
        · have := of_decide_eq_true h; omega
      · exact (mul_c (M := 8) (hpl j (by omega)) hq (by omega) (by omega) (by omega) (by omega) (by omega) (by omega) (by omega) (by omega)).2.2 f false
      · exact mul_r (M := 8) (hpl j (by omega)) hq (by omega) (by omega) (by omega) (by omega) (by omega) f false
  obtain ⟨v, w, fw, hw1, hw0, hPBv, hlv, k53, k54⟩ := hpow
  have hwn : (w != w) = false := by simp
  have sv : FnR Go.Proofs.Tryz.prog 19 [eP fw v, eP fw v] [] (.b true) := same_tt fw fw hPBv (by omega) (by omega)
  have sU := same_tt false false hPBu (by omega) (by omega)
  -- the last three
  have hid : ∀ f, FnR Go.Proofs.Tryz.prog 18 [eP f (cP 1), eP true [(mm x y, (1 : Rat))]] [] (.t [eP false [(mm x y, (1 : Rat))], .i .i64 0]) := by
    intro f
    have h := mul_c (M := 1) (cP_pl (A := 1) LQ_1) hbig (by omega) (by omega) (by omega) (by omega) (by omega) (by omega) (by omega) (by omega)
    have e : prodP (cP 1) [(mm x y, (1 : Rat))] = [(mm x y, (1 : Rat))] := prodP_eq hbig.can fun f => by
      show _ = ev (Mq [(mm x y, (1 : Rat))] f) (cP 1)
      rw [ev_cP, Rat.one_mul, mq_at0 hbig.nn]
    rw [e] at h
    exact h.2.2 f true
  have hbb : ∀ f, FnR Go.Proofs.Tryz.prog 18 [eP f [(mm x y, (1 : Rat))], eP true [(mm x y, (1 : Rat))]] [] (.t [eP false [], .i .i64 2]) := by
    intro f
    refine w18x _ _ f true (A := 1) hbig.pb (hbig.pm (by omega)) hbig.pb (hbig.pm (by omega)) (by simp) (by simp) (by omega) (by simp) (mulOut_bad _ [] ⟨_, List.mem_singleton.2 rfl, ?_⟩)
    cases hh : (mMul (mm x y) (mm x y)).all okE with
    | false => rfl
    | true =>
      have h3 := List.all_eq_true.1 hh ((65535 - x) + (65535 - x)) (by simp [mMul, mm])
      simp only [okE, decide_eq_true_eq] at h3
      omega
  have k53b := w53b _ true hid hbb
  have p65 : ∀ j : Nat, j ≤ 65535 → Pl j 1 1 [(m65 (j : Int), (1 : Rat))] := fun j hj => big_pl rfl (by
    intro z hz
    simp only [m65, List.mem_cons, List.not_mem_nil, or_false] at hz
    omega)
  have hQ0 : ∀ i, i < 8 → Pl 1 1 1 ((putL []).getD i []) := fun i hi => by
    rw [putL_getD [] hi]
    have : putQ [] i = xP i := by unfold putQ; split <;> rfl
    rw [this]
    exact xP_pl hi
  have c0 := w44 [] true (by simp)
  have k45x := w45x [(m65 65, (1 : Rat))] true (putL []) (putL_len []) (p65 65 (by omega)).pb ((p65 65 (by omega)).pm (by omega)) (by simp) (by decide)
  have k45 := (subst_c capX (putL_len []) hQ0 (p65 64 (by omega)) (by omega) (by omega) (by
    intro t ht
    rw [List.mem_singleton] at ht
    subst ht
    decide) (by omega) (by omega) (by decide +kernel) (by decide +kernel)).2.2 true
  have f65 := fun j => fillT4 1 [D.i .i64 0, .i .i64 0, .i .i64 0, .i .i64 0, .i .i64 0, .i .i64 0, .i .i64 0, .i .i64 0] [.i .i64 j, .i .i64 0, .i .i64 0, .i .i64 0, .i .i64 0, .i .i64 0, .i .i64 0, .i .i64 0] rfl rfl
  have e65 : ∀ j : Int, rC 1 ++ [.i .i64 j, .i .i64 0, .i .i64 0, .i .i64 0, .i .i64 0, .i .i64 0, .i .i64 0, .i .i64 0] = eT (m65 j, 1) := fun j => rfl
  have l65 : ∀ j : Int, (eT (m65 j, (1 : Rat))).length = 12 := fun j => eT_len (t := (m65 j, (1 : Rat))) rfl
  simp only [go_sem, sB, reduceCtorEq, sL, sA, sE, sN]
  refine callO_intro k53 ?_
  simp only [go_sem, sB, reduceCtorEq, sL, sA, sE, sN]
  refine callO_intro k54 ?_
  simp only [go_sem, sB, reduceCtorEq, sL, sA, sE, sN, hzn]
  refine callO_intro sU ?_
  simp only [go_sem, sB, reduceCtorEq, sL, sA, sE, sN, hzn]
  refine callO_intro sU ?_
  simp only [go_sem, sB, reduceCtorEq, sL, sA, sE, sN, hwn]
  refine callO_intro sv ?_
  have fin : decide (n < 0) = true ∧ w = 1 ∨ decide (n < 0) = false ∧ (decide (n > 64) = true ∧ w = 1 ∨ decide (n > 64) = false ∧ w = 0) := by
    cases e1 : decide (n < 0) with
    | true => exact .inl ⟨rfl, hw1 (.inl e1)⟩
    | false =>
      cases e2 : decide (n > 64) with
      | true => exact .inr ⟨rfl, .inl ⟨rfl, hw1 (.inr e2)⟩⟩
      | false => exact .inr ⟨rfl, .inr ⟨rfl, hw0 ⟨e1, e2⟩⟩⟩
  rcases fin with ⟨g1, rfl⟩ | ⟨g1, ⟨g2, rfl⟩ | ⟨g2, rfl⟩⟩
  all_goals (
    first
    | simp only [go_sem, sB, reduceCtorEq, sL, sA, sE, sN, g1, g2, show ((1 : Int) == 1) = true from rfl, show ((0 : Int) == 1) = false from rfl, show (true == true) = true from rfl, show (false == false) = true from rfl]
    | simp only [go_sem, sB, reduceCtorEq, sL, sA, sE, sN, g1, show ((1 : Int) == 1) = true from rfl, show ((0 : Int) == 1) = false from rfl, show (true == true) = true from rfl, show (false == false) = true from rfl]
    refine callO_intro k53b ?_
    simp only [go_sem, sB, reduceCtorEq, sL, sA, sE, sN, rW_C, rC_len, takeC, dropC, f65 65, e65 65, l65]
    refine callO_intro c0 ?_
    simp only [go_sem, sB, reduceCtorEq, sL, sA, sE, sN]
    refine callO_intro k45x ?_
    simp only [go_sem, sB, reduceCtorEq, sL, sA, sE, sN, rW_C, rC_len, takeC, dropC, f65 64, e65 64, l65]
    refine callO_intro c0 ?_
    simp only [go_sem, sB, reduceCtorEq, sL, sA, sE, sN]
    refine callO_intro k45 ?_
    simp only [go_sem, sB, reduceCtorEq, sL, sA, sE, sN, eP, eP_len, show ((2 : Int) == 2) = true from rfl, show (((0 : Nat) : Int) == 0) = true from rfl, show ((0 : Int) == 0) = true from rfl, rv11, fin_t]
    exact .refl _)
theorem law11 (Ds : List D) (h : ShAll [tyRaw, .ar 2 (.i .u8), .i .i64] Ds) : FnR Go.Proofs.Tryz.prog 11 Ds [] (.b true) := by
  obtain ⟨d1, _, rfl, h1, d2, _, rfl, h2, d3, _, rfl, h3, rfl⟩ := h
  obtain ⟨r1, g1, rfl⟩ := shv_raw h1
  obtain ⟨n, e, h4, h5⟩ := h3
  injection e with e
  subst e
  obtain ⟨ds, rfl, xs, hl, rfl, h6⟩ := h2
  match xs, hl, h6 with
  | [u, v], _, h6 =>
    obtain ⟨a, e1, a1, a2⟩ := h6 u (by simp)
    obtain ⟨b, e2, b1, b2⟩ := h6 v (by simp)
    subst e1 e2
    exact w11 r1 false g1 a b ⟨a1, a2⟩ ⟨b1, b2⟩ n h4 h5
end Go.Vm.G
namespace Go.Proofs.YtnjccbacinbhgaaGreat.polynomialLimits
open Go.ChangeShapes Go.WideShapes Go.ChangeAt Go.RowKit
theorem own : ownKnob Tryz.prog.godebug = none := by kernel_rfl
theorem laidOut : laidOutB Tryz.prog = true := by kernel_rfl
set_option maxRecDepth 100000 in
theorem lifted (os : Os) (started : os.Started) (H : Type) (enc : TypeId × Value → H) :
    ReturnsInHanded {} Tryz.checked os 11 .any (Rows.polynomialLimitsSpec.pre6 enc Tryz.prog Tryz.f11 Rows.polynomialLimitsRow.domain false) (Rows.polynomialLimitsSpec.post enc Tryz.prog Tryz.f11 false true false false) := by
  refine returnsInHanded_of_change (C := Tryz.checked) own started (by kernel_rfl) Tryz.func11
    (ChangeSpec.witness6 (enc := enc) (C := Tryz.checked) false ⟨#[], #[.agg #[.slice none 0 0], .agg #[.int .u8 0, .int .u8 0], .int .i64 0], []⟩ 8 (by kernel_rfl) (by kernel_rfl) (by kernel_rfl) (by kernel_rfl)) ?_
  intro W base args ds gs before hval hW hcnd _
  exact Go.Vm.law_contract (k := 11) (fn := Tryz.f11) (tys := [Go.Vm.G.tyRaw, .ar 2 (.i .u8), .i .i64]) (tb := Tryz.f11.resultTypes[0]!) Go.Vm.G.law11 (by kernel_rfl) laidOut (by kernel_rfl) (by kernel_rfl) (by kernel_rfl) rfl
    (fun ds h => by
      match ds, h with
      | [_, _, _], _ => rfl) W base args ds gs before hval hW
theorem over : Rows.polynomialLimitsRow.holds Tryz.pinned (OpenSpec.ofChange Rows.polynomialLimitsSpec) :=
  OpenClaim.holds_of_wide 11 Tryz.f11 rfl rfl rfl rfl rfl rfl rfl ⟨rfl, rfl, rfl, rfl, rfl⟩ rfl rfl rfl rfl rfl (by kernel_rfl) Tryz.func11 (by kernel_rfl)
    (of_decide_eq_true (by kernel_rfl)) (by unfold Func.isWrapper; first | (rw [if_pos (by decide +kernel)]; kernel_rfl) | (rw [if_neg (by decide +kernel)]; exact ⟨rfl, rfl⟩))
    (fun os started H enc _ => lifted os started H enc)
theorem proved : Rows.PolynomialLimitsSaid := over
end Go.Proofs.YtnjccbacinbhgaaGreat.polynomialLimits
#print axioms Go.Proofs.YtnjccbacinbhgaaGreat.polynomialLimits.proved

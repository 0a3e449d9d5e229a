/- All functions return the results of the reference (PolynomialMatchesReference), for every input. -/
import Derived.Test.YtnjccbacinbhgaaGreatPnS0
import Derived.Test.YtnjccbacinbhgaaGreatPnR0
import Derived.Test.YtnjccbacinbhgaaGreatRows
set_option linter.unusedSimpArgs false
set_option linter.unusedVariables false
namespace Go.Vm.G
open Go Go.Vm
abbrev tyRaw : Ty := .st [.sl (.ar 5 (.i .i8))]
theorem sh_i8s {xs : List (List D)} (h : ∀ x ∈ xs, Sh (.i .i8) x) : ∃ m : List Int, m.length = xs.length ∧ xs.flatten = e8 m ∧ ∀ x ∈ m, -128 ≤ x ∧ x ≤ 127 := by
  induction xs with
  | nil => exact ⟨[], rfl, rfl, by simp⟩
  | cons x xs ih =>
    obtain ⟨m, h1, h2, h3⟩ := ih (fun y hy => h y (by simp [hy]))
    obtain ⟨n, rfl, h4, h5⟩ := h x (by simp)
    have h4 : (-128 : Int) ≤ n := h4
    have h5 : n ≤ 127 := h5
    exact ⟨n :: m, by simp [h1], by rw [List.flatten_cons, h2]; rfl, fun x hx => (List.mem_cons.1 hx).elim (fun e => e ▸ ⟨h4, h5⟩) (h3 x)⟩
theorem sh_rows {es : List (List D)} (h : ∀ x ∈ es, Sh (.ar 5 (.i .i8)) x) : ∃ rows : List (List Int), (∀ r ∈ rows, R5 r) ∧ es = rows.map e8 := by
  induction es with
  | nil => exact ⟨[], by simp, rfl⟩
  | cons x es ih =>
    obtain ⟨rows, h1, h2⟩ := ih (fun y hy => h y (by simp [hy]))
    obtain ⟨xs, hl, rfl, h3⟩ := h x (by simp)
    obtain ⟨m, h4, h5, h6⟩ := sh_i8s h3
    exact ⟨m :: rows, fun r hr => (List.mem_cons.1 hr).elim (fun e => e ▸ ⟨by omega, h6⟩) (h1 r), by rw [h2, h5]; rfl⟩
theorem shv_raw {d : D} (h : ShV tyRaw d) : ∃ rows : List (List Int), (∀ r ∈ rows, R5 r) ∧ d = .a [.sl 5 false (rows.map e8)] := by
  obtain ⟨ds, rfl, a, b, rfl, ⟨es, rfl, h1⟩, rfl⟩ := h
  obtain ⟨rows, h2, rfl⟩ := sh_rows h1
  exact ⟨rows, h2, rfl⟩
open Nat renaming reduceBEq → sB, reduceLeDiff → sL, reduceAdd → sA
open Int renaming reduceEq → sE, reduceNe → sN
theorem cap6 : Cap 3 9 3 1 6 := ⟨by decide, by decide, by decide, by decide +kernel, by decide +kernel, by decide +kernel, by decide +kernel⟩
theorem dif_sub {p q : List Tm} (hp : Can p) (hq : Can q) (kq : PM q) : difP p q = subR p q := by
  have hf := fit_0 q hq.len kq
  have hc : Can (timP (-1) m0 q).1 := tim_can (by decide) rfl hq
  refine can_eq (can_dif hp hq) (can_add hp hc) fun f => ?_
  show _ = ev f (addP p (timP (-1) m0 q).1)
  rw [ev_difP f hp.len hq.len, ev_addP f hp.len hc.len, (tim_ev (c := -1) hf f).1, Rat.sub_eq_add_neg, Rat.neg_mul, Rat.one_mul]
  congr 2
  exact ev_congr fun t ht => by rw [mMul_0 _ (hq.len t ht)]
def m12 (k : Int) : List Int := [3, 0, if 0 > k then 0 else k, 0, 0, 0, 0, 1]
theorem same_x {p q : List Tm} (hp : L8 p) (hq : L8 q) : (decide (p = q) = (cmpP p q == 0)) := by
  by_cases h : p = q
  · subst h; rw [cmpP_self]; simp
  · rw [decide_eq_false h, beq_eq_false_iff_ne.2 (fun e => h (cmpP_eq hp hq e))]
theorem w12 (r1 r2 : List (List Int)) (f1 f2 : Bool) (h1 : ∀ r ∈ r1, R5 r) (h2 : ∀ r ∈ r2, R5 r) (a b c d : Int) (ha : -128 ≤ a ∧ a ≤ 127) (hb : -128 ≤ b ∧ b ≤ 127) (hc : -128 ≤ c ∧ c ≤ 127) :
    FnR Go.Proofs.Tryz.prog 12 [.a [.sl 5 f1 (r1.map e8)], .a [.sl 5 f2 (r2.map e8)], .a [.i .i8 a, .i .i8 b, .i .i8 c, .i .i8 d]] [] (.b true) := by
  refine fnr12 (by simp) rfl (by simp) List.nodup_nil fun F out hS => ?_
  have c1 := w16 r1 f1 h1
  have c2 := w16 r2 f2 h2
  have c3 := w33 r1 f1 h1 2 3 3 (by omega) (by omega) (by omega)
  have hp : Pl 5 18 6 (madeP r1 4 5 6) := madeP_pl r1 4 5 6 (by omega)
  have hq : Pl 5 18 6 (madeP r2 4 5 6) := madeP_pl r2 4 5 6 (by omega)
  have hs : Pl 3 9 3 (madeP r1 2 3 3) := madeP_pl r1 2 3 3 (by omega)
  generalize madeP r1 4 5 6 = p at *
  generalize madeP r2 4 5 6 = q at *
  generalize madeP r1 2 3 3 = s at *
  have lp := hp.ln
  have lq := hq.ln
  have ls := hs.ln
  have kp := hp.pm (by omega)
  have kq := hq.pm (by omega)
  have x0 : ∀ (k : Key) (z o : Nat), ixaO 4 1 (.p k z o) (.i .i64 0) = some (.p k z o) := fun k z o => ixaO_p 4 1 k z o 0 .i64 (by omega)
  have x1 : ∀ (k : Key) (z o : Nat), ixaO 4 1 (.p k z o) (.i .i64 1) = some (.p k z (o + 1)) := fun k z o => ixaO_p 4 1 k z o 1 .i64 (by omega)
  have x2 : ∀ (k : Key) (z o : Nat), ixaO 4 1 (.p k z o) (.i .i64 2) = some (.p k z (o + 2)) := fun k z o => ixaO_p 4 1 k z o 2 .i64 (by omega)
  have x3 : ∀ (k : Key) (z o : Nat), ixaO 4 1 (.p k z o) (.i .i64 3) = some (.p k z (o + 3)) := fun k z o => ixaO_p 4 1 k z o 3 .i64 (by omega)
  have wa : IntKind.wrap .i64 a = a := IntWalk.i64_in _ (by omega)
  have wb : IntKind.wrap .i64 b = b := IntWalk.i64_in _ (by omega)
  have wc : IntKind.wrap .i64 c = c := IntWalk.i64_in _ (by omega)
  have rb := e_rem .i64 b 7 (by omega)
  have b1 : -6 ≤ Int.tmod b 7 ∧ Int.tmod b 7 ≤ 6 := by
    have h := Int.natAbs_tmod b 7
    have h2 : b.natAbs % (7 : Int).natAbs < 7 := Nat.mod_lt _ (by decide)
    omega
  generalize Int.tmod b 7 = k at *
  have wd : IntKind.wrap .u8 d = d % 256 := IntKind.wrap_u8' d
  obtain ⟨o, fo, ho, hlo, k36⟩ := w36 (d % 256) (by omega) (by omega)
  have wk : IntKind.wrap .i64 k = k := IntWalk.i64_in _ (by omega)
  have hmx : ∀ z ∈ m12 k, 0 ≤ z ∧ z ≤ ((6 : Nat) : Int) := by
    intro z hz
    have : 0 ≤ (if 0 > k then 0 else k) ∧ (if 0 > k then 0 else k) ≤ 6 := by split <;> omega
    simp only [m12, List.mem_cons, List.not_mem_nil, or_false] at hz
    omega
  have hm8 : (m12 k).length = 8 := rfl
  have hko : (m12 k).all okE = true := List.all_eq_true.2 fun z hz => by have := hmx z hz; simp only [okE, decide_eq_true_eq]; omega
  have hme : [D.i .i64 3, .i .i64 0, .i .i64 (if 0 > k then 0 else k), .i .i64 0, .i .i64 0, .i .i64 0, .i .i64 0, .i .i64 1] = eM (m12 k) := rfl
  have hcl : LQ (c : Rat) ≤ 1 := LQ_int (by omega)
  have c42 := w42 (c : Rat) (m12 k) p false (A := 18) hm8 hko hp.pb kp (by omega) (by omega) (by omega)
  have c52 := w52 (c : Rat) (m12 k) p false (A := 18) hm8 hko hp.pb kp (by omega) (by omega) (by omega)
  have pbT := PB_tim (A := 18) (B := 1) (c := (c : Rat)) (m := m12 k) hm8 hp.pb hcl
  have lT := tim_length (c : Rat) (m12 k) p
  generalize timP (c : Rat) (m12 k) p = T at *
  obtain ⟨T1, T2⟩ := T
  simp only at c42 c52 pbT lT
  -- the product
  obtain ⟨plM, _, c18⟩ := mul_c (M := 18) hp hq (by omega) (by omega) (by omega) (by omega) (by omega) (by omega) (by omega) (by omega)
  have c47 := w47 p q false false (A := 18) hp.pb hq.pb kp kq (by have : (p.length + 1) * (2 * 18 + 1) ≤ 7 * 37 := Nat.mul_le_mul_right _ (by omega); omega) (by have : (p.length + 1) * q.length ≤ 7 * 6 := Nat.mul_le_mul (by omega) lq; omega)
  rw [mulP_eq hp hq (by omega)] at c47
  have sM := same_tt false false plM.pb (by omega) (by have := plM.ln; omega)
  -- the powers
  have hpow : ∃ v : List Tm, ∃ w : Int, ∃ fw : Bool, PB 20000 v ∧ v.length ≤ 729 ∧ FnR Go.Proofs.Tryz.prog 53 [eP false s, .i .i64 k] [] (.t [eP fw v, .i .i64 w]) ∧ FnR Go.Proofs.Tryz.prog 54 [eP false s, .i .i64 k] [] (.t [eP fw v, .i .i64 w]) := by
    by_cases hn : k < 0
    · exact ⟨[], 1, true, .nil _, by simp, w53x s false k (.inl hn), w54x s false k (.inl hn)⟩
    · obtain ⟨n, rfl⟩ : ∃ n : Nat, k = (n : Int) := ⟨k.toNat, by omega⟩
      have hpl := fun j (hj : j ≤ 6) => (pow_c cap6 hs j hj).1
      have hsz : sz 3 9 1 6 = 13105 := by decide +kernel
      have hw := hpl n (by omega)
      have hz : ∀ j, j ≤ 6 → sz 3 9 1 j ≤ 13105 := fun j hj => by rw [← hsz]; exact sz_mono (by omega) hj
      have h3 : ∀ j, j ≤ 6 → 3 ^ j ≤ 729 := fun j hj => Nat.pow_le_pow_right (n := 3) (show 0 < 3 by omega) hj
      refine ⟨powP s n, 0, false, hw.pb.mono (by have := hz n (by omega); omega), Nat.le_trans hw.ln (h3 n (by omega)), w53 s false n (by omega) fun j hj f => ?_, w54 s false n (by omega) fun j hj f => ?_⟩
      · exact (stepQ cap6 (Nat.le_refl _) (by omega) (hpl j (by omega)) hs (by rw [hsz]; exact hz j (by omega))).2.2 f false
      · have g1 := h3 j (by omega)
        have g2 := hz j (by omega)
        exact mul_r (M := 13105) (hpl j (by omega)) hs (by omega) g2 (by omega) (by have : (3 ^ j + 1) * (2 * 13105 + 1) ≤ 730 * (2 * 13105 + 1) := Nat.mul_le_mul_right _ (by omega); omega) (by omega) f false
  obtain ⟨v, w, fw, pbv, lv, c53, c54⟩ := hpow
  have sv := same_tt fw fw pbv (by omega) (by omega)
  -- the derivatives
  have hder : ∃ v : List Tm, ∃ w : Int, ∃ fw : Bool, PB 200 v ∧ v.length ≤ 6 ∧ FnR Go.Proofs.Tryz.prog 24 [eP false p, .i .i64 a] [] (.t [eP fw v, .i .i64 w]) ∧ FnR Go.Proofs.Tryz.prog 55 [eP false p, .i .i64 a] [] (.t [eP fw v, .i .i64 w]) := by
    by_cases hn : a < 0 ∨ 8 ≤ a
    · exact ⟨[], 1, true, .nil _, by simp, w24x false p a hn, w55x false p a hn⟩
    · obtain ⟨n, rfl⟩ : ∃ n : Nat, a = (n : Int) := ⟨a.toNat, by omega⟩
      obtain ⟨r, plr, evr, fr⟩ := par_ex hp (by omega) (by omega) (by omega) (by omega) n (by omega)
      exact ⟨r, 0, false, plr.pb.mono (by omega), plr.ln, fr false, w55 false hp (by omega) (by omega) (by omega) (by omega) n (by omega) plr.can evr⟩
  obtain ⟨u, y, fu, pbu, lu, c24, c55⟩ := hder
  have su := same_tt fu fu pbu (by omega) (by omega)
  have sT := same_tt false false pbT (by omega) (by omega)
  -- sums
  have c20 := w20 p q false false (A := 18) hp.pb hq.pb (by omega) (by omega)
  have c56 := w56 p q false false (A := 18) hp.pb hq.pb (by omega) (by omega)
  have pla := hp.add hq
  have sa := same_tt false false pla.pb (by omega) (by have := pla.ln; omega)
  have c21 := w21 p q false false (A := 18) hp.pb hq.pb (by omega) (by omega)
  have c57 := w57 p q false false (A := 18) hp.pb hq.pb kq (by omega) (by omega)
  rw [← dif_sub hp.can hq.can kq] at c57
  have cd := can_dif hp.can hq.can
  have pbd : PB 37 (difP p q) := ⟨cd.len, dif_lq hp.pb hq.pb⟩
  have lnd : (difP p q).length ≤ p.length + q.length := mrg_length _ _ _ p q
  have sd := same_tt false false pbd (by omega) (by omega)
  -- orders
  have c35 := w35 p q false false (A := 18) hp.pb hq.pb (by omega) (by omega) (by omega)
  have c19 := w19 p q false false (A := 18) hp.pb hq.pb (by omega) (by omega)
  rw [same_x hp.l8 hq.l8] at c19
  have c34 := w34 p q false false (A := 18) hp.pb hq.pb (by omega) (by omega) (by omega)
  have c58 := w58 p q false false (A := 18) hp.pb hq.pb (by omega) (by omega) (by omega)
  have hmon : FnR Go.Proofs.Tryz.prog 59 [eP false p, .sl 8 fo (o.map eM)] [] (.b true) ∧ ∃ v : List Tm, ∃ fw : Bool, PB 40 v ∧ v.length ≤ 6 ∧ FnR Go.Proofs.Tryz.prog 37 [eP false p, .sl 8 fo (o.map eM)] [] (eP fw v) ∧ FnR Go.Proofs.Tryz.prog 60 [eP false p, .sl 8 fo (o.map eM)] [] (eP fw v) := by
    match p, hp, kp, lp with
    | [], _, _, _ => exact ⟨w59_0 o fo false, [], true, .nil _, by simp, w37_0 o fo false, w60_0 o fo false⟩
    | t :: p, hp, kp, lp =>
      refine ⟨w59 o t p fo false hp.pb kp ho (by omega) (by omega) (by omega), _, false, ?_, ?_, w37 o t p fo false hp.pb kp ho (by omega) (by omega) (by omega) hp.can.nz, w60 o t p fo false hp.pb kp ho (by omega) (by omega) (by omega) hp.can.nz⟩
      · have hlead := (lead_top o p t hp.pb.len).mem
        have hi := LQ_inv (leadP o t p).2
        have hl := hp.lq _ hlead
        have hx := PB_tim (A := 18) (B := 18) (c := (leadP o t p).2⁻¹) (m := m0) rfl hp.pb (by omega)
        have hne := hp.can.nz _ hlead
        have hi0 : (leadP o t p).2⁻¹ ≠ 0 := fun e => hne (by have := Rat.inv_inv (leadP o t p).2; rw [e, Rat.inv_zero] at this; exact this.symm)
        unfold timP at hx
        rw [if_neg hi0, if_pos (fit_0 _ hp.l8 kp)] at hx
        exact hx.mono (by omega)
      · simp only [mulT, List.length_map]; exact lp
  obtain ⟨c59, n, fn, pbn, ln, c37, c60⟩ := hmon
  have sn := same_tt fn fn pbn (by omega) (by omega)
  have c40 := w40 p false hp.pb kp (by omega)
  have c61 := w61 p false hp.pb kp (by omega)
  have c43 := w43 p false hp.pb (by omega)
  have c62 := w62 p false hp.pb (by omega)
  have c22 := w22 (c : Rat)
  have c63 := w63 (c : Rat)
  have plc := cP_pl hcl
  have sc := same_tt false false plc.pb (by omega) (by have := plc.ln; omega)
  have nz0 : ((0 : Int) != 0) = false := rfl
  have nw : (w != w) = false := by simp
  have ny : (y != y) = false := by simp
  have nT : (T2 != T2) = false := by simp
  have be : ((cmpP p q == 0) == (cmpP p q == 0)) = true := by simp
  have e1 : (cmpP p q == cmpP p q) = true := by simp
  have e2 : (degP (-1) p == degP (-1) p) = true := by simp
  have e3 : (((usesP p 0 : Nat) : Int) == ((usesP p 0 : Nat) : Int)) = true := by simp
  unfold ir12
  simp only [go_sem, sB, reduceCtorEq, sL, sA, sE, sN]
  refine callO_intro w13 ?_
  simp only [go_sem, sB, reduceCtorEq, sL, sA, sE, sN]
  refine callO_intro c1 ?_
  simp only [go_sem, sB, reduceCtorEq, sL, sA, sE, sN]
  refine callO_intro c2 ?_
  simp only [go_sem, sB, reduceCtorEq, sL, sA, sE, sN, x0, x1, wa, wb, rb, wk, hme, len8 hm8, take8 hm8, x2, wc]
  refine callO_intro (q23 c (by omega) (by omega)) ?_
  simp only [go_sem, sB, reduceCtorEq, sL, sA, sE, sN, rW_C, rC_len, takeC, dropC]
  refine callO_intro (c18 false false) ?_
  simp only [go_sem, sB, reduceCtorEq, sL, sA, sE, sN]
  refine callO_intro c3 ?_
  simp only [go_sem, sB, reduceCtorEq, sL, sA, sE, sN]
  refine callO_intro c53 ?_
  simp only [go_sem, sB, reduceCtorEq, sL, sA, sE, sN]
  refine callO_intro c3 ?_
  simp only [go_sem, sB, reduceCtorEq, sL, sA, sE, sN]
  refine callO_intro c54 ?_
  simp only [go_sem, sB, reduceCtorEq, sL, sA, sE, sN]
  refine callO_intro c24 ?_
  simp only [go_sem, sB, reduceCtorEq, sL, sA, sE, sN]
  refine callO_intro c55 ?_
  simp only [go_sem, sB, reduceCtorEq, sL, sA, sE, sN, rW_C, rC_len, takeC, dropC, bM hm8]
  refine callO_intro c42 ?_
  simp only [go_sem, sB, reduceCtorEq, sL, sA, sE, sN, rW_C, rC_len, takeC, dropC, bM hm8]
  refine callO_intro c52 ?_
  simp only [go_sem, sB, reduceCtorEq, sL, sA, sE, sN, nz0]
  refine callO_intro c47 ?_
  simp only [go_sem, sB, reduceCtorEq, sL, sA, sE, sN]
  refine callO_intro sM ?_
  simp only [go_sem, sB, reduceCtorEq, sL, sA, sE, sN, nw]
  refine callO_intro sv ?_
  simp only [go_sem, sB, reduceCtorEq, sL, sA, sE, sN, ny]
  refine callO_intro su ?_
  simp only [go_sem, sB, reduceCtorEq, sL, sA, sE, sN, nT]
  refine callO_intro sT ?_
  simp only [go_sem, sB, reduceCtorEq, sL, sA, sE, sN, x3, wd]
  refine callO_intro k36 ?_
  simp only [go_sem, sB, reduceCtorEq, sL, sA, sE, sN]
  refine callO_intro c20 ?_
  simp only [go_sem, sB, reduceCtorEq, sL, sA, sE, sN]
  refine callO_intro c56 ?_
  simp only [go_sem, sB, reduceCtorEq, sL, sA, sE, sN]
  refine callO_intro sa ?_
  simp only [go_sem, sB, reduceCtorEq, sL, sA, sE, sN]
  refine callO_intro c21 ?_
  simp only [go_sem, sB, reduceCtorEq, sL, sA, sE, sN]
  refine callO_intro c57 ?_
  simp only [go_sem, sB, reduceCtorEq, sL, sA, sE, sN]
  refine callO_intro sd ?_
  simp only [go_sem, sB, reduceCtorEq, sL, sA, sE, sN]
  refine callO_intro c35 ?_
  simp only [go_sem, sB, reduceCtorEq, sL, sA, sE, sN]
  refine callO_intro c19 ?_
  simp only [go_sem, sB, reduceCtorEq, sL, sA, sE, sN, be]
  refine callO_intro c34 ?_
  simp only [go_sem, sB, reduceCtorEq, sL, sA, sE, sN]
  refine callO_intro c58 ?_
  simp only [go_sem, sB, reduceCtorEq, sL, sA, sE, sN, e1]
  refine callO_intro c59 ?_
  simp only [go_sem, sB, reduceCtorEq, sL, sA, sE, sN]
  refine callO_intro c37 ?_
  simp only [go_sem, sB, reduceCtorEq, sL, sA, sE, sN]
  refine callO_intro c60 ?_
  simp only [go_sem, sB, reduceCtorEq, sL, sA, sE, sN]
  refine callO_intro sn ?_
  simp only [go_sem, sB, reduceCtorEq, sL, sA, sE, sN]
  refine callO_intro c40 ?_
  simp only [go_sem, sB, reduceCtorEq, sL, sA, sE, sN]
  refine callO_intro c61 ?_
  simp only [go_sem, sB, reduceCtorEq, sL, sA, sE, sN, e2]
  refine callO_intro c43 ?_
  simp only [go_sem, sB, reduceCtorEq, sL, sA, sE, sN]
  refine callO_intro c62 ?_
  simp only [go_sem, sB, reduceCtorEq, sL, sA, sE, sN, e3, rW_C, rC_len, takeC, dropC]
  refine callO_intro c22 ?_
  simp only [go_sem, sB, reduceCtorEq, sL, sA, sE, sN, rW_C, rC_len, takeC, dropC]
  refine callO_intro c63 ?_
  simp only [go_sem, sB, reduceCtorEq, sL, sA, sE, sN]
  refine callO_intro sc ?_
  simp only [go_sem, sB, reduceCtorEq, sL, sA, sE, sN, rv12, fin_t]
  exact .refl _
theorem law12 (Ds : List D) (h : ShAll [tyRaw, tyRaw, .ar 4 (.i .i8)] Ds) : FnR Go.Proofs.Tryz.prog 12 Ds [] (.b true) := by
  obtain ⟨d1, _, rfl, h1, d2, _, rfl, h2, d3, _, rfl, h3, rfl⟩ := h
  obtain ⟨r1, g1, rfl⟩ := shv_raw h1
  obtain ⟨r2, g2, rfl⟩ := shv_raw h2
  obtain ⟨ds, rfl, xs, hl, rfl, h6⟩ := h3
  match xs, hl, h6 with
  | [x, y, z, t], _, h6 =>
    obtain ⟨a, ea, a1, a2⟩ := h6 x (by simp)
    obtain ⟨b, eb, b1, b2⟩ := h6 y (by simp)
    obtain ⟨c, ec, c1, c2⟩ := h6 z (by simp)
    obtain ⟨d, ed, d1, d2⟩ := h6 t (by simp)
    subst ea eb ec ed
    exact w12 r1 r2 false false g1 g2 a b c d ⟨a1, a2⟩ ⟨b1, b2⟩ ⟨c1, c2⟩
end Go.Vm.G
namespace Go.Proofs.YtnjccbacinbhgaaGreat.polynomialMatchesReference
open Go.ChangeShapes Go.WideShapes Go.ChangeAt Go.RowKit
theorem own : ownKnob Tryz.prog.godebug = none := by kernel_rfl
theorem laidOut : laidOutB Tryz.prog = true := by kernel_rfl
set_option maxRecDepth 100000 in
theorem lifted (os : Os) (started : os.Started) (H : Type) (enc : TypeId × Value → H) :
    ReturnsInHanded {} Tryz.checked os 12 .any (Rows.polynomialMatchesReferenceSpec.pre6 enc Tryz.prog Tryz.f12 Rows.polynomialMatchesReferenceRow.domain false) (Rows.polynomialMatchesReferenceSpec.post enc Tryz.prog Tryz.f12 false true false false) := by
  refine returnsInHanded_of_change (C := Tryz.checked) own started (by kernel_rfl) Tryz.func12
    (ChangeSpec.witness6 (enc := enc) (C := Tryz.checked) false ⟨#[], #[.agg #[.slice none 0 0], .agg #[.slice none 0 0], .agg #[.int .i8 0, .int .i8 0, .int .i8 0, .int .i8 0]], []⟩ 8 (by kernel_rfl) (by kernel_rfl) (by kernel_rfl) (by kernel_rfl)) ?_
  intro W base args ds gs before hval hW hcnd _
  exact Go.Vm.law_contract (k := 12) (fn := Tryz.f12) (tys := [Go.Vm.G.tyRaw, Go.Vm.G.tyRaw, .ar 4 (.i .i8)]) (tb := Tryz.f12.resultTypes[0]!) Go.Vm.G.law12 (by kernel_rfl) laidOut (by kernel_rfl) (by kernel_rfl) (by kernel_rfl) rfl
    (fun ds h => by
      match ds, h with
      | [_, _, _], _ => rfl) W base args ds gs before hval hW
theorem over : Rows.polynomialMatchesReferenceRow.holds Tryz.pinned (OpenSpec.ofChange Rows.polynomialMatchesReferenceSpec) :=
  OpenClaim.holds_of_wide 12 Tryz.f12 rfl rfl rfl rfl rfl rfl rfl ⟨rfl, rfl, rfl, rfl, rfl⟩ rfl rfl rfl rfl rfl (by kernel_rfl) Tryz.func12 (by kernel_rfl)
    (of_decide_eq_true (by kernel_rfl)) (by unfold Func.isWrapper; first | (rw [if_pos (by decide +kernel)]; kernel_rfl) | (rw [if_neg (by decide +kernel)]; exact ⟨rfl, rfl⟩))
    (fun os started H enc _ => lifted os started H enc)
theorem proved : Rows.PolynomialMatchesReferenceSaid := over
end Go.Proofs.YtnjccbacinbhgaaGreat.polynomialMatchesReference
#print axioms Go.Proofs.YtnjccbacinbhgaaGreat.polynomialMatchesReference.proved

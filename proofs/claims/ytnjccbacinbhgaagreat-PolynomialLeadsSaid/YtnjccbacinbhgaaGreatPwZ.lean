/- The leading term of a product is the product of the leading terms (PolynomialLeads), for every input. -/
import Derived.Test.YtnjccbacinbhgaaGreatPwS0
import Derived.Test.YtnjccbacinbhgaaGreatPwR0
import Derived.Test.YtnjccbacinbhgaaGreatRows
set_option linter.unusedSimpArgs false
set_option linter.unusedVariables false
namespace Go.Vm.G
open Go Go.Vm
abbrev tyRaw : Ty := .st [.sl (.ar 5 (.i .i8))]
theorem sh_i8s {xs : List (List D)} (h : ∀ x ∈ xs, Sh (.i .i8) x) : ∃ m : List Int, m.length = xs.length ∧ xs.flatten = e8 m ∧ ∀ x ∈ m, -128 ≤ x ∧ x ≤ 127 := by
  induction xs with
  | nil => exact ⟨[], rfl, rfl, by simp⟩
  | cons x xs ih =>
    obtain ⟨m, h1, h2, h3⟩ := ih (fun y hy => h y (by simp [hy]))
    obtain ⟨n, rfl, h4, h5⟩ := h x (by simp)
    have h4 : (-128 : Int) ≤ n := h4
    have h5 : n ≤ 127 := h5
    exact ⟨n :: m, by simp [h1], by rw [List.flatten_cons, h2]; rfl, fun x hx => (List.mem_cons.1 hx).elim (fun e => e ▸ ⟨h4, h5⟩) (h3 x)⟩
theorem sh_rows {es : List (List D)} (h : ∀ x ∈ es, Sh (.ar 5 (.i .i8)) x) : ∃ rows : List (List Int), (∀ r ∈ rows, R5 r) ∧ es = rows.map e8 := by
  induction es with
  | nil => exact ⟨[], by simp, rfl⟩
  | cons x es ih =>
    obtain ⟨rows, h1, h2⟩ := ih (fun y hy => h y (by simp [hy]))
    obtain ⟨xs, hl, rfl, h3⟩ := h x (by simp)
    obtain ⟨m, h4, h5, h6⟩ := sh_i8s h3
    exact ⟨m :: rows, fun r hr => (List.mem_cons.1 hr).elim (fun e => e ▸ ⟨by omega, h6⟩) (h1 r), by rw [h2, h5]; rfl⟩
theorem shv_raw {d : D} (h : ShV tyRaw d) : ∃ rows : List (List Int), (∀ r ∈ rows, R5 r) ∧ d = .a [.sl 5 false (rows.map e8)] := by
  obtain ⟨ds, rfl, a, b, rfl, ⟨es, rfl, h1⟩, rfl⟩ := h
  obtain ⟨rows, h2, rfl⟩ := sh_rows h1
  exact ⟨rows, h2, rfl⟩
open Nat renaming reduceBEq → sB, reduceLeDiff → sL, reduceAdd → sA
open Int renaming reduceEq → sE, reduceNe → sN
def scl (c : Rat) (p : List Tm) : List Tm := p.map fun t => (t.1, c * t.2)
theorem mulT_scl (c : Rat) : ∀ (p : List Tm), L8 p → mulT c m0 p = scl c p
  | [], _ => rfl
  | t :: p, h => by
    have := mulT_scl c p (fun u hu => h u (by simp [hu]))
    unfold mulT scl at this ⊢
    rw [List.map_cons, List.map_cons, this, mMul_0 _ (h t (by simp))]
theorem lead_scl (o : List (List Int)) (c : Rat) : ∀ (p : List Tm) (t : Tm), leadP o (t.1, c * t.2) (scl c p) = ((leadP o t p).1, c * (leadP o t p).2)
  | [], t => rfl
  | u :: p, t => by
    have e : scl c (u :: p) = (u.1, c * u.2) :: scl c p := rfl
    rw [e]
    simp only [leadP]
    by_cases h : 0 < ordC o u.1 t.1
    · rw [if_pos h, if_pos h]; exact lead_scl o c p u
    · rw [if_neg h, if_neg h]; exact lead_scl o c p t
theorem scl_pl {e A n B : Nat} {p : List Tm} {c : Rat} (hp : Pl e A n p) (hc : c ≠ 0) (hB : LQ c ≤ B) : Pl e (B + A) n (scl c p) := by
  refine ⟨⟨fun t ht => ?_, fun t ht => ?_, ?_⟩, fun t ht => ?_, fun t ht => ?_, by unfold scl; rw [List.length_map]; exact hp.ln⟩
  · obtain ⟨u, hu, rfl⟩ := List.mem_map.1 ht
    exact hp.l8 u hu
  · obtain ⟨u, hu, rfl⟩ := List.mem_map.1 ht
    exact fun h => (Rat.mul_eq_zero.1 h).elim hc (hp.can.nz u hu)
  · exact List.pairwise_map.2 hp.can.st
  · obtain ⟨u, hu, rfl⟩ := List.mem_map.1 ht
    exact hp.ex u hu
  · obtain ⟨u, hu, rfl⟩ := List.mem_map.1 ht
    have := LQ_mul c u.2
    have := hp.lq u hu
    show LQ (c * u.2) ≤ _
    omega
theorem scl_scl (c d : Rat) (p : List Tm) (h : c * d = 1) : scl c (scl d p) = p := by
  unfold scl
  rw [List.map_map]
  conv => rhs; rw [← List.map_id p]
  refine List.map_congr_left fun t _ => ?_
  show (t.1, c * (d * t.2)) = t
  rw [← Rat.mul_assoc, h, Rat.one_mul]
theorem sum_mono {p q : List Tm} {t : Tm} (ht : t ∈ addP p q) : (∃ u ∈ p, u.1 = t.1) ∨ ∃ u ∈ q, u.1 = t.1 :=
  mrg_all (P := fun t => (∃ u ∈ p, u.1 = t.1) ∨ ∃ u ∈ q, u.1 = t.1) (fun t h => h) (fun t u h _ => h) _ p q (fun t ht => .inl ⟨t, ht, rfl⟩) (fun t ht => .inr ⟨t, ht, rfl⟩) t ht
theorem sum_nn {e A n : Nat} {p : List Tm} (hp : Pl e A n p) : ∀ t ∈ p, 0 ≤ t.1.sum := by
  intro t ht
  have h := hp.ex t ht
  generalize t.1 = m at h
  induction m with
  | nil => simp
  | cons x m ih =>
    have h1 := h x (by simp)
    have h2 := ih (fun y hy => h y (by simp [hy]))
    rw [List.sum_cons]; omega
theorem ex_ok {e A n : Nat} {p : List Tm} (hp : Pl e A n p) (he : e ≤ 65535) {t : Tm} (ht : t ∈ p) : t.1.all okE = true := hp.pm he t ht
theorem deg_bd {e A n : Nat} {p : List Tm} (hp : Pl e A n p) (he : e ≤ 65535) : -1 ≤ degP (-1) p ∧ degP (-1) p ≤ 8 * 65535 := by
  obtain ⟨h1, h2, h3⟩ := degP_max p (-1)
  refine ⟨h1, ?_⟩
  rcases h3 with h3 | ⟨t, ht, e'⟩
  · omega
  · rw [← e']
    have h8 := hp.l8 t ht
    have hx := hp.ex t ht
    have key : ∀ (m : List Int), (∀ x ∈ m, 0 ≤ x ∧ x ≤ (e : Int)) → m.sum ≤ m.length * 65535 := by
      intro m
      induction m with
      | nil => simp
      | cons x m ih =>
        intro h
        have h4 := h x (by simp)
        have h5 := ih (fun y hy => h y (by simp [hy]))
        rw [List.sum_cons, List.length_cons]; omega
    have := key t.1 hx
    rw [h8] at this
    omega
theorem w8 (r1 r2 : List (List Int)) (f1 f2 : Bool) (h1 : ∀ r ∈ r1, R5 r) (h2 : ∀ r ∈ r2, R5 r) (n : Int) (hn0 : 0 ≤ n) (hn1 : n ≤ 255) :
    FnR Go.Proofs.Tryz.prog 8 [.a [.sl 5 f1 (r1.map e8)], .a [.sl 5 f2 (r2.map e8)], .i .u8 n] [] (.b true) := by
  refine fnr8 (by simp) rfl (by simp) List.nodup_nil fun F out hS => ?_
  have c1 := w16 r1 f1 h1
  have c2 := w16 r2 f2 h2
  have hp : Pl 5 18 6 (madeP r1 4 5 6) := madeP_pl r1 4 5 6 (by omega)
  have hq : Pl 5 18 6 (madeP r2 4 5 6) := madeP_pl r2 4 5 6 (by omega)
  obtain ⟨o, fo, ho, hlo, co⟩ := w36 n hn0 hn1
  generalize madeP r1 4 5 6 = p at *
  generalize madeP r2 4 5 6 = q at *
  obtain ⟨pq, lpq, ipq, cpq⟩ := mul_ex hp hq (by omega) (by omega) (by omega) (by omega) (by omega) (by omega)
  have npq := prod_nil hp.can hq.can lpq.can ipq
  unfold ir8
  simp only [go_sem, sB, reduceCtorEq, sL, sA, sE, sN]
  refine callO_intro w13 ?_
  simp only [go_sem, sB, reduceCtorEq, sL, sA, sE, sN]
  refine callO_intro c1 ?_
  simp only [go_sem, sB, reduceCtorEq, sL, sA, sE, sN]
  refine callO_intro c2 ?_
  simp only [go_sem, sB, reduceCtorEq, sL, sA, sE, sN]
  refine callO_intro co ?_
  cases p with
  | nil =>
    simp only [go_sem, sB, reduceCtorEq, sL, sA, sE, sN, eP, eP_len, show (((0 : Nat) : Int) == 0) = true from rfl]
    refine callO_intro (w37_0 o fo true) ?_
    simp only [go_sem, sB, reduceCtorEq, sL, sA, sE, sN, show (((0 : Nat) : Int) == 0) = true from rfl, rv8, fin_t]
    exact .refl _
  | cons t p =>
  cases q with
  | nil =>
    simp only [go_sem, sB, reduceCtorEq, sL, sA, sE, sN, eP, eP_len, show (((p.length + 1 : Nat) : Int) == 0) = false from by rw [beq_eq_false_iff_ne]; omega, show (((0 : Nat) : Int) == 0) = true from rfl]
    refine callO_intro (w37_0 o fo true) ?_
    simp only [go_sem, sB, reduceCtorEq, sL, sA, sE, sN, show (((0 : Nat) : Int) == 0) = true from rfl, rv8, fin_t]
    exact .refl _
  | cons u q =>
  cases pq with
  | nil => exact absurd (npq.1 rfl) (by simp)
  | cons c r =>
  have ta := lead_top o p t hp.l8
  have tb := lead_top o q u hq.l8
  have tc := lead_top o r c lpq.l8
  have el := lead_prod hp.can hq.can lpq.can ipq ta tb tc
  have k1 := w38 o t p fo false hp.pb (hp.pm (by omega)) ho (by omega) (by have := hp.ln; omega)
  have k2 := w38 o u q fo false hq.pb (hq.pm (by omega)) ho (by omega) (by have := hq.ln; omega)
  have k3 := w38 o c r fo false lpq.pb (lpq.pm (by omega)) ho (by omega) (by have := lpq.ln; omega)
  rw [el] at k3
  have km := w37 o t p fo false hp.pb (hp.pm (by omega)) ho (by omega) (by have := hp.ln; omega) (by omega) hp.can.nz
  rw [mulT_scl _ _ hp.l8] at km
  have ls := fun c => lead_scl o c p t
  generalize leadP o t p = a at *
  generalize leadP o u q = b at *
  have la := hp.l8 a ta.mem
  have lb := hq.l8 b tb.mem
  have lab := mMul_len la lb
  have oa := ex_ok hp (by omega) ta.mem
  have ob := ex_ok hq (by omega) tb.mem
  have oab : (mMul a.1 b.1).all okE = true := by
    have := ex_ok lpq (by omega) tc.mem
    rw [el] at this
    exact this
  have qa := hp.lq a ta.mem
  have qb := hq.lq b tb.mem
  have qab := LQ_mul a.2 b.2
  have na : a.2 ≠ 0 := hp.can.nz a ta.mem
  have k4 := w39 a.1 b.1 la lb oa ob
  rw [if_pos oab] at k4
  have bt : ∀ (t : Tm) (z : Nat), t.1.length = 8 → boxC (some (z, .box (eT t))) z 4 8 = some (eM t.1) := fun t z h => by rw [boxC_s _ _ _ _ (by rw [eT_len h]; decide), dropT, take8 h]
  have bt' : ∀ (t : Tm) (z : Nat), t.1.length = 8 → boxC (some (z, .box (eT t))) z 0 4 = some (rC t.2) := fun t z h => by rw [boxC_s _ _ _ _ (by rw [eT_len h]; decide), List.drop_zero, takeT4]
  have da := deg_bd hp (by omega)
  have db := deg_bd hq (by omega)
  have dd := deg_prod hp.can hq.can lpq.can ipq (sum_nn hp) (sum_nn hq) (sum_nn lpq) (by simp) (by simp) (by simp)
  have hz : ∀ (l : List Tm) (t : Tm), ((((t :: l).length : Nat) : Int) == 0) = false := fun l t => by rw [beq_eq_false_iff_ne, List.length_cons]; omega
  have l12a := eT_len la
  have l12b := eT_len lb
  have l12c : (eT (mMul a.1 b.1, a.2 * b.2)).length = 12 := eT_len (t := (mMul a.1 b.1, a.2 * b.2)) lab
  have t12c : (eT (mMul a.1 b.1, a.2 * b.2)).take 12 = eT (mMul a.1 b.1, a.2 * b.2) := takeT (t := (mMul a.1 b.1, a.2 * b.2)) lab
  have btc := fun z => bt (mMul a.1 b.1, a.2 * b.2) z lab
  have btc' := fun z => bt' (mMul a.1 b.1, a.2 * b.2) z lab
  simp only [go_sem, sB, reduceCtorEq, sL, sA, sE, sN, eP, eP_len, List.map_cons, hz, show (((p.length + 1 : Nat) : Int) == 0) = false from by rw [beq_eq_false_iff_ne]; omega, show (((q.length + 1 : Nat) : Int) == 0) = false from by rw [beq_eq_false_iff_ne]; omega]
  refine callO_intro k1 ?_
  simp only [go_sem, sB, reduceCtorEq, sL, sA, sE, sN, l12a, takeT la]
  refine callO_intro k2 ?_
  simp only [go_sem, sB, reduceCtorEq, sL, sA, sE, sN, l12b, takeT lb]
  refine callO_intro (cpq false false) ?_
  simp only [go_sem, sB, reduceCtorEq, sL, sA, sE, sN]
  refine callO_intro (w17 false _) ?_
  simp only [go_sem, sB, reduceCtorEq, sL, sA, sE, sN]
  refine callO_intro k3 ?_
  simp only [go_sem, sB, reduceCtorEq, sL, sA, sE, sN, l12c, t12c, bt a _ la, bt b _ lb]
  refine callO_intro k4 ?_
  have wdeg : IntKind.wrap .i64 (degP (-1) (t :: p) + degP (-1) (u :: q)) = degP (-1) (t :: p) + degP (-1) (u :: q) := IntWalk.i64_in _ (by omega)
  simp only [go_sem, sB, reduceCtorEq, sL, sA, sE, sN, z8, len80, drop80, len8 lab, take8 lab, show ((0 : Int) != 0) = false from rfl, btc, btc', bt' a _ la, bt' b _ lb, bM lab, eqMt lab lab, decide_true]
  refine callO_intro (q32 a.2 b.2 (by omega) (by omega)) ?_
  simp only [go_sem, sB, reduceCtorEq, sL, sA, sE, sN]
  refine callO_intro (q29 (a.2 * b.2) _ (by omega)) ?_
  simp only [go_sem, sB, reduceCtorEq, sL, sA, sE, sN, decide_true]
  refine callO_intro (w40 (c :: r) false lpq.pb (lpq.pm (by omega)) (by have := lpq.ln; omega)) ?_
  simp only [go_sem, sB, reduceCtorEq, sL, sA, sE, sN]
  refine callO_intro (w40 (t :: p) false hp.pb (hp.pm (by omega)) (by have := hp.ln; omega)) ?_
  simp only [go_sem, sB, reduceCtorEq, sL, sA, sE, sN]
  refine callO_intro (w40 (u :: q) false hq.pb (hq.pm (by omega)) (by have := hq.ln; omega)) ?_
  rw [dd]
  simp only [go_sem, sB, reduceCtorEq, sL, sA, sE, sN, wdeg, bne_self_eq_false]
  refine callO_intro (w20 (t :: p) (u :: q) false false (A := 18) hp.pb hq.pb (by omega) (by have := hp.ln; have := hq.ln; omega)) ?_
  have hs := hp.add hq
  have hsm : ∀ d ∈ addP (t :: p) (u :: q), ordG o d.1 a.1 ≤ 0 ∨ ordG o d.1 b.1 ≤ 0 := by
    intro d hd
    rcases sum_mono hd with ⟨v, hv, e⟩ | ⟨v, hv, e⟩
    · refine .inl ?_
      have := ta.top v hv
      rw [og_anti o a.1, ← e]; omega
    · refine .inr ?_
      have := tb.top v hv
      rw [og_anti o b.1, ← e]; omega
  have hmon := scl_pl hp (show a.2⁻¹ ≠ 0 from fun e => na (by have := Rat.inv_inv a.2; rw [e, Rat.inv_zero] at this; exact this.symm)) (Nat.le_trans (LQ_inv a.2) qa)
  have hmon1 := scl_scl a.2 a.2⁻¹ (t :: p) (Rat.mul_inv_cancel _ na)
  have hinv : a.2⁻¹ * a.2 = 1 := Rat.inv_mul_cancel _ na
  have hmd : scl a.2⁻¹ (t :: p) = (t.1, a.2⁻¹ * t.2) :: scl a.2⁻¹ p := rfl
  have kt := w42 a.2 m0 (scl a.2⁻¹ (t :: p)) false (A := 36) rfl (by decide) hmon.pb (hmon.pm (by omega)) (by omega) (by omega) (by have := hmon.ln; omega)
  have ke : timP a.2 m0 (scl a.2⁻¹ (t :: p)) = (t :: p, 0) := by
    unfold timP
    rw [if_neg na, if_pos (fit_0 _ hmon.l8 (hmon.pm (by omega))), mulT_scl _ _ hmon.l8, hmon1]
  rw [ke] at kt
  have kl := w38 o (t.1, a.2⁻¹ * t.2) (scl a.2⁻¹ p) fo false hmon.pb (hmon.pm (by omega)) ho (by omega) (by have := hmon.ln; rw [hmd] at this; omega)
  rw [ls, hinv, ← hmd] at kl
  have l12m : (eT (a.1, (1 : Rat))).length = 12 := eT_len (t := (a.1, (1 : Rat))) la
  have t12m : (eT (a.1, (1 : Rat))).take 12 = eT (a.1, (1 : Rat)) := takeT (t := (a.1, (1 : Rat))) la
  have btm := fun z => bt (a.1, (1 : Rat)) z la
  have btm' := fun z => bt' (a.1, (1 : Rat)) z la
  have kv := valid_tt false hmon (by omega) (by omega) (by omega)
  have e1r : ((1 : Int) : Rat) = 1 := rfl
  have ku := uses_prod hp hq lpq ipq (by simp) (by simp) (by simp)
  have kor := u8_or_nat (usesP (t :: p) 0) (usesP (u :: q) 0) (uses_lt _ _ hp.l8 (by omega)) (uses_lt _ _ hq.l8 (by omega))
  have l1 := LQ_1
  rcases hsum : addP (t :: p) (u :: q) with _ | ⟨d, s⟩
  · simp only [go_sem, sB, reduceCtorEq, sL, sA, sE, sN]
    refine callO_intro (w38_0 o fo false) ?_
    simp only [go_sem, sB, reduceCtorEq, sL, sA, sE, sN, eP, List.map_cons, z8, len80, drop80]
    refine callO_intro km ?_
    simp only [go_sem, sB, reduceCtorEq, sL, sA, sE, sN]
    refine callO_intro kl ?_
    simp only [go_sem, sB, reduceCtorEq, sL, sA, sE, sN, l12m, t12m, z8, len80, drop80]
    refine callO_intro kv ?_
    simp only [go_sem, sB, reduceCtorEq, sL, sA, sE, sN, btm, btm', bt a _ la, eqMf la la, decide_true]
    refine callO_intro (q23 1 (by omega) (by omega)) ?_
    rw [e1r]
    simp only [go_sem, sB, reduceCtorEq, sL, sA, sE, sN]
    refine callO_intro (q29 1 1 (by omega)) ?_
    simp only [go_sem, sB, reduceCtorEq, sL, sA, sE, sN, decide_true, bt' a _ la, z8]
    refine callO_intro kt ?_
    simp only [go_sem, sB, reduceCtorEq, sL, sA, sE, sN]
    refine callO_intro (w17 false _) ?_
    simp only [go_sem, sB, reduceCtorEq, sL, sA, sE, sN]
    refine callO_intro (same_tt false false hp.pb (by omega) (by have := hp.ln; omega)) ?_
    simp only [go_sem, sB, reduceCtorEq, sL, sA, sE, sN]
    refine callO_intro (w43 (c :: r) false lpq.pb (by have := lpq.ln; omega)) ?_
    simp only [go_sem, sB, reduceCtorEq, sL, sA, sE, sN]
    refine callO_intro (w43 (t :: p) false hp.pb (by have := hp.ln; omega)) ?_
    simp only [go_sem, sB, reduceCtorEq, sL, sA, sE, sN]
    refine callO_intro (w43 (u :: q) false hq.pb (by have := hq.ln; omega)) ?_
    simp only [go_sem, sB, reduceCtorEq, sL, sA, sE, sN, kor, ku, BEq.rfl, rv8, fin_t]
    exact .refl _
  · have hd := hsm d (by rw [hsum]; simp)
    have hsl : Pl 5 37 12 (d :: s) := hsum ▸ hs
    have td := lead_top o s d hsl.l8
    have kd := w38 o d s fo false hsl.pb (hsl.pm (by omega)) ho (by omega) (by have := hsl.ln; omega)
    have hm := hsm (leadP o d s) (by rw [hsum]; exact td.mem)
    generalize leadP o d s = g at *
    have lg := hsl.l8 g td.mem
    have og := ex_ok hsl (by omega) td.mem
    have k41a := w41 o fo g.1 a.1 lg la og oa ho (by omega)
    have k41b := w41 o fo g.1 b.1 lg lb og ob ho (by omega)
    simp only [go_sem, sB, reduceCtorEq, sL, sA, sE, sN]
    refine callO_intro kd ?_
    simp only [go_sem, sB, reduceCtorEq, sL, sA, sE, sN, eP, List.map_cons, z8, len80, drop80, eT_len lg, takeT lg, bt g _ lg, bt a _ la, bt b _ lb]
    refine callO_intro k41a ?_
    by_cases hA : ordG o g.1 a.1 > 0
    · have hB : ¬ ordG o g.1 b.1 > 0 := by omega
      simp only [go_sem, sB, reduceCtorEq, sL, sA, sE, sN, decide_eq_true hA, bt g _ lg, bt b _ lb]
      refine callO_intro k41b ?_
      simp only [go_sem, sB, reduceCtorEq, sL, sA, sE, sN, decide_eq_false hB, eP, List.map_cons]
      refine callO_intro km ?_
      simp only [go_sem, sB, reduceCtorEq, sL, sA, sE, sN]
      refine callO_intro kl ?_
      simp only [go_sem, sB, reduceCtorEq, sL, sA, sE, sN, l12m, t12m, z8, len80, drop80]
      refine callO_intro kv ?_
      simp only [go_sem, sB, reduceCtorEq, sL, sA, sE, sN, btm, btm', bt a _ la, eqMf la la, decide_true]
      refine callO_intro (q23 1 (by omega) (by omega)) ?_
      rw [e1r]
      simp only [go_sem, sB, reduceCtorEq, sL, sA, sE, sN]
      refine callO_intro (q29 1 1 (by omega)) ?_
      simp only [go_sem, sB, reduceCtorEq, sL, sA, sE, sN, decide_true, bt' a _ la, z8]
      refine callO_intro kt ?_
      simp only [go_sem, sB, reduceCtorEq, sL, sA, sE, sN]
      refine callO_intro (w17 false _) ?_
      simp only [go_sem, sB, reduceCtorEq, sL, sA, sE, sN]
      refine callO_intro (same_tt false false hp.pb (by omega) (by have := hp.ln; omega)) ?_
      simp only [go_sem, sB, reduceCtorEq, sL, sA, sE, sN]
      refine callO_intro (w43 (c :: r) false lpq.pb (by have := lpq.ln; omega)) ?_
      simp only [go_sem, sB, reduceCtorEq, sL, sA, sE, sN]
      refine callO_intro (w43 (t :: p) false hp.pb (by have := hp.ln; omega)) ?_
      simp only [go_sem, sB, reduceCtorEq, sL, sA, sE, sN]
      refine callO_intro (w43 (u :: q) false hq.pb (by have := hq.ln; omega)) ?_
      simp only [go_sem, sB, reduceCtorEq, sL, sA, sE, sN, kor, ku, BEq.rfl, rv8, fin_t]
      exact .refl _
    · simp only [go_sem, sB, reduceCtorEq, sL, sA, sE, sN, decide_eq_false hA, eP, List.map_cons]
      refine callO_intro km ?_
      simp only [go_sem, sB, reduceCtorEq, sL, sA, sE, sN]
      refine callO_intro kl ?_
      simp only [go_sem, sB, reduceCtorEq, sL, sA, sE, sN, l12m, t12m, z8, len80, drop80]
      refine callO_intro kv ?_
      simp only [go_sem, sB, reduceCtorEq, sL, sA, sE, sN, btm, btm', bt a _ la, eqMf la la, decide_true]
      refine callO_intro (q23 1 (by omega) (by omega)) ?_
      rw [e1r]
      simp only [go_sem, sB, reduceCtorEq, sL, sA, sE, sN]
      refine callO_intro (q29 1 1 (by omega)) ?_
      simp only [go_sem, sB, reduceCtorEq, sL, sA, sE, sN, decide_true, bt' a _ la, z8]
      refine callO_intro kt ?_
      simp only [go_sem, sB, reduceCtorEq, sL, sA, sE, sN]
      refine callO_intro (w17 false _) ?_
      simp only [go_sem, sB, reduceCtorEq, sL, sA, sE, sN]
      refine callO_intro (same_tt false false hp.pb (by omega) (by have := hp.ln; omega)) ?_
      simp only [go_sem, sB, reduceCtorEq, sL, sA, sE, sN]
      refine callO_intro (w43 (c :: r) false lpq.pb (by have := lpq.ln; omega)) ?_
      simp only [go_sem, sB, reduceCtorEq, sL, sA, sE, sN]
      refine callO_intro (w43 (t :: p) false hp.pb (by have := hp.ln; omega)) ?_
      simp only [go_sem, sB, reduceCtorEq, sL, sA, sE, sN]
      refine callO_intro (w43 (u :: q) false hq.pb (by have := hq.ln; omega)) ?_
      simp only [go_sem, sB, reduceCtorEq, sL, sA, sE, sN, kor, ku, BEq.rfl, rv8, fin_t]
      exact .refl _
theorem law8 (Ds : List D) (h : ShAll [tyRaw, tyRaw, .i .u8] Ds) : FnR Go.Proofs.Tryz.prog 8 Ds [] (.b true) := by
  obtain ⟨d1, _, rfl, h1, d2, _, rfl, h2, d3, _, rfl, h3, rfl⟩ := h
  obtain ⟨r1, g1, rfl⟩ := shv_raw h1
  obtain ⟨r2, g2, rfl⟩ := shv_raw h2
  obtain ⟨n, e, h4, h5⟩ := h3
  injection e with e
  subst e
  exact w8 r1 r2 false false g1 g2 n h4 h5
end Go.Vm.G
namespace Go.Proofs.YtnjccbacinbhgaaGreat.polynomialLeads
open Go.ChangeShapes Go.WideShapes Go.ChangeAt Go.RowKit
theorem own : ownKnob Tryz.prog.godebug = none := by kernel_rfl
theorem laidOut : laidOutB Tryz.prog = true := by kernel_rfl
set_option maxRecDepth 100000 in
theorem lifted (os : Os) (started : os.Started) (H : Type) (enc : TypeId × Value → H) :
    ReturnsInHanded {} Tryz.checked os 8 .any (Rows.polynomialLeadsSpec.pre6 enc Tryz.prog Tryz.f8 Rows.polynomialLeadsRow.domain false) (Rows.polynomialLeadsSpec.post enc Tryz.prog Tryz.f8 false true false false) := by
  refine returnsInHanded_of_change (C := Tryz.checked) own started (by kernel_rfl) Tryz.func8
    (ChangeSpec.witness6 (enc := enc) (C := Tryz.checked) false ⟨#[], #[.agg #[.slice none 0 0], .agg #[.slice none 0 0], .int .u8 0], []⟩ 8 (by kernel_rfl) (by kernel_rfl) (by kernel_rfl) (by kernel_rfl)) ?_
  intro W base args ds gs before hval hW hcnd _
  exact Go.Vm.law_contract (k := 8) (fn := Tryz.f8) (tys := [Go.Vm.G.tyRaw, Go.Vm.G.tyRaw, .i .u8]) (tb := Tryz.f8.resultTypes[0]!) Go.Vm.G.law8 (by kernel_rfl) laidOut (by kernel_rfl) (by kernel_rfl) (by kernel_rfl) rfl
    (fun ds h => by
      match ds, h with
      | [_, _, _], _ => rfl) W base args ds gs before hval hW
theorem over : Rows.polynomialLeadsRow.holds Tryz.pinned (OpenSpec.ofChange Rows.polynomialLeadsSpec) :=
  OpenClaim.holds_of_wide 8 Tryz.f8 rfl rfl rfl rfl rfl rfl rfl ⟨rfl, rfl, rfl, rfl, rfl⟩ rfl rfl rfl rfl rfl (by kernel_rfl) Tryz.func8 (by kernel_rfl)
    (of_decide_eq_true (by kernel_rfl)) (by unfold Func.isWrapper; first | (rw [if_pos (by decide +kernel)]; kernel_rfl) | (rw [if_neg (by decide +kernel)]; exact ⟨rfl, rfl⟩))
    (fun os started H enc _ => lifted os started H enc)
theorem proved : Rows.PolynomialLeadsSaid := over
end Go.Proofs.YtnjccbacinbhgaaGreat.polynomialLeads
#print axioms Go.Proofs.YtnjccbacinbhgaaGreat.polynomialLeads.proved

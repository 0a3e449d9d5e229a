/- Substitution maps products to products and sums to sums (PolynomialSubsts), for every input. -/
import Derived.Test.YtnjccbacinbhgaaGreatPxS0
import Derived.Test.YtnjccbacinbhgaaGreatPxR0
import Derived.Test.YtnjccbacinbhgaaGreatRows
set_option linter.unusedSimpArgs false
set_option linter.unusedVariables false
namespace Go.Vm.G
open Go Go.Vm
abbrev tyRaw : Ty := .st [.sl (.ar 5 (.i .i8))]
theorem sh_i8s {xs : List (List D)} (h : ∀ x ∈ xs, Sh (.i .i8) x) : ∃ m : List Int, m.length = xs.length ∧ xs.flatten = e8 m ∧ ∀ x ∈ m, -128 ≤ x ∧ x ≤ 127 := by
  induction xs with
  | nil => exact ⟨[], rfl, rfl, by simp⟩
  | cons x xs ih =>
    obtain ⟨m, h1, h2, h3⟩ := ih (fun y hy => h y (by simp [hy]))
    obtain ⟨n, rfl, h4, h5⟩ := h x (by simp)
    have h4 : (-128 : Int) ≤ n := h4
    have h5 : n ≤ 127 := h5
    exact ⟨n :: m, by simp [h1], by rw [List.flatten_cons, h2]; rfl, fun x hx => (List.mem_cons.1 hx).elim (fun e => e ▸ ⟨h4, h5⟩) (h3 x)⟩
theorem sh_rows {es : List (List D)} (h : ∀ x ∈ es, Sh (.ar 5 (.i .i8)) x) : ∃ rows : List (List Int), (∀ r ∈ rows, R5 r) ∧ es = rows.map e8 := by
  induction es with
  | nil => exact ⟨[], by simp, rfl⟩
  | cons x es ih =>
    obtain ⟨rows, h1, h2⟩ := ih (fun y hy => h y (by simp [hy]))
    obtain ⟨xs, hl, rfl, h3⟩ := h x (by simp)
    obtain ⟨m, h4, h5, h6⟩ := sh_i8s h3
    exact ⟨m :: rows, fun r hr => (List.mem_cons.1 hr).elim (fun e => e ▸ ⟨by omega, h6⟩) (h1 r), by rw [h2, h5]; rfl⟩
theorem shv_raw {d : D} (h : ShV tyRaw d) : ∃ rows : List (List Int), (∀ r ∈ rows, R5 r) ∧ d = .a [.sl 5 false (rows.map e8)] := by
  obtain ⟨ds, rfl, a, b, rfl, ⟨es, rfl, h1⟩, rfl⟩ := h
  obtain ⟨rows, h2, rfl⟩ := sh_rows h1
  exact ⟨rows, h2, rfl⟩
open Nat renaming reduceBEq → sB, reduceLeDiff → sL, reduceAdd → sA
open Int renaming reduceEq → sE, reduceNe → sN
theorem sbs_prod {Qs : List (List Tm)} {p q pq a b ab s : List Tm} (hp : NnP p) (hq : NnP q) (hb : NnP b) (h : IsProd p q pq) (hab : IsProd a b ab) (ha' : ∀ f, ev f a = ev (fun m => opM Qs m f m0) p) (hb' : ∀ f, ev f b = ev (fun m => opM Qs m f m0) q) (hs : ∀ f, ev f s = ev (fun m => opM Qs m f m0) pq) (cs : Can s) (cab : Can ab) : s = ab := by
  refine can_eq cs cab fun f => ?_
  rw [hs f, h, hab f]
  show _ = ev (Mq b f) a
  rw [ha']
  refine ev_congr fun t ht => ?_
  rw [← op_comm, mq_at0 hb, hb']
  refine ev_congr fun u hu => ?_
  have h1 := hp t ht
  have h2 := hq u hu
  rw [← op_mul Qs u.1 t.1 f (by rw [h1.1, h2.1]) h2.2 h1.2, mMul_comm]
theorem mq_ptv {q : List Tm} (hq : NnP q) (v : List Rat) (c : Rat) : EqN (Mq q (fun k => c * ptv v k)) (fun k => c * ev (ptv v) q * ptv v k) := by
  intro m hm
  unfold Mq
  rw [ev_congr (g := fun n => (c * ptv v m) * ptv v n) (fun t ht => by
    have h1 := hq t ht
    show c * ptv v (mMul m t.1) = _
    rw [ptv_mul v m t.1 (by rw [hm.1, h1.1]) hm.2 h1.2, Rat.mul_assoc]), ev_mulf]
  show _ = c * ev (ptv v) q * ptv v m
  rw [Rat.mul_assoc, Rat.mul_assoc, Rat.mul_comm (ptv v m)]
theorem it_ptv {q : List Tm} (hq : NnP q) (v : List Rat) (c : Rat) : ∀ n, EqN (itM q n (fun k => c * ptv v k)) (fun k => c * pw (ev (ptv v) q) n * ptv v k)
  | 0 => fun m hm => by simp only [itM, pw, Rat.mul_one]
  | n + 1 => fun m hm => by
    simp only [itM]
    rw [mq_congr hq (it_ptv hq v c n) m hm, mq_ptv hq v _ m hm]
    simp only [pw, Rat.mul_assoc]
theorem op_ptv (v : List Rat) : ∀ (Qs : List (List Tm)) (m : List Int) (c : Rat), (∀ q ∈ Qs, NnP q) → EqN (opM Qs m (fun k => c * ptv v k)) (fun k => c * ptv (Qs.map (ev (ptv v))) m * ptv v k)
  | [], m, c, _ => fun k hk => by simp only [opM, List.map_nil, ptv, Rat.mul_one]
  | q :: Qs, [], c, _ => fun k hk => by simp only [opM, List.map_cons, ptv, Rat.mul_one]
  | q :: Qs, x :: m, c, hQ => fun k hk => by
    have hq := hQ q (by simp)
    simp only [opM, List.map_cons, ptv]
    rw [it_congr hq (op_ptv v Qs m c (fun q' hq' => hQ q' (by simp [hq']))) _ k hk, it_ptv hq v _ _ k hk, Rat.mul_assoc c, Rat.mul_comm (ptv _ m)]
theorem sbs_val {Qs : List (List Tm)} {p a : List Tm} (hQ : ∀ q ∈ Qs, NnP q) (v : List Rat) (ha : ∀ f, ev f a = ev (fun m => opM Qs m f m0) p) : ev (ptv v) a = ev (ptv (Qs.map (ev (ptv v)))) p := by
  rw [ha]
  refine ev_congr fun t _ => ?_
  have h := op_ptv v Qs t.1 1 hQ m0 nn0
  have e : (fun k => (1 : Rat) * ptv v k) = ptv v := by funext k; rw [Rat.one_mul]
  rw [e] at h
  rw [h]
  show 1 * ptv (Qs.map (ev (ptv v))) t.1 * ptv v m0 = _
  rw [Rat.one_mul, show ptv v m0 = 1 from ptv_one v 8, Rat.mul_one]
theorem putL_nil : putL [] = (List.range 8).map xP := by
  unfold putL
  refine List.map_congr_left fun i _ => ?_
  unfold putQ
  split <;> rfl
theorem sbs_id {p s : List Tm} (hp : NnP p) (cp : Can p) (cs : Can s) (hs : ∀ f, ev f s = ev (fun m => opM (putL []) m f m0) p) : s = p := by
  refine can_eq cs cp fun f => ?_
  rw [hs f, putL_nil]
  refine ev_congr fun t ht => ?_
  have h := hp t ht
  rw [op_X f (List.range 8) t.1 (fun i hi => List.mem_range.1 hi) h.2 rfl, psh_id h.1]
theorem spV : ∀ (l : List Rat) (i : Nat) (q : Rat), i < l.length → splice (eV l) (i * 4) (rC q) = eV (l.set i q)
  | [], _, _, h => by simp at h
  | x :: l, 0, q, _ => by
    have e : ∀ (x : Rat) (l : List Rat), eV (x :: l) = rC x ++ eV l := fun x l => by unfold eV; rw [List.flatMap_cons]
    rw [List.set_cons_zero, e, e]
    unfold splice
    rw [Nat.zero_mul, List.take_zero, List.nil_append, Nat.zero_add, rC_len, List.drop_append, rC_len, List.drop_of_length_le (by rw [rC_len]; omega), List.nil_append]; rfl
  | x :: l, i + 1, q, h => by
    have e : ∀ (x : Rat) (l : List Rat), eV (x :: l) = rC x ++ eV l := fun x l => by unfold eV; rw [List.flatMap_cons]
    have ih := spV l i q (by simpa using h)
    rw [List.set_cons_succ, e, e, ← ih]
    unfold splice
    rw [List.take_append, List.take_of_length_le (by rw [rC_len]; omega), rC_len, List.drop_append, List.drop_of_length_le (by rw [rC_len]; omega), rC_len, List.nil_append, show (i + 1) * 4 - 4 = i * 4 by omega, rC_len, show (i + 1) * 4 + 4 - 4 = i * 4 + 4 by omega]
    simp only [List.append_assoc]
def wlS (W v : List Rat) (i : Nat) : List Rat := W.take i ++ v.drop i
theorem wlS_len {W v : List Rat} (hW : W.length = 8) (hv : v.length = 8) {i : Nat} (hi : i ≤ 8) : (wlS W v i).length = 8 := by
  unfold wlS
  rw [List.length_append, List.length_take, List.length_drop, hW, hv]; omega
theorem wlS_set {W v : List Rat} (hW : W.length = 8) (hv : v.length = 8) {i : Nat} (hi : i < 8) : (wlS W v i).set i (W.getD i 0) = wlS W v (i + 1) := by
  unfold wlS
  rw [drop_getD (0 : Rat) (show i < v.length by omega), set_mid _ _ _ _ (by rw [List.length_take, hW]; omega), List.take_add_one, List.getD_eq_getElem?_getD, List.getElem?_eq_getElem (show i < W.length by omega)]; rfl
theorem loop9 (Qs : List (List Tm)) (hQ8 : Qs.length = 8) (hQ : ∀ i, i < 8 → Pl 2 9 3 (Qs.getD i [])) (v : List Rat) (hv : Pt 2 v) (W : List Rat) (hW : W.length = 8) (hWg : ∀ i, i < 8 → W.getD i 0 = ev (ptv v) (Qs.getD i [])) (d7 d8 d11 d12 d15 d16 : D) (F : Nat) (out : Sto) (Q : Ex → St → Prop) (z10 z17 z18 : Nat) :
    ∀ (c i : Nat) (nx : Nat) (u : List D), i + c = 8 → u = eV (wlS W v i) →
    (∀ r nx, r 7 = d7 → r 8 = d8 → r 11 = d11 → r 12 = d12 → r 15 = d15 → r 16 = d16 → r 17 = .p (F, 17) z17 0 → r 18 = .p (F, 18) z18 0 → Q (.exit 0) { r := r, own := upd (upd (upd (fun _ => none) 18 (some (z18, .box (eV W)))) 17 (some (z17, .box (eV v)))) 10 (some (z10, .box (Qs.map (eP false)))), out := out, nx := nx }) →
    Loop Go.Proofs.Tryz.prog F [7, 8, 10, 11, 12, 15, 16, 17, 18, 19] [10, 17, 18] b9_0 { r := (upd (upd (upd (upd (upd (upd (upd (upd (upd (upd (fun _ => .u) 19 (.i .i64 i)) 18 (.p (F, 18) z18 0)) 17 (.p (F, 17) z17 0)) 16 (d16)) 15 (d15)) 12 (d12)) 11 (d11)) 10 (.p (F, 10) z10 0)) 8 (d8)) 7 (d7)), own := upd (upd (upd (fun _ => none) 18 (some (z18, .box u))) 17 (some (z17, .box (eV v)))) 10 (some (z10, .box (Qs.map (eP false)))), out := out, nx := nx } Q := by
  intro c
  induction c with
  | zero =>
    intro i nx u hi hu h0
    subst hu
    refine Loop.stepW ?_
    have : i = 8 := by omega
    subst this
    have c1 : decide (((8 : Nat) : Int) < 8) = false := by decide
    have e : wlS W v 8 = W := by
      unfold wlS
      rw [List.take_of_length_le (by omega), List.drop_of_length_le (by rw [hv.len]; omega), List.append_nil]
    rw [e]
    simp only [go_sem, sB, reduceCtorEq, sL, sA, sE, sN, wb9_0, c1]
    exact h0 _ _ rfl rfl rfl rfl rfl rfl rfl rfl
  | succ c ih =>
    intro i nx u hi hu h0
    subst hu
    refine Loop.stepW ?_
    have hi8 : i < 8 := by omega
    have c1 : decide (((i : Nat) : Int) < 8) = true := decide_eq_true (by omega)
    have e1 : IntKind.wrap .i64 (((i : Nat) : Int) + 1) = ((i + 1 : Nat) : Int) := by rw [IntWalk.i64_in _ (by omega)]; omega
    have h32 : (eV v).length = 32 := by rw [eV_len, hv.len]
    have t32 : (eV v).take 32 = eV v := List.take_of_length_le (by omega)
    have hl := wlS_len hW hv.len (show i ≤ 8 by omega)
    have hst : ∀ q, boxS (some (z18, .box (eV (wlS W v i)))) (F, 18) z18 (i * 4) (rC q) = some ((F, 18), z18, .box (eV ((wlS W v i).set i q))) := fun q => by
      rw [boxS_s _ _ _ _ _ (by rw [eV_len, hl, rC_len]; omega), spV _ _ _ (by omega)]
    have hset := wlS_set hW hv.len hi8
    rw [hWg i hi8] at hset
    have ih' := ih (i + 1)
    rw [← hset] at ih'
    simp only [go_sem, sB, reduceCtorEq, sL, sA, sE, sN, wb9_0, c1, ixaO_p _ _ _ _ _ _ _ hi8, Nat.mul_one, bQs hQ8 hi8, h32, t32]
    refine callO_intro (w30 (Qs.getD i []) false v (hQ i hi8) hv (by omega) (by omega) (by omega) (by omega)) ?_
    simp only [go_sem, sB, reduceCtorEq, sL, sA, sE, sN, ixaO_p _ _ _ _ _ _ _ hi8, rW_C, rC_len, takeC, dropC, hst, e1]
    exact ih' _ _ (by omega) rfl h0
theorem cap3 : Cap 2 9 3 25 3 := ⟨by decide, by decide, by decide, by decide, by decide, by decide, by decide⟩
theorem cap6 : Cap 2 9 3 105 6 := ⟨by decide, by decide, by decide, by decide, by decide, by decide, by decide⟩
theorem w9 (r1 r2 : List (List Int)) (f1 f2 f3 : Bool) (h1 : ∀ r ∈ r1, R5 r) (h2 : ∀ r ∈ r2, R5 r) (ls : List (List (List Int))) (hls : ∀ rows ∈ ls, ∀ r ∈ rows, R5 r) :
    FnR Go.Proofs.Tryz.prog 9 [.a [.sl 5 f1 (r1.map e8)], .a [.sl 5 f2 (r2.map e8)], .sl 1 f3 (ls.map fun rows => [.sl 5 false (rows.map e8)])] [] (.b true) := by
  refine fnr9 (by simp) rfl (by simp) List.nodup_nil fun F out hS => ?_
  have c1 := w33 r1 f1 h1 4 3 4 (by omega) (by omega) (by omega)
  have c2 := w33 r2 f2 h2 4 3 4 (by omega) (by omega) (by omega)
  have c3 := w44 ls f3 hls
  have c0 := w44 [] true (by simp)
  have hp : Pl 3 12 4 (madeP r1 4 3 4) := madeP_pl r1 4 3 4 (by omega)
  have hq : Pl 3 12 4 (madeP r2 4 3 4) := madeP_pl r2 4 3 4 (by omega)
  have dp := madeP_dg r1 4 3 4 (by omega)
  have dq := madeP_dg r2 4 3 4 (by omega)
  generalize madeP r1 4 3 4 = p at *
  generalize madeP r2 4 3 4 = q at *
  have hQ8 := putL_len ls
  have hQ : ∀ i, i < 8 → Pl 2 9 3 ((putL ls).getD i []) := fun i hi => by rw [putL_getD ls hi]; exact putQ_pl ls hi
  have hQ0 : ∀ i, i < 8 → Pl 2 9 3 ((putL []).getD i []) := fun i hi => by rw [putL_getD [] hi]; exact putQ_pl [] hi
  have hQn : ∀ q ∈ putL ls, NnP q := by
    intro q hq
    obtain ⟨i, hi, rfl⟩ := List.mem_map.1 hq
    exact (putQ_pl ls (List.mem_range.1 hi)).nn
  generalize putL ls = Qs at *
  obtain ⟨la, ia, ca⟩ := subst_c cap3 hQ8 hQ hp (by omega) (by omega) dp (by omega) (by omega) (by decide) (by decide)
  obtain ⟨lb, ib, cb⟩ := subst_c cap3 hQ8 hQ hq (by omega) (by omega) dq (by omega) (by omega) (by decide) (by decide)
  have cra := subst_r cap3 (by decide) hQ8 hQ hp (by omega) (by omega) dp (by omega) (by omega) (by decide) (by decide)
  obtain ⟨lz, iz, cz⟩ := subst_c cap3 (putL_len []) hQ0 hp (by omega) (by omega) dp (by omega) (by omega) (by decide) (by decide)
  have hs := hp.add hq
  obtain ⟨lsm, ism, csm⟩ := subst_c cap3 hQ8 hQ hs (by omega) (by omega) (dp.add dq) (by omega) (by omega) (by decide) (by decide)
  obtain ⟨lpq, ipq, _⟩ := mul_c (M := 12) hp hq (by omega) (by omega) (by omega) (by omega) (by omega) (by omega) (by omega) (by omega)
  have dpq := DG.prod hp.nn hq.nn lpq.can ipq dp dq
  obtain ⟨lpr, ipr, cpr⟩ := subst_c cap6 hQ8 hQ lpq (by omega) (by omega) dpq (by omega) (by omega) (by decide) (by decide)
  have la' : Pl 6 4472 108 (sbsP Qs p) := la.mono (by decide) (by decide) (by decide)
  have lb' : Pl 6 4472 108 (sbsP Qs q) := lb.mono (by decide) (by decide) (by decide)
  have lz' : Pl 6 4472 108 (sbsP (putL []) p) := lz.mono (by decide) (by decide) (by decide)
  have lsm' : Pl 6 8944 216 (sbsP Qs (addP p q)) := lsm.mono (by decide) (by decide) (by decide)
  have lpr' : Pl 12 1422752 11664 (sbsP Qs (prodP p q)) := lpr.mono (by decide) (by decide) (by decide)
  obtain ⟨lab, iab, cab⟩ := mul_c (M := 4472) la' lb' (by omega) (by omega) (by omega) (by omega) (by omega) (by omega) (by omega) (by omega)
  have e0 : sbsP (putL []) p = p := sbs_id hp.nn hp.can lz.can iz
  have es : sbsP Qs (addP p q) = addP (sbsP Qs p) (sbsP Qs q) := can_eq lsm.can (la'.add lb').can fun f => by
    rw [ism f, ev_addP f la'.l8 lb'.l8, ia f, ib f, ev_addP _ hp.l8 hq.l8]
  have ep : sbsP Qs (prodP p q) = prodP (sbsP Qs p) (sbsP Qs q) := sbs_prod hp.nn hq.nn lb'.nn ipq iab ia ib ipr lpr.can lab.can
  have cby := w47 p q false false (A := 12) hp.pb hq.pb (hp.pm (by omega)) (hq.pm (by omega)) (by have := hp.ln; omega) (by have h1 := hp.ln; have h2 := hq.ln; have := Nat.mul_le_mul (show p.length + 1 ≤ 5 by omega) h2; omega)
  rw [mulP_eq hp hq (by omega)] at cby
  have cv := w26 [1, -2, 3, 2] rfl (by intro x hx; simp at hx; omega)
  have hv := atV_pt [1, -2, 3, 2]
  generalize atV [1, -2, 3, 2] = v at *
  have hval := sbs_val hQn v ia
  generalize sbsP Qs p = a at *
  generalize sbsP Qs q = b at *
  have hW : Pt 154 (Qs.map (ev (ptv v))) := by
    refine ⟨by rw [List.length_map]; exact hQ8, fun x hx => ?_⟩
    obtain ⟨i, hi, e⟩ := List.getElem_of_mem hx
    rw [List.length_map] at hi
    rw [List.getElem_map] at e
    have hh := hQ i (by omega)
    rw [List.getD_eq_getElem?_getD, List.getElem?_eq_getElem hi] at hh
    have := hh.evb hv
    rw [← e]
    exact this
  have hWg : ∀ i, i < 8 → (Qs.map (ev (ptv v))).getD i 0 = ev (ptv v) (Qs.getD i []) := fun i hi => by
    rw [List.getD_eq_getElem?_getD, List.getElem?_map, List.getD_eq_getElem?_getD, List.getElem?_eq_getElem (show i < Qs.length by omega)]; rfl
  have hl8 : (Qs.map (eP false)).length = 8 := by rw [List.length_map]; exact hQ8
  have ht8 : (Qs.map (eP false)).take 8 = Qs.map (eP false) := List.take_of_length_le (by omega)
  have hd8 : (Qs.map (eP false)).drop 8 = [] := List.drop_of_length_le (by omega)
  have h32 : (eV v).length = 32 := by rw [eV_len, hv.len]
  have t32 : (eV v).take 32 = eV v := List.take_of_length_le (by omega)
  have d32 : (eV v).drop 32 = [] := List.drop_of_length_le (by omega)
  have g32 : (eV (Qs.map (ev (ptv v)))).length = 32 := by rw [eV_len, hW.len]
  have k32 : (eV (Qs.map (ev (ptv v)))).take 32 = eV (Qs.map (ev (ptv v))) := List.take_of_length_le (by omega)
  have he8 : D.a [.i .i8 1, .i .i8 (-2), .i .i8 3, .i .i8 2] = .a (e8 [1, -2, 3, 2]) := rfl
  have hq8 : [D.sl 12 true [], .sl 12 true [], .sl 12 true [], .sl 12 true [], .sl 12 true [], .sl 12 true [], .sl 12 true [], .sl 12 true []].drop 8 = [] := rfl
  unfold ir9
  simp only [go_sem, sB, reduceCtorEq, sL, sA, sE, sN]
  refine callO_intro w13 ?_
  simp only [go_sem, sB, reduceCtorEq, sL, sA, sE, sN]
  refine callO_intro c1 ?_
  simp only [go_sem, sB, reduceCtorEq, sL, sA, sE, sN]
  refine callO_intro c2 ?_
  simp only [go_sem, sB, reduceCtorEq, sL, sA, sE, sN]
  refine callO_intro c3 ?_
  simp only [go_sem, sB, reduceCtorEq, sL, sA, sE, sN, hl8, ht8, hd8]
  refine callO_intro (ca false) ?_
  simp only [go_sem, sB, reduceCtorEq, sL, sA, sE, sN]
  refine callO_intro (w17 false _) ?_
  simp only [go_sem, sB, reduceCtorEq, sL, sA, sE, sN, hl8, ht8, hd8]
  refine callO_intro (cb false) ?_
  simp only [go_sem, sB, reduceCtorEq, sL, sA, sE, sN]
  refine callO_intro (w17 false _) ?_
  simp only [go_sem, sB, reduceCtorEq, sL, sA, sE, sN, hl8, ht8, hd8]
  refine callO_intro (cra false) ?_
  simp only [go_sem, sB, reduceCtorEq, sL, sA, sE, sN, show ((0 : Int) != 0) = false from rfl]
  refine callO_intro (same_tt false false la'.pb (by omega) (by have := la'.ln; omega)) ?_
  simp only [go_sem, sB, reduceCtorEq, sL, sA, sE, sN]
  refine callO_intro c0 ?_
  simp only [go_sem, sB, reduceCtorEq, sL, sA, sE, sN]
  refine callO_intro (cz false) ?_
  rw [e0]
  simp only [go_sem, sB, reduceCtorEq, sL, sA, sE, sN]
  refine callO_intro (w17 false _) ?_
  simp only [go_sem, sB, reduceCtorEq, sL, sA, sE, sN]
  refine callO_intro (same_tt false false hp.pb (by omega) (by have := hp.ln; omega)) ?_
  simp only [go_sem, sB, reduceCtorEq, sL, sA, sE, sN]
  refine callO_intro (w20 p q false false (A := 12) hp.pb hq.pb (by omega) (by have := hp.ln; have := hq.ln; omega)) ?_
  simp only [go_sem, sB, reduceCtorEq, sL, sA, sE, sN, hl8, ht8, hd8]
  refine callO_intro (csm false) ?_
  rw [es]
  simp only [go_sem, sB, reduceCtorEq, sL, sA, sE, sN]
  refine callO_intro (w17 false _) ?_
  simp only [go_sem, sB, reduceCtorEq, sL, sA, sE, sN]
  refine callO_intro cby ?_
  simp only [go_sem, sB, reduceCtorEq, sL, sA, sE, sN, hl8, ht8, hd8]
  refine callO_intro (cpr false) ?_
  rw [ep]
  simp only [go_sem, sB, reduceCtorEq, sL, sA, sE, sN]
  refine callO_intro (w17 false _) ?_
  simp only [go_sem, sB, reduceCtorEq, sL, sA, sE, sN, he8]
  refine callO_intro cv ?_
  simp only [go_sem, sB, reduceCtorEq, sL, sA, sE, sN, h32, t32, d32]
  refine loop9 Qs hQ8 hQ v hv (Qs.map (ev (ptv v))) hW.len hWg _ _ _ _ _ _ F out _ _ _ _ 8 0 _ _ rfl rfl (fun r nx r7 r8 r11 r12 r15 r16 r17 r18 => ?_)
  have hsab := la'.add lb'
  have ea := la'.evb hv
  have epw := hp.evb hW
  simp only [go_sem, sB, reduceCtorEq, sL, sA, sE, sN, r7, r8, r11, r12, r15, r16, r17, r18]
  refine callO_intro (w20 a b false false (A := 4472) la'.pb lb'.pb (by omega) (by have := la'.ln; have := lb'.ln; omega)) ?_
  simp only [go_sem, sB, reduceCtorEq, sL, sA, sE, sN]
  refine callO_intro (same_tt false false hsab.pb (by omega) (by have := hsab.ln; omega)) ?_
  simp only [go_sem, sB, reduceCtorEq, sL, sA, sE, sN, r7, r8, r11, r12, r15, r16, r17, r18]
  refine callO_intro (cab false false) ?_
  simp only [go_sem, sB, reduceCtorEq, sL, sA, sE, sN]
  refine callO_intro (w17 false _) ?_
  simp only [go_sem, sB, reduceCtorEq, sL, sA, sE, sN, r7, r8, r11, r12, r15, r16, r17, r18]
  refine callO_intro (same_tt false false lab.pb (by omega) (by have := lab.ln; omega)) ?_
  simp only [go_sem, sB, reduceCtorEq, sL, sA, sE, sN, r7, r8, r11, r12, r15, r16, r17, r18, h32, t32]
  refine callO_intro (w30 a false v la' hv (by omega) (by omega) (by omega) (by omega)) ?_
  simp only [go_sem, sB, reduceCtorEq, sL, sA, sE, sN, r7, r8, r11, r12, r15, r16, r17, r18, g32, k32]
  refine callO_intro (w30 p false _ hp hW (by omega) (by omega) (by omega) (by omega)) ?_
  rw [← hval]
  simp only [go_sem, sB, reduceCtorEq, sL, sA, sE, sN]
  refine callO_intro (q29 (ev (ptv v) a) _ (by omega)) ?_
  simp only [go_sem, sB, reduceCtorEq, sL, sA, sE, sN, decide_true, r7, rv9, fin_t]
  exact .refl _
theorem law9 (Ds : List D) (h : ShAll [tyRaw, tyRaw, .sl tyRaw] Ds) : FnR Go.Proofs.Tryz.prog 9 Ds [] (.b true) := by
  obtain ⟨d1, _, rfl, h1, d2, _, rfl, h2, d3, _, rfl, h3, rfl⟩ := h
  obtain ⟨r1, g1, rfl⟩ := shv_raw h1
  obtain ⟨r2, g2, rfl⟩ := shv_raw h2
  obtain ⟨es, e, h4⟩ := h3
  injection e with e
  subst e
  have key : ∀ es : List (List D), (∀ x ∈ es, Sh tyRaw x) → ∃ ls : List (List (List Int)), (∀ rows ∈ ls, ∀ r ∈ rows, R5 r) ∧ es = ls.map fun rows => [.sl 5 false (rows.map e8)] := by
    intro es
    induction es with
    | nil => exact fun _ => ⟨[], by simp, rfl⟩
    | cons x es ih =>
      intro hx
      obtain ⟨ls, k1, k2⟩ := ih (fun y hy => hx y (by simp [hy]))
      obtain ⟨a, b, e1, ⟨es', e2, h5⟩, e3⟩ := hx x (by simp)
      obtain ⟨rows, k3, k4⟩ := sh_rows h5
      refine ⟨rows :: ls, fun rs hrs => (List.mem_cons.1 hrs).elim (fun e => e ▸ k3) (k1 rs), ?_⟩
      rw [k2, e1, e2, e3, k4]; rfl
  obtain ⟨ls, k1, k2⟩ := key es h4
  rw [k2]
  exact w9 r1 r2 false false false g1 g2 ls k1
end Go.Vm.G
namespace Go.Proofs.YtnjccbacinbhgaaGreat.polynomialSubsts
open Go.ChangeShapes Go.WideShapes Go.ChangeAt Go.RowKit
theorem own : ownKnob Tryz.prog.godebug = none := by kernel_rfl
theorem laidOut : laidOutB Tryz.prog = true := by kernel_rfl
set_option maxRecDepth 100000 in
theorem lifted (os : Os) (started : os.Started) (H : Type) (enc : TypeId × Value → H) :
    ReturnsInHanded {} Tryz.checked os 9 .any (Rows.polynomialSubstsSpec.pre6 enc Tryz.prog Tryz.f9 Rows.polynomialSubstsRow.domain false) (Rows.polynomialSubstsSpec.post enc Tryz.prog Tryz.f9 false true false false) := by
  refine returnsInHanded_of_change (C := Tryz.checked) own started (by kernel_rfl) Tryz.func9
    (ChangeSpec.witness6 (enc := enc) (C := Tryz.checked) false ⟨#[], #[.agg #[.slice none 0 0], .agg #[.slice none 0 0], .slice none 0 0], []⟩ 8 (by kernel_rfl) (by kernel_rfl) (by kernel_rfl) (by kernel_rfl)) ?_
  intro W base args ds gs before hval hW hcnd _
  exact Go.Vm.law_contract (k := 9) (fn := Tryz.f9) (tys := [Go.Vm.G.tyRaw, Go.Vm.G.tyRaw, .sl Go.Vm.G.tyRaw]) (tb := Tryz.f9.resultTypes[0]!) Go.Vm.G.law9 (by kernel_rfl) laidOut (by kernel_rfl) (by kernel_rfl) (by kernel_rfl) rfl
    (fun ds h => by
      match ds, h with
      | [_, _, _], _ => rfl) W base args ds gs before hval hW
theorem over : Rows.polynomialSubstsRow.holds Tryz.pinned (OpenSpec.ofChange Rows.polynomialSubstsSpec) :=
  OpenClaim.holds_of_wide 9 Tryz.f9 rfl rfl rfl rfl rfl rfl rfl ⟨rfl, rfl, rfl, rfl, rfl⟩ rfl rfl rfl rfl rfl (by kernel_rfl) Tryz.func9 (by kernel_rfl)
    (of_decide_eq_true (by kernel_rfl)) (by unfold Func.isWrapper; first | (rw [if_pos (by decide +kernel)]; kernel_rfl) | (rw [if_neg (by decide +kernel)]; exact ⟨rfl, rfl⟩))
    (fun os started H enc _ => lifted os started H enc)
theorem proved : Rows.PolynomialSubstsSaid := over
end Go.Proofs.YtnjccbacinbhgaaGreat.polynomialSubsts
#print axioms Go.Proofs.YtnjccbacinbhgaaGreat.polynomialSubsts.proved

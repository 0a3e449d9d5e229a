/- Permute is the substitution of variables and can be taken back (PolynomialPermutes), for every input. -/
import Derived.Test.YtnjccbacinbhgaaGreatPyS0
import Derived.Test.YtnjccbacinbhgaaGreatPyR0
import Derived.Test.YtnjccbacinbhgaaGreatRows
set_option linter.unusedSimpArgs false
set_option linter.unusedVariables false
namespace Go.Vm.G
open Go Go.Vm
abbrev tyRaw : Ty := .st [.sl (.ar 5 (.i .i8))]
theorem sh_i8s {xs : List (List D)} (h : ∀ x ∈ xs, Sh (.i .i8) x) : ∃ m : List Int, m.length = xs.length ∧ xs.flatten = e8 m ∧ ∀ x ∈ m, -128 ≤ x ∧ x ≤ 127 := by
  induction xs with
  | nil => exact ⟨[], rfl, rfl, by simp⟩
  | cons x xs ih =>
    obtain ⟨m, h1, h2, h3⟩ := ih (fun y hy => h y (by simp [hy]))
    obtain ⟨n, rfl, h4, h5⟩ := h x (by simp)
    have h4 : (-128 : Int) ≤ n := h4
    have h5 : n ≤ 127 := h5
    exact ⟨n :: m, by simp [h1], by rw [List.flatten_cons, h2]; rfl, fun x hx => (List.mem_cons.1 hx).elim (fun e => e ▸ ⟨h4, h5⟩) (h3 x)⟩
theorem sh_rows {es : List (List D)} (h : ∀ x ∈ es, Sh (.ar 5 (.i .i8)) x) : ∃ rows : List (List Int), (∀ r ∈ rows, R5 r) ∧ es = rows.map e8 := by
  induction es with
  | nil => exact ⟨[], by simp, rfl⟩
  | cons x es ih =>
    obtain ⟨rows, h1, h2⟩ := ih (fun y hy => h y (by simp [hy]))
    obtain ⟨xs, hl, rfl, h3⟩ := h x (by simp)
    obtain ⟨m, h4, h5, h6⟩ := sh_i8s h3
    exact ⟨m :: rows, fun r hr => (List.mem_cons.1 hr).elim (fun e => e ▸ ⟨by omega, h6⟩) (h1 r), by rw [h2, h5]; rfl⟩
theorem shv_raw {d : D} (h : ShV tyRaw d) : ∃ rows : List (List Int), (∀ r ∈ rows, R5 r) ∧ d = .a [.sl 5 false (rows.map e8)] := by
  obtain ⟨ds, rfl, a, b, rfl, ⟨es, rfl, h1⟩, rfl⟩ := h
  obtain ⟨rows, h2, rfl⟩ := sh_rows h1
  exact ⟨rows, h2, rfl⟩
open Nat renaming reduceBEq → sB, reduceLeDiff → sL, reduceAdd → sA
open Int renaming reduceEq → sE, reduceNe → sN
def idL : List Int := [0, 1, 2, 3, 4, 5, 6, 7]
theorem pm_perm {π : List Int} (h : π.Perm idL) : Pm π ∧ ∀ x, x < 8 → ∃ j, j < 8 ∧ π.getD j 0 = ((x : Nat) : Int) := by
  have hl : π.length = 8 := h.length_eq
  have hnd : π.Nodup := h.nodup_iff.2 (by decide)
  have hg : ∀ i, i < 8 → π.getD i 0 = π[i]! ∧ π.getD i 0 ∈ π := by
    intro i hi
    rw [List.getD_eq_getElem?_getD, List.getElem?_eq_getElem (show i < π.length by omega)]
    refine ⟨?_, List.getElem_mem _⟩
    rw [getElem!_pos π i (by omega)]; rfl
  refine ⟨⟨hl, fun i hi => ?_, fun i j hij hj e => ?_⟩, fun x hx => ?_⟩
  · have := h.mem_iff.1 (hg i hi).2
    simp only [idL, List.mem_cons, List.not_mem_nil, or_false] at this
    omega
  · have := (List.pairwise_iff_getElem.1 hnd) i j (by omega) (by omega) hij
    rw [List.getD_eq_getElem?_getD, List.getD_eq_getElem?_getD, List.getElem?_eq_getElem (show i < π.length by omega), List.getElem?_eq_getElem (show j < π.length by omega)] at e
    exact this e
  · have hm : ((x : Nat) : Int) ∈ idL := by
      simp only [idL, List.mem_cons, List.not_mem_nil, or_false]; omega
    obtain ⟨j, hj, e⟩ := List.getElem_of_mem (h.mem_iff.2 hm)
    refine ⟨j, by omega, ?_⟩
    rw [List.getD_eq_getElem?_getD, List.getElem?_eq_getElem hj]; exact e
def swp (π : List Int) (i j : Nat) : List Int := (π.set i (π.getD j 0)).set j (π.getD i 0)
def prm : Nat → Nat → Nat → List Int → List Int
  | 0, _, _, π => π
  | c + 1, i, l, π => prm c (i + 1) (l / (4 - i)) (swp π i (i + l % (4 - i)))
theorem swp_perm {π : List Int} (hπ : π.Perm idL) {i j : Nat} (hi : i < 8) (hj : j < 8) : (swp π i j).Perm idL := by
  have hlen : π.length = 8 := hπ.length_eq
  have := @List.set_set_perm _ π i j (by omega) (by omega)
  have g1 : π.getD j 0 = π[j]'(by omega) := by rw [List.getD_eq_getElem?_getD, List.getElem?_eq_getElem]; rfl
  have g2 : π.getD i 0 = π[i]'(by omega) := by rw [List.getD_eq_getElem?_getD, List.getElem?_eq_getElem]; rfl
  unfold swp
  rw [g1, g2]
  exact this.trans hπ
theorem prm_perm : ∀ (c i l : Nat) (π : List Int), i + c = 4 → π.Perm idL → (prm c i l π).Perm idL
  | 0, _, _, _, _, h => h
  | c + 1, i, l, π, hi, h => by
    have hmod := Nat.mod_lt l (show 0 < 4 - i by omega)
    exact prm_perm c (i + 1) _ _ (by omega) (swp_perm h (by omega) (by omega))
theorem loop48 (F : Nat) (out : Sto) (Q : Ex → St → Prop) (z4 z5 : Nat) (c4 : List D) : ∀ (c i l : Nat) (π : List Int) (nx : Nat), i + c = 4 → l ≤ 255 → π.length = 8 →
    (∀ r nx, r 4 = .p (F, 4) z4 0 → r 5 = .p (F, 5) z5 0 → Q (.exit 0) { r := r, own := upd (upd (fun _ => none) 5 (some (z5, .box (eM (prm c i l π))))) 4 (some (z4, .box c4)), out := out, nx := nx }) →
    Loop Go.Proofs.Tryz.prog F [1, 4, 5, 6, 7] [4, 5] b48_0 { r := (upd (upd (upd (upd (upd (fun _ => .u) 7 (.i .i64 i)) 6 (.i .i64 l)) 5 (.p (F, 5) z5 0)) 4 (.p (F, 4) z4 0)) 1 (.i .i64 4)), own := upd (upd (fun _ => none) 5 (some (z5, .box (eM π)))) 4 (some (z4, .box c4)), out := out, nx := nx } Q := by
  intro c
  induction c with
  | zero =>
    intro i l π nx hi hl hlen h0
    refine Loop.stepW ?_
    have : i = 4 := by omega
    subst this
    have c1 : decide (((4 : Nat) : Int) < 4) = false := by decide
    simp only [go_sem, sB, reduceCtorEq, sL, sA, sE, sN, wb48_0, c1]
    exact h0 _ _ rfl rfl
  | succ c ih =>
    intro i l π nx hi hl hlen h0
    refine Loop.stepW ?_
    have hi4 : i < 4 := by omega
    have c1 : decide (((i : Nat) : Int) < 4) = true := decide_eq_true (by omega)
    have e1 : IntKind.wrap .i64 (((i : Nat) : Int) + 1) = ((i + 1 : Nat) : Int) := by rw [IntWalk.i64_in _ (by omega)]; omega
    have e2 : IntKind.wrap .i64 (4 - ((i : Nat) : Int)) = ((4 - i : Nat) : Int) := by rw [IntWalk.i64_in _ (by omega)]; omega
    have e3 := e_rem .i64 ((l : Nat) : Int) ((4 - i : Nat) : Int) (by omega)
    have e4 := e_quo .i64 ((l : Nat) : Int) ((4 - i : Nat) : Int) (by omega)
    have hmod := Nat.mod_lt l (show 0 < 4 - i by omega)
    have hdiv := Nat.div_le_self l (4 - i)
    rw [tmodN] at e3
    rw [tdivN] at e4
    simp only [prm] at h0
    generalize l % (4 - i) = d at *
    generalize l / (4 - i) = l' at *
    have e5 : IntKind.wrap .i64 (((i : Nat) : Int) + ((d : Nat) : Int)) = ((i + d : Nat) : Int) := by rw [IntWalk.i64_in _ (by omega)]; omega
    have e6 : IntKind.wrap .i64 ((l' : Nat) : Int) = ((l' : Nat) : Int) := IntWalk.i64_in _ (by omega)
    rw [e6] at e4
    have hi8 : i < 8 := by omega
    have hj8 : i + d < 8 := by omega
    have b1 := bMc hlen hi8 z5
    have b2 := bMc hlen hj8 z5
    have hl2 : (π.set i (π.getD (i + d) 0)).length = 8 := by rw [List.length_set]; exact hlen
    simp only [go_sem, sB, reduceCtorEq, sL, sA, sE, sN, wb48_0, c1, e2, e3, e4, e5, ixaO_p _ _ _ _ _ _ _ hi8, ixaO_p _ _ _ _ _ _ _ hj8, Nat.mul_one, b1, b2, stM hlen hi8, stM hl2 hj8, e1]
    exact ih (i + 1) l' _ _ (by omega) (by omega) (by rw [List.length_set, List.length_set]; exact hlen) h0
theorem w48 (k : Nat) (h1 : k ≤ 255) : FnR Go.Proofs.Tryz.prog 48 [.i .u8 (k : Int), .i .i64 4] [] (.a (eM (prm 4 0 k idL))) := by
  refine fnr48 (by simp) (nrL_eM _) (by simp) List.nodup_nil fun F out hS => ?_
  have hid : [D.i .i64 0, .i .i64 1, .i .i64 2, .i .i64 3, .i .i64 4, .i .i64 5, .i .i64 6, .i .i64 7] = eM idL := (rfl)
  have e0 : IntKind.wrap .i64 ((k : Nat) : Int) = ((k : Nat) : Int) := IntWalk.i64_in _ (by omega)
  have hl : (prm 4 0 k idL).length = 8 := (prm_perm 4 0 k idL rfl (.refl _)).length_eq
  have d8 : (eM idL).drop 8 = [] := rfl
  unfold ir48
  simp only [go_sem, sB, reduceCtorEq, sL, sA, sE, sN, hid, len8 (m := idL) rfl, take8 (m := idL) rfl, e0]
  refine loop48 F out _ _ _ _ 4 0 k idL _ rfl h1 rfl (fun r nx r4 r5 => ?_)
  simp only [go_sem, sB, reduceCtorEq, sL, sA, sE, sN, r4, r5, bM hl, len8 hl, take8 hl, rv48, fin_c]
  exact ⟨_, rfl, .refl _⟩
def bkN (π : List Int) : Nat → List Int
  | 0 => π
  | i + 1 => (bkN π i).set (π.getD i 0).toNat ((i : Nat) : Int)
theorem bkN_len {π : List Int} (h : π.length = 8) : ∀ i, (bkN π i).length = 8
  | 0 => h
  | i + 1 => by simp only [bkN, List.length_set]; exact bkN_len h i
theorem bkN_get {π : List Int} (h : Pm π) : ∀ i, i ≤ 8 → ∀ j, j < i → (bkN π i).getD (π.getD j 0).toNat 0 = ((j : Nat) : Int)
  | 0, _, j, hj => by omega
  | i + 1, hi, j, hj => by
    have hr := h.rng i (by omega)
    have hl := bkN_len h.len i
    simp only [bkN]
    rw [List.getD_eq_getElem?_getD, List.getElem?_set]
    by_cases hji : j = i
    · subst hji
      rw [if_pos rfl, if_pos (by omega)]; rfl
    · have hrj := h.rng j (by omega)
      have hne := h.inj j i (by omega) (by omega)
      rw [if_neg (by omega), ← List.getD_eq_getElem?_getD]
      exact bkN_get h i (by omega) j (by omega)
theorem bk_pm {π : List Int} (hp : π.Perm idL) : Pm (bkN π 8) ∧ ∀ i, i < 8 → (bkN π 8).getD (π.getD i 0).toNat 0 = ((i : Nat) : Int) := by
  obtain ⟨h, hs⟩ := pm_perm hp
  have hg := bkN_get h 8 (Nat.le_refl _)
  refine ⟨⟨bkN_len h.len 8, fun x hx => ?_, fun x y hxy hy e => ?_⟩, fun i hi => hg i hi⟩
  · obtain ⟨j, hj, e⟩ := hs x hx
    have := hg j hj
    rw [e, Int.toNat_natCast] at this
    rw [this]; omega
  · obtain ⟨a, ha, ea⟩ := hs x (by omega)
    obtain ⟨b, hb, eb⟩ := hs y hy
    have h1 := hg a ha
    have h2 := hg b hb
    rw [ea, Int.toNat_natCast] at h1
    rw [eb, Int.toNat_natCast] at h2
    rw [h1, h2] at e
    have : a = b := by omega
    subst this
    omega
def odN (od : List Int) : Nat → List Int
  | 0 => m0
  | i + 1 => (odN od i).set i (od.getD i 0)
theorem odN_eq {od : List Int} (h : od.length = 8) : odN od 8 = od := by
  match od, h with
  | [a, b, c, d, e, f, g, h], _ => rfl
theorem odN_len (od : List Int) : ∀ i, (odN od i).length = 8
  | 0 => rfl
  | i + 1 => by simp only [odN, List.length_set]; exact odN_len od i
def qcN (π : List Int) : Nat → List D
  | 0 => zq 8
  | i + 1 => (qcN π i).set i (eP false (xP (π.getD i 0).toNat))
theorem qcN_len (π : List Int) : ∀ i, (qcN π i).length = 8
  | 0 => rfl
  | i + 1 => by simp only [qcN, List.length_set]; exact qcN_len π i
theorem qcN_eq {π : List Int} (h : π.length = 8) : qcN π 8 = ((π.map Int.toNat).map xP).map (eP false) := by
  match π, h with
  | [a, b, c, d, e, f, g, h], _ => rfl
theorem loop10 (π : List Int) (hP : Pm π) (od : List Int) (hod : od.length = 8) (hob : ∀ x ∈ od, -128 ≤ x ∧ x ≤ 127) (d7 d8 : D) (F : Nat) (out : Sto) (Q : Ex → St → Prop) (z5 z9 z10 z11 z12 : Nat) : ∀ (c i : Nat) (nx : Nat), i + c = 8 →
    (∀ r nx, r 7 = d7 → r 8 = d8 → r 9 = .p (F, 9) z9 0 → r 10 = .p (F, 10) z10 0 → r 11 = .p (F, 11) z11 0 → r 12 = .p (F, 12) z12 0 → Q (.exit 0) { r := r, own := upd (upd (upd (upd (upd (fun _ => none) 12 (some (z12, .box (eM od)))) 11 (some (z11, .box (eM (bkN π 8))))) 10 (some (z10, .box (((π.map Int.toNat).map xP).map (eP false))))) 9 (some (z9, .box (eM π)))) 5 (some (z5, .box (e8 od))), out := out, nx := nx }) →
    Loop Go.Proofs.Tryz.prog F [5, 7, 8, 9, 10, 11, 12, 13] [5, 9, 10, 11, 12] b10_0 { r := (upd (upd (upd (upd (upd (upd (upd (upd (fun _ => .u) 13 (.i .i64 i)) 12 (.p (F, 12) z12 0)) 11 (.p (F, 11) z11 0)) 10 (.p (F, 10) z10 0)) 9 (.p (F, 9) z9 0)) 8 (d8)) 7 (d7)) 5 (.p (F, 5) z5 0)), own := upd (upd (upd (upd (upd (fun _ => none) 12 (some (z12, .box (eM (odN od i))))) 11 (some (z11, .box (eM (bkN π i))))) 10 (some (z10, .box (qcN π i)))) 9 (some (z9, .box (eM π)))) 5 (some (z5, .box (e8 od))), out := out, nx := nx } Q := by
  intro c
  induction c with
  | zero =>
    intro i nx hi h0
    refine Loop.stepW ?_
    have : i = 8 := by omega
    subst this
    have c1 : decide (((8 : Nat) : Int) < 8) = false := by decide
    rw [odN_eq hod, qcN_eq hP.len]
    simp only [go_sem, sB, reduceCtorEq, sL, sA, sE, sN, wb10_0, c1]
    exact h0 _ _ rfl rfl rfl rfl rfl rfl
  | succ c ih =>
    intro i nx hi h0
    refine Loop.stepW ?_
    have hi8 : i < 8 := by omega
    have c1 : decide (((i : Nat) : Int) < 8) = true := decide_eq_true (by omega)
    have e1 : IntKind.wrap .i64 (((i : Nat) : Int) + 1) = ((i + 1 : Nat) : Int) := by rw [IntWalk.i64_in _ (by omega)]; omega
    have bm := bMc hP.len hi8
    obtain ⟨hr1, hr2⟩ := hP.rng i hi8
    have ih' := ih (i + 1)
    simp only [bkN, odN, qcN] at ih'
    obtain ⟨x, hx⟩ : ∃ x : Nat, π.getD i 0 = (x : Int) := ⟨(π.getD i 0).toNat, by omega⟩
    rw [hx] at ih' bm
    rw [Int.toNat_natCast] at ih'
    have hx8 : x < 8 := by omega
    have hcell : boxC (some (z5, .box (e8 od))) z5 i 1 = some [.i .i8 (od.getD i 0)] := by
      rw [boxC_s _ _ _ _ (by rw [show (e8 od).length = od.length from List.length_map ..]; omega), e8_at (by omega)]; rfl
    have hg : od.getD i 0 ∈ od := by
      rw [List.getD_eq_getElem?_getD, List.getElem?_eq_getElem (show i < od.length by omega)]
      exact List.getElem_mem _
    have hq := hob _ hg
    have e2 : IntKind.wrap .i64 (od.getD i 0) = od.getD i 0 := IntWalk.i64_in _ (by omega)
    have sq := stB (l := qcN π i) (i := i) (by rw [qcN_len]; exact hi8)
    simp only [go_sem, sB, reduceCtorEq, sL, sA, sE, sN, wb10_0, c1, ixaO_p _ _ _ _ _ _ _ hi8, Nat.mul_one, bm]
    refine callO_intro (w49 x hx8) ?_
    unfold eP at sq ih' ⊢
    simp only [go_sem, sB, reduceCtorEq, sL, sA, sE, sN, ixaO_p _ _ _ _ _ _ _ hi8, ixaO_p _ _ _ _ _ _ _ hx8, Nat.mul_one, bm, sq, stM (bkN_len hP.len i) hx8, stM (odN_len od i) hi8, hcell, e2, e1]
    exact ih' _ (by omega) h0
theorem cap1 : Cap 1 1 1 18 5 := ⟨by decide, by decide, by decide, by decide, by decide, by decide, by decide⟩
theorem w10 (r1 : List (List Int)) (f1 : Bool) (h1 : ∀ r ∈ r1, R5 r) (k : Nat) (hk : k ≤ 255) (od : List Int) (hod : od.length = 8) (hob : ∀ x ∈ od, -128 ≤ x ∧ x ≤ 127) :
    FnR Go.Proofs.Tryz.prog 10 [.a [.sl 5 f1 (r1.map e8)], .i .u8 (k : Int), .a (e8 od)] [] (.b true) := by
  refine fnr10 (by simp) rfl (by simp) List.nodup_nil fun F out hS => ?_
  have c1 := w16 r1 f1 h1
  have hp : Pl 5 18 6 (madeP r1 4 5 6) := madeP_pl r1 4 5 6 (by omega)
  have dp := madeP_dg r1 4 5 6 (by omega)
  generalize madeP r1 4 5 6 = p at *
  have c2 := w48 k hk
  have hperm := prm_perm 4 0 k idL rfl (.refl _)
  generalize prm 4 0 k idL = π at *
  obtain ⟨hP, _⟩ := pm_perm hperm
  obtain ⟨hB, hback⟩ := bk_pm hperm
  obtain ⟨q, lq, iq, cq⟩ := perm_ex hp (by omega) (by omega) (by omega) hP
  obtain ⟨s, ls, is, cs⟩ := perm_ex lq (by omega) (by omega) (by omega) hB
  have es : s = p := can_eq ls.can hp.can fun f => by
    rw [is f, iq]
    exact ev_congr fun t ht => by rw [stP_back hP hB hback (hp.l8 t ht)]
  have hQ8 : ((π.map Int.toNat).map xP).length = 8 := by rw [List.length_map, List.length_map]; exact hP.len
  have hQ : ∀ i, i < 8 → Pl 1 1 1 (((π.map Int.toNat).map xP).getD i []) := fun i hi => by
    have hr := hP.rng i hi
    have hl := hP.len
    rw [List.getD_eq_getElem?_getD, List.getElem?_eq_getElem (show i < ((π.map Int.toNat).map xP).length by omega), Option.getD_some, List.getElem_map, List.getElem_map]
    rw [List.getD_eq_getElem?_getD, List.getElem?_eq_getElem (show i < π.length by omega), Option.getD_some] at hr
    exact xP_pl (by omega)
  obtain ⟨lx, ix, cx⟩ := subst_c cap1 hQ8 hQ hp (by omega) (by omega) dp (by omega) (by omega) (by decide) (by decide)
  have ex : sbsP ((π.map Int.toNat).map xP) p = q := can_eq lx.can lq.can fun f => by
    rw [ix f, iq f]
    refine ev_congr fun t ht => ?_
    have hn := hp.nn t ht
    rw [op_X f _ t.1 (fun i hi => by
      obtain ⟨y, hy, rfl⟩ := List.mem_map.1 hi
      obtain ⟨j, hj, e⟩ := List.getElem_of_mem hy
      have hl := hP.len
      have hr := hP.rng j (by omega)
      rw [List.getD_eq_getElem?_getD, List.getElem?_eq_getElem hj, Option.getD_some, e] at hr
      omega) hn.2 rfl, psh_ad hP.len hn.1, adN_st hP t.1 8 (Nat.le_refl _)]; rfl
  rw [ex] at cx
  subst es
  have hπ := hP.len
  have hβ := hB.len
  have hl8 : (((π.map Int.toNat).map xP).map (eP false)).length = 8 := by rw [List.length_map]; exact hQ8
  have ht8 : (((π.map Int.toNat).map xP).map (eP false)).take 8 = ((π.map Int.toNat).map xP).map (eP false) := List.take_of_length_le (by omega)
  have bq : ∀ z, boxC (some (z, .box (((π.map Int.toNat).map xP).map (eP false)))) z 0 8 = some (((π.map Int.toNat).map xP).map (eP false)) := fun z => by rw [boxC_s _ _ _ _ (by omega), List.drop_zero, ht8]
  have hzq : [D.sl 12 true [], .sl 12 true [], .sl 12 true [], .sl 12 true [], .sl 12 true [], .sl 12 true [], .sl 12 true [], .sl 12 true []] = zq 8 := (rfl)
  have lzq : (zq 8).length = 8 := (rfl)
  have dzq : (zq 8).drop 8 = [] := (rfl)
  have l8e : (e8 od).length = 8 := by rw [show (e8 od).length = od.length from List.length_map ..]; exact hod
  have t8e : (e8 od).take 8 = e8 od := List.take_of_length_le (by omega)
  unfold ir10
  simp only [go_sem, sB, reduceCtorEq, sL, sA, sE, sN, l8e, t8e]
  refine callO_intro w13 ?_
  simp only [go_sem, sB, reduceCtorEq, sL, sA, sE, sN]
  refine callO_intro c1 ?_
  simp only [go_sem, sB, reduceCtorEq, sL, sA, sE, sN]
  refine callO_intro c2 ?_
  simp only [go_sem, sB, reduceCtorEq, sL, sA, sE, sN, z8, len80, drop80, len8 hπ, take8 hπ, hzq, lzq, dzq, bM hπ]
  refine loop10 π hP od hod hob _ _ F out _ _ _ _ _ _ 8 0 _ rfl (fun r nx r7 r8 r9 r10 r11 r12 => ?_)
  simp only [go_sem, sB, reduceCtorEq, sL, sA, sE, sN, r7, r8, r9, r10, r11, r12, bM hπ]
  refine callO_intro (cq false) ?_
  simp only [go_sem, sB, reduceCtorEq, sL, sA, sE, sN]
  refine callO_intro (w17 false _) ?_
  simp only [go_sem, sB, reduceCtorEq, sL, sA, sE, sN, r7, r8, r9, r10, r11, r12, bM hod]
  have hV := valid_tt false lq (by omega) (by omega) (by omega)
  have hSq := same_tt false false lq.pb (by omega) (by have := lq.ln; omega)
  have hSp := same_tt false false hp.pb (by omega) (by have := hp.ln; omega)
  cases ho : okF od 8 0 with
  | true =>
    have hO := (okF_pm hod).1 ho
    obtain ⟨u, lu, iu, cu⟩ := perm_ex hp (by omega) (by omega) (by omega) hO
    refine callO_intro (w51 false hp (by omega) (by omega) (by omega) hO lu.can iu) ?_
    simp only [go_sem, sB, reduceCtorEq, sL, sA, sE, sN, r7, r8, r9, r10, r11, r12, bM hod]
    refine callO_intro (cu false) ?_
    simp only [go_sem, sB, reduceCtorEq, sL, sA, sE, sN]
    refine callO_intro hV ?_
    simp only [go_sem, sB, reduceCtorEq, sL, sA, sE, sN, bq]
    refine callO_intro (cx false) ?_
    simp only [go_sem, sB, reduceCtorEq, sL, sA, sE, sN]
    refine callO_intro (w17 false _) ?_
    simp only [go_sem, sB, reduceCtorEq, sL, sA, sE, sN]
    refine callO_intro hSq ?_
    simp only [go_sem, sB, reduceCtorEq, sL, sA, sE, sN, bM hβ]
    refine callO_intro (cs false) ?_
    simp only [go_sem, sB, reduceCtorEq, sL, sA, sE, sN]
    refine callO_intro (w17 false _) ?_
    simp only [go_sem, sB, reduceCtorEq, sL, sA, sE, sN]
    refine callO_intro hSp ?_
    simp only [go_sem, sB, reduceCtorEq, sL, sA, sE, sN, show ((0 : Int) == 0) = true from rfl]
    refine callO_intro (same_tt false false lu.pb (by omega) (by have := lu.ln; omega)) ?_
    simp only [go_sem, sB, reduceCtorEq, sL, sA, sE, sN, rv10, fin_t]
    exact .refl _
  | false =>
    refine callO_intro (w51x _ false od hod ho) ?_
    simp only [go_sem, sB, reduceCtorEq, sL, sA, sE, sN, r7, r8, r9, r10, r11, r12, bM hod]
    refine callO_intro (w50x _ false od hod ho) ?_
    simp only [go_sem, sB, reduceCtorEq, sL, sA, sE, sN]
    refine callO_intro hV ?_
    simp only [go_sem, sB, reduceCtorEq, sL, sA, sE, sN, bq]
    refine callO_intro (cx false) ?_
    simp only [go_sem, sB, reduceCtorEq, sL, sA, sE, sN]
    refine callO_intro (w17 false _) ?_
    simp only [go_sem, sB, reduceCtorEq, sL, sA, sE, sN]
    refine callO_intro hSq ?_
    simp only [go_sem, sB, reduceCtorEq, sL, sA, sE, sN, bM hβ]
    refine callO_intro (cs false) ?_
    simp only [go_sem, sB, reduceCtorEq, sL, sA, sE, sN]
    refine callO_intro (w17 false _) ?_
    simp only [go_sem, sB, reduceCtorEq, sL, sA, sE, sN]
    refine callO_intro hSp ?_
    simp only [go_sem, sB, reduceCtorEq, sL, sA, sE, sN, show ((1 : Int) == 1) = true from rfl]
    refine callO_intro (same_tt (p := []) true true (.nil 0) (by omega) (by simp)) ?_
    simp only [go_sem, sB, reduceCtorEq, sL, sA, sE, sN, rv10, fin_t]
    exact .refl _
theorem law10 (Ds : List D) (h : ShAll [tyRaw, .i .u8, .ar 8 (.i .i8)] Ds) : FnR Go.Proofs.Tryz.prog 10 Ds [] (.b true) := by
  obtain ⟨d1, _, rfl, h1, d2, _, rfl, h2, d3, _, rfl, h3, rfl⟩ := h
  obtain ⟨r1, g1, rfl⟩ := shv_raw h1
  obtain ⟨n, e, h4, h5⟩ := h2
  injection e with e
  subst e
  obtain ⟨ds, rfl, xs, hl, rfl, h6⟩ := h3
  obtain ⟨m, k1, k2, k3⟩ := sh_i8s h6
  rw [k2]
  have h4 : (0 : Int) ≤ n := h4
  have h5 : n ≤ 255 := h5
  have := w10 r1 false g1 n.toNat (by omega) m (k1.trans hl) k3
  rwa [show ((n.toNat : Nat) : Int) = n by omega] at this
end Go.Vm.G
namespace Go.Proofs.YtnjccbacinbhgaaGreat.polynomialPermutes
open Go.ChangeShapes Go.WideShapes Go.ChangeAt Go.RowKit
theorem own : ownKnob Tryz.prog.godebug = none := by kernel_rfl
theorem laidOut : laidOutB Tryz.prog = true := by kernel_rfl
set_option maxRecDepth 100000 in
theorem lifted (os : Os) (started : os.Started) (H : Type) (enc : TypeId × Value → H) :
    ReturnsInHanded {} Tryz.checked os 10 .any (Rows.polynomialPermutesSpec.pre6 enc Tryz.prog Tryz.f10 Rows.polynomialPermutesRow.domain false) (Rows.polynomialPermutesSpec.post enc Tryz.prog Tryz.f10 false true false false) := by
  refine returnsInHanded_of_change (C := Tryz.checked) own started (by kernel_rfl) Tryz.func10
    (ChangeSpec.witness6 (enc := enc) (C := Tryz.checked) false ⟨#[], #[.agg #[.slice none 0 0], .int .u8 0, .agg #[.int .i8 0, .int .i8 0, .int .i8 0, .int .i8 0, .int .i8 0, .int .i8 0, .int .i8 0, .int .i8 0]], []⟩ 8 (by kernel_rfl) (by kernel_rfl) (by kernel_rfl) (by kernel_rfl)) ?_
  intro W base args ds gs before hval hW hcnd _
  exact Go.Vm.law_contract (k := 10) (fn := Tryz.f10) (tys := [Go.Vm.G.tyRaw, .i .u8, .ar 8 (.i .i8)]) (tb := Tryz.f10.resultTypes[0]!) Go.Vm.G.law10 (by kernel_rfl) laidOut (by kernel_rfl) (by kernel_rfl) (by kernel_rfl) rfl
    (fun ds h => by
      match ds, h with
      | [_, _, _], _ => rfl) W base args ds gs before hval hW
theorem over : Rows.polynomialPermutesRow.holds Tryz.pinned (OpenSpec.ofChange Rows.polynomialPermutesSpec) :=
  OpenClaim.holds_of_wide 10 Tryz.f10 rfl rfl rfl rfl rfl rfl rfl ⟨rfl, rfl, rfl, rfl, rfl⟩ rfl rfl rfl rfl rfl (by kernel_rfl) Tryz.func10 (by kernel_rfl)
    (of_decide_eq_true (by kernel_rfl)) (by unfold Func.isWrapper; first | (rw [if_pos (by decide +kernel)]; kernel_rfl) | (rw [if_neg (by decide +kernel)]; exact ⟨rfl, rfl⟩))
    (fun os started H enc _ => lifted os started H enc)
theorem proved : Rows.PolynomialPermutesSaid := over
end Go.Proofs.YtnjccbacinbhgaaGreat.polynomialPermutes
#print axioms Go.Proofs.YtnjccbacinbhgaaGreat.polynomialPermutes.proved

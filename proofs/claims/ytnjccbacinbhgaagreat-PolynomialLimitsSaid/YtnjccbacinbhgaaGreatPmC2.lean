/- A part of the proof of: Exponents above 65535 are refused, and powers beyond 64 (PolynomialLimits), for every input. -/
import Derived.Test.YtnjccbacinbhgaaGreatPmC1
set_option linter.unusedSimpArgs false
set_option linter.unusedVariables false
namespace Go.Vm.G
open Go Go.Vm
open Nat renaming reduceBEq → sB, reduceLeDiff → sL, reduceAdd → sA
open Int renaming reduceEq → sE, reduceNe → sN
def mMul (a b : List Int) : List Int := List.zipWith (· + ·) a b
def mPart (f : Int → Int → Int) (a b : List Int) (i : Nat) : List Int := (List.zipWith f a b).take i ++ a.drop i
theorem mPart_len (f : Int → Int → Int) {a b : List Int} (ha : a.length = 8) (hb : b.length = 8) (i : Nat) (h : i ≤ 8) : (mPart f a b i).length = 8 := by
  simp [mPart, ha, hb]; omega
theorem mPart_get (f : Int → Int → Int) {a b : List Int} (ha : a.length = 8) (hb : b.length = 8) (i : Nat) (h : i < 8) : (mPart f a b i).getD i 0 = a.getD i 0 := by
  unfold mPart
  rw [List.getD_eq_getElem?_getD, List.getElem?_append_right (by simp [ha, hb]; omega), List.getElem?_drop, List.getD_eq_getElem?_getD]
  simp [ha, hb]
  congr 2
  omega
theorem mPart_set (f : Int → Int → Int) {a b : List Int} (ha : a.length = 8) (hb : b.length = 8) (i : Nat) (h : i < 8) : (mPart f a b i).set i (f (a.getD i 0) (b.getD i 0)) = mPart f a b (i + 1) := by
  have hia : i < a.length := by omega
  have hib : i < b.length := by omega
  unfold mPart
  apply List.ext_getElem?
  intro j
  rw [List.getElem?_set]
  by_cases hj : i = j
  · subst hj
    rw [if_pos rfl, if_pos (by simp [ha, hb]; omega), List.getElem?_append_left (by simp [ha, hb]; omega), List.getElem?_take, if_pos (by omega)]
    simp [List.getElem?_zipWith, List.getElem?_eq_getElem hia, List.getElem?_eq_getElem hib, List.getD_eq_getElem?_getD]
  · rw [if_neg hj]
    by_cases hlt : j < i
    · rw [List.getElem?_append_left (by simp [ha, hb]; omega), List.getElem?_append_left (by simp [ha, hb]; omega), List.getElem?_take, List.getElem?_take, if_pos hlt, if_pos (by omega)]
    · rw [List.getElem?_append_right (by simp [ha, hb]; omega), List.getElem?_append_right (by simp [ha, hb]; omega)]
      simp only [List.length_take, List.length_zipWith, ha, hb, List.getElem?_drop]
      congr 1
      omega
theorem mPart_8 (f : Int → Int → Int) {a b : List Int} (ha : a.length = 8) (hb : b.length = 8) : mPart f a b 8 = List.zipWith f a b := by
  unfold mPart
  rw [List.take_of_length_le (by simp [ha, hb]), List.drop_of_length_le (by omega), List.append_nil]
theorem okE_get {a : List Int} (h : a.all okE = true) (i : Nat) : 0 ≤ a.getD i 0 ∧ a.getD i 0 ≤ 65535 := by
  rw [List.getD_eq_getElem?_getD]
  by_cases hi : i < a.length
  · rw [List.getElem?_eq_getElem hi]
    have := List.all_eq_true.1 h a[i] (List.getElem_mem _)
    simpa [okE] using this
  · rw [List.getElem?_eq_none (by omega)]
    simp
theorem mMul_len {a b : List Int} (ha : a.length = 8) (hb : b.length = 8) : (mMul a b).length = 8 := by simp [mMul, ha, hb]
theorem loop39 (a b : List Int) (ha : a.length = 8) (hb : b.length = 8) (ka : a.all okE = true) (kb : b.all okE = true) (F : Nat) (out : Sto) (Q : Ex → St → Prop) (z z' z'' : Nat) : ∀ (k i : Nat) (nx : Nat), i + k = 8 →
    (∀ nx, Q (.exit 0) { r := (upd (upd (upd (upd (upd (fun _ => .u) 8 (.b false)) 6 (.i .i64 8)) 4 (.p (F, 4) z'' 0)) 3 (.p (F, 3) z' 0)) 2 (.p (F, 2) z 0)), own := upd (upd (upd (fun _ => none) 4 (some (z'', .box (eM m0)))) 3 (some (z', .box (eM b)))) 2 (some (z, .box (eM (mMul a b)))), out := out, nx := nx }) →
    Loop Go.Proofs.Tryz.prog F [2, 3, 4, 6] [2, 3, 4] b39_0 { r := (upd (upd (upd (upd (fun _ => .u) 6 (.i .i64 i)) 4 (.p (F, 4) z'' 0)) 3 (.p (F, 3) z' 0)) 2 (.p (F, 2) z 0)), own := upd (upd (upd (fun _ => none) 4 (some (z'', .box (eM m0)))) 3 (some (z', .box (eM b)))) 2 (some (z, .box (eM (mPart (· + ·) a b i)))), out := out, nx := nx } Q := by
  intro k
  induction k with
  | zero =>
    intro i nx hi h0
    refine Loop.stepW ?_
    have : i = 8 := by omega
    subst this
    have c1 : decide (((8 : Nat) : Int) < 8) = false := by decide
    simp only [go_sem, sB, reduceCtorEq, sL, sA, sE, sN, wb39_0, c1, mPart_8 (fun x y => x + y) ha hb]
    exact h0 _
  | succ k ih =>
    intro i nx hi h0
    refine Loop.stepW ?_
    have hi8 : i < 8 := by omega
    have c1 : decide (((i : Nat) : Int) < 8) = true := decide_eq_true (by omega)
    have hl := mPart_len (fun x y => x + y) ha hb i (by omega)
    have hg := mPart_get (fun x y => x + y) ha hb i hi8
    have hs := mPart_set (fun x y => x + y) ha hb i hi8
    have hib : i < b.length := by omega
    have e2 : IntKind.wrap .i64 (((i : Nat) : Int) + 1) = ((i + 1 : Nat) : Int) := by rw [IntWalk.i64_in _ (by omega)]; omega
    have e3 : IntKind.wrap .i64 (a.getD i 0 + b.getD i 0) = a.getD i 0 + b.getD i 0 := by
      have := okE_get ka i
      have := okE_get kb i
      rw [IntWalk.i64_in _ (by omega)]
    have hxa : boxC (some (z, .box (eM (mPart (fun x y => x + y) a b i)))) z i 1 = some [.i .i64 (a.getD i 0)] := by rw [boxC_s _ _ _ _ (by rw [eM_len]; omega), eM_cell (by omega), hg]
    have hxb : boxC (some (z', .box (eM b))) z' i 1 = some [.i .i64 (b.getD i 0)] := by rw [boxC_s _ _ _ _ (by rw [eM_len]; omega), eM_cell hib]
    generalize a.getD i 0 = x at *
    generalize b.getD i 0 = y at *
    have hst : boxS (some (z, .box (eM (mPart (fun x y => x + y) a b i)))) (F, 2) z i [.i .i64 (x + y)] = some ((F, 2), z, .box (eM (mPart (fun x y => x + y) a b (i + 1)))) := by
      rw [boxS_s _ _ _ _ _ (by rw [eM_len]; simp; omega), splM _ _ _ (by omega), hs]
    simp only [go_sem, sB, reduceCtorEq, sL, sA, sE, sN, wb39_0, c1, ixaO_p _ _ _ _ _ _ _ hi8, Nat.mul_one, hxa, hxb, e2, e3, hst]
    exact ih (i + 1) _ (by omega) h0
theorem w39 (a b : List Int) (ha : a.length = 8) (hb : b.length = 8) (ka : a.all okE = true) (kb : b.all okE = true) :
    FnR Go.Proofs.Tryz.prog 39 [.a (eM a), .a (eM b)] [] (if (mMul a b).all okE then .t [.a (eM (mMul a b)), .i .i64 0] else .t [.a (eM m0), .i .i64 2]) := by
  refine fnr39 (by simp) (by split <;> simp [D.nr, nrL, nrL_eM]) (by simp) List.nodup_nil fun F out hS => ?_
  have hl := mMul_len ha hb
  unfold ir39
  simp only [go_sem, sB, reduceCtorEq, sL, sA, sE, sN, z8]
  refine loop39 a b ha hb ka kb F out _ _ _ _ 8 0 _ (by omega) (fun nx => ?_)
  simp only [go_sem, sB, reduceCtorEq, sL, sA, sE, sN, len8 hl, take8 hl, boxC_s _ _ _ _ (show 0 + 8 ≤ (eM (mMul a b)).length by rw [len8 hl]; decide)]
  refine callO_intro (w72 _ hl) ?_
  cases h : (mMul a b).all okE with
  | true => 
    simp only [go_sem, sB, reduceCtorEq, sL, sA, sE, sN, z8, len8 hl, take8 hl, boxC_s _ _ _ _ (show 0 + 8 ≤ (eM (mMul a b)).length by rw [len8 hl]; decide), len80, drop80, rv39, fin_g, resAll, resL, resD, mkV]
    exact ⟨_, rfl, .refl _⟩
  | false => 
    simp only [go_sem, sB, reduceCtorEq, sL, sA, sE, sN, z8, len80, drop80, rv39, fin_g, resAll, resL, resD, mkV]
    exact ⟨_, rfl, .refl _⟩
theorem w130 (x y : Int) (hx : -4611686018427387904 ≤ x + y) (hy : x + y < 4611686018427387904) : FnR Go.Proofs.Tryz.prog 130 [.i .i64 x, .i .i64 y] [] (.i .i64 (x + y)) := by
  refine fnr130 (by simp) rfl (by simp) List.nodup_nil fun F out hS => ?_
  have e : IntKind.wrap .i64 (x + y) = x + y := IntWalk.i64_in _ (by omega)
  unfold ir130
  simp only [go_sem, sB, reduceCtorEq, sL, sA, sE, sN, e, rv130, fin_t]
  exact .refl _
theorem loop129 (f : Int → Int → Int) (g : Nat) (a b : List Int) (ha : a.length = 8) (hb : b.length = 8)
    (hg : ∀ i, i < 8 → FnR Go.Proofs.Tryz.prog g [.i .i64 (a.getD i 0), .i .i64 (b.getD i 0)] [] (.i .i64 (f (a.getD i 0) (b.getD i 0))))
    (F : Nat) (out : Sto) (Q : Ex → St → Prop) (z z' z'' : Nat) : ∀ (k i : Nat) (nx : Nat), i + k = 8 →
    (∀ nx, Q (.exit 0) { r := (upd (upd (upd (upd (upd (upd (fun _ => .u) 9 (.b false)) 8 (.i .i64 8)) 6 (.p (F, 6) z'' 0)) 4 (.p (F, 4) z' 0)) 3 (.p (F, 3) z 0)) 2 (.f g [] [])), own := upd (upd (upd (fun _ => none) 6 (some (z'', .box (eM m0)))) 4 (some (z', .box (eM b)))) 3 (some (z, .box (eM (List.zipWith f a b)))), out := out, nx := nx }) →
    Loop Go.Proofs.Tryz.prog F [2, 3, 4, 6, 8] [3, 4, 6] b129_0 { r := (upd (upd (upd (upd (upd (fun _ => .u) 8 (.i .i64 i)) 6 (.p (F, 6) z'' 0)) 4 (.p (F, 4) z' 0)) 3 (.p (F, 3) z 0)) 2 (.f g [] [])), own := upd (upd (upd (fun _ => none) 6 (some (z'', .box (eM m0)))) 4 (some (z', .box (eM b)))) 3 (some (z, .box (eM (mPart f a b i)))), out := out, nx := nx } Q := by
  intro k
  induction k with
  | zero =>
    intro i nx hi h0
    refine Loop.stepW ?_
    have : i = 8 := by omega
    subst this
    have c1 : decide (((8 : Nat) : Int) < 8) = false := by decide
    simp only [go_sem, sB, reduceCtorEq, sL, sA, sE, sN, wb129_0, c1, mPart_8 f ha hb]
    exact h0 _
  | succ k ih =>
    intro i nx hi h0
    refine Loop.stepW ?_
    have hi8 : i < 8 := by omega
    have c1 : decide (((i : Nat) : Int) < 8) = true := decide_eq_true (by omega)
    have hl := mPart_len f ha hb i (by omega)
    have hg2 := mPart_get f ha hb i hi8
    have hs := mPart_set f ha hb i hi8
    have hib : i < b.length := by omega
    have e2 : IntKind.wrap .i64 (((i : Nat) : Int) + 1) = ((i + 1 : Nat) : Int) := by rw [IntWalk.i64_in _ (by omega)]; omega
    have hxa : boxC (some (z, .box (eM (mPart f a b i)))) z i 1 = some [.i .i64 (a.getD i 0)] := by rw [boxC_s _ _ _ _ (by rw [eM_len]; omega), eM_cell (by omega), hg2]
    have hxb : boxC (some (z', .box (eM b))) z' i 1 = some [.i .i64 (b.getD i 0)] := by rw [boxC_s _ _ _ _ (by rw [eM_len]; omega), eM_cell hib]
    have hc := hg i hi8
    generalize a.getD i 0 = x at *
    generalize b.getD i 0 = y at *
    have hst : boxS (some (z, .box (eM (mPart f a b i)))) (F, 3) z i [.i .i64 (f x y)] = some ((F, 3), z, .box (eM (mPart f a b (i + 1)))) := by
      rw [boxS_s _ _ _ _ _ (by rw [eM_len]; simp; omega), splM _ _ _ (by omega), hs]
    simp only [go_sem, sB, reduceCtorEq, sL, sA, sE, sN, wb129_0, c1, ixaO_p _ _ _ _ _ _ _ hi8, Nat.mul_one, hxa, hxb, e2]
    refine callO_intro hc ?_
    simp only [go_sem, sB, reduceCtorEq, sL, sA, sE, sN, ixaO_p _ _ _ _ _ _ _ hi8, Nat.mul_one, hst, e2]
    exact ih (i + 1) _ (by omega) h0
theorem w129 (f : Int → Int → Int) (g : Nat) (a b : List Int) (ha : a.length = 8) (hb : b.length = 8)
    (hg : ∀ i, i < 8 → FnR Go.Proofs.Tryz.prog g [.i .i64 (a.getD i 0), .i .i64 (b.getD i 0)] [] (.i .i64 (f (a.getD i 0) (b.getD i 0)))) :
    FnR Go.Proofs.Tryz.prog 129 [.a (eM a), .a (eM b), .f g [] []] [] (.a (eM (List.zipWith f a b))) := by
  refine fnr129 (by simp) (by simp [D.nr, nrL_eM]) (by simp) List.nodup_nil fun F out hS => ?_
  have hl : (List.zipWith f a b).length = 8 := by simp [ha, hb]
  unfold ir129
  simp only [go_sem, sB, reduceCtorEq, sL, sA, sE, sN, z8]
  refine loop129 f g a b ha hb hg F out _ _ _ _ 8 0 _ (by omega) (fun nx => ?_)
  simp only [go_sem, sB, reduceCtorEq, sL, sA, sE, sN, z8, len8 hl, take8 hl, boxC_s _ _ _ _ (show 0 + 8 ≤ (eM (List.zipWith f a b)).length by rw [len8 hl]; decide), len80, drop80, rv129, fin_c]
  exact ⟨_, rfl, .refl _⟩
theorem w74 (a b : List Int) (ha : a.length = 8) (hb : b.length = 8) (ka : a.all okE = true) (kb : b.all okE = true) :
    FnR Go.Proofs.Tryz.prog 74 [.a (eM a), .a (eM b)] [] (if (mMul a b).all okE then .t [.a (eM (mMul a b)), .i .i64 0] else .t [.a (eM m0), .i .i64 2]) := by
  refine fnr74 (by simp) (by split <;> simp [D.nr, nrL, nrL_eM]) (by simp) List.nodup_nil fun F out hS => ?_
  have hl := mMul_len ha hb
  unfold ir74
  simp only [go_sem, sB, reduceCtorEq, sL, sA, sE, sN, z8, len8 ha, len8 hb, take8 ha, take8 hb, boxC_s _ _ _ _ (show 0 + 8 ≤ (eM a).length by rw [len8 ha]; decide), boxC_s _ _ _ _ (show 0 + 8 ≤ (eM b).length by rw [len8 hb]; decide)]
  refine callO_intro (w129 (fun x y => x + y) 130 a b ha hb (fun i _ => ?_)) ?_
  · have := okE_get ka i
    have := okE_get kb i
    exact w130 _ _ (by omega) (by omega)
  change _ at hl
  have e : List.zipWith (fun x y => x + y) a b = mMul a b := rfl
  rw [e]
  simp only [go_sem, sB, reduceCtorEq, sL, sA, sE, sN, z8, len8 hl, take8 hl, len80, drop80, boxC_s _ _ _ _ (show 0 + 8 ≤ (eM (mMul a b)).length by rw [len8 hl]; decide)]
  refine callO_intro (w69 _ hl) ?_
  cases h : (mMul a b).all okE with
  | true => 
    simp only [go_sem, sB, reduceCtorEq, sL, sA, sE, sN, z8, len8 hl, take8 hl, boxC_s _ _ _ _ (show 0 + 8 ≤ (eM (mMul a b)).length by rw [len8 hl]; decide), len80, drop80, rv74, fin_g, resAll, resL, resD, mkV]
    exact ⟨_, rfl, .refl _⟩
  | false => 
    simp only [go_sem, sB, reduceCtorEq, sL, sA, sE, sN, z8, len80, drop80, rv74, fin_g, resAll, resL, resD, mkV]
    exact ⟨_, rfl, .refl _⟩
theorem takeT {t : Tm} (h : t.1.length = 8) : (eT t).take 12 = eT t := List.take_of_length_le (by rw [eT_len h]; omega)
theorem takeT4 (t : Tm) : (eT t).take 4 = rC t.2 := (rfl)
theorem dropT (t : Tm) : (eT t).drop 4 = eM t.1 := (rfl)
theorem takeC (q : Rat) : (rC q).take 4 = rC q := (rfl)
theorem dropC (q : Rat) : (rC q).drop 4 = [] := (rfl)
theorem fillT2 (q : Rat) (m : List Int) (h : m.length = 8) : fillS (rC q ++ eM m0) 4 8 (some (eM m)) = some (eT (m, q)) := fillT0 _ _ _ _ m h
theorem eT_mk (t : Tm) : eT (t.1, t.2) = eT t := (rfl)
theorem beq_nat_ff {a b : Nat} (h : a ≠ b) : (((a : Nat) : Int) == ((b : Nat) : Int)) = false := by
  rw [beq_eq_false_iff_ne]; omega
theorem beq_nat_tt {a b : Nat} (h : a = b) : (((a : Nat) : Int) == ((b : Nat) : Int)) = true := by subst h; simp
theorem get_ex {α : Type} {l : List α} {i : Nat} (h : i < l.length) : ∃ t, l[i]? = some t := ⟨_, List.getElem?_eq_getElem h⟩
theorem drop_at {α : Type} {l : List α} {i : Nat} {t : α} (h : l[i]? = some t) : l.drop i = t :: l.drop (i + 1) := by
  obtain ⟨h1, h2⟩ := List.getElem?_eq_some_iff.1 h
  rw [List.drop_eq_getElem_cons h1, h2]
theorem map_app1 (res : List Tm) (t : Tm) : res.map eT ++ [eT t] = (res ++ [t]).map eT := by simp
theorem app_assoc1 (res l : List Tm) (t : Tm) : res ++ [t] ++ l = res ++ t :: l := by simp
theorem loop56 (p q : List Tm) (f g : Bool) {A : Nat} (hp : PB A p) (hq : PB A q) (hA : A ≤ 549755813888) (hl : p.length + q.length ≤ 1000000000000) (F : Nat) (out : Sto) (Q : Ex → St → Prop) :
    ∀ (n i k : Nat) (res : List Tm) (d : D) (own : Nat → Option (Nat × Obj)) (nx : Nat), (p.length - i) + (q.length - k) ≤ n → i ≤ p.length → k ≤ q.length → RowD F [50, 77, 103] own d 12 (res.map eT) → OwnB own nx → res.length ≤ i + k →
    (∀ d own nx, RowD F [50, 77, 103] own d 12 ((res ++ mrg (· + ·) id n (p.drop i) (q.drop k)).map eT) → OwnB own nx → Q (.exit 0) { r := (upd (upd (upd (upd (upd (upd (fun _ => .u) 19 (.b false)) 7 (.i .i64 q.length)) 6 (.i .i64 p.length)) 5 (d)) 1 (eP g q)) 0 (eP f p)), own := own, out := out, nx := nx }) →
    Loop Go.Proofs.Tryz.prog F [0, 1, 5, 6, 7] [50, 77, 103] b56_0 { r := (upd (upd (upd (upd (upd (fun _ => .u) 7 (.i .i64 k)) 6 (.i .i64 i)) 5 (d)) 1 (eP g q)) 0 (eP f p)), own := own, out := out, nx := nx } Q := by
  intro n
  induction n with
  | zero =>
    intro i k res d own nx hn hi hk hR hO hres h0
    refine Loop.stepW ?_
    have ei : i = p.length := by omega
    have ek : k = q.length := by omega
    subst ei ek
    have c1 : decide (((p.length : Nat) : Int) < ((p.length : Nat) : Int)) = false := by simp
    have c2 : decide (((q.length : Nat) : Int) < ((q.length : Nat) : Int)) = false := by simp
    simp only [go_sem, sB, reduceCtorEq, sL, sA, sE, sN, wb56_0, eP, eP_len, c1, c2]
    refine h0 _ _ _ ?_ ?_
    · simp only [mrg, List.append_nil]
      exact hR.on (by simp [upd])
    · exact ((((OwnB.none _).updv hO).updv hO).updv hO).mono (by omega)
  | succ n ih =>
    intro i k res d own nx hn hi hk hR hO hres h0
    refine Loop.stepW ?_
    have e1 : IntKind.wrap .i64 (((i : Nat) : Int) + 1) = ((i + 1 : Nat) : Int) := by rw [IntWalk.i64_in _ (by omega)]; omega
    have e2 : IntKind.wrap .i64 (((k : Nat) : Int) + 1) = ((k + 1 : Nat) : Int) := by rw [IntWalk.i64_in _ (by omega)]; omega
    by_cases hik : i < p.length
    · obtain ⟨t, ht⟩ := get_ex hik
      have hT := (hp.get ht).1
      have c1 : decide (((i : Nat) : Int) < ((p.length : Nat) : Int)) = true := decide_eq_true (by omega)
      have c3 := beq_nat_ff (show i ≠ p.length by omega)
      have hxp := ixsO_sl 12 f _ .i64 i _ (eP_at ht)
      by_cases hkq : k < q.length
      · obtain ⟨u, hu⟩ := get_ex hkq
        have hU := (hq.get hu).1
        have c2 : decide (((k : Nat) : Int) < ((q.length : Nat) : Int)) = true := decide_eq_true (by omega)
        have c4 := beq_nat_ff (show k ≠ q.length by omega)
        have hxq := ixsO_sl 12 g _ .i64 k _ (eP_at hu)
        rw [drop_at ht, drop_at hu] at h0
        simp only [go_sem, sB, reduceCtorEq, sL, sA, sE, sN, wb56_0, eP, eP_len, c1, c2, c3, c4, hxp, hxq, dropT, take8 hT, take8 hU, len8 hT, len8 hU]
        refine callO_intro (w73 _ _ hT hU) ?_
        by_cases g1 : 0 < cmpL t.1 u.1
        · simp only [mrg, if_pos g1] at h0
          rw [← drop_at hu] at h0
          simp only [go_sem, sB, reduceCtorEq, sL, sA, sE, sN, decide_eq_true (show cmpL t.1 u.1 > 0 from g1), hxp, takeT hT, eT_len hT]
          refine appO_R (S := [50, 77, 103]) (es := res.map eT) (hR.on (by simp [upd])) (((((OwnB.none _).updv hO).updv hO).updv hO).mono (by dsimp only; omega)) (by simp) (by simp; omega) (by simp; omega) (fun own' hb hoth hs => ?_)
          simp only [go_sem, sB, reduceCtorEq, sL, sA, sE, sN, eP, e1, c1, c2, map_app1]
          refine ih (i + 1) k (res ++ [t]) _ _ _ (by omega) (by omega) (by omega) ?_ ?_ (by simp; omega) (fun d own nx hR hO => h0 _ _ _ ?_ hO)
          · rw [← map_app1]
            exact .at (by simp) hs (by simp)
          · exact ((((OwnB.none _).updv hb).updv hb).updv hb).mono (by dsimp only; omega)
          · simpa only [mrg, id, app_assoc1, List.drop_length] using hR
        · simp only [go_sem, sB, reduceCtorEq, sL, sA, sE, sN, eP_len, decide_eq_false (show ¬ cmpL t.1 u.1 > 0 from g1), hxp, hxq, c3, dropT, take8 hT, take8 hU, len8 hT, len8 hU]
          refine callO_intro (w73 _ _ hT hU) ?_
          by_cases g2 : cmpL t.1 u.1 < 0
          · simp only [mrg, if_neg g1, if_pos g2] at h0
            rw [← drop_at ht] at h0
            simp only [go_sem, sB, reduceCtorEq, sL, sA, sE, sN, decide_eq_true g2, hxq, takeT hU, eT_len hU]
            refine appO_R (S := [50, 77, 103]) (es := res.map eT) (hR.on (by simp [upd])) (((((OwnB.none _).updv hO).updv hO).updv hO).mono (by dsimp only; omega)) (by simp) (by simp; omega) (by simp; omega) (fun own' hb hoth hs => ?_)
            simp only [go_sem, sB, reduceCtorEq, sL, sA, sE, sN, eP, e2, c1, c2, map_app1]
            refine ih i (k + 1) (res ++ [u]) _ _ _ (by omega) (by omega) (by omega) ?_ ?_ (by simp; omega) (fun d own nx hR hO => h0 _ _ _ ?_ hO)
            · rw [← map_app1]
              exact .at (by simp) hs (by simp)
            · exact ((((OwnB.none _).updv hb).updv hb).updv hb).mono (by dsimp only; omega)
            · simpa only [mrg, id, app_assoc1, List.drop_length] using hR
          · simp only [mrg, if_neg g1, if_neg g2] at h0
            simp only [go_sem, sB, reduceCtorEq, sL, sA, sE, sN, decide_eq_false g2, hxp, hxq, takeT4, eT_len hT, eT_len hU]
            refine callO_intro (q31 t.2 u.2 (by have := (hp.get ht).2; omega) (by have := (hq.get hu).2; omega)) ?_
            simp only [go_sem, sB, reduceCtorEq, sL, sA, sE, sN, rW_C, rC_len, takeC]
            refine callO_intro (q71 (t.2 + u.2)) ?_
            by_cases g3 : t.2 + u.2 = 0
            · simp only [if_pos g3] at h0
              have g4 : ((t.2 + u.2).num.sign != 0) = false := by rw [bne, sgn0 g3]; rfl
              simp only [go_sem, sB, reduceCtorEq, sL, sA, sE, sN, g4, e1, e2]
              refine ih (i + 1) (k + 1) res _ _ _ (by omega) (by omega) (by omega) ?_ ?_ (by omega) h0
              · exact hR.on (by simp [upd])
              · exact ((((OwnB.none _).updv hO).updv hO).updv hO).mono (by omega)
            · simp only [if_neg g3] at h0
              have g4 : ((t.2 + u.2).num.sign != 0) = true := by rw [bne, sgn1 g3]; rfl
              simp only [go_sem, sB, reduceCtorEq, sL, sA, sE, sN, g4, e1, e2, hxp, dropT, take8 hT, len8 hT, takeC, rC_len, eT_len (t := (t.1, t.2 + u.2)) hT, z8, fillT2 _ _ hT]
              refine appO_R (S := [50, 77, 103]) (es := res.map eT) (hR.on (by simp [upd])) (by dsimp only; exact (((((OwnB.none _).updv hO).updv hO).updv hO).mono (by omega)).updn (by omega)) (by simp) (by simp; omega) (by simp; omega) (fun own' hb hoth hs => ?_)
              simp only [go_sem, sB, reduceCtorEq, sL, sA, sE, sN, eP, e1, e2, map_app1]
              refine ih (i + 1) (k + 1) (res ++ [(t.1, t.2 + u.2)]) _ _ _ (by omega) (by omega) (by omega) ?_ ?_ (by simp; omega) (fun d own nx hR hO => h0 _ _ _ ?_ hO)
              · rw [← map_app1]
                exact .at (by simp) hs (by simp)
              · exact ((((OwnB.none _).updv hb).updv hb).updv hb).mono (by dsimp only; omega)
              · simpa only [app_assoc1] using hR
      · have ek : k = q.length := by omega
        subst ek
        have c2 : decide (((q.length : Nat) : Int) < ((q.length : Nat) : Int)) = false := by simp
        have c4 := beq_nat_tt (rfl : q.length = q.length)
        rw [drop_at ht, List.drop_length] at h0
        simp only [go_sem, sB, reduceCtorEq, sL, sA, sE, sN, wb56_0, eP, eP_len, c1, c2, c3, c4, hxp, takeT hT, eT_len hT]
        refine appO_R (S := [50, 77, 103]) (es := res.map eT) (hR.on (by simp [upd])) (((((OwnB.none _).updv hO).updv hO).updv hO).mono (by dsimp only; omega)) (by simp) (by simp; omega) (by simp; omega) (fun own' hb hoth hs => ?_)
        simp only [go_sem, sB, reduceCtorEq, sL, sA, sE, sN, eP, e1, c1, c2, map_app1]
        refine ih (i + 1) q.length (res ++ [t]) _ _ _ (by omega) (by omega) (by omega) ?_ ?_ (by simp; omega) (fun d own nx hR hO => h0 _ _ _ ?_ hO)
        · rw [← map_app1]
          exact .at (by simp) hs (by simp)
        · exact ((((OwnB.none _).updv hb).updv hb).updv hb).mono (by dsimp only; omega)
        · simpa only [mrg, id, app_assoc1, List.drop_length] using hR
    · have ei : i = p.length := by omega
      subst ei
      by_cases hkq : k < q.length
      case neg =>
        have ek : k = q.length := by omega
        subst ek
        have c1 : decide (((p.length : Nat) : Int) < ((p.length : Nat) : Int)) = false := by simp
        have c2 : decide (((q.length : Nat) : Int) < ((q.length : Nat) : Int)) = false := by simp
        simp only [go_sem, sB, reduceCtorEq, sL, sA, sE, sN, wb56_0, eP, eP_len, c1, c2]
        refine h0 _ _ _ ?_ ?_
        · simp only [mrg, List.drop_length, List.append_nil]
          exact hR.on (by simp [upd])
        · exact ((((OwnB.none _).updv hO).updv hO).updv hO).mono (by omega)
      obtain ⟨u, hu⟩ := get_ex hkq
      have hU := (hq.get hu).1
      have c1 : decide (((p.length : Nat) : Int) < ((p.length : Nat) : Int)) = false := by simp
      have c2 : decide (((k : Nat) : Int) < ((q.length : Nat) : Int)) = true := decide_eq_true (by omega)
      have c3 := beq_nat_tt (rfl : p.length = p.length)
      have c4 := beq_nat_ff (show k ≠ q.length by omega)
      have hxq := ixsO_sl 12 g _ .i64 k _ (eP_at hu)
      rw [drop_at hu, List.drop_length] at h0
      simp only [go_sem, sB, reduceCtorEq, sL, sA, sE, sN, wb56_0, eP, eP_len, c1, c2, c3, c4, hxq, takeT hU, eT_len hU]
      refine appO_R (S := [50, 77, 103]) (es := res.map eT) (hR.on (by simp [upd])) (((((OwnB.none _).updv hO).updv hO).updv hO).mono (by dsimp only; omega)) (by simp) (by simp; omega) (by simp; omega) (fun own' hb hoth hs => ?_)
      simp only [go_sem, sB, reduceCtorEq, sL, sA, sE, sN, eP, e2, c1, c2, map_app1]
      refine ih p.length (k + 1) (res ++ [u]) _ _ _ (by omega) (by omega) (by omega) ?_ ?_ (by simp; omega) (fun d own nx hR hO => h0 _ _ _ ?_ hO)
      · rw [← map_app1]
        exact .at (by simp) hs (by simp)
      · exact ((((OwnB.none _).updv hb).updv hb).updv hb).mono (by dsimp only; omega)
      · simpa only [mrg, id, app_assoc1, List.drop_length] using hR
theorem w56 (p q : List Tm) (f g : Bool) {A : Nat} (hp : PB A p) (hq : PB A q) (hA : A ≤ 549755813888) (hl : p.length + q.length ≤ 1000000000000) : FnR Go.Proofs.Tryz.prog 56 [eP f p, eP g q] [] (eP false (addP p q)) := by
  refine fnr56 (by simp) (nr_eP _ _) (by simp) List.nodup_nil fun F out hS => ?_
  unfold ir56
  simp only [go_sem, sB, reduceCtorEq, sL, sA, sE, sN, eP]
  refine loop56 p q f g hp hq hA hl F out _ (p.length + q.length) 0 0 [] _ _ _ (by omega) (by omega) (by omega) (.nil _ _ _ _) ?_ (by simp) (fun d own nx hR hO => ?_)
  · exact (((OwnB.none _).upd0).upd0).upd0
  · simp only [go_sem, sB, reduceCtorEq, sL, sA, sE, sN]
    refine frz_R (S := [50, 77, 103]) (hR.on (by simp [upd])) rfl (fun f' own' nx' => ?_)
    simp only [go_sem, sB, reduceCtorEq, sL, sA, sE, sN, rv56, fin_t, addP]
    exact weak_full _ _ _
def PM (p : List Tm) : Prop := ∀ t ∈ p, t.1.all okE = true
theorem PM.get {p : List Tm} (h : PM p) {i : Nat} {t : Tm} (hi : p[i]? = some t) : t.1.all okE = true := h t (List.mem_of_getElem? hi)
theorem PM.tail {t : Tm} {p : List Tm} (h : PM (t :: p)) : PM p := fun u hu => h u (List.mem_cons_of_mem _ hu)
theorem PM.head {t : Tm} {p : List Tm} (h : PM (t :: p)) : t.1.all okE = true := h t (by simp)
def fitP (m : List Int) (p : List Tm) : Bool := p.all fun t => (mMul m t.1).all okE
def mulT (c : Rat) (m : List Int) (p : List Tm) : List Tm := p.map fun t => (mMul m t.1, c * t.2)
theorem loop52 (c : Rat) (m : List Int) (p : List Tm) (f : Bool) {A : Nat} (hm : m.length = 8) (km : m.all okE = true) (hp : PB A p) (kp : PM p) (hc : LQ c ≤ A) (hA : A ≤ 549755813888) (hl : p.length ≤ 1000000000000) (F : Nat) (out : Sto) (Q : Ex → St → Prop) (z z' : Nat) :
    ∀ (l : List Tm) (i : Nat) (res : List Tm) (d : D) (own : Nat → Option (Nat × Obj)) (nx : Nat), p.drop i = l → i + l.length = p.length → RowD F [45] own d 12 (res.map eT) → own 3 = some (z, .box (rC c)) → own 4 = some (z', .box (eM m)) → OwnB own nx → res.length = i →
    (fitP m l = true → ∀ r d own nx, RowD F [45] own d 12 ((res ++ mulT c m l).map eT) → OwnB own nx → r 8 = d → Q (.exit 0) { r := r, own := own, out := out, nx := nx }) →
    (fitP m l = false → ∀ own nx, Q .ret { r := (upd (upd (fun _ => .u) 7 (.i .i64 2)) 6 (.sl 12 true [])), own := own, out := out, nx := nx }) →
    Loop Go.Proofs.Tryz.prog F [2, 3, 4, 8, 9] [3, 4, 45] b52_0 { r := (upd (upd (upd (upd (upd (fun _ => .u) 9 (.i .i64 i)) 8 (d)) 4 (.p (F, 4) z' 0)) 3 (.p (F, 3) z 0)) 2 (eP f p)), own := own, out := out, nx := nx } Q := by
  intro l
  induction l with
  | nil =>
    intro i res d own nx hd hi hR h3 h4 hO hres h0 h1
    refine Loop.stepW ?_
    have ei : i = p.length := by simpa using hi
    subst ei
    have c1 : decide (((p.length : Nat) : Int) < ((p.length : Nat) : Int)) = false := by simp
    simp only [go_sem, sB, reduceCtorEq, sL, sA, sE, sN, wb52_0, eP, eP_len, c1]
    refine h0 rfl _ d _ _ ?_ ?_ rfl
    · simp only [mulT, List.map_nil, List.append_nil]
      exact hR.on (by simp [upd])
    · exact ((((OwnB.none _).updv hO).updv hO).updv hO).mono (by omega)
  | cons t l ih =>
    intro i res d own nx hd hi hR h3 h4 hO hres h0 h1
    refine Loop.stepW ?_
    simp only [List.length_cons] at hi
    have ht : p[i]? = some t := by
      have := List.getElem?_drop (xs := p) (i := i) (j := 0)
      rw [hd] at this
      simpa using this.symm
    have e1 : IntKind.wrap .i64 (((i : Nat) : Int) + 1) = ((i + 1 : Nat) : Int) := by rw [IntWalk.i64_in _ (by omega)]; omega
    have c1 : decide (((i : Nat) : Int) < ((p.length : Nat) : Int)) = true := decide_eq_true (by omega)
    have hT := (hp.get ht).1
    have hxp := ixsO_sl 12 f _ .i64 i _ (eP_at ht)
    have hl8 := mMul_len hm hT
    have b4 : ∀ z', boxC (some (z', .box (eM m))) z' 0 8 = some (eM m) := fun z' => by rw [boxC_s _ _ _ _ (by rw [len8 hm]; decide), List.drop_zero, take8 hm]
    have bn : ∀ z', boxC (some (z', .box (eM (mMul m t.1)))) z' 0 8 = some (eM (mMul m t.1)) := fun z' => by rw [boxC_s _ _ _ _ (by rw [len8 hl8]; decide), List.drop_zero, take8 hl8]
    simp only [go_sem, sB, reduceCtorEq, sL, sA, sE, sN, wb52_0, eP, eP_len, c1, h3, h4, b4, hxp, dropT, take8 hT, len8 hT]
    refine callO_intro (w39 _ _ hm hT km (kp.get ht)) ?_
    cases hf : (mMul m t.1).all okE with
    | false =>
      have hff : fitP m (t :: l) = false := by simp [fitP, hf]
      simp only [go_sem, sB, reduceCtorEq, sL, sA, sE, sN, z8, len80, drop80, show ((2 : Int) != 0) = true from rfl]
      exact h1 hff _ _
    | true =>
      have hfe : fitP m (t :: l) = fitP m l := by simp [fitP, hf]
      rw [hfe] at h0 h1
      simp only [go_sem, sB, reduceCtorEq, sL, sA, sE, sN, eP_len, z8, len80, len8 hl8, drop80, show ((0 : Int) != 0) = false from rfl, h3, hxp, takeT4, takeC, rC_len, eT_len hT, dropC]
      refine callO_intro (q32 c t.2 (by omega) (by have := (hp.get ht).2; omega)) ?_
      simp only [go_sem, sB, reduceCtorEq, sL, sA, sE, sN, rW_C, rC_len, takeC, bn, z8, fillT2 _ _ hl8, eT_len (t := (mMul m t.1, c * t.2)) hl8]
      have z3 := hO _ _ _ h3
      have z4 := hO _ _ _ h4
      refine appO_R (S := [45]) (es := res.map eT) (hR.on (by simp [upd])) (by dsimp only; repeat' first | exact OwnB.none _ | refine OwnB.updn ?_ (by omega) | refine OwnB.upd0 ?_ | refine OwnB.updv (own := own) ?_ (hO.mono (by omega))) (by simp) (by simp; omega) (by simp; omega) (fun own' hb hoth hs => ?_)
      have h3' := hoth 3 (by decide) (by decide)
      have h4' := hoth 4 (by decide) (by decide)
      simp only [go_sem, sB, reduceCtorEq, sL, sA, sE, sN, eP, e1, map_app1, h3, h4] at h3' h4' ⊢
      refine ih (i + 1) (res ++ [(mMul m t.1, c * t.2)]) _ _ _ (by rw [drop_at ht] at hd; injection hd) (by omega) ?_ h3' h4' ?_ (by simp; omega) (fun hf r d own nx hR hO hd => h0 hf r d own nx ?_ hO hd) h1
      · rw [← map_app1]
        exact .at (by simp) hs (by simp)
      · repeat' first | exact OwnB.none _ | refine OwnB.updn ?_ (by first | omega | (dsimp only; omega)) | refine OwnB.upd0 ?_ | refine OwnB.updv (own := own') ?_ (hb.mono (by first | omega | (dsimp only; omega)))
      · simpa only [mulT, List.map_cons, app_assoc1] using hR
def timP (c : Rat) (m : List Int) (p : List Tm) : List Tm × Int := if c = 0 then ([], 0) else if fitP m p then (mulT c m p, 0) else ([], 2)
theorem nr_t2 (f : Bool) (p : List Tm) (n : Int) : (D.t [eP f p, .i .i64 n]).nr = true := by simp only [D.nr, nrL, Bool.and_true]; exact nr_eP _ _
theorem w52 (c : Rat) (m : List Int) (p : List Tm) (f : Bool) {A : Nat} (hm : m.length = 8) (km : m.all okE = true) (hp : PB A p) (kp : PM p) (hc : LQ c ≤ A) (hA : A ≤ 549755813888) (hl : p.length ≤ 1000000000000) :
    FnR Go.Proofs.Tryz.prog 52 [rW c, .a (eM m), eP f p] [] (.t [eP false (timP c m p).1, .i .i64 (timP c m p).2]) := by
  refine fnr52 (by simp) (nr_t2 _ _ _) (by simp) List.nodup_nil fun F out hS => ?_
  unfold ir52
  simp only [go_sem, sB, reduceCtorEq, sL, sA, sE, sN, rW_C, rC_len, takeC]
  refine callO_intro (q71 c) ?_
  by_cases h : c = 0
  · have e : timP c m p = ([], 0) := if_pos h
    rw [e]
    simp only [go_sem, sB, reduceCtorEq, sL, sA, sE, sN, sgn0 h, rv52, fin_t2]
    exact .t (.cons (weak_full _ _ _) (.refl _))
  · have e : timP c m p = if fitP m p then (mulT c m p, 0) else ([], 2) := if_neg h
    rw [e]
    simp only [go_sem, sB, reduceCtorEq, sL, sA, sE, sN, sgn1 h]
    refine loop52 c m p f hm km hp kp hc hA hl F out _ _ _ p 0 [] _ _ _ rfl (by omega) (.nil _ _ _ _) rfl rfl ?_ rfl (fun hf r d own nx hR hO hd => ?_) (fun hf own nx => ?_)
    · repeat' first | exact OwnB.none _ | refine OwnB.updn ?_ (by first | omega | (dsimp only; omega)) | refine OwnB.upd0 ?_
    · simp only [go_sem, sB, reduceCtorEq, sL, sA, sE, sN, hd]
      refine frz_R (S := [45]) (hR.on (by simp [upd])) rfl (fun f' own' nx' => ?_)
      simp only [go_sem, sB, reduceCtorEq, sL, sA, sE, sN, rv52, fin_t2, hf]
      exact .t (.cons (weak_full _ _ _) (.refl _))
    · simp only [go_sem, sB, reduceCtorEq, sL, sA, sE, sN, rv52, fin_t2, hf]
      exact .t (.cons (weak_full _ _ _) (.refl _))
theorem w98 (c : Rat) (p : List Tm) (f : Bool) {A : Nat} (hp : PB A p) (kp : PM p) (hc : LQ c ≤ A) (hA : A ≤ 549755813888) (hl : p.length ≤ 1000000000000) :
    FnR Go.Proofs.Tryz.prog 98 [rW c, eP f p] [] (eP false (timP c m0 p).1) := by
  refine fnr98 (by simp) (nr_eP _ _) (by simp) List.nodup_nil fun F out hS => ?_
  unfold ir98
  simp only [go_sem, sB, reduceCtorEq, sL, sA, sE, sN, rW_C, rC_len, takeC, z8]
  refine callO_intro (w52 c m0 p f rfl (by decide) hp kp hc hA hl) ?_
  simp only [go_sem, sB, reduceCtorEq, sL, sA, sE, sN, rv98, fin_t]
  exact .refl _
theorem mrg_length (f : Rat → Rat → Rat) (g : Rat → Rat) : ∀ (n : Nat) (p q : List Tm), (mrg f g n p q).length ≤ p.length + q.length
  | 0, _, _ => by simp [mrg]
  | n + 1, [], [] => by simp [mrg]
  | n + 1, [], b :: q => by have := mrg_length f g n [] q; simp [mrg] at this ⊢; omega
  | n + 1, a :: p, [] => by have := mrg_length f g n p []; simp [mrg] at this ⊢; omega
  | n + 1, a :: p, b :: q => by
    have h1 := mrg_length f g n p (b :: q)
    have h2 := mrg_length f g n (a :: p) q
    have h3 := mrg_length f g n p q
    simp only [mrg]
    simp only [List.length_cons] at *
    split
    · simp only [List.length_cons]; omega
    · split
      · simp only [List.length_cons]; omega
      · split
        · omega
        · simp only [List.length_cons]; omega
theorem mrg_all {P : Tm → Prop} {f : Rat → Rat → Rat} {g : Rat → Rat} (hg : ∀ t : Tm, P t → P (t.1, g t.2)) (hf : ∀ t u : Tm, P t → P u → P (t.1, f t.2 u.2)) : ∀ (n : Nat) (p q : List Tm), (∀ t ∈ p, P t) → (∀ t ∈ q, P t) → ∀ t ∈ mrg f g n p q, P t
  | 0, _, _, _, _, t, h => by simp [mrg] at h
  | n + 1, [], [], _, _, t, h => by simp [mrg] at h
  | n + 1, [], b :: q, hp, hq, t, h => by
    simp only [mrg, List.mem_cons] at h
    rcases h with rfl | h
    · exact hg b (hq b (by simp))
    · exact mrg_all hg hf n [] q hp (fun t ht => hq t (by simp [ht])) t h
  | n + 1, a :: p, [], hp, hq, t, h => by
    simp only [mrg, List.mem_cons] at h
    rcases h with rfl | h
    · exact hp _ (by simp)
    · exact mrg_all hg hf n p [] (fun t ht => hp t (by simp [ht])) hq t h
  | n + 1, a :: p, b :: q, hp, hq, t, h => by
    have ha := hp a (by simp)
    have hb := hq b (by simp)
    have hp' : ∀ t ∈ p, P t := fun t ht => hp t (by simp [ht])
    have hq' : ∀ t ∈ q, P t := fun t ht => hq t (by simp [ht])
    have h1 := mrg_all hg hf n p (b :: q) hp' hq t
    have h2 := mrg_all hg hf n (a :: p) q hp hq' t
    have h3 := mrg_all hg hf n p q hp' hq' t
    simp only [mrg] at h
    split at h
    · rcases List.mem_cons.1 h with rfl | h
      · exact ha
      · exact h1 h
    · split at h
      · rcases List.mem_cons.1 h with rfl | h
        · exact hg b hb
        · exact h2 h
      · split at h
        · exact h3 h
        · rcases List.mem_cons.1 h with rfl | h
          · exact hf a b ha hb
          · exact h3 h
theorem PB_add {A B : Nat} {p q : List Tm} (hp : PB A p) (hq : PB B q) : PB (A + B + 1) (addP p q) := by
  have key : ∀ n (p q : List Tm), PB A p → PB B q → ∀ t ∈ mrg (· + ·) id n p q, t.1.length = 8 ∧ LQ t.2 ≤ A + B + 1 := by
    intro n
    induction n with
    | zero => intro p q _ _ t ht; simp [mrg] at ht
    | succ n ih =>
      intro p q hp hq t ht
      cases p with
      | nil =>
        cases q with
        | nil => simp [mrg] at ht
        | cons b q =>
          simp only [mrg, List.mem_cons] at ht
          rcases ht with rfl | ht
          · exact ⟨hq.head.1, by have := hq.head.2; simp only [id]; omega⟩
          · exact ih [] q hp hq.tail t ht
      | cons a p =>
        cases q with
        | nil =>
          simp only [mrg, List.mem_cons] at ht
          rcases ht with rfl | ht
          · exact ⟨hp.head.1, by have := hp.head.2; omega⟩
          · exact ih p [] hp.tail hq t ht
        | cons b q =>
          simp only [mrg] at ht
          have h1 := hp.head
          have h2 := hq.head
          have h3 := LQ_add a.2 b.2
          split at ht
          · rcases List.mem_cons.1 ht with rfl | ht
            · exact ⟨h1.1, by omega⟩
            · exact ih p (b :: q) hp.tail hq t ht
          · split at ht
            · rcases List.mem_cons.1 ht with rfl | ht
              · exact ⟨h2.1, by simp only [id]; omega⟩
              · exact ih (a :: p) q hp hq.tail t ht
            · split at ht
              · exact ih p q hp.tail hq.tail t ht
              · rcases List.mem_cons.1 ht with rfl | ht
                · exact ⟨h1.1, by simp only; omega⟩
                · exact ih p q hp.tail hq.tail t ht
  exact ⟨fun t ht => (key _ p q hp hq t ht).1, fun t ht => (key _ p q hp hq t ht).2⟩
theorem PM_add {p q : List Tm} (hp : PM p) (hq : PM q) : PM (addP p q) := mrg_all (P := fun t => t.1.all okE = true) (fun t h => h) (fun t u h _ => h) _ p q hp hq
theorem add_length (p q : List Tm) : (addP p q).length ≤ p.length + q.length := mrg_length _ _ _ p q
theorem PB_tim {A B : Nat} {c : Rat} {m : List Int} {p : List Tm} (hm : m.length = 8) (hp : PB A p) (hc : LQ c ≤ B) : PB (B + A) (timP c m p).1 := by
  have h1 : PB (B + A) (mulT c m p) := by
    refine ⟨fun t ht => ?_, fun t ht => ?_⟩
    · obtain ⟨u, hu, rfl⟩ := List.mem_map.1 ht
      exact mMul_len hm (hp.len u hu)
    · obtain ⟨u, hu, rfl⟩ := List.mem_map.1 ht
      have := LQ_mul c u.2
      have := hp.lq u hu
      show LQ (c * u.2) ≤ _
      omega
  unfold timP
  split
  · exact .nil _
  · split
    · exact h1
    · exact .nil _
theorem tim_length (c : Rat) (m : List Int) (p : List Tm) : (timP c m p).1.length ≤ p.length := by
  unfold timP
  split
  · simp
  · split
    · simp [mulT]
    · simp
theorem PM_tim (c : Rat) (m : List Int) (p : List Tm) : PM (timP c m p).1 := by
  unfold timP
  split
  · intro t ht; simp at ht
  · split
    · rename_i h
      intro t ht
      obtain ⟨u, hu, rfl⟩ := List.mem_map.1 ht
      exact List.all_eq_true.1 h u hu
    · intro t ht; simp at ht
def subR (p q : List Tm) : List Tm := addP p (timP (-1) m0 q).1
theorem LQ_m1 : LQ (-1) ≤ 1 := by
  have : LZ (-1) ≤ 1 := L_le (by decide)
  have h2 : L 1 ≤ 1 := L_le (by decide)
  exact Nat.max_le.2 ⟨this, h2⟩
theorem w57 (p q : List Tm) (f g : Bool) {A : Nat} (hp : PB A p) (hq : PB A q) (kq : PM q) (hA : A + 1 ≤ 549755813888) (hl : p.length + q.length ≤ 1000000000000) : FnR Go.Proofs.Tryz.prog 57 [eP f p, eP g q] [] (eP false (subR p q)) := by
  refine fnr57 (by simp) (nr_eP _ _) (by simp) List.nodup_nil fun F out hS => ?_
  have e1 : ((-1 : Int) : Rat) = -1 := rfl
  unfold ir57 subR
  simp only [go_sem, sB, reduceCtorEq, sL, sA, sE, sN]
  refine callO_intro (q23 (-1) (by omega) (by omega)) ?_
  rw [e1]
  simp only [go_sem, sB, reduceCtorEq, sL, sA, sE, sN]
  refine callO_intro (w98 (-1) q g (A := A + 1) (hq.mono (by omega)) kq (by have := LQ_m1; omega) (by omega) (by omega)) ?_
  simp only [go_sem, sB, reduceCtorEq, sL, sA, sE, sN]
  have h1 := tim_length (-1) m0 q
  refine callO_intro (w56 p _ f false (A := A + 1) (hp.mono (by omega)) ((PB_tim (A := A) (B := 1) rfl hq LQ_m1).mono (by omega)) (by omega) (by omega)) ?_
  simp only [go_sem, sB, reduceCtorEq, sL, sA, sE, sN, rv57, fin_t]
  exact .refl _
def mulR : List Tm → List Tm → List Tm → List Tm × Int
  | out, [], _ => (out, 0)
  | out, t :: p, q => if (timP t.2 t.1 q).2 = 0 then mulR (addP out (timP t.2 t.1 q).1) p q else ([], 2)
def mulP (p q : List Tm) : List Tm × Int := mulR [] p q
theorem tim_2 (c : Rat) (m : List Int) (p : List Tm) : (timP c m p).2 = 0 ∨ (timP c m p).2 = 2 := by
  unfold timP
  split
  · simp
  · split <;> simp
theorem loop115 (p q : List Tm) (f g : Bool) {A : Nat} (hp : PB A p) (hq : PB A q) (kp : PM p) (kq : PM q) (hA : (p.length + 1) * (2 * A + 1) ≤ 549755813888) (hl : p.length + (p.length + 1) * q.length ≤ 1000000000000) (F : Nat) (out : Sto) (Q : Ex → St → Prop) :
    ∀ (l : List Tm) (i : Nat) (res : List Tm) (h : Bool) (nx : Nat), p.drop i = l → i + l.length = p.length → PB (i * (2 * A + 1)) res → PM res → res.length ≤ i * q.length →
    ((mulR res l q).2 = 0 → ∀ r h' nx, r 6 = eP h' (mulR res l q).1 → Q (.exit 0) { r := r, own := fun _ => none, out := out, nx := nx }) →
    ((mulR res l q).2 = 2 → ∀ nx, Q .ret { r := (upd (upd (fun _ => .u) 5 (.i .i64 2)) 4 (.sl 12 true [])), own := fun _ => none, out := out, nx := nx }) →
    Loop Go.Proofs.Tryz.prog F [0, 1, 6, 7] [] b115_0 { r := (upd (upd (upd (upd (fun _ => .u) 7 (.i .i64 i)) 6 (eP h res)) 1 (eP g q)) 0 (eP f p)), own := fun _ => none, out := out, nx := nx } Q := by
  intro l
  induction l with
  | nil =>
    intro i res h nx hd hi hB hM hres h0 h1
    refine Loop.stepW ?_
    have ei : i = p.length := by simpa using hi
    subst ei
    have c1 : decide (((p.length : Nat) : Int) < ((p.length : Nat) : Int)) = false := by simp
    simp only [go_sem, sB, reduceCtorEq, sL, sA, sE, sN, wb115_0, eP, eP_len, c1]
    exact h0 rfl _ h _ rfl
  | cons t l ih =>
    intro i res h nx hd hi hB hM hres h0 h1
    refine Loop.stepW ?_
    simp only [List.length_cons] at hi
    have ht : p[i]? = some t := by
      have := List.getElem?_drop (xs := p) (i := i) (j := 0)
      rw [hd] at this
      simpa using this.symm
    have e1 : IntKind.wrap .i64 (((i : Nat) : Int) + 1) = ((i + 1 : Nat) : Int) := by rw [IntWalk.i64_in _ (by omega)]; omega
    have c1 : decide (((i : Nat) : Int) < ((p.length : Nat) : Int)) = true := decide_eq_true (by omega)
    have hT := hp.get ht
    have hxp := ixsO_sl 12 f _ .i64 i _ (eP_at ht)
    have m1 : (i + 1) * (2 * A + 1) ≤ (p.length + 1) * (2 * A + 1) := Nat.mul_le_mul_right _ (by omega)
    have m1' : (i + 1) * (2 * A + 1) = i * (2 * A + 1) + (2 * A + 1) := by rw [Nat.add_mul, Nat.one_mul]
    have m2 : (i + 1) * q.length ≤ (p.length + 1) * q.length := Nat.mul_le_mul_right _ (by omega)
    have m2' : (i + 1) * q.length = i * q.length + q.length := by rw [Nat.add_mul, Nat.one_mul]
    have ql : q.length ≤ (p.length + 1) * q.length := Nat.le_mul_of_pos_left _ (by omega)
    simp only [go_sem, sB, reduceCtorEq, sL, sA, sE, sN, wb115_0, eP_len, eP, c1, hxp, dropT, takeT4, take8 hT.1, len8 hT.1, eT_len hT.1]
    refine callO_intro (w52 t.2 t.1 q g hT.1 (kp.get ht) hq kq hT.2 (by omega) (by omega)) ?_
    simp only [mulR] at h0 h1
    have tl := tim_length t.2 t.1 q
    rcases tim_2 t.2 t.1 q with h2 | h2
    · rw [if_pos h2] at h0 h1
      simp only [go_sem, sB, reduceCtorEq, sL, sA, sE, sN, h2, show ((0 : Int) != 0) = false from rfl]
      refine callO_intro (w56 res _ h false (A := i * (2 * A + 1) + 2 * A) (hB.mono (by omega)) ((PB_tim hT.1 hq hT.2).mono (by omega)) (by omega) (by omega)) ?_
      simp only [go_sem, sB, reduceCtorEq, sL, sA, sE, sN, e1]
      refine ih (i + 1) _ false _ (by rw [drop_at ht] at hd; injection hd) (by omega) ((PB_add hB (PB_tim hT.1 hq hT.2)).mono (by omega)) (PM_add hM (PM_tim _ _ _)) ?_ h0 h1
      have := add_length res (timP t.2 t.1 q).1
      omega
    · have hne : ¬ (timP t.2 t.1 q).2 = 0 := by omega
      rw [if_neg hne] at h0 h1
      simp only [go_sem, sB, reduceCtorEq, sL, sA, sE, sN, h2, show ((2 : Int) != 0) = true from rfl]
      exact h1 rfl _
theorem mulR_2 : ∀ (p out q : List Tm), (mulR out p q).2 = 0 ∨ (mulR out p q = ([], 2))
  | [], out, q => .inl rfl
  | t :: p, out, q => by
    simp only [mulR]
    split
    · exact mulR_2 p _ q
    · exact .inr rfl
theorem w115 (p q : List Tm) (f g : Bool) {A : Nat} (hp : PB A p) (hq : PB A q) (kp : PM p) (kq : PM q) (hA : (p.length + 1) * (2 * A + 1) ≤ 549755813888) (hl : p.length + (p.length + 1) * q.length ≤ 1000000000000) :
    FnR Go.Proofs.Tryz.prog 115 [eP f p, eP g q] [] (.t [eP false (mulP p q).1, .i .i64 (mulP p q).2]) := by
  refine fnr115 (by simp) (nr_t2 _ _ _) (by simp) List.nodup_nil fun F out hS => ?_
  unfold ir115 mulP
  simp only [go_sem, sB, reduceCtorEq, sL, sA, sE, sN]
  refine loop115 p q f g hp hq kp kq hA hl F out _ p 0 [] true _ rfl (by omega) (.nil _) (by intro t ht; simp at ht) (by simp) (fun h0 r h' nx hr => ?_) (fun h2 nx => ?_)
  · simp only [go_sem, sB, reduceCtorEq, sL, sA, sE, sN, hr, h0, rv115, fin_t2]
    exact .t (.cons (weak_full _ _ _) (.refl _))
  · rcases mulR_2 p [] q with h3 | h3
    · omega
    · simp only [go_sem, sB, reduceCtorEq, sL, sA, sE, sN, h3, rv115, fin_t2]
      exact .t (.cons (weak_full _ _ _) (.refl _))
theorem w47 (p q : List Tm) (f g : Bool) {A : Nat} (hp : PB A p) (hq : PB A q) (kp : PM p) (kq : PM q) (hA : (p.length + 1) * (2 * A + 1) ≤ 549755813888) (hl : p.length + (p.length + 1) * q.length ≤ 1000000000000) :
    FnR Go.Proofs.Tryz.prog 47 [eP f p, eP g q] [] (eP false (mulP p q).1) := by
  refine fnr47 (by simp) (nr_eP _ _) (by simp) List.nodup_nil fun F out hS => ?_
  unfold ir47
  simp only [go_sem, sB, reduceCtorEq, sL, sA, sE, sN]
  refine callO_intro (w115 p q f g hp hq kp kq hA hl) ?_
  simp only [go_sem, sB, reduceCtorEq, sL, sA, sE, sN, rv47, fin_t]
  exact .refl _
theorem intsEq_eM : ∀ (a b : List Int), a.length = b.length → intsEq (eM a) (eM b) = some (decide (a = b))
  | [], [], _ => by simp [eM, intsEq]
  | x :: a, y :: b, h => by
    have := intsEq_eM a b (by simpa using h)
    simp only [eM, List.map_cons, intsEq] at this ⊢
    by_cases hxy : x = y
    · simp [hxy, this]
    · simp [hxy]
theorem eqMf {a b : List Int} (ha : a.length = 8) (hb : b.length = 8) : evEqa false 8 (.a (eM a)) (.a (eM b)) = some (.b (decide (a = b))) := by
  simp only [evEqa, len8 ha, len8 hb, and_self, if_true, intsEq_eM a b (by omega), Option.map_some, Bool.bne_false]
theorem w78 (t u : Tm) (ht : t.1.length = 8) (hu : u.1.length = 8) (hl : LQ t.2 ≤ 140737488355328) : FnR Go.Proofs.Tryz.prog 78 [.a (eT t), .a (eT u)] [] (.b (decide (t = u))) := by
  refine fnr78 (by simp) rfl (by simp) List.nodup_nil fun F out hS => ?_
  have bt : ∀ z, boxC (some (z, .box (eT t))) z 4 8 = some (eM t.1) := fun z => by rw [boxC_s _ _ _ _ (by rw [eT_len ht]; decide), dropT, take8 ht]
  have bu : ∀ z, boxC (some (z, .box (eT u))) z 4 8 = some (eM u.1) := fun z => by rw [boxC_s _ _ _ _ (by rw [eT_len hu]; decide), dropT, take8 hu]
  have bt' : ∀ z, boxC (some (z, .box (eT t))) z 0 4 = some (rC t.2) := fun z => by rw [boxC_s _ _ _ _ (by rw [eT_len ht]; decide), List.drop_zero, takeT4]
  have bu' : ∀ z, boxC (some (z, .box (eT u))) z 0 4 = some (rC u.2) := fun z => by rw [boxC_s _ _ _ _ (by rw [eT_len hu]; decide), List.drop_zero, takeT4]
  unfold ir78
  by_cases h1 : t.1 = u.1
  · simp only [go_sem, sB, reduceCtorEq, sL, sA, sE, sN, eT_len ht, eT_len hu, bt, bu, eqMf ht hu, decide_eq_true h1, bt', bu']
    have c := q29 t.2 u.2 hl
    refine callO_intro c ?_
    have e : decide (t = u) = decide (t.2 = u.2) := by
      apply decide_eq_decide.2
      constructor
      · rintro rfl; rfl
      · intro h; exact Prod.ext h1 h
    rw [e]
    simp only [go_sem, sB, reduceCtorEq, sL, sA, sE, sN, rv78, fin_t]
    exact .refl _
  · have e : decide (t = u) = false := by
      apply decide_eq_false
      rintro rfl
      exact h1 rfl
    rw [e]
    simp only [go_sem, sB, reduceCtorEq, sL, sA, sE, sN, eT_len ht, eT_len hu, bt, bu, eqMf ht hu, decide_eq_false h1, rv78, fin_t]
    exact .refl _
theorem loop19 (p q : List Tm) (f g : Bool) {A : Nat} (hp : PB A p) (hq : PB A q) (hA : A ≤ 140737488355328) (hl : p.length ≤ 1000000000000) (hpq : p.length = q.length) (F : Nat) (out : Sto) (Q : Ex → St → Prop) :
    ∀ (k i : Nat) (nx : Nat), i + k = p.length →
    (p.drop i = q.drop i → ∀ nx, Q (.exit 0) { r := (upd (upd (upd (upd (fun _ => .u) 14 (.b false)) 5 (.i .i64 p.length)) 1 (eP g q)) 0 (eP f p)), own := fun _ => none, out := out, nx := nx }) →
    (p.drop i ≠ q.drop i → ∀ nx, Q .ret { r := (upd (fun _ => .u) 4 (.b false)), own := fun _ => none, out := out, nx := nx }) →
    Loop Go.Proofs.Tryz.prog F [0, 1, 5] [] b19_0 { r := (upd (upd (upd (fun _ => .u) 5 (.i .i64 i)) 1 (eP g q)) 0 (eP f p)), own := fun _ => none, out := out, nx := nx } Q := by
  intro k
  induction k with
  | zero =>
    intro i nx hi h0 h1
    refine Loop.stepW ?_
    have ei : i = p.length := by omega
    subst ei
    have c1 : decide (((p.length : Nat) : Int) < ((p.length : Nat) : Int)) = false := by simp
    simp only [go_sem, sB, reduceCtorEq, sL, sA, sE, sN, wb19_0, eP, eP_len, c1]
    exact h0 (by rw [List.drop_length, hpq, List.drop_length]) _
  | succ k ih =>
    intro i nx hi h0 h1
    refine Loop.stepW ?_
    obtain ⟨t, ht⟩ := get_ex (show i < p.length by omega)
    obtain ⟨u, hu⟩ := get_ex (show i < q.length by omega)
    have e1 : IntKind.wrap .i64 (((i : Nat) : Int) + 1) = ((i + 1 : Nat) : Int) := by rw [IntWalk.i64_in _ (by omega)]; omega
    have c1 : decide (((i : Nat) : Int) < ((p.length : Nat) : Int)) = true := decide_eq_true (by omega)
    have hT := hp.get ht
    have hU := hq.get hu
    have hxp := ixsO_sl 12 f _ .i64 i _ (eP_at ht)
    have hxq := ixsO_sl 12 g _ .i64 i _ (eP_at hu)
    rw [drop_at ht, drop_at hu] at h0 h1
    simp only [go_sem, sB, reduceCtorEq, sL, sA, sE, sN, wb19_0, eP_len, eP, c1, hxp, hxq, takeT hT.1, takeT hU.1, eT_len hT.1, eT_len hU.1]
    refine callO_intro (w78 t u hT.1 hU.1 (by omega)) ?_
    by_cases htu : t = u
    · subst htu
      simp only [go_sem, sB, reduceCtorEq, sL, sA, sE, sN, decide_true, e1]
      refine ih (i + 1) _ (by omega) (fun h => h0 (by rw [h])) (fun h => h1 (by simpa using h))
    · simp only [go_sem, sB, reduceCtorEq, sL, sA, sE, sN, decide_eq_false htu]
      exact h1 (by intro h; injection h with h; exact htu h) _
theorem w19 (p q : List Tm) (f g : Bool) {A : Nat} (hp : PB A p) (hq : PB A q) (hA : A ≤ 140737488355328) (hl : p.length ≤ 1000000000000) : FnR Go.Proofs.Tryz.prog 19 [eP f p, eP g q] [] (.b (decide (p = q))) := by
  refine fnr19 (by simp) rfl (by simp) List.nodup_nil fun F out hS => ?_
  unfold ir19
  by_cases hpq : p.length = q.length
  · have c1 : (((p.length : Nat) : Int) != ((q.length : Nat) : Int)) = false := by rw [bne, beq_nat_tt hpq]; rfl
    simp only [go_sem, sB, reduceCtorEq, sL, sA, sE, sN, eP, eP_len, c1]
    refine loop19 p q f g hp hq hA hl hpq F out _ p.length 0 _ (by omega) (fun h nx => ?_) (fun h nx => ?_)
    · rw [List.drop_zero, List.drop_zero] at h
      simp only [go_sem, sB, reduceCtorEq, sL, sA, sE, sN, rv19, fin_t, decide_eq_true h]
      exact .refl _
    · rw [List.drop_zero, List.drop_zero] at h
      simp only [go_sem, sB, reduceCtorEq, sL, sA, sE, sN, rv19, fin_t, decide_eq_false h]
      exact .refl _
  · have c1 : (((p.length : Nat) : Int) != ((q.length : Nat) : Int)) = true := by rw [bne, beq_nat_ff hpq]; rfl
    have hne : p ≠ q := fun h => hpq (by rw [h])
    simp only [go_sem, sB, reduceCtorEq, sL, sA, sE, sN, eP, eP_len, c1, rv19, fin_t, decide_eq_false hne]
    exact .refl _
theorem loop108 (m : List Int) (hm : m.length = 8) (km : m.all okE = true) (F : Nat) (out : Sto) (Q : Ex → St → Prop) : ∀ (k i : Nat) (acc : Int) (nx : Nat), i + k = 8 → 0 ≤ acc → acc ≤ i * 65535 →
    (∀ nx, Q (.exit 0) { r := (upd (upd (upd (upd (fun _ => .u) 8 (.b false)) 7 (.i .i64 8)) 6 (.a (eM m))) 3 (.i .i64 (acc + (m.drop i).sum))), own := fun _ => none, out := out, nx := nx }) →
    Loop Go.Proofs.Tryz.prog F [3, 6, 7] [] b108_0 { r := (upd (upd (upd (fun _ => .u) 7 (.i .i64 i)) 6 (.a (eM m))) 3 (.i .i64 acc)), own := fun _ => none, out := out, nx := nx } Q := by
  intro k
  induction k with
  | zero =>
    intro i acc nx hi ha hb h0
    refine Loop.stepW ?_
    have : i = 8 := by omega
    subst this
    have c1 : decide (((8 : Nat) : Int) < 8) = false := by decide
    have hd : m.drop 8 = [] := by rw [List.drop_eq_nil_iff]; omega
    rw [hd, List.sum_nil, Int.add_zero] at h0
    simp only [go_sem, sB, reduceCtorEq, sL, sA, sE, sN, wb108_0, c1]
    exact h0 _
  | succ k ih =>
    intro i acc nx hi ha hb h0
    refine Loop.stepW ?_
    have c1 : decide (((i : Nat) : Int) < 8) = true := decide_eq_true (by omega)
    have hil : i < m.length := by omega
    have hdr : m.drop i = m.getD i 0 :: m.drop (i + 1) := by
      rw [List.drop_eq_getElem_cons hil]
      simp [List.getD_eq_getElem?_getD, List.getElem?_eq_getElem hil]
    rw [hdr, List.sum_cons, ← Int.add_assoc] at h0
    have e2 : IntKind.wrap .i64 (((i : Nat) : Int) + 1) = ((i + 1 : Nat) : Int) := by rw [IntWalk.i64_in _ (by omega)]; omega
    have hx := ixvO_m m 8 i .i64 (by omega) hil
    have hb2 := okE_get km i
    generalize m.getD i 0 = x at *
    have e3 : IntKind.wrap .i64 (acc + x) = acc + x := IntWalk.i64_in _ (by omega)
    simp only [go_sem, sB, reduceCtorEq, sL, sA, sE, sN, wb108_0, c1, hx, e2, e3]
    exact ih (i + 1) _ _ (by omega) (by omega) (by omega) h0
theorem w108 (m : List Int) (hm : m.length = 8) (km : m.all okE = true) : FnR Go.Proofs.Tryz.prog 108 [.a (eM m)] [] (.i .i64 m.sum) := by
  refine fnr108 (by simp) rfl (by simp) List.nodup_nil fun F out hS => ?_
  unfold ir108
  simp only [go_sem, sB, reduceCtorEq, sL, sA, sE, sN, len8 hm, take8 hm, boxC_s _ _ _ _ (show 0 + 8 ≤ (eM m).length by rw [len8 hm]; decide)]
  refine loop108 m hm km F out _ 8 0 0 _ (by omega) (by omega) (by omega) (fun nx => ?_)
  simp only [go_sem, sB, reduceCtorEq, sL, sA, sE, sN, rv108, fin_t, Int.zero_add]
  exact .refl _
def degP : Int → List Tm → Int
  | d, [] => d
  | d, t :: p => degP (if t.1.sum > d then t.1.sum else d) p
theorem loop40 (p : List Tm) (f : Bool) {A : Nat} (hp : PB A p) (kp : PM p) (hl : p.length ≤ 1000000000000) (F : Nat) (out : Sto) (Q : Ex → St → Prop) :
    ∀ (l : List Tm) (i : Nat) (d : Int) (nx : Nat), p.drop i = l → i + l.length = p.length →
    (∀ nx, Q (.exit 0) { r := (upd (upd (upd (upd (upd (fun _ => .u) 9 (.b false)) 8 (.i .i64 p.length)) 7 (.i .i64 p.length)) 6 (eP f p)) 3 (.i .i64 (degP d l))), own := fun _ => none, out := out, nx := nx }) →
    Loop Go.Proofs.Tryz.prog F [3, 6, 7, 8] [] b40_0 { r := (upd (upd (upd (upd (fun _ => .u) 8 (.i .i64 i)) 7 (.i .i64 p.length)) 6 (eP f p)) 3 (.i .i64 d)), own := fun _ => none, out := out, nx := nx } Q := by
  intro l
  induction l with
  | nil =>
    intro i d nx hd hi h0
    refine Loop.stepW ?_
    have ei : i = p.length := by simpa using hi
    subst ei
    have c1 : decide (((p.length : Nat) : Int) < ((p.length : Nat) : Int)) = false := by simp
    simp only [go_sem, sB, reduceCtorEq, sL, sA, sE, sN, wb40_0, eP, eP_len, c1]
    exact h0 _
  | cons t l ih =>
    intro i d nx hd hi h0
    refine Loop.stepW ?_
    simp only [List.length_cons] at hi
    have ht : p[i]? = some t := by
      have := List.getElem?_drop (xs := p) (i := i) (j := 0)
      rw [hd] at this
      simpa using this.symm
    have e1 : IntKind.wrap .i64 (((i : Nat) : Int) + 1) = ((i + 1 : Nat) : Int) := by rw [IntWalk.i64_in _ (by omega)]; omega
    have c1 : decide (((i : Nat) : Int) < ((p.length : Nat) : Int)) = true := decide_eq_true (by omega)
    have hT := hp.get ht
    have hxp := ixsO_sl 12 f _ .i64 i _ (eP_at ht)
    have bt : ∀ z, boxC (some (z, .box (eT t))) z 4 8 = some (eM t.1) := fun z => by rw [boxC_s _ _ _ _ (by rw [eT_len hT.1]; decide), dropT, take8 hT.1]
    have d12 : (eT t).drop 12 = [] := List.drop_of_length_le (by rw [eT_len hT.1]; omega)
    simp only [go_sem, sB, reduceCtorEq, sL, sA, sE, sN, wb40_0, eP_len, eP, c1, hxp, takeT hT.1, eT_len hT.1, bt]
    refine callO_intro (w108 t.1 hT.1 (kp.get ht)) ?_
    simp only [go_sem, sB, reduceCtorEq, sL, sA, sE, sN, e1]
    exact ih (i + 1) _ _ (by rw [drop_at ht] at hd; injection hd) (by omega) h0
theorem w40 (p : List Tm) (f : Bool) {A : Nat} (hp : PB A p) (kp : PM p) (hl : p.length ≤ 1000000000000) : FnR Go.Proofs.Tryz.prog 40 [eP f p] [] (.i .i64 (degP (-1) p)) := by
  refine fnr40 (by simp) rfl (by simp) List.nodup_nil fun F out hS => ?_
  unfold ir40
  simp only [go_sem, sB, reduceCtorEq, sL, sA, sE, sN, eP, eP_len]
  refine loop40 p f hp kp hl F out _ p 0 _ _ rfl (by omega) (fun nx => ?_)
  simp only [go_sem, sB, reduceCtorEq, sL, sA, sE, sN, rv40, fin_t]
  exact .refl _
def okRow (w : List Int) : Prop := w.length = 8 ∧ ∀ x ∈ w, -1000 ≤ x ∧ x ≤ 1000
def okO (o : List (List Int)) : Prop := ∀ w ∈ o, okRow w
def wdot : List Int → List Int → List Int → Int
  | w :: ws, x :: xs, y :: ys => w * (x - y) + wdot ws xs ys
  | _, _, _ => 0
def ordG : List (List Int) → List Int → List Int → Int
  | [], a, b => cmpL a b
  | w :: o, a, b => if wdot w a b < 0 then -1 else if 0 < wdot w a b then 1 else ordG o a b
def ordC (o : List (List Int)) (a b : List Int) : Int := if a = b then 0 else ordG o a b
theorem cons_at {m : List Int} {i : Nat} (hil : i < m.length) : m.drop i = m.getD i 0 :: m.drop (i + 1) := by
  rw [List.drop_eq_getElem_cons hil]
  simp [List.getD_eq_getElem?_getD, List.getElem?_eq_getElem hil]
theorem okRow_get {w : List Int} (h : okRow w) (i : Nat) : -1000 ≤ w.getD i 0 ∧ w.getD i 0 ≤ 1000 := by
  rw [List.getD_eq_getElem?_getD]
  by_cases hi : i < w.length
  · rw [List.getElem?_eq_getElem hi]
    exact h.2 _ (List.getElem_mem _)
  · rw [List.getElem?_eq_none (by omega)]
    simp
theorem mul_bnd {w x : Int} (h1 : -1000 ≤ w) (h2 : w ≤ 1000) (h3 : -65535 ≤ x) (h4 : x ≤ 65535) : -65535000 ≤ w * x ∧ w * x ≤ 65535000 := by
  have : (w * x).natAbs ≤ 1000 * 65535 := by
    rw [Int.natAbs_mul]
    exact Nat.mul_le_mul (by omega) (by omega)
  omega
theorem loop107a (a b w : List Int) (ha : a.length = 8) (hb : b.length = 8) (ka : a.all okE = true) (kb : b.all okE = true) (hw : okRow w) (dd : D) (nn jj : D) (F : Nat) (out : Sto) (Q : Ex → St → Prop) (z z' : Nat) : ∀ (k i : Nat) (acc : Int) (nx : Nat), i + k = 8 → -(i * 65535000) ≤ acc → acc ≤ i * 65535000 →
    (∀ nx, Q (.exit 2) { r := (upd (upd (upd (upd (upd (upd (upd (upd (upd (fun _ => .u) 23 (.b false)) 22 (.i .i64 8)) 21 (.a (eM w))) 17 (jj)) 16 (nn)) 15 (dd)) 9 (.i .i64 (acc + wdot (w.drop i) (a.drop i) (b.drop i)))) 5 (.p (F, 5) z' 0)) 4 (.p (F, 4) z 0)), own := upd (upd (fun _ => none) 5 (some (z', .box (eM b)))) 4 (some (z, .box (eM a))), out := out, nx := nx }) →
    Loop Go.Proofs.Tryz.prog F [4, 5, 9, 15, 16, 17, 21, 22] [4, 5] b107_0 { r := (upd (upd (upd (upd (upd (upd (upd (upd (fun _ => .u) 22 (.i .i64 i)) 21 (.a (eM w))) 17 (jj)) 16 (nn)) 15 (dd)) 9 (.i .i64 acc)) 5 (.p (F, 5) z' 0)) 4 (.p (F, 4) z 0)), own := upd (upd (fun _ => none) 5 (some (z', .box (eM b)))) 4 (some (z, .box (eM a))), out := out, nx := nx } Q := by
  intro k
  induction k with
  | zero =>
    intro i acc nx hi h1 h2 h0
    refine Loop.stepW ?_
    have : i = 8 := by omega
    subst this
    have c1 : decide (((8 : Nat) : Int) < 8) = false := by decide
    have hd : wdot (w.drop 8) (a.drop 8) (b.drop 8) = 0 := by
      rw [List.drop_eq_nil_iff.2 (show w.length ≤ 8 by rw [hw.1]; omega)]
      rfl
    rw [hd, Int.add_zero] at h0
    simp only [go_sem, sB, reduceCtorEq, sL, sA, sE, sN, wb107_0, c1]
    exact h0 _
  | succ k ih =>
    intro i acc nx hi h1 h2 h0
    refine Loop.stepW ?_
    have hi8 : i < 8 := by omega
    have c1 : decide (((i : Nat) : Int) < 8) = true := decide_eq_true (by omega)
    have hia : i < a.length := by omega
    have hib : i < b.length := by omega
    have hiw : i < w.length := by have := hw.1; omega
    rw [cons_at hia, cons_at hib, cons_at hiw] at h0
    simp only [wdot, ← Int.add_assoc] at h0
    have e1 : IntKind.wrap .i64 (((i : Nat) : Int) + 1) = ((i + 1 : Nat) : Int) := by rw [IntWalk.i64_in _ (by omega)]; omega
    have hx := ixvO_m w 8 i .i64 (by omega) hiw
    have hxa : boxC (some (z, .box (eM a))) z i 1 = some [.i .i64 (a.getD i 0)] := by rw [boxC_s _ _ _ _ (by rw [eM_len]; omega), eM_cell hia]
    have hxb : boxC (some (z', .box (eM b))) z' i 1 = some [.i .i64 (b.getD i 0)] := by rw [boxC_s _ _ _ _ (by rw [eM_len]; omega), eM_cell hib]
    have q1 := okE_get ka i
    have q2 := okE_get kb i
    have q3 := okRow_get hw i
    generalize a.getD i 0 = x at *
    generalize b.getD i 0 = y at *
    generalize w.getD i 0 = v at *
    have q4 := mul_bnd q3.1 q3.2 (show -65535 ≤ x - y by omega) (by omega)
    have e2 : IntKind.wrap .i64 (x - y) = x - y := IntWalk.i64_in _ (by omega)
    have e3 : IntKind.wrap .i64 (v * (x - y)) = v * (x - y) := IntWalk.i64_in _ (by omega)
    have e4 : IntKind.wrap .i64 (acc + v * (x - y)) = acc + v * (x - y) := IntWalk.i64_in _ (by omega)
    simp only [go_sem, sB, reduceCtorEq, sL, sA, sE, sN, wb107_0, c1, hx, ixaO_p _ _ _ _ _ _ _ hi8, Nat.mul_one, hxa, hxb, e1, e2, e3, e4]
    exact ih (i + 1) _ _ (by omega) (by omega) (by omega) h0
theorem loop107b (a b : List Int) (o : List (List Int)) (f : Bool) (ha : a.length = 8) (hb : b.length = 8) (ka : a.all okE = true) (kb : b.all okE = true) (ho : okO o) (hl : o.length ≤ 1000000000000) (F : Nat) (out : Sto) (Q : Ex → St → Prop) (z z' : Nat) :
    ∀ (l : List (List Int)) (i : Nat) (nx : Nat), o.drop i = l → i + l.length = o.length →
    (∀ nx, ordG l a b = cmpL a b → Q (.exit 0) { r := (upd (upd (upd (upd (upd (upd (fun _ => .u) 18 (.b false)) 17 (.i .i64 o.length)) 16 (.i .i64 o.length)) 15 (.sl 8 f (o.map eM))) 5 (.p (F, 5) z' 0)) 4 (.p (F, 4) z 0)), own := upd (upd (fun _ => none) 5 (some (z', .box (eM b)))) 4 (some (z, .box (eM a))), out := out, nx := nx }) →
    (∀ nx, Q .ret { r := (upd (fun _ => .u) 6 (.i .i64 (ordG l a b))), own := fun _ => none, out := out, nx := nx }) →
    Loop Go.Proofs.Tryz.prog F [4, 5, 15, 16, 17] [4, 5] b107_1 { r := (upd (upd (upd (upd (upd (fun _ => .u) 17 (.i .i64 i)) 16 (.i .i64 o.length)) 15 (.sl 8 f (o.map eM))) 5 (.p (F, 5) z' 0)) 4 (.p (F, 4) z 0)), own := upd (upd (fun _ => none) 5 (some (z', .box (eM b)))) 4 (some (z, .box (eM a))), out := out, nx := nx } Q := by
  intro l
  induction l with
  | nil =>
    intro i nx hd hi h0 h1
    refine Loop.stepW ?_
    have ei : i = o.length := by simpa using hi
    subst ei
    have c1 : decide (((o.length : Nat) : Int) < ((o.length : Nat) : Int)) = false := by simp
    simp only [go_sem, sB, reduceCtorEq, sL, sA, sE, sN, wb107_1, c1]
    exact h0 _ rfl
  | cons w l ih =>
    intro i nx hd hi h0 h1
    refine Loop.stepW ?_
    simp only [List.length_cons] at hi
    have ht : o[i]? = some w := by
      have := List.getElem?_drop (xs := o) (i := i) (j := 0)
      rw [hd] at this
      simpa using this.symm
    have hw := ho w (List.mem_of_getElem? ht)
    have e1 : IntKind.wrap .i64 (((i : Nat) : Int) + 1) = ((i + 1 : Nat) : Int) := by rw [IntWalk.i64_in _ (by omega)]; omega
    have c1 : decide (((i : Nat) : Int) < ((o.length : Nat) : Int)) = true := decide_eq_true (by omega)
    have hxp := ixsO_sl 8 f (o.map eM) .i64 i (eM w) (by rw [List.getElem?_map, ht]; rfl)
    have bw : ∀ z, boxC (some (z, .box (eM w))) z 0 8 = some (eM w) := fun z => by rw [boxC_s _ _ _ _ (by rw [len8 hw.1]; decide), List.drop_zero, take8 hw.1]
    simp only [go_sem, sB, reduceCtorEq, sL, sA, sE, sN, wb107_1, c1, hxp, take8 hw.1, len8 hw.1, bw]
    refine loop107a a b w ha hb ka kb hw _ _ _ F out _ _ _ 8 0 0 _ (by omega) (by omega) (by omega) (fun nx => ?_)
    simp only [List.drop_zero, Int.zero_add]
    simp only [ordG] at h0 h1
    by_cases g1 : wdot w a b < 0
    · simp only [if_pos g1] at h1
      simp only [go_sem, sB, reduceCtorEq, sL, sA, sE, sN, decide_eq_true g1]
      exact h1 _
    · by_cases g2 : 0 < wdot w a b
      · simp only [if_neg g1, if_pos g2] at h1
        simp only [go_sem, sB, reduceCtorEq, sL, sA, sE, sN, decide_eq_false g1, decide_eq_true (show wdot w a b > 0 from g2)]
        exact h1 _
      · simp only [if_neg g1, if_neg g2] at h0 h1
        simp only [go_sem, sB, reduceCtorEq, sL, sA, sE, sN, decide_eq_false g1, decide_eq_false (show ¬ wdot w a b > 0 from g2), e1]
        exact ih (i + 1) _ (by rw [drop_at ht] at hd; injection hd) (by omega) h0 h1
theorem w107 (o : List (List Int)) (f : Bool) (a b : List Int) (ha : a.length = 8) (hb : b.length = 8) (ka : a.all okE = true) (kb : b.all okE = true) (ho : okO o) (hl : o.length ≤ 1000000000000) :
    FnR Go.Proofs.Tryz.prog 107 [.sl 8 f (o.map eM), .a (eM a), .a (eM b)] [] (.i .i64 (ordC o a b)) := by
  refine fnr107 (by simp) rfl (by simp) List.nodup_nil fun F out hS => ?_
  unfold ir107 ordC
  have ba : ∀ z, boxC (some (z, .box (eM a))) z 0 8 = some (eM a) := fun z => by rw [boxC_s _ _ _ _ (by rw [len8 ha]; decide), List.drop_zero, take8 ha]
  have bb : ∀ z, boxC (some (z, .box (eM b))) z 0 8 = some (eM b) := fun z => by rw [boxC_s _ _ _ _ (by rw [len8 hb]; decide), List.drop_zero, take8 hb]
  by_cases h : a = b
  · rw [if_pos h]
    simp only [go_sem, sB, reduceCtorEq, sL, sA, sE, sN, ba, bb, eqMf ha hb, decide_eq_true h, rv107, fin_t]
    exact .refl _
  · rw [if_neg h]
    simp only [go_sem, sB, reduceCtorEq, sL, sA, sE, sN, ba, bb, eqMf ha hb, decide_eq_false h, List.length_map]
    refine loop107b a b o f ha hb ka kb ho hl F out _ _ _ o 0 _ rfl (by omega) (fun nx hn => ?_) (fun nx => ?_)
    · simp only [go_sem, sB, reduceCtorEq, sL, sA, sE, sN, ba, bb]
      refine callO_intro (w70 a b ha hb) ?_
      simp only [go_sem, sB, reduceCtorEq, sL, sA, sE, sN, rv107, fin_t, hn]
      exact .refl _
    · simp only [go_sem, sB, reduceCtorEq, sL, sA, sE, sN, rv107, fin_t]
      exact .refl _
theorem w106 (o : List (List Int)) (f : Bool) (t u : Tm) (ht : t.1.length = 8) (hu : u.1.length = 8) (kt : t.1.all okE = true) (ku : u.1.all okE = true) (ho : okO o) (hl : o.length ≤ 1000000000000) :
    FnR Go.Proofs.Tryz.prog 106 [.a (eT t), .a (eT u), .q [.sl 8 f (o.map eM)]] [] (.i .i64 (ordC o t.1 u.1)) := by
  refine fnr106 (by simp) rfl (by simp) List.nodup_nil fun F out hS => ?_
  have bt : ∀ z, boxC (some (z, .box (eT t))) z 4 8 = some (eM t.1) := fun z => by rw [boxC_s _ _ _ _ (by rw [eT_len ht]; decide), dropT, take8 ht]
  have bu : ∀ z, boxC (some (z, .box (eT u))) z 4 8 = some (eM u.1) := fun z => by rw [boxC_s _ _ _ _ (by rw [eT_len hu]; decide), dropT, take8 hu]
  unfold ir106
  simp only [go_sem, sB, reduceCtorEq, sL, sA, sE, sN, bt, bu]
  refine callO_intro (w107 o f t.1 u.1 ht hu kt ku ho hl) ?_
  simp only [go_sem, sB, reduceCtorEq, sL, sA, sE, sN, rv106, fin_t]
  exact .refl _
def leadP (o : List (List Int)) : Tm → List Tm → Tm
  | t, [] => t
  | t, u :: p => leadP o (if 0 < ordC o u.1 t.1 then u else t) p
theorem loop105 (o : List (List Int)) (p : List Tm) (f g : Bool) {A : Nat} (hp : PB A p) (kp : PM p) (ho : okO o) (hlo : o.length ≤ 1000000000000) (hl : p.length ≤ 1000000000000) (F : Nat) (out : Sto) (Q : Ex → St → Prop) (z z' : Nat) (zs : List D) :
    ∀ (l : List Tm) (i : Nat) (t : Tm) (nx : Nat), p.drop i = l → i + l.length = p.length → t.1.length = 8 → t.1.all okE = true →
    (∀ nx, Q (.exit 0) { r := (upd (upd (upd (upd (upd (upd (fun _ => .u) 17 (.b false)) 6 (.i .i64 p.length)) 5 (.p (F, 5) z' 0)) 4 (.p (F, 4) z 0)) 1 (.f 106 [] [.q [.sl 8 f (o.map eM)]])) 0 (eP g p)), own := upd (upd (fun _ => none) 5 (some (z', .box (eT (leadP o t l))))) 4 (some (z, .box zs)), out := out, nx := nx }) →
    Loop Go.Proofs.Tryz.prog F [0, 1, 4, 5, 6] [4, 5] b105_0 { r := (upd (upd (upd (upd (upd (fun _ => .u) 6 (.i .i64 i)) 5 (.p (F, 5) z' 0)) 4 (.p (F, 4) z 0)) 1 (.f 106 [] [.q [.sl 8 f (o.map eM)]])) 0 (eP g p)), own := upd (upd (fun _ => none) 5 (some (z', .box (eT t)))) 4 (some (z, .box zs)), out := out, nx := nx } Q := by
  intro l
  induction l with
  | nil =>
    intro i t nx hd hi ht kt h0
    refine Loop.stepW ?_
    have ei : i = p.length := by simpa using hi
    subst ei
    have c1 : decide (((p.length : Nat) : Int) < ((p.length : Nat) : Int)) = false := by simp
    simp only [go_sem, sB, reduceCtorEq, sL, sA, sE, sN, wb105_0, eP, eP_len, c1]
    exact h0 _
  | cons u l ih =>
    intro i t nx hd hi ht kt h0
    refine Loop.stepW ?_
    simp only [List.length_cons] at hi
    have hu : p[i]? = some u := by
      have := List.getElem?_drop (xs := p) (i := i) (j := 0)
      rw [hd] at this
      simpa using this.symm
    have e1 : IntKind.wrap .i64 (((i : Nat) : Int) + 1) = ((i + 1 : Nat) : Int) := by rw [IntWalk.i64_in _ (by omega)]; omega
    have c1 : decide (((i : Nat) : Int) < ((p.length : Nat) : Int)) = true := decide_eq_true (by omega)
    have hU := hp.get hu
    have hxp := ixsO_sl 12 g _ .i64 i _ (eP_at hu)
    have bt : ∀ z, boxC (some (z, .box (eT t))) z 0 12 = some (eT t) := fun z => by rw [boxC_s _ _ _ _ (by rw [eT_len ht]; decide), List.drop_zero, takeT ht]
    have d12 : (eT t).drop 12 = [] := List.drop_of_length_le (by rw [eT_len ht]; omega)
    simp only [go_sem, sB, reduceCtorEq, sL, sA, sE, sN, wb105_0, eP_len, eP, c1, hxp, takeT hU.1, eT_len hU.1, bt]
    refine callO_intro (w106 o f u t hU.1 ht (kp.get hu) kt ho hlo) ?_
    by_cases hg : 0 < ordC o u.1 t.1
    · have e : leadP o t (u :: l) = leadP o u l := by simp only [leadP, if_pos hg]
      rw [e] at h0
      simp only [go_sem, sB, reduceCtorEq, sL, sA, sE, sN, decide_eq_true (show ordC o u.1 t.1 > 0 from hg), hxp, takeT hU.1, eT_len hU.1, eT_len ht, e1, d12]
      exact ih (i + 1) u _ (by rw [drop_at hu] at hd; injection hd) (by omega) hU.1 (kp.get hu) h0
    · have e : leadP o t (u :: l) = leadP o t l := by simp only [leadP, if_neg hg]
      rw [e] at h0
      simp only [go_sem, sB, reduceCtorEq, sL, sA, sE, sN, decide_eq_false (show ¬ ordC o u.1 t.1 > 0 from hg), e1]
      exact ih (i + 1) t _ (by rw [drop_at hu] at hd; injection hd) (by omega) ht kt h0
theorem lead_ok {o : List (List Int)} : ∀ (p : List Tm) (t : Tm), t.1.length = 8 → (∀ u ∈ p, u.1.length = 8) → (leadP o t p).1.length = 8
  | [], t, h, _ => h
  | u :: p, t, h, hp => by
    simp only [leadP]
    exact lead_ok p _ (by split; · exact hp u (by simp)
                          · exact h) (fun v hv => hp v (by simp [hv]))
theorem w105 (o : List (List Int)) (t : Tm) (p : List Tm) (f g : Bool) {A : Nat} (hp : PB A (t :: p)) (kp : PM (t :: p)) (ho : okO o) (hlo : o.length ≤ 1000000000000) (hl : (t :: p).length ≤ 1000000000000) :
    FnR Go.Proofs.Tryz.prog 105 [eP g (t :: p), .f 106 [] [.q [.sl 8 f (o.map eM)]]] [] (.a (eT (leadP o t p))) := by
  refine fnr105 (by simp) (by simp only [D.nr]; exact nrL_eT _) (by simp) List.nodup_nil fun F out hS => ?_
  have ht := hp.head.1
  have hT : (leadP o t p).1.length = 8 := lead_ok p t ht hp.tail.len
  have c1 : decide (((p.length + 1 : Nat) : Int) < 1) = false := decide_eq_false (by omega)
  have hx : ixsO 12 (.sl 12 g (eT t :: p.map eT)) (.i .i64 0) = some (.q (eT t)) := ixsO_sl 12 g _ .i64 0 _ rfl
  have bt : ∀ z, boxC (some (z, .box (eT (leadP o t p)))) z 0 12 = some (eT (leadP o t p)) := fun z => by rw [boxC_s _ _ _ _ (by rw [eT_len hT]; decide), List.drop_zero, takeT hT]
  unfold ir105
  simp only [go_sem, sB, reduceCtorEq, sL, sA, sE, sN, eP, eP_len, c1, hx, takeT ht, eT_len ht]
  have := loop105 o (t :: p) f g hp kp ho hlo hl F out
  refine this _ _ _ _ p 1 t _ rfl (by simp; omega) ht kp.head (fun nx => ?_)
  simp only [go_sem, sB, reduceCtorEq, sL, sA, sE, sN, bt, eT_len hT, rv105, fin_c]
  exact ⟨_, rfl, .refl _⟩
theorem w38_0 (o : List (List Int)) (f g : Bool) : FnR Go.Proofs.Tryz.prog 38 [eP g [], .sl 8 f (o.map eM)] [] (.t [.a [.b false, .sl 1 true [], .b false, .sl 1 true [], .i .i64 0, .i .i64 0, .i .i64 0, .i .i64 0, .i .i64 0, .i .i64 0, .i .i64 0, .i .i64 0], .b false]) := by
  refine fnr38 (by simp) rfl (by simp) List.nodup_nil fun F out hS => ?_
  unfold ir38
  have c1 : (((0 : Nat) : Int) == 0) = true := rfl
  simp only [go_sem, sB, reduceCtorEq, sL, sA, sE, sN, eP, eP_len, c1, rv38, fin_g, resAll, resL, resD, mkV]
  exact ⟨_, rfl, .refl _⟩
theorem w38 (o : List (List Int)) (t : Tm) (p : List Tm) (f g : Bool) {A : Nat} (hp : PB A (t :: p)) (kp : PM (t :: p)) (ho : okO o) (hlo : o.length ≤ 1000000000000) (hl : (t :: p).length ≤ 1000000000000) :
    FnR Go.Proofs.Tryz.prog 38 [eP g (t :: p), .sl 8 f (o.map eM)] [] (.t [.a (eT (leadP o t p)), .b true]) := by
  refine fnr38 (by simp) (by simp only [D.nr, nrL, Bool.and_true]; exact nrL_eT _) (by simp) List.nodup_nil fun F out hS => ?_
  have hT : (leadP o t p).1.length = 8 := lead_ok p t hp.head.1 hp.tail.len
  have d12 : (eT (leadP o t p)).drop 12 = [] := List.drop_of_length_le (by rw [eT_len hT]; omega)
  have c1 : (((p.length + 1 : Nat) : Int) == 0) = false := by rw [beq_eq_false_iff_ne]; omega
  unfold ir38
  simp only [go_sem, sB, reduceCtorEq, sL, sA, sE, sN, eP, eP_len, c1, frzW_p, frzB_s]
  refine callO_intro (w105 o t p f g hp kp ho hlo hl) ?_
  simp only [go_sem, sB, reduceCtorEq, sL, sA, sE, sN, eT_len hT, d12, takeT hT, rv38, fin_g, resAll, resL, resD, mkV]
  exact ⟨_, rfl, .refl _⟩
theorem appO_R0 {F : Nat} {S : List Nat} {s sz bytes : Nat} {st : St} {d : D} {es : List (List D)} {K : St → Prop} (h : RowD F S st.own d sz es) (hK : K (st.put (some s) d)) : @appO F sz bytes s st d (some []) ⟨K⟩ := by
  rcases h with ⟨rfl, rfl⟩ | ⟨s', z, h1, rfl, h3⟩
  · simp only [appO]; exact ⟨trivial, hK⟩
  · have hlk : st.look F (F, s') = some (z, .row sz es) := by simp [St.look, h3]
    simp only [appO, hlk]
    exact ⟨trivial, trivial, trivial, trivial, trivial, hK⟩
theorem slc1 (f : Bool) (e : List D) (es : List (List D)) : slcO 12 (.sl 12 f (e :: es)) (some (.i .i64 1)) none none = some (.sl 12 f es) := by
  have := slcO_l (sz := 12) (f := f) (es := e :: es) (k := .i64) (n := 1) (by simp)
  simpa using this
theorem ix0 (f : Bool) (e : List D) (es : List (List D)) : ixsO 12 (.sl 12 f (e :: es)) (.i .i64 0) = some (.q e) := ixsO_sl 12 f _ .i64 0 _ rfl
theorem gt0 (n : Nat) : decide (((n + 1 : Nat) : Int) > 0) = true := decide_eq_true (by omega)
theorem ngt0 : decide (((0 : Nat) : Int) > 0) = false := by decide
abbrev S79 : List Nat := [19, 58, 71, 90, 95, 111]
theorem loop79a (F1 F2 : Nat) (fb : Rat → Rat → Rat) (fo : Rat → Rat) {A : Nat} (hb : ∀ x y, LQ x ≤ A → LQ y ≤ A → FnR Go.Proofs.Tryz.prog F1 [rW x, rW y] [] (rW (fb x y))) (ho : ∀ y, LQ y ≤ A → FnR Go.Proofs.Tryz.prog F2 [rW y] [] (rW (fo y))) (f g : Bool) (F : Nat) (out : Sto) (Q : Ex → St → Prop) :
    ∀ (n : Nat) (p q res : List Tm) (d : D) (own : Nat → Option (Nat × Obj)) (nx : Nat), p.length + q.length ≤ n → PB A p → PB A q → res.length + p.length + q.length ≤ 1000000000000 → RowD F S79 own d 12 (res.map eT) → OwnB own nx →
    (∀ p' q' res' d own nx x, (p' = [] ∨ q' = []) → res ++ mrg fb fo n p q = res' ++ p' ++ q'.map (fun t => (t.1, fo t.2)) → PB A p' → PB A q' → res'.length + p'.length + q'.length ≤ 1000000000000 → RowD F S79 own d 12 (res'.map eT) → OwnB own nx →
      Q (.exit 0) { r := (upd (upd (upd (upd (upd (upd (fun _ => .u) 27 (x)) 9 (d)) 3 (.f F2 [] [])) 2 (.f F1 [] [])) 1 (eP g q')) 0 (eP f p')), own := own, out := out, nx := nx }) →
    Loop Go.Proofs.Tryz.prog F [0, 1, 2, 3, 9] [19, 58, 71, 90, 95, 111] b79_0 { r := (upd (upd (upd (upd (upd (fun _ => .u) 9 (d)) 3 (.f F2 [] [])) 2 (.f F1 [] [])) 1 (eP g q)) 0 (eP f p)), own := own, out := out, nx := nx } Q := by
  have tail1 : ∀ n (q : List Tm), q.length ≤ n → mrg fb fo n [] q = q.map (fun t => (t.1, fo t.2)) := by
    intro n
    induction n with
    | zero => intro q h; have : q = [] := List.length_eq_zero_iff.1 (by omega); subst this; rfl
    | succ n ih =>
      intro q h
      cases q with
      | nil => rfl
      | cons b q => simp only [mrg, List.map_cons]; rw [ih q (by simp at h; omega)]
  have tail2 : ∀ n (p : List Tm), p.length ≤ n → mrg fb fo n p [] = p := by
    intro n
    induction n with
    | zero => intro q h; have : q = [] := List.length_eq_zero_iff.1 (by omega); subst this; rfl
    | succ n ih =>
      intro q h
      cases q with
      | nil => rfl
      | cons b q => simp only [mrg]; rw [ih q (by simp at h; omega)]
  intro n
  induction n with
  | zero =>
    intro p q res d own nx hn hp hq hl hR hO h0
    have e1 : p = [] := List.length_eq_zero_iff.1 (by omega)
    have e2 : q = [] := List.length_eq_zero_iff.1 (by omega)
    subst e1 e2
    refine Loop.stepW ?_
    simp only [go_sem, sB, reduceCtorEq, sL, sA, sE, sN, wb79_0, eP, ngt0]
    refine h0 [] [] res _ _ _ _ (.inl rfl) (by simp [mrg]) hp hq hl (hR.on (by simp [upd])) ?_
    repeat' first | exact OwnB.none _ | refine OwnB.updn ?_ (by first | omega | (dsimp only; omega)) | refine OwnB.upd0 ?_ | refine OwnB.updv (own := own) ?_ (hO.mono (by first | omega | (dsimp only; omega)))
  | succ n ih =>
    intro p q res d own nx hn hp hq hl hR hO h0
    refine Loop.stepW ?_
    cases p with
    | nil =>
      simp only [go_sem, sB, reduceCtorEq, sL, sA, sE, sN, wb79_0, eP, ngt0]
      refine h0 [] q res _ _ _ _ (.inl rfl) (by rw [tail1 _ _ (by simpa using hn), List.append_nil]) hp hq hl (hR.on (by simp [upd])) ?_
      repeat' first | exact OwnB.none _ | refine OwnB.updn ?_ (by first | omega | (dsimp only; omega)) | refine OwnB.upd0 ?_ | refine OwnB.updv (own := own) ?_ (hO.mono (by first | omega | (dsimp only; omega)))
    | cons t p =>
      cases q with
      | nil =>
        simp only [go_sem, sB, reduceCtorEq, sL, sA, sE, sN, wb79_0, eP, ngt0, gt0]
        refine h0 (t :: p) [] res _ _ _ _ (.inr rfl) (by rw [tail2 _ _ (by simpa using hn), List.map_nil, List.append_nil]) hp hq hl (hR.on (by simp [upd])) ?_
        repeat' first | exact OwnB.none _ | refine OwnB.updn ?_ (by first | omega | (dsimp only; omega)) | refine OwnB.upd0 ?_ | refine OwnB.updv (own := own) ?_ (hO.mono (by first | omega | (dsimp only; omega)))
      | cons u q =>
        have hT := hp.head
        have hU := hq.head
        simp only [List.length_cons] at hn hl
        have hO' : ∀ m, nx ≤ m → OwnB (upd (upd (upd (upd (upd (upd (fun _ => none) 111 (own 111)) 95 (own 95)) 90 (own 90)) 71 (own 71)) 58 (own 58)) 19 (own 19)) m := by
          intro m hm
          repeat' first | exact OwnB.none _ | refine OwnB.updv (own := own) ?_ (hO.mono (by first | omega | (dsimp only; omega)))
        simp only [go_sem, sB, reduceCtorEq, sL, sA, sE, sN, wb79_0, eP, gt0, ix0, dropT, take8 hT.1, take8 hU.1, len8 hT.1, len8 hU.1]
        refine callO_intro (w70 _ _ hT.1 hU.1) ?_
        by_cases g1 : 0 < cmpL t.1 u.1
        · simp only [mrg, if_pos g1] at h0
          simp only [go_sem, sB, reduceCtorEq, sL, sA, sE, sN, decide_eq_true (show cmpL t.1 u.1 > 0 from g1), ix0, takeT hT.1, eT_len hT.1, slc1]
          refine appO_R (S := S79) (es := res.map eT) (hR.on (by simp [upd])) (hO' _ (by dsimp only; omega)) (by simp) (by simp; omega) (by simp; omega) (fun own' hb hoth hs => ?_)
          simp only [go_sem, sB, reduceCtorEq, sL, sA, sE, sN, slc1, map_app1]
          refine ih p (u :: q) (res ++ [t]) _ _ _ (by simp only [List.length_cons]; omega) hp.tail hq (by simp; omega) (by rw [← map_app1]; exact .at (by simp) hs (by simp)) ?_ (fun p' q' res' d own nx x e1 e2 => h0 p' q' res' d own nx x e1 (by rw [← e2, app_assoc1]))
          repeat' first | exact OwnB.none _ | refine OwnB.updv (own := own') ?_ (hb.mono (by first | omega | (dsimp only; omega)))
        · by_cases g2 : cmpL t.1 u.1 < 0
          · simp only [mrg, if_neg g1, if_pos g2] at h0
            have hu2 : (eT (u.1, fo u.2)).length = 12 := eT_len (t := (u.1, fo u.2)) hU.1
            simp only [go_sem, sB, reduceCtorEq, sL, sA, sE, sN, decide_eq_false (show ¬ cmpL t.1 u.1 > 0 from g1), decide_eq_true g2, ix0, takeT4, eT_len hU.1]
            refine callO_intro (ho u.2 hU.2) ?_
            simp only [go_sem, sB, reduceCtorEq, sL, sA, sE, sN, ix0, rW_C, rC_len, dropT, take8 hU.1, len8 hU.1, z8, fillT2 _ _ hU.1, hu2]
            refine appO_R (S := S79) (es := res.map eT) (hR.on (by simp [upd])) (hO' _ (by dsimp only; omega)) (by simp) (by simp; omega) (by simp; omega) (fun own' hb hoth hs => ?_)
            simp only [go_sem, sB, reduceCtorEq, sL, sA, sE, sN, slc1, map_app1]
            refine ih (t :: p) q (res ++ [(u.1, fo u.2)]) _ _ _ (by simp only [List.length_cons]; omega) hp hq.tail (by simp; omega) (by rw [← map_app1]; exact .at (by simp) hs (by simp)) ?_ (fun p' q' res' d own nx x e1 e2 => h0 p' q' res' d own nx x e1 (by rw [← e2, app_assoc1]))
            repeat' first | exact OwnB.none _ | refine OwnB.updv (own := own') ?_ (hb.mono (by first | omega | (dsimp only; omega)))
          · simp only [mrg, if_neg g1, if_neg g2] at h0
            simp only [go_sem, sB, reduceCtorEq, sL, sA, sE, sN, decide_eq_false (show ¬ cmpL t.1 u.1 > 0 from g1), decide_eq_false g2, ix0, takeT4, eT_len hT.1, eT_len hU.1]
            refine callO_intro (hb t.2 u.2 hT.2 hU.2) ?_
            simp only [go_sem, sB, reduceCtorEq, sL, sA, sE, sN, rW_C, rC_len, takeC]
            refine callO_intro (q68 (fb t.2 u.2)) ?_
            by_cases g3 : fb t.2 u.2 = 0
            · simp only [if_pos g3] at h0
              have g4 : ((fb t.2 u.2).num.sign != 0) = false := by rw [bne, sgn0 g3]; rfl
              simp only [go_sem, sB, reduceCtorEq, sL, sA, sE, sN, g4, slc1]
              refine ih p q res _ _ _ (by omega) hp.tail hq.tail (by omega) (hR.on (by simp [upd])) (hO' _ (by omega)) h0
            · simp only [if_neg g3] at h0
              have g4 : ((fb t.2 u.2).num.sign != 0) = true := by rw [bne, sgn1 g3]; rfl
              have hu2 : (eT (t.1, fb t.2 u.2)).length = 12 := eT_len (t := (t.1, fb t.2 u.2)) hT.1
              simp only [go_sem, sB, reduceCtorEq, sL, sA, sE, sN, g4, ix0, dropT, take8 hT.1, len8 hT.1, takeC, rC_len, z8, fillT2 _ _ hT.1, hu2]
              refine appO_R (S := S79) (es := res.map eT) (hR.on (by simp [upd])) (by dsimp only; exact (hO' _ (by omega)).updn (by omega)) (by simp) (by simp; omega) (by simp; omega) (fun own' hb hoth hs => ?_)
              simp only [go_sem, sB, reduceCtorEq, sL, sA, sE, sN, slc1, map_app1]
              refine ih p q (res ++ [(t.1, fb t.2 u.2)]) _ _ _ (by omega) hp.tail hq.tail (by simp; omega) (by rw [← map_app1]; exact .at (by simp) hs (by simp)) ?_ (fun p' q' res' d own nx x e1 e2 => h0 p' q' res' d own nx x e1 (by rw [← e2, app_assoc1]))
              repeat' first | exact OwnB.none _ | refine OwnB.updv (own := own') ?_ (hb.mono (by first | omega | (dsimp only; omega)))
theorem loop79b (F2 : Nat) (fo : Rat → Rat) {A : Nat} (ho : ∀ y, LQ y ≤ A → FnR Go.Proofs.Tryz.prog F2 [rW y] [] (rW (fo y))) (q : List Tm) (g : Bool) (hq : PB A q) (hql : q.length ≤ 1000000000000) (F : Nat) (out : Sto) (Q : Ex → St → Prop) :
    ∀ (l : List Tm) (i : Nat) (res : List Tm) (d : D) (own : Nat → Option (Nat × Obj)) (nx : Nat), q.drop i = l → i + l.length = q.length → res.length + l.length ≤ 1000000000000 → RowD F S79 own d 12 (res.map eT) → OwnB own nx →
    (∀ r d own nx, r 9 = d → RowD F S79 own d 12 ((res ++ l.map (fun t => (t.1, fo t.2))).map eT) → Q (.exit 3) { r := r, own := own, out := out, nx := nx }) →
    Loop Go.Proofs.Tryz.prog F [3, 9, 96, 97, 98] [19, 58, 71, 90, 95, 111] b79_1 { r := (upd (upd (upd (upd (upd (fun _ => .u) 98 (.i .i64 i)) 97 (.i .i64 q.length)) 96 (eP g q)) 9 (d)) 3 (.f F2 [] [])), own := own, out := out, nx := nx } Q := by
  intro l
  induction l with
  | nil =>
    intro i res d own nx hd hi hl hR hO h0
    refine Loop.stepW ?_
    have ei : i = q.length := by simpa using hi
    subst ei
    have c1 : decide (((q.length : Nat) : Int) < ((q.length : Nat) : Int)) = false := by simp
    simp only [go_sem, sB, reduceCtorEq, sL, sA, sE, sN, wb79_1, eP, c1]
    refine h0 _ d _ _ rfl ?_
    rw [List.map_nil, List.append_nil]
    exact hR.on (by simp [upd])
  | cons u l ih =>
    intro i res d own nx hd hi hl hR hO h0
    refine Loop.stepW ?_
    simp only [List.length_cons] at hi
    have hu : q[i]? = some u := by
      have := List.getElem?_drop (xs := q) (i := i) (j := 0)
      rw [hd] at this
      simpa using this.symm
    simp only [List.length_cons] at hl
    have e1 : IntKind.wrap .i64 (((i : Nat) : Int) + 1) = ((i + 1 : Nat) : Int) := by rw [IntWalk.i64_in _ (by omega)]; omega
    have hU := hq.get hu
    have c1 : decide (((i : Nat) : Int) < ((q.length : Nat) : Int)) = true := decide_eq_true (by omega)
    have hxq := ixsO_sl 12 g _ .i64 i _ (eP_at hu)
    have bt : ∀ z, boxC (some (z, .box (eT u))) z 4 8 = some (eM u.1) := fun z => by rw [boxC_s _ _ _ _ (by rw [eT_len hU.1]; decide), dropT, take8 hU.1]
    have bt' : ∀ z, boxC (some (z, .box (eT u))) z 0 4 = some (rC u.2) := fun z => by rw [boxC_s _ _ _ _ (by rw [eT_len hU.1]; decide), List.drop_zero, takeT4]
    have hu2 : (eT (u.1, fo u.2)).length = 12 := eT_len (t := (u.1, fo u.2)) hU.1
    simp only [go_sem, sB, reduceCtorEq, sL, sA, sE, sN, wb79_1, eP_len, eP, c1, hxq, takeT hU.1, eT_len hU.1, bt']
    refine callO_intro (ho u.2 hU.2) ?_
    simp only [go_sem, sB, reduceCtorEq, sL, sA, sE, sN, rW_C, rC_len, bt, len8 hU.1, z8, fillT2 _ _ hU.1, hu2]
    refine appO_R (S := S79) (es := res.map eT) (hR.on (by simp [upd])) ?_ (by simp) (by simp; omega) (by simp; omega) (fun own' hb hoth hs => ?_)
    · dsimp only
      repeat' first | exact OwnB.none _ | refine OwnB.updn ?_ (by first | omega | (dsimp only; omega)) | refine OwnB.updv (own := own) ?_ (hO.mono (by first | omega | (dsimp only; omega)))
    · simp only [go_sem, sB, reduceCtorEq, sL, sA, sE, sN, e1, map_app1]
      refine ih (i + 1) (res ++ [(u.1, fo u.2)]) _ _ _ (by rw [drop_at hu] at hd; injection hd) (by omega) (by simp; omega) (by rw [← map_app1]; exact .at (by simp) hs (by simp)) ?_ (fun r d own nx e1 e2 => h0 r d own nx e1 (by simpa only [List.map_cons, app_assoc1] using e2))
      repeat' first | exact OwnB.none _ | refine OwnB.updv (own := own') ?_ (hb.mono (by first | omega | (dsimp only; omega)))
def mrgP (f : Rat → Rat → Rat) (g : Rat → Rat) (p q : List Tm) : List Tm := mrg f g (p.length + q.length) p q
theorem w79 (F1 F2 : Nat) (fb : Rat → Rat → Rat) (fo : Rat → Rat) {A : Nat} (hb : ∀ x y, LQ x ≤ A → LQ y ≤ A → FnR Go.Proofs.Tryz.prog F1 [rW x, rW y] [] (rW (fb x y))) (ho : ∀ y, LQ y ≤ A → FnR Go.Proofs.Tryz.prog F2 [rW y] [] (rW (fo y)))
    (p q : List Tm) (f g : Bool) (hp : PB A p) (hq : PB A q) (hl : p.length + q.length ≤ 1000000000000) :
    FnR Go.Proofs.Tryz.prog 79 [eP f p, eP g q, .f F1 [] [], .f F2 [] []] [] (eP false (mrgP fb fo p q)) := by
  refine fnr79 (by simp) (nr_eP _ _) (by simp) List.nodup_nil fun F out hS => ?_
  have e1 : IntKind.wrap .i64 (((p.length : Nat) : Int) + ((q.length : Nat) : Int)) = ((p.length + q.length : Nat) : Int) := by rw [IntWalk.i64_in _ (by omega)]; omega
  unfold ir79
  simp only [go_sem, sB, reduceCtorEq, sL, sA, sE, sN, eP, eP_len, e1]
  refine mkO_intro (n := 0) (by omega) (by omega) (by omega) ?_
  simp only [go_sem, sB, reduceCtorEq, sL, sA, sE, sN]
  refine loop79a F1 F2 fb fo hb ho f g F out _ (p.length + q.length) p q [] _ _ _ (Nat.le_refl _) hp hq (by simp; omega) (.at (s := 19) (z := 1) (by simp) rfl rfl) ?_ (fun p' q' res' d own nx x e1 e2 hp' hq' hl' hR hO => ?_)
  · repeat' first | exact OwnB.none _ | refine OwnB.updn ?_ (by omega) | refine OwnB.upd0 ?_
  · have e3 : mrgP fb fo p q = res' ++ p' ++ q'.map (fun t => (t.1, fo t.2)) := by rw [← e2]; rfl
    have fin : ∀ (d : D) (own : Nat → Option (Nat × Obj)) (nx : Nat), RowD F S79 own d 12 ((res' ++ p').map eT) → OwnB own nx →
        Loop Go.Proofs.Tryz.prog F [3, 9, 96, 97, 98] [19, 58, 71, 90, 95, 111] b79_1 { r := (upd (upd (upd (upd (upd (fun _ => .u) 98 (.i .i64 0)) 97 (.i .i64 q'.length)) 96 (eP g q')) 9 (d)) 3 (.f F2 [] [])), own := own, out := out, nx := nx }
          (blockK 3 (seqK Go.Proofs.Tryz.prog F (.seq (.reg [oD 113 (.mv (.t 9)) 0, oD 8 (.mv (.t 113)) 1] [] [8] [19, 58, 71, 90, 95, 111]) (.frz 8 .ret)) (Fin F [] out rv79 (eP false (mrgP fb fo p q))))) := by
      intro d own nx hR hO
      refine loop79b F2 fo ho q' g hq' (by omega) F out _ q' 0 (res' ++ p') d own nx rfl (by omega) (by simp; omega) hR hO (fun r d own nx hr hR => ?_)
      simp only [go_sem, sB, reduceCtorEq, sL, sA, sE, sN, hr]
      refine frz_R (S := S79) (hR.on (by simp [upd])) rfl (fun f' own' nx' => ?_)
      simp only [go_sem, sB, reduceCtorEq, sL, sA, sE, sN, rv79, fin_t, e3]
      exact weak_full _ _ _
    cases p' with
    | nil =>
      simp only [go_sem, sB, reduceCtorEq, sL, sA, sE, sN, eP, elemsOf_sl]
      refine appO_R0 (S := S79) (es := res'.map eT) (hR.on (by simp [upd])) ?_
      simp only [go_sem, sB, reduceCtorEq, sL, sA, sE, sN, eP, eP_len]
      refine fin _ _ _ ?_ ?_
      · rw [List.append_nil]; exact hR.on (by simp [upd])
      · repeat' first | exact hO | exact hb | exact OwnB.none _ | refine OwnB.updv (own := own) ?_ (hO.mono (by first | omega | (dsimp only; omega)))
    | cons t p' =>
      simp only [go_sem, sB, reduceCtorEq, sL, sA, sE, sN, eP, elemsOf_sl]
      refine appO_R (S := S79) (es := res'.map eT) (hR.on (by simp [upd])) ?_ (by simp) (by simp at hl' ⊢; omega) (by simp at hl' ⊢; omega) (fun own' hb hoth hs => ?_)
      · dsimp only
        repeat' first | exact hO | exact hb | exact OwnB.none _ | refine OwnB.updv (own := own) ?_ (hO.mono (by first | omega | (dsimp only; omega)))
      · simp only [go_sem, sB, reduceCtorEq, sL, sA, sE, sN, eP, eP_len]
        refine fin _ _ _ ?_ ?_
        · rw [List.map_append]; exact .at (by simp) hs (by simp)
        · repeat' first | exact hO | exact hb | exact OwnB.none _ | refine OwnB.updv (own := own') ?_ (hb.mono (by first | omega | (dsimp only; omega)))
theorem w81 (q : Rat) : FnR Go.Proofs.Tryz.prog 81 [rW q] [] (rW q) := by
  refine fnr81 (by simp) (nr_rW _) (by simp) List.nodup_nil fun F out hS => ?_
  unfold ir81
  simp only [go_sem, sB, reduceCtorEq, sL, sA, sE, sN, rW_C, rC_len, takeC, dropC, rv81, fin_c]
  exact ⟨_, rfl, .refl _⟩
theorem w20 (p q : List Tm) (f g : Bool) {A : Nat} (hp : PB A p) (hq : PB A q) (hA : A ≤ 549755813888) (hl : p.length + q.length ≤ 1000000000000) : FnR Go.Proofs.Tryz.prog 20 [eP f p, eP g q] [] (eP false (addP p q)) := by
  refine fnr20 (by simp) (nr_eP _ _) (by simp) List.nodup_nil fun F out hS => ?_
  unfold ir20
  simp only [go_sem, sB, reduceCtorEq, sL, sA, sE, sN]
  refine callO_intro (w79 80 81 (fun x y => x + y) id (A := A) (fun x y hx hy => q80 x y (by omega) (by omega)) (fun y _ => w81 y) p q f g hp hq hl) ?_
  simp only [go_sem, sB, reduceCtorEq, sL, sA, sE, sN, rv20, fin_t]
  exact .refl _
theorem w21 (p q : List Tm) (f g : Bool) {A : Nat} (hp : PB A p) (hq : PB A q) (hA : A ≤ 549755813888) (hl : p.length + q.length ≤ 1000000000000) : FnR Go.Proofs.Tryz.prog 21 [eP f p, eP g q] [] (eP false (difP p q)) := by
  refine fnr21 (by simp) (nr_eP _ _) (by simp) List.nodup_nil fun F out hS => ?_
  unfold ir21
  simp only [go_sem, sB, reduceCtorEq, sL, sA, sE, sN]
  refine callO_intro (w79 82 83 (fun x y => x - y) (fun y => -y) (A := A) (fun x y hx hy => q82 x y (by omega) (by omega)) (fun y hy => q83 y (by omega)) p q f g hp hq hl) ?_
  simp only [go_sem, sB, reduceCtorEq, sL, sA, sE, sN, rv21, fin_t]
  exact .refl _
end Go.Vm.G

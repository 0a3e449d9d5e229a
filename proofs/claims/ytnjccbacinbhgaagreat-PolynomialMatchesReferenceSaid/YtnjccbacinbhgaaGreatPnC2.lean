/- A part of the proof of: All functions return the results of the reference (PolynomialMatchesReference), for every input. -/
import Derived.Test.YtnjccbacinbhgaaGreatPnC1
set_option linter.unusedSimpArgs false
set_option linter.unusedVariables false
namespace Go.Vm.G
open Go Go.Vm
open Nat renaming reduceBEq → sB, reduceLeDiff → sL, reduceAdd → sA
open Int renaming reduceEq → sE, reduceNe → sN
theorem w123 (v : Bool) (l : List Nat) (f : Bool) (hl : l.length ≤ 140737488355328) : FnR Go.Proofs.Tryz.prog 123 [.a [.b v, .sl 1 f (eW l)]] [] (.b (validI v l)) := by
  refine fnr123 (by simp) rfl (by simp) List.nodup_nil fun F out hS => ?_
  unfold ir123 validI
  by_cases h : l.length = 0
  · have h1 : decide (((l.length : Nat) : Int) > 0) = false := decide_eq_false (by omega)
    simp only [go_sem, sB, reduceCtorEq, sL, sA, sE, sN, h1, rv123, fin_t]
    rw [if_pos h]
    exact .refl _
  · have h1 : decide (((l.length : Nat) : Int) > 0) = true := decide_eq_true (by omega)
    have h2 : IntKind.wrap .i64 (((l.length : Nat) : Int) - 1) = ((l.length - 1 : Nat) : Int) := by rw [IntWalk.i64_in _ (by omega)]; omega
    have h4 : (((l.getD (l.length - 1) 0 : Nat) : Int) != 0) = decide (l.getD (l.length - 1) 0 ≠ 0) := by
      by_cases hz : l.getD (l.length - 1) 0 = 0
      · rw [hz]; rfl
      · have : ((l.getD (l.length - 1) 0 : Nat) : Int) ≠ 0 := by omega
        rw [decide_eq_true hz]
        exact bne_iff_ne.2 this
    simp only [go_sem, sB, reduceCtorEq, sL, sA, sE, sN, h1, h2, ixsO_sl _ _ _ _ _ _ (eW_at (show l.length - 1 < l.length by omega)), rv123, fin_t, h4]
    rw [if_neg h]
    exact .refl _
theorem w124 (v : Bool) (l : List Nat) (f : Bool) : FnR Go.Proofs.Tryz.prog 124 [.a [.b v, .sl 1 f (eW l)]] [] (.i .i64 (if v then -1 else if l.length = 0 then 0 else 1)) := by
  refine fnr124 (by simp) rfl (by simp) List.nodup_nil fun F out hS => ?_
  unfold ir124
  cases v
  · simp only [go_sem, sB, reduceCtorEq, sL, sA, sE, sN, rv124, fin_t]
    have : (if (1 : Int) < (l.length : Int) then (1 : Int) else (l.length : Int)) = if l.length = 0 then 0 else 1 := by
      split <;> split <;> omega
    rw [this]
    exact .refl _
  · simp only [go_sem, sB, reduceCtorEq, sL, sA, sE, sN, rv124, fin_t]
    exact .refl _
theorem sign_raw (a : Int) : (if decide (a < 0) = true then (-1 : Int) else if (toW a.natAbs).length = 0 then 0 else 1) = a.sign := by
  by_cases h : a < 0
  · simp [h, Int.sign_eq_neg_one_of_neg h]
  · by_cases h0 : a = 0
    · subst h0; simp [toW_zero]
    · have hp := L_pos (show a.natAbs ≠ 0 by omega)
      unfold L at hp
      simp only [decide_eq_true_eq, h, if_false]
      rw [if_neg (by omega), Int.sign_eq_one_of_pos (by omega)]
theorem z124 (a : Int) : FnR Go.Proofs.Tryz.prog 124 [zW a] [] (.i .i64 a.sign) := by
  have := w124 (decide (a < 0)) (toW a.natAbs) false
  rw [sign_raw] at this
  exact this
def cmpZ (a b : Int) : Int := if a < b then -1 else if a = b then 0 else 1
theorem z125 (a b : Int) (hla : LZ a ≤ 35184372088832) (hlb : LZ b ≤ 35184372088832) : FnR Go.Proofs.Tryz.prog 125 [zW a, zW b] [] (.i .i64 (cmpZ a b)) := by
  refine fnr125 (by simp) rfl (by simp) List.nodup_nil fun F out hS => ?_
  unfold LZ at hla hlb
  have c1 := z124 a
  have c2 := z124 b
  unfold zW at c1 c2
  unfold ir125 zW
  by_cases h1 : a < 0
  · by_cases h2 : b < 0
    · have d1 : decide (a < 0) = true := decide_eq_true h1
      have d2 : decide (b < 0) = true := decide_eq_true h2
      have e0 : ((true : Bool) == true) = true := rfl
      simp only [go_sem, sB, reduceCtorEq, sL, sA, sE, sN, d1, d2, e0]
      refine callO_intro (n155 b.natAbs a.natAbs hlb hla) ?_
      have e : cmpN b.natAbs a.natAbs = cmpZ a b := by unfold cmpN cmpZ; (repeat' split) <;> omega
      simp only [go_sem, sB, reduceCtorEq, sL, sA, sE, sN, rv125, fin_t, e]
      exact .refl _
    · have d1 : decide (a < 0) = true := decide_eq_true h1
      have d2 : decide (b < 0) = false := decide_eq_false h2
      have e0 : ((true : Bool) == false) = false := rfl
      rw [d1] at c1
      rw [d2] at c2
      simp only [go_sem, sB, reduceCtorEq, sL, sA, sE, sN, d1, d2, e0]
      refine callO_intro c1 ?_
      simp only [go_sem, sB, reduceCtorEq, sL, sA, sE, sN]
      refine callO_intro c2 ?_
      simp only [go_sem, sB, reduceCtorEq, sL, sA, sE, sN]
      refine callO_intro (w154 _ _) ?_
      have e : cmpI a.sign b.sign = cmpZ a b := by
        rw [Int.sign_eq_neg_one_of_neg h1]
        unfold cmpZ
        rw [if_pos (by omega)]
        by_cases hb0 : b = 0
        · subst hb0; rfl
        · rw [Int.sign_eq_one_of_pos (by omega)]; rfl
      simp only [go_sem, sB, reduceCtorEq, sL, sA, sE, sN, rv125, fin_t, e]
      exact .refl _
  · by_cases h2 : b < 0
    · have d1 : decide (a < 0) = false := decide_eq_false h1
      have d2 : decide (b < 0) = true := decide_eq_true h2
      have e0 : ((false : Bool) == true) = false := rfl
      rw [d1] at c1
      rw [d2] at c2
      simp only [go_sem, sB, reduceCtorEq, sL, sA, sE, sN, d1, d2, e0]
      refine callO_intro c1 ?_
      simp only [go_sem, sB, reduceCtorEq, sL, sA, sE, sN]
      refine callO_intro c2 ?_
      simp only [go_sem, sB, reduceCtorEq, sL, sA, sE, sN]
      refine callO_intro (w154 _ _) ?_
      have e : cmpI a.sign b.sign = cmpZ a b := by
        rw [Int.sign_eq_neg_one_of_neg h2]
        unfold cmpZ
        rw [if_neg (by omega), if_neg (by omega)]
        by_cases hb0 : a = 0
        · subst hb0; rfl
        · rw [Int.sign_eq_one_of_pos (by omega)]; rfl
      simp only [go_sem, sB, reduceCtorEq, sL, sA, sE, sN, rv125, fin_t, e]
      exact .refl _
    · have d1 : decide (a < 0) = false := decide_eq_false h1
      have d2 : decide (b < 0) = false := decide_eq_false h2
      have e0 : ((false : Bool) == false) = true := rfl
      simp only [go_sem, sB, reduceCtorEq, sL, sA, sE, sN, d1, d2, e0]
      refine callO_intro (n155 a.natAbs b.natAbs hla hlb) ?_
      have e : cmpN a.natAbs b.natAbs = cmpZ a b := by unfold cmpN cmpZ; (repeat' split) <;> omega
      simp only [go_sem, sB, reduceCtorEq, sL, sA, sE, sN, rv125, fin_t, e]
      exact .refl _
theorem z127 (n : Int) (h1 : -9223372036854775808 ≤ n) (h2 : n < 9223372036854775808) : FnR Go.Proofs.Tryz.prog 127 [.i .i64 n] [] (zW n) := by
  refine fnr127 (by simp) (nr_zW _) (by simp) List.nodup_nil fun F out hS => ?_
  unfold ir127
  have hlen : L n.natAbs ≤ 2 := L_le (by have : BB ^ 2 = 18446744073709551616 := by decide
                                         omega)
  have c1 := n158 n.natAbs (by omega)
  by_cases hn : n < 0
  · have e1 : IntKind.wrap .u64 n = n + 18446744073709551616 := by
      have : IntKind.u64.wrap n = n % 18446744073709551616 := by simp [IntKind.wrap, IntKind.bits, IntKind.signed]
      rw [this]; omega
    have e2 : IntKind.wrap .u64 (0 - (n + 18446744073709551616)) = ((n.natAbs : Nat) : Int) := by
      have : ∀ m : Int, IntKind.u64.wrap m = m % 18446744073709551616 := fun m => by simp [IntKind.wrap, IntKind.bits, IntKind.signed]
      rw [this]; omega
    simp only [go_sem, sB, reduceCtorEq, sL, sA, sE, sN, decide_eq_true hn, e1, e2]
    refine callO_intro c1 ?_
    simp only [go_sem, sB, reduceCtorEq, sL, sA, sE, sN]
    refine callO_intro (n157 n.natAbs true (by omega)) ?_
    simp only [go_sem, sB, reduceCtorEq, sL, sA, sE, sN, rv127, fin_c]
    refine ⟨_, rfl, ?_⟩
    have : decide (¬ n.natAbs = 0) = true := decide_eq_true (by omega)
    rw [this]
    unfold zW
    rw [decide_eq_true hn]
    exact .refl _
  · have e1 : IntKind.wrap .u64 n = ((n.natAbs : Nat) : Int) := by rw [IntWalk.u64_in _ (by omega)]; omega
    simp only [go_sem, sB, reduceCtorEq, sL, sA, sE, sN, decide_eq_false hn, e1]
    refine callO_intro c1 ?_
    simp only [go_sem, sB, reduceCtorEq, sL, sA, sE, sN]
    refine callO_intro (n157 n.natAbs false (by omega)) ?_
    simp only [go_sem, sB, reduceCtorEq, sL, sA, sE, sN, rv127, fin_c]
    refine ⟨_, rfl, ?_⟩
    unfold zW
    rw [decide_eq_false hn]
    exact .refl _
theorem z137 (a : Int) (hl : LZ a ≤ 17592186044416) : FnR Go.Proofs.Tryz.prog 137 [zW a] [] (zW (-a)) := by
  refine fnr137 (by simp) (nr_zW _) (by simp) List.nodup_nil fun F out hS => ?_
  unfold LZ at hl
  unfold ir137 zW
  simp only [go_sem, sB, reduceCtorEq, sL, sA, sE, sN]
  refine callO_intro (n157 a.natAbs _ hl) ?_
  simp only [go_sem, sB, reduceCtorEq, sL, sA, sE, sN, rv137, fin_c]
  refine ⟨_, rfl, ?_⟩
  have : (!decide (a < 0) && decide (a.natAbs ≠ 0)) = decide (-a < 0) := by
    by_cases h1 : a < 0 <;> by_cases h2 : a = 0 <;> simp [h1, h2] <;> omega
  simp only [ne_eq] at this
  rw [this, Int.natAbs_neg]
  exact .refl _
theorem z135 (a b : Int) (hla : LZ a ≤ 4398046511104) (hlb : LZ b ≤ 4398046511104) : FnR Go.Proofs.Tryz.prog 135 [zW a, zW b] [] (zW (a + b)) := by
  refine fnr135 (by simp) (nr_zW _) (by simp) List.nodup_nil fun F out hS => ?_
  unfold LZ at hla hlb
  unfold ir135 zW
  by_cases hs : decide (a < 0) = decide (b < 0)
  · have e : (decide (a < 0) == decide (b < 0)) = true := by simp [hs]
    simp only [go_sem, sB, reduceCtorEq, sL, sA, sE, sN, e]
    refine callO_intro (n163 a.natAbs b.natAbs (by omega) (by omega)) ?_
    have hL := L_add a.natAbs b.natAbs
    simp only [go_sem, sB, reduceCtorEq, sL, sA, sE, sN]
    refine callO_intro (n157 (a.natAbs + b.natAbs) _ (by omega)) ?_
    simp only [go_sem, sB, reduceCtorEq, sL, sA, sE, sN, rv135, fin_c]
    refine ⟨_, rfl, ?_⟩
    have h1 : (a + b).natAbs = a.natAbs + b.natAbs := by
      by_cases h1 : a < 0 <;> by_cases h2 : b < 0 <;> simp [h1, h2] at hs <;> omega
    have := zW_made (v := decide (a < 0)) (n := a.natAbs + b.natAbs) (z := a + b) h1 (by
        rw [Bool.eq_iff_iff]
        simp only [decide_eq_decide] at hs
        simp only [Bool.and_eq_true, decide_eq_true_eq]
        omega)
    exact Eq.mp (congrArg (fun x => Weak x _) this) (Weak.refl _)
  · have e : (decide (a < 0) == decide (b < 0)) = false := by simpa using hs
    simp only [go_sem, sB, reduceCtorEq, sL, sA, sE, sN, e]
    refine callO_intro (n155 a.natAbs b.natAbs (by omega) (by omega)) ?_
    by_cases hlt : a.natAbs < b.natAbs
    · have hcm : decide (cmpN a.natAbs b.natAbs < 0) = true := by simp [cmpN, hlt]
      simp only [go_sem, sB, reduceCtorEq, sL, sA, sE, sN, hcm]
      refine callO_intro (n164 b.natAbs a.natAbs (by omega) (by omega)) ?_
      have hL := L_mono (show b.natAbs - a.natAbs ≤ b.natAbs by omega)
      simp only [go_sem, sB, reduceCtorEq, sL, sA, sE, sN]
      refine callO_intro (n157 (b.natAbs - a.natAbs) _ (by omega)) ?_
      simp only [go_sem, sB, reduceCtorEq, sL, sA, sE, sN, rv135, fin_c]
      refine ⟨_, rfl, ?_⟩
      have h1 : (a + b).natAbs = b.natAbs - a.natAbs := by
        by_cases h1 : a < 0 <;> by_cases h2 : b < 0 <;> simp [h1, h2] at hs <;> omega
      have := zW_made (v := decide (b < 0)) (n := b.natAbs - a.natAbs) (z := a + b) h1 (by
        rw [Bool.eq_iff_iff]
        simp only [decide_eq_decide] at hs
        simp only [Bool.and_eq_true, decide_eq_true_eq]
        omega)
      exact Eq.mp (congrArg (fun x => Weak x _) this) (Weak.refl _)
    · have hcm : decide (cmpN a.natAbs b.natAbs < 0) = false := by
        unfold cmpN
        rw [if_neg hlt]
        split <;> decide
      simp only [go_sem, sB, reduceCtorEq, sL, sA, sE, sN, hcm]
      refine callO_intro (n164 a.natAbs b.natAbs (by omega) (by omega)) ?_
      have hL := L_mono (show a.natAbs - b.natAbs ≤ a.natAbs by omega)
      simp only [go_sem, sB, reduceCtorEq, sL, sA, sE, sN]
      refine callO_intro (n157 (a.natAbs - b.natAbs) _ (by omega)) ?_
      simp only [go_sem, sB, reduceCtorEq, sL, sA, sE, sN, rv135, fin_c]
      refine ⟨_, rfl, ?_⟩
      have h1 : (a + b).natAbs = a.natAbs - b.natAbs := by
        by_cases h1 : a < 0 <;> by_cases h2 : b < 0 <;> simp [h1, h2] at hs <;> omega
      have := zW_made (v := decide (a < 0)) (n := a.natAbs - b.natAbs) (z := a + b) h1 (by
        rw [Bool.eq_iff_iff]
        simp only [decide_eq_decide] at hs
        simp only [Bool.and_eq_true, decide_eq_true_eq]
        omega)
      exact Eq.mp (congrArg (fun x => Weak x _) this) (Weak.refl _)
theorem z136 (a b : Int) (hla : LZ a ≤ 4398046511104) (hlb : LZ b ≤ 4398046511104) : FnR Go.Proofs.Tryz.prog 136 [zW a, zW b] [] (zW (a - b)) := by
  refine fnr136 (by simp) (nr_zW _) (by simp) List.nodup_nil fun F out hS => ?_
  have c1 := z137 b (by omega)
  have c2 := z135 a (-b) hla (by rw [LZ_neg]; exact hlb)
  rw [show a + -b = a - b by omega] at c2
  unfold zW at c1 c2
  unfold ir136 zW
  simp only [go_sem, sB, reduceCtorEq, sL, sA, sE, sN]
  refine callO_intro c1 ?_
  simp only [go_sem, sB, reduceCtorEq, sL, sA, sE, sN]
  refine callO_intro c2 ?_
  simp only [go_sem, sB, reduceCtorEq, sL, sA, sE, sN, rv136, fin_c]
  exact ⟨_, rfl, .refl _⟩
theorem mul_sign (a b : Int) : ((!(decide (a < 0) == decide (b < 0))) && decide (a.natAbs * b.natAbs ≠ 0)) = decide (a * b < 0) := by
  rw [← Int.natAbs_mul]
  have hz : (a * b).natAbs ≠ 0 ↔ a ≠ 0 ∧ b ≠ 0 := by rw [Int.natAbs_ne_zero, Int.mul_ne_zero_iff]
  by_cases h1 : a < 0 <;> by_cases h2 : b < 0
  · have := Int.mul_pos_of_neg_of_neg h1 h2
    simp [h1, h2]; omega
  · rcases Int.lt_or_eq_of_le (show 0 ≤ b by omega) with h3 | h3
    · have := Int.mul_neg_of_neg_of_pos h1 h3
      simp [h1, h2, this]; omega
    · subst h3; simp [h1]
  · rcases Int.lt_or_eq_of_le (show 0 ≤ a by omega) with h3 | h3
    · have := Int.mul_neg_of_pos_of_neg h3 h2
      simp [h1, h2, this]; omega
    · subst h3; simp [h2]
  · have := Int.mul_nonneg (show 0 ≤ a by omega) (show 0 ≤ b by omega)
    simp [h1, h2]; omega
theorem z160 (a b : Int) (hl : LZ a + LZ b ≤ 17592186044416) : FnR Go.Proofs.Tryz.prog 160 [zW a, zW b] [] (zW (a * b)) := by
  refine fnr160 (by simp) (nr_zW _) (by simp) List.nodup_nil fun F out hS => ?_
  unfold LZ at hl
  unfold ir160 zW
  simp only [go_sem, sB, reduceCtorEq, sL, sA, sE, sN]
  refine callO_intro (n180 a.natAbs b.natAbs hl) ?_
  have hL := L_mul a.natAbs b.natAbs
  simp only [go_sem, sB, reduceCtorEq, sL, sA, sE, sN]
  refine callO_intro (n157 (a.natAbs * b.natAbs) _ (by omega)) ?_
  simp only [go_sem, sB, reduceCtorEq, sL, sA, sE, sN, rv160, fin_c]
  refine ⟨_, rfl, ?_⟩
  have := zW_made (z := a * b) (Int.natAbs_mul a b) (mul_sign a b)
  exact Eq.mp (congrArg (fun x => Weak x _) this) (Weak.refl _)
theorem z159 (a b : Int) (hb : b ≠ 0) (hla : LZ a ≤ 2199023255552) (hlb : LZ b ≤ 2199023255552) : FnR Go.Proofs.Tryz.prog 159 [zW a, zW b] [] (.t [zW (a / b), zW (a % b), .i .i64 0]) := by
  refine fnr159 (by simp) (by simp [D.nr, nrL, nr_zW]) (by simp) List.nodup_nil fun F out hS => ?_
  unfold LZ at hla hlb
  have hbn : b.natAbs ≠ 0 := by omega
  have hb0 := L_pos hbn
  unfold L at hb0
  have h1 : (((toW b.natAbs).length : Int) == 0) = false := by rw [beq_eq_false_iff_ne]; omega
  have hc := n156 a.natAbs b.natAbs hbn (by omega)
  have h158 := n158 1 (by decide)
  unfold ir159 zW nW eN
  unfold nW eN at hc
  simp only [go_sem, sB, reduceCtorEq, sL, sA, sE, sN, h1]
  refine callO_intro hc ?_
  have hdm := Nat.div_add_mod a.natAbs b.natAbs
  have hml := Nat.mod_lt a.natAbs (Nat.pos_of_ne_zero hbn)
  have hq1 : L (a.natAbs / b.natAbs) ≤ L a.natAbs := L_mono (Nat.div_le_self _ _)
  have hr1 : L (a.natAbs % b.natAbs) ≤ L b.natAbs := L_mono (Nat.le_of_lt hml)
  have hdi : ((a.natAbs : Int)) = (b.natAbs : Int) * ((a.natAbs / b.natAbs : Nat) : Int) + ((a.natAbs % b.natAbs : Nat) : Int) := by
    rw [← Int.natCast_mul]; omega
  generalize hQ : a.natAbs / b.natAbs = q at *
  generalize hR : a.natAbs % b.natAbs = r at *
  have fin : ∀ (v : Bool) (q' r' : Nat), (v && decide (q' ≠ 0)) = decide (a / b < 0) → (a / b).natAbs = q' → (a % b) = (r' : Int) → (.t [.a [.b (v && decide (q' ≠ 0)), nW q'], .a [.b (false && decide (r' ≠ 0)), nW r'], .i .i64 0] : D) = .t [zW (a / b), zW (a % b), .i .i64 0] := by
    intro v q' r' h1 h2 h3
    rw [h1]
    unfold zW
    rw [h2, h3]
    simp
  have hsgn : ∀ q' : Nat, (a / b).natAbs = q' → ((a / b < 0) ↔ (q' ≠ 0 ∧ ¬ ((a < 0) ↔ (b < 0)))) → ((!(decide (a < 0) == decide (b < 0))) && decide (q' ≠ 0)) = decide (a / b < 0) := by
    intro q' h1 h2
    rw [Bool.eq_iff_iff]
    simp only [Bool.and_eq_true, Bool.not_eq_true', beq_eq_false_iff_ne, ne_eq, decide_eq_decide, decide_eq_true_eq]
    rw [h2]
    exact And.comm
  by_cases ha : a < 0
  · by_cases hr0 : r = 0
    · have c1 : decide (((toW r).length : Int) > 0) = false := by rw [hr0, toW_zero]; decide
      simp only [go_sem, sB, reduceCtorEq, sL, sA, sE, sN, decide_eq_true ha, c1]
      have hu : a / b = (if b < 0 then (q : Int) else -(q : Int)) ∧ a % b = ((0 : Nat) : Int) := by
        have e : a = b * (if b < 0 then (q : Int) else -(q : Int)) + ((0 : Nat) : Int) := by
          split
          · have : (b.natAbs : Int) = -b := by omega
            rw [this, Int.neg_mul] at hdi
            omega
          · have : (b.natAbs : Int) = b := by omega
            rw [this] at hdi
            rw [Int.mul_neg]; omega
        exact ediv_uniq e (by omega) (by omega)
      refine callO_intro (n157 q (!(true == decide (b < 0))) (by omega)) ?_
      simp only [go_sem, sB, reduceCtorEq, sL, sA, sE, sN]
      refine callO_intro (n157 r false (by omega)) ?_
      simp only [go_sem, sB, reduceCtorEq, sL, sA, sE, sN, rv159, fin_g, resAll, resL, resD, mkV]
      refine ⟨_, rfl, ?_⟩
      have := fin (!(true == decide (b < 0))) q r (by have := hsgn q (by rw [hu.1]; split <;> omega) (by rw [hu.1]; split <;> omega); rw [decide_eq_true ha] at this; exact this) (by rw [hu.1]; split <;> omega) (by rw [hu.2, hr0])
      exact Eq.mp (congrArg (fun x => Weak x _) this) (Weak.refl _)
    · have hrp := L_pos hr0
      unfold L at hrp
      have c1 : decide (((toW r).length : Int) > 0) = true := decide_eq_true (by omega)
      have hla1 : L 1 ≤ 17592186044416 := by rw [L_one]; omega
      have hc3 := n163 q 1 (by omega) hla1
      have hc4 := n164 b.natAbs r (by omega) (by omega)
      unfold nW eN at hc3 hc4 h158
      simp only [go_sem, sB, reduceCtorEq, sL, sA, sE, sN, decide_eq_true ha, c1]
      refine callO_intro h158 ?_
      simp only [go_sem, sB, reduceCtorEq, sL, sA, sE, sN]
      refine callO_intro hc3 ?_
      simp only [go_sem, sB, reduceCtorEq, sL, sA, sE, sN]
      refine callO_intro hc4 ?_
      simp only [go_sem, sB, reduceCtorEq, sL, sA, sE, sN]
      have hu : a / b = (if b < 0 then ((q + 1 : Nat) : Int) else -((q + 1 : Nat) : Int)) ∧ a % b = ((b.natAbs - r : Nat) : Int) := by
        have e : a = b * (if b < 0 then ((q + 1 : Nat) : Int) else -((q + 1 : Nat) : Int)) + ((b.natAbs - r : Nat) : Int) := by
          split
          · have e1 : (b.natAbs : Int) = -b := by omega
            rw [e1, Int.neg_mul] at hdi
            rw [Int.natCast_add, Int.mul_add]
            omega
          · have e1 : (b.natAbs : Int) = b := by omega
            rw [e1] at hdi
            rw [Int.mul_neg, Int.natCast_add, Int.mul_add]; omega
        exact ediv_uniq e (by omega) (by omega)
      have hl1 := L_add q 1
      have hl2 : L (b.natAbs - r) ≤ L b.natAbs := L_mono (by omega)
      rw [L_one] at hl1
      refine callO_intro (n157 (q + 1) (!(true == decide (b < 0))) (by omega)) ?_
      simp only [go_sem, sB, reduceCtorEq, sL, sA, sE, sN]
      refine callO_intro (n157 (b.natAbs - r) false (by omega)) ?_
      simp only [go_sem, sB, reduceCtorEq, sL, sA, sE, sN, rv159, fin_g, resAll, resL, resD, mkV]
      refine ⟨_, rfl, ?_⟩
      have := fin (!(true == decide (b < 0))) (q + 1) (b.natAbs - r) (by have := hsgn (q + 1) (by rw [hu.1]; split <;> omega) (by rw [hu.1]; split <;> omega); rw [decide_eq_true ha] at this; exact this) (by rw [hu.1]; split <;> omega) hu.2
      exact Eq.mp (congrArg (fun x => Weak x _) this) (Weak.refl _)
  · have hu : a / b = (if b < 0 then -(q : Int) else (q : Int)) ∧ a % b = (r : Int) := by
      have e : a = b * (if b < 0 then -(q : Int) else (q : Int)) + (r : Int) := by
        split
        · have : (b.natAbs : Int) = -b := by omega
          rw [this, Int.neg_mul] at hdi
          rw [Int.mul_neg]; omega
        · have : (b.natAbs : Int) = b := by omega
          rw [this] at hdi
          omega
      exact ediv_uniq e (by omega) (by omega)
    simp only [go_sem, sB, reduceCtorEq, sL, sA, sE, sN, decide_eq_false ha]
    refine callO_intro (n157 q (!(false == decide (b < 0))) (by omega)) ?_
    simp only [go_sem, sB, reduceCtorEq, sL, sA, sE, sN]
    refine callO_intro (n157 r false (by omega)) ?_
    simp only [go_sem, sB, reduceCtorEq, sL, sA, sE, sN, rv159, fin_g, resAll, resL, resD, mkV]
    refine ⟨_, rfl, ?_⟩
    have := fin (!(false == decide (b < 0))) q r (by have := hsgn q (by rw [hu.1]; split <;> omega) (by rw [hu.1]; split <;> omega); rw [decide_eq_false ha] at this; exact this) (by rw [hu.1]; split <;> omega) hu.2
    exact Eq.mp (congrArg (fun x => Weak x _) this) (Weak.refl _)
theorem z131 (n d : Int) (hd : d ≠ 0) (hln : LZ n ≤ 2199023255552) (hld : LZ d ≤ 2199023255552) : FnR Go.Proofs.Tryz.prog 131 [zW n, zW d] [] (rW (Rat.divInt n d)) := by
  refine fnr131 (by simp) (nr_rW _) (by simp) List.nodup_nil fun F out hS => ?_
  have hg0 : Nat.gcd n.natAbs d.natAbs ≠ 0 := by
    intro h
    have := (Nat.gcd_eq_zero_iff.1 h).2
    omega
  have hlg : LZ ((Nat.gcd n.natAbs d.natAbs : Nat) : Int) ≤ LZ d := by
    unfold LZ
    apply L_mono
    rw [Int.natAbs_natCast]
    exact Nat.gcd_le_right _ (by omega)
  have hnum := lowest_num n d hd
  have hden := lowest_den n d hd
  have c1 := z126 n d hln hld
  generalize hG : ((Nat.gcd n.natAbs d.natAbs : Nat) : Int) = g at *
  have hgi : g ≠ 0 := by omega
  have fin : (.a [.b (decide ((n / (if d < 0 then -g else g)) < 0)), nW (n / (if d < 0 then -g else g)).natAbs, .b (decide ((d / (if d < 0 then -g else g)) < 0)), nW (d / (if d < 0 then -g else g)).natAbs] : D) = rW (Rat.divInt n d) := by
    unfold rW
    rw [hnum, ← hden]
    rw [show decide ((((Rat.divInt n d).den : Nat) : Int) < 0) = false from decide_eq_false (by omega), Int.natAbs_natCast]
  have c2 := z124 d
  have c3 := z137 g (by omega)
  unfold ir131
  unfold zW at c1 c2 c3
  by_cases h : d < 0
  · rw [if_pos h] at fin
    have c4 := z159 n (-g) (by omega) hln (by rw [LZ_neg]; omega)
    have c5 := z159 d (-g) (by omega) hld (by rw [LZ_neg]; omega)
    unfold zW at c4 c5 ⊢
    simp only [go_sem, sB, reduceCtorEq, sL, sA, sE, sN]
    refine callO_intro c1 ?_
    simp only [go_sem, sB, reduceCtorEq, sL, sA, sE, sN]
    refine callO_intro c2 ?_
    have e : decide (d.sign < 0) = true := by rw [Int.sign_eq_neg_one_of_neg h]; decide
    simp only [go_sem, sB, reduceCtorEq, sL, sA, sE, sN, e]
    refine callO_intro c3 ?_
    simp only [go_sem, sB, reduceCtorEq, sL, sA, sE, sN]
    refine callO_intro c4 ?_
    simp only [go_sem, sB, reduceCtorEq, sL, sA, sE, sN]
    refine callO_intro c5 ?_
    simp only [go_sem, sB, reduceCtorEq, sL, sA, sE, sN, rv131, fin_c]
    refine ⟨_, rfl, ?_⟩
    rw [fin]
    exact .refl _
  · rw [if_neg h] at fin
    have c4 := z159 n g (by omega) hln (by omega)
    have c5 := z159 d g (by omega) hld (by omega)
    unfold zW at c4 c5 ⊢
    simp only [go_sem, sB, reduceCtorEq, sL, sA, sE, sN]
    refine callO_intro c1 ?_
    simp only [go_sem, sB, reduceCtorEq, sL, sA, sE, sN]
    refine callO_intro c2 ?_
    have e : decide (d.sign < 0) = false := by rw [Int.sign_eq_one_of_pos (by omega)]; decide
    simp only [go_sem, sB, reduceCtorEq, sL, sA, sE, sN, e]
    refine callO_intro c4 ?_
    simp only [go_sem, sB, reduceCtorEq, sL, sA, sE, sN]
    refine callO_intro c5 ?_
    simp only [go_sem, sB, reduceCtorEq, sL, sA, sE, sN, rv131, fin_c]
    refine ⟨_, rfl, ?_⟩
    rw [fin]
    exact .refl _
def zC (a : Int) : List D := [.b (decide (a < 0)), nW a.natAbs]
def sumL : List Int → Nat
  | [] => 0
  | a :: l => LZ a + sumL l
theorem loop132 (l : List Int) (f : Bool) (hn : l.length ≤ 1000) (F : Nat) (out : Sto) (Q : Ex → St → Prop) (z z' : Nat) (ob : List D) (z3 : Nat) : ∀ (r : List Int) (i : Nat) (p : Int) (nx : Nat), l.drop i = r → i + r.length = l.length → LZ p + sumL r ≤ 17592186044416 →
    (∀ nx, Q (.exit 0) { r := (upd (upd (upd (upd (upd (upd (fun _ => .u) 10 (.b false)) 9 (.i .i64 l.length)) 8 (.i .i64 l.length)) 7 (.sl 2 f (l.map zC))) 3 (.p (F, 3) z' 0)) 2 (.p (F, 2) z 0)), own := upd (upd (fun _ => none) 3 (some (z', .box (zC (r.foldl (· * ·) p))))) 2 (some (z, .box ob)), out := out, nx := nx }) →
    Loop Go.Proofs.Tryz.prog F [2, 3, 7, 8, 9] [2, 3] b132_0 { r := (upd (upd (upd (upd (upd (fun _ => .u) 9 (.i .i64 i)) 8 (.i .i64 l.length)) 7 (.sl 2 f (l.map zC))) 3 (.p (F, 3) z' 0)) 2 (.p (F, 2) z 0)), own := upd (upd (fun _ => none) 3 (some (z', .box (zC p)))) 2 (some (z, .box ob)), out := out, nx := nx } Q := by
  intro r
  induction r with
  | nil =>
    intro i p nx hd hi hl hQ
    refine Loop.stepW ?_
    have hi' : i = l.length := by simpa using hi
    subst hi'
    have c1 : decide (((l.length : Nat) : Int) < ((l.length : Nat) : Int)) = false := by simp
    simp only [go_sem, sB, reduceCtorEq, sL, sA, sE, sN, wb132_0, c1]
    exact hQ _
  | cons a r ih =>
    intro i p nx hd hi hl hQ
    refine Loop.stepW ?_
    simp only [List.length_cons] at hi
    have hin : i < l.length := by omega
    have c1 : decide (((i : Nat) : Int) < ((l.length : Nat) : Int)) = true := by simp; omega
    have e5 : IntKind.wrap .i64 (((i : Nat) : Int) + 1) = ((i + 1 : Nat) : Int) := by rw [IntWalk.i64_in _ (by omega)]; omega
    have hda : l[i]? = some a := by
      have := List.getElem?_drop (xs := l) (i := i) (j := 0)
      rw [hd] at this
      simpa using this.symm
    have hat : (l.map zC)[i]? = some [.b (decide (a < 0)), nW a.natAbs] := by rw [List.getElem?_map, hda]; rfl
    simp only [sumL] at hl
    have hc := z160 p a (by omega)
    unfold zW at hc
    have hm := LZ_mul p a
    simp only [go_sem, sB, reduceCtorEq, sL, sA, sE, sN, wb132_0, c1, ixsO_sl _ _ _ _ _ _ hat, zC]
    refine callO_intro hc ?_
    simp only [go_sem, sB, reduceCtorEq, sL, sA, sE, sN, e5]
    refine ih (i + 1) (p * a) _ ?_ (by omega) (by omega) hQ
    rw [← List.drop_drop, hd]
    rfl
theorem z132 (l : List Int) (f : Bool) (hn : l.length ≤ 1000) (hl : sumL l ≤ 8796093022208) : FnR Go.Proofs.Tryz.prog 132 [.sl 2 f (l.map zC)] [] (zW (l.foldl (· * ·) 1)) := by
  refine fnr132 (by simp) (nr_zW _) (by simp) List.nodup_nil fun F out hS => ?_
  have c1 := z127 1 (by decide) (by decide)
  unfold zW at c1
  unfold ir132
  have h1 : LZ 1 = 1 := L_one
  have hlm : (((l.map zC).length : Nat) : Int) = (l.length : Int) := by rw [List.length_map]
  simp only [go_sem, sB, reduceCtorEq, sL, sA, sE, sN]
  refine callO_intro c1 ?_
  simp only [go_sem, sB, reduceCtorEq, sL, sA, sE, sN, hlm]
  refine loop132 l f hn F out _ _ _ _ 0 l 0 1 _ rfl (by omega) (by omega) (fun nx => ?_)
  simp only [go_sem, sB, reduceCtorEq, sL, sA, sE, sN, rv132, fin_c, zC]
  exact ⟨_, rfl, .refl _⟩
theorem z132_2 (a b : Int) (hl : LZ a + LZ b ≤ 8796093022208) : FnR Go.Proofs.Tryz.prog 132 [.sl 2 true [[.b (decide (a < 0)), nW a.natAbs], [.b (decide (b < 0)), nW b.natAbs]]] [] (zW (a * b)) := by
  have := z132 [a, b] true (by simp) (by simp [sumL]; exact hl)
  simp only [List.foldl_cons, List.foldl_nil, Int.one_mul] at this
  exact this
theorem z132_1 (a : Int) (hl : LZ a ≤ 8796093022208) : FnR Go.Proofs.Tryz.prog 132 [.sl 2 true [[.b (decide (a < 0)), nW a.natAbs]]] [] (zW a) := by
  have := z132 [a] true (by simp) (by simp [sumL]; exact hl)
  simp only [List.foldl_cons, List.foldl_nil, Int.one_mul] at this
  exact this
theorem dec_nat (n : Nat) : decide (((n : Nat) : Int) < 0) = false := decide_eq_false (by omega)
theorem q68 (a : Rat) : FnR Go.Proofs.Tryz.prog 68 [rW a] [] (.i .i64 a.num.sign) := by
  refine fnr68 (by simp) rfl (by simp) List.nodup_nil fun F out hS => ?_
  have c1 := z124 a.num
  unfold zW at c1
  unfold ir68 rW
  simp only [go_sem, sB, reduceCtorEq, sL, sA, sE, sN]
  refine callO_intro c1 ?_
  simp only [go_sem, sB, reduceCtorEq, sL, sA, sE, sN, rv68, fin_t]
  exact .refl _
theorem q140 (n : Int) : FnR Go.Proofs.Tryz.prog 140 [zW n] [] (rW (n : Rat)) := by
  refine fnr140 (by simp) (nr_rW _) (by simp) List.nodup_nil fun F out hS => ?_
  have c2 := z127 1 (by decide) (by decide)
  unfold zW at c2
  unfold ir140 zW
  simp only [go_sem, sB, reduceCtorEq, sL, sA, sE, sN]
  refine callO_intro c2 ?_
  simp only [go_sem, sB, reduceCtorEq, sL, sA, sE, sN, rv140, fin_c]
  exact ⟨_, rfl, .refl _⟩
theorem q85 (n : Int) (h1 : -9223372036854775808 ≤ n) (h2 : n < 9223372036854775808) : FnR Go.Proofs.Tryz.prog 85 [.i .i64 n] [] (rW (n : Rat)) := by
  refine fnr85 (by simp) (nr_rW _) (by simp) List.nodup_nil fun F out hS => ?_
  unfold ir85
  simp only [go_sem, sB, reduceCtorEq, sL, sA, sE, sN]
  refine callO_intro (z127 n h1 h2) ?_
  simp only [go_sem, sB, reduceCtorEq, sL, sA, sE, sN]
  refine callO_intro (q140 n) ?_
  simp only [go_sem, sB, reduceCtorEq, sL, sA, sE, sN, rW, rv85, fin_c]
  exact ⟨_, rfl, .refl _⟩
theorem q76 (a b : Rat) (ha : LQ a ≤ 549755813888) (hb : LQ b ≤ 549755813888) : FnR Go.Proofs.Tryz.prog 76 [rW a, rW b] [] (rW (a * b)) := by
  refine fnr76 (by simp) (nr_rW _) (by simp) List.nodup_nil fun F out hS => ?_
  unfold LQ at ha hb
  have n1 := LZ_nat a.den
  have n2 := LZ_nat b.den
  have c1 := z132_2 a.num b.num (by omega)
  have c2 := z132_2 (a.den : Int) (b.den : Int) (by omega)
  have h4 := LZ_mul a.num b.num
  have h6 := LZ_mul (a.den : Int) (b.den : Int)
  have c3 := z131 (a.num * b.num) ((a.den : Int) * (b.den : Int)) (den2_ne a b) (by omega) (by omega)
  rw [← mul_eq] at c3
  rw [dec_nat, dec_nat, Int.natAbs_natCast, Int.natAbs_natCast] at c2
  unfold ir76 rW
  simp only [go_sem, sB, reduceCtorEq, sL, sA, sE, sN]
  refine callO_intro c1 ?_
  simp only [go_sem, sB, reduceCtorEq, sL, sA, sE, sN]
  refine callO_intro c2 ?_
  simp only [go_sem, sB, reduceCtorEq, sL, sA, sE, sN]
  refine callO_intro c3 ?_
  simp only [go_sem, sB, reduceCtorEq, sL, sA, sE, sN, rW, rv76, fin_c]
  exact ⟨_, rfl, .refl _⟩
theorem q80 (a b : Rat) (ha : LQ a ≤ 549755813888) (hb : LQ b ≤ 549755813888) : FnR Go.Proofs.Tryz.prog 80 [rW a, rW b] [] (rW (a + b)) := by
  refine fnr80 (by simp) (nr_rW _) (by simp) List.nodup_nil fun F out hS => ?_
  unfold LQ at ha hb
  have n1 := LZ_nat a.den
  have n2 := LZ_nat b.den
  have c1 := z132_2 a.num (b.den : Int) (by omega)
  have c2 := z132_2 b.num (a.den : Int) (by omega)
  have h4 := LZ_mul a.num (b.den : Int)
  have h5 := LZ_mul b.num (a.den : Int)
  have h6 := LZ_mul (a.den : Int) (b.den : Int)
  have h7 := LZ_add (a.num * (b.den : Int)) (b.num * (a.den : Int))
  have c3 := z135 (a.num * (b.den : Int)) (b.num * (a.den : Int)) (by omega) (by omega)
  have c4 := z132_2 (a.den : Int) (b.den : Int) (by omega)
  have c5 := z131 (a.num * (b.den : Int) + b.num * (a.den : Int)) ((a.den : Int) * (b.den : Int)) (den2_ne a b) (by omega) (by omega)
  rw [← add_eq] at c5
  rw [dec_nat, Int.natAbs_natCast] at c1 c2
  rw [dec_nat, dec_nat, Int.natAbs_natCast, Int.natAbs_natCast] at c4
  unfold ir80 rW
  simp only [go_sem, sB, reduceCtorEq, sL, sA, sE, sN]
  refine callO_intro c1 ?_
  simp only [go_sem, sB, reduceCtorEq, sL, sA, sE, sN]
  refine callO_intro c2 ?_
  simp only [go_sem, sB, reduceCtorEq, sL, sA, sE, sN]
  refine callO_intro c3 ?_
  simp only [go_sem, sB, reduceCtorEq, sL, sA, sE, sN]
  refine callO_intro c4 ?_
  simp only [go_sem, sB, reduceCtorEq, sL, sA, sE, sN]
  refine callO_intro c5 ?_
  simp only [go_sem, sB, reduceCtorEq, sL, sA, sE, sN, rW, rv80, fin_c]
  exact ⟨_, rfl, .refl _⟩
theorem sub_eq (a b : Rat) : a - b = Rat.divInt (a.num * (b.den : Int) - b.num * (a.den : Int)) ((a.den : Int) * (b.den : Int)) := by
  rw [← Int.natCast_mul, Rat.divInt_ofNat, Rat.sub_def']
theorem LZ_sub (a b : Int) : LZ (a - b) ≤ max (LZ a) (LZ b) + 1 := by
  have := LZ_add a (-b)
  rw [LZ_neg, show a + -b = a - b by omega] at this
  exact this
theorem q82 (a b : Rat) (ha : LQ a ≤ 549755813888) (hb : LQ b ≤ 549755813888) : FnR Go.Proofs.Tryz.prog 82 [rW a, rW b] [] (rW (a - b)) := by
  refine fnr82 (by simp) (nr_rW _) (by simp) List.nodup_nil fun F out hS => ?_
  unfold LQ at ha hb
  have n1 := LZ_nat a.den
  have n2 := LZ_nat b.den
  have c1 := z132_2 a.num (b.den : Int) (by omega)
  have c2 := z132_2 b.num (a.den : Int) (by omega)
  have h4 := LZ_mul a.num (b.den : Int)
  have h5 := LZ_mul b.num (a.den : Int)
  have h6 := LZ_mul (a.den : Int) (b.den : Int)
  have h7 := LZ_sub (a.num * (b.den : Int)) (b.num * (a.den : Int))
  have c3 := z136 (a.num * (b.den : Int)) (b.num * (a.den : Int)) (by omega) (by omega)
  have c4 := z132_2 (a.den : Int) (b.den : Int) (by omega)
  have c5 := z131 (a.num * (b.den : Int) - b.num * (a.den : Int)) ((a.den : Int) * (b.den : Int)) (den2_ne a b) (by omega) (by omega)
  rw [← sub_eq] at c5
  rw [dec_nat, Int.natAbs_natCast] at c1 c2
  rw [dec_nat, dec_nat, Int.natAbs_natCast, Int.natAbs_natCast] at c4
  unfold ir82 rW
  simp only [go_sem, sB, reduceCtorEq, sL, sA, sE, sN]
  refine callO_intro c1 ?_
  simp only [go_sem, sB, reduceCtorEq, sL, sA, sE, sN]
  refine callO_intro c2 ?_
  simp only [go_sem, sB, reduceCtorEq, sL, sA, sE, sN]
  refine callO_intro c3 ?_
  simp only [go_sem, sB, reduceCtorEq, sL, sA, sE, sN]
  refine callO_intro c4 ?_
  simp only [go_sem, sB, reduceCtorEq, sL, sA, sE, sN]
  refine callO_intro c5 ?_
  simp only [go_sem, sB, reduceCtorEq, sL, sA, sE, sN, rW, rv82, fin_c]
  exact ⟨_, rfl, .refl _⟩
theorem q83 (a : Rat) (ha : LQ a ≤ 549755813888) : FnR Go.Proofs.Tryz.prog 83 [rW a] [] (rW (-a)) := by
  refine fnr83 (by simp) (nr_rW _) (by simp) List.nodup_nil fun F out hS => ?_
  unfold LQ at ha
  have n1 := LZ_nat a.den
  have c1 := z137 a.num (by omega)
  have c2 := z132_1 (a.den : Int) (by omega)
  rw [dec_nat, Int.natAbs_natCast, zW_nat] at c2
  unfold zW at c1
  unfold ir83 rW
  simp only [go_sem, sB, reduceCtorEq, sL, sA, sE, sN]
  refine callO_intro c1 ?_
  simp only [go_sem, sB, reduceCtorEq, sL, sA, sE, sN]
  refine callO_intro c2 ?_
  simp only [go_sem, sB, reduceCtorEq, sL, sA, sE, sN, rv83, fin_c, Rat.neg_num, Rat.neg_den]
  exact ⟨_, rfl, .refl _⟩
theorem q101 (a b : Rat) (ha : LQ a ≤ 549755813888) (hb : LQ b ≤ 549755813888) : FnR Go.Proofs.Tryz.prog 101 [rW a, rW b] [] (.i .i64 (cmpQ a b)) := by
  refine fnr101 (by simp) rfl (by simp) List.nodup_nil fun F out hS => ?_
  unfold LQ at ha hb
  have n1 := LZ_nat a.den
  have n2 := LZ_nat b.den
  have c1 := z132_2 a.num (b.den : Int) (by omega)
  have c2 := z132_2 b.num (a.den : Int) (by omega)
  have h4 := LZ_mul a.num (b.den : Int)
  have h5 := LZ_mul b.num (a.den : Int)
  have c5 := z125 (a.num * (b.den : Int)) (b.num * (a.den : Int)) (by omega) (by omega)
  have e : cmpZ (a.num * (b.den : Int)) (b.num * (a.den : Int)) = cmpQ a b := by
    unfold cmpQ cmpZ
    simp only [Rat.lt_iff, Rat.eq_iff_mul_eq_mul]
  rw [e] at c5
  rw [dec_nat, Int.natAbs_natCast] at c1 c2
  unfold ir101 rW
  simp only [go_sem, sB, reduceCtorEq, sL, sA, sE, sN]
  refine callO_intro c1 ?_
  simp only [go_sem, sB, reduceCtorEq, sL, sA, sE, sN]
  refine callO_intro c2 ?_
  simp only [go_sem, sB, reduceCtorEq, sL, sA, sE, sN]
  refine callO_intro c5 ?_
  simp only [go_sem, sB, reduceCtorEq, sL, sA, sE, sN, rv101, fin_t]
  exact .refl _
theorem q151 (n d : Int) (hd : d ≠ 0) (hln : LZ n ≤ 2199023255552) (hld : LZ d ≤ 2199023255552) : FnR Go.Proofs.Tryz.prog 151 [zW n, zW d] [] (.t [rW (Rat.divInt n d), .i .i64 0]) := by
  refine fnr151 (by simp) (by simp [D.nr, nrL, nr_rW]) (by simp) List.nodup_nil fun F out hS => ?_
  have c1 := z124 d
  have c2 := z131 n d hd hln hld
  have e : (d.sign == 0) = false := by rw [beq_eq_false_iff_ne]; exact fun h => hd (Int.sign_eq_zero_iff_zero.1 h)
  unfold zW at c1 c2
  unfold ir151 zW
  simp only [go_sem, sB, reduceCtorEq, sL, sA, sE, sN]
  refine callO_intro c1 ?_
  simp only [go_sem, sB, reduceCtorEq, sL, sA, sE, sN, e]
  refine callO_intro c2 ?_
  simp only [go_sem, sB, reduceCtorEq, sL, sA, sE, sN, rW, rv151, fin_g, resAll, resL, resD, mkV]
  exact ⟨_, rfl, .refl _⟩
theorem q104 (a : Rat) (h0 : a ≠ 0) (ha : LQ a ≤ 2199023255552) : FnR Go.Proofs.Tryz.prog 104 [rW a] [] (.t [rW a⁻¹, .i .i64 0]) := by
  refine fnr104 (by simp) (by simp [D.nr, nrL, nr_rW]) (by simp) List.nodup_nil fun F out hS => ?_
  unfold LQ at ha
  have n1 := LZ_nat a.den
  have c1 := q151 (a.den : Int) a.num (fun h => h0 (Rat.num_eq_zero.1 h)) (by omega) (by omega)
  rw [← Rat.inv_def, zW_nat] at c1
  unfold zW at c1
  unfold ir104 rW
  simp only [go_sem, sB, reduceCtorEq, sL, sA, sE, sN]
  refine callO_intro c1 ?_
  simp only [go_sem, sB, reduceCtorEq, sL, sA, sE, sN, rW, rv104, fin_g, resAll, resL, resD, mkV]
  exact ⟨_, rfl, .refl _⟩
theorem raw_zW {v : Bool} {l : List Nat} (hw : Wd l) (h : validI v l = true) : (.a [.b v, .sl 1 false (eW l)] : D) = zW (if v then -(val l : Int) else (val l : Int)) := by
  have hc := validI_canon h
  have hl := toW_val hw hc
  unfold zW nW eN
  have e : (if v then -(val l : Int) else (val l : Int)).natAbs = val l := by cases v <;> simp
  rw [e, hl]
  cases v
  · rw [show decide ((if false = true then -(val l : Int) else (val l : Int)) < 0) = false from decide_eq_false (by simp)]
  · have hpos : 0 < val l := by
      cases l with
      | nil => simp [validI] at h
      | cons w l => exact Canon.val_pos hc
    rw [show decide ((if true = true then -(val l : Int) else (val l : Int)) < 0) = true from decide_eq_true (by simp; omega)]
theorem w67 (v v' : Bool) (a b : List Nat) (ha : Wd a) (hb : Wd b) (hla : a.length ≤ 2199023255552) (hlb : b.length ≤ 2199023255552) : FnR Go.Proofs.Tryz.prog 67 [.a [.b v, .sl 1 false (eW a), .b v', .sl 1 false (eW b)]] [] (.b (validQ v a v' b)) := by
  refine fnr67 (by simp) rfl (by simp) List.nodup_nil fun F out hS => ?_
  unfold ir67
  simp only [go_sem, sB, reduceCtorEq, sL, sA, sE, sN]
  refine callO_intro (w123 v a false (by omega)) ?_
  cases hA : validI v a
  · simp only [go_sem, sB, reduceCtorEq, sL, sA, sE, sN, rv67, fin_t, validQ, hA, Bool.false_and]
    exact .refl _
  · simp only [go_sem, sB, reduceCtorEq, sL, sA, sE, sN]
    refine callO_intro (w123 v' b false (by omega)) ?_
    cases hBb : validI v' b
    · simp only [go_sem, sB, reduceCtorEq, sL, sA, sE, sN, rv67, fin_t, validQ, hA, hBb, Bool.false_and, Bool.and_false]
      exact .refl _
    · simp only [go_sem, sB, reduceCtorEq, sL, sA, sE, sN]
      refine callO_intro (w124 v' b false) ?_
      cases v'
      · by_cases hb0 : b.length = 0
        · have e : validQ v a false b = false := by simp [validQ, hb0]
          rw [if_neg (by decide), if_pos hb0]
          have d3 : decide ((0 : Int) ≤ 0) = true := by decide
          simp only [go_sem, sB, reduceCtorEq, sL, sA, sE, sN, d3, rv67, fin_t, e]
          exact .refl _
        · rw [if_neg (by decide), if_neg hb0]
          have d3 : decide ((1 : Int) ≤ 0) = false := by decide
          have hza := raw_zW ha hA
          have hzb := raw_zW hb hBb
          have hva : (if v = true then -(val a : Int) else (val a : Int)).natAbs = val a := by cases v <;> simp
          have hvb : (if false = true then -(val b : Int) else (val b : Int)).natAbs = val b := by simp
          have l1 : LZ (if v = true then -(val a : Int) else (val a : Int)) ≤ 2199023255552 := by
            unfold LZ; rw [hva]; exact Nat.le_trans (L_le (val_lt ha)) hla
          have l2 : LZ (if false = true then -(val b : Int) else (val b : Int)) ≤ 2199023255552 := by
            unfold LZ; rw [hvb]; exact Nat.le_trans (L_le (val_lt hb)) hlb
          have c1 := z126 _ _ l1 l2
          rw [← hza, ← hzb, hva, hvb] at c1
          have lg : LZ ((Nat.gcd (val a) (val b) : Nat) : Int) ≤ 2199023255552 := by
            rw [LZ_nat]
            by_cases h0 : val b = 0
            · rw [h0, Nat.gcd_zero_right]; exact Nat.le_trans (L_le (val_lt ha)) hla
            · exact Nat.le_trans (L_mono (Nat.gcd_le_right _ (Nat.pos_of_ne_zero h0))) (Nat.le_trans (L_le (val_lt hb)) hlb)
          have l3 : LZ 1 = 1 := L_one
          have c2 := z127 1 (by decide) (by decide)
          have c3 := z125 ((Nat.gcd (val a) (val b) : Nat) : Int) 1 (by omega) (by omega)
          simp only [go_sem, sB, reduceCtorEq, sL, sA, sE, sN, d3]
          refine callO_intro c1 ?_
          simp only [go_sem, sB, reduceCtorEq, sL, sA, sE, sN]
          refine callO_intro c2 ?_
          simp only [go_sem, sB, reduceCtorEq, sL, sA, sE, sN]
          refine callO_intro c3 ?_
          have e : (cmpZ ((Nat.gcd (val a) (val b) : Nat) : Int) 1 == 0) = validQ v a false b := by
            have : validQ v a false b = decide (Nat.gcd (val a) (val b) = 1) := by simp [validQ, hA, hBb, hb0]
            rw [this]
            unfold cmpZ
            by_cases h1 : Nat.gcd (val a) (val b) = 1
            · simp [h1]
            · by_cases h2 : ((Nat.gcd (val a) (val b) : Nat) : Int) < 1
              · simp [h1, h2]
              · rw [if_neg h2, if_neg (by omega)]
                simp [h1]
          simp only [go_sem, sB, reduceCtorEq, sL, sA, sE, sN, rv67, fin_t, e]
          exact .refl _
      · have e : validQ v a true b = false := by simp [validQ]
        rw [if_pos rfl]
        have d1 : decide ((-1 : Int) ≤ 0) = true := by decide
        simp only [go_sem, sB, reduceCtorEq, sL, sA, sE, sN, d1, rv67, fin_t, e]
        exact .refl _
theorem w68 (v v' : Bool) (a b : List Nat) (f g : Bool) : FnR Go.Proofs.Tryz.prog 68 [.a [.b v, .sl 1 f (eW a), .b v', .sl 1 g (eW b)]] [] (.i .i64 (if v then -1 else if a.length = 0 then 0 else 1)) := by
  refine fnr68 (by simp) rfl (by simp) List.nodup_nil fun F out hS => ?_
  unfold ir68
  simp only [go_sem, sB, reduceCtorEq, sL, sA, sE, sN]
  refine callO_intro (w124 v a f) ?_
  simp only [go_sem, sB, reduceCtorEq, sL, sA, sE, sN, rv68, fin_t]
  exact .refl _
def frzB (st : St) (s k z off : Nat) (o : Option (Nat × Obj)) : Option St := match o with
  | some (z', .box cs) => if z = z' then some { r := upd st.r s (.q (cs.drop off)), own := upd st.own k none, out := st.out, nx := st.nx + 1 } else none
  | _ => none
theorem frzB_s (st : St) (s k z off : Nat) (cs : List D) : frzB st s k z off (some (z, .box cs)) = some { r := upd st.r s (.q (cs.drop off)), own := upd st.own k none, out := st.out, nx := st.nx + 1 } := by simp [frzB]
theorem frzW_p (fr s k z off : Nat) (st : St) (h : st.r s = .p (fr, k) z off) : frzW fr s st (.p (fr, k) z off) = frzB st s k z off (st.own k) := by
  simp only [frzW, freeze, h, St.look, if_true, frzB, St.set]
  cases st.own k with
  | none => rfl
  | some v =>
    obtain ⟨z', o⟩ := v
    cases o <;> rfl
theorem eM_len (m : List Int) : (eM m).length = m.length := by simp [eM]
theorem getD_some {m : List Int} {n : Nat} (h : n < m.length) : m[n]? = some (m.getD n 0) := by simp [List.getD_eq_getElem?_getD, List.getElem?_eq_getElem h]
theorem ixvO_m (m : List Int) (len n : Nat) (k : IntKind) (h : n < len) (h2 : n < m.length) : ixvO len 1 false (.a (eM m)) (.i k n) = some (.i .i64 (m.getD n 0)) := by
  have h1 : n * 1 + 1 ≤ (eM m).length := by rw [eM_len]; omega
  simp only [ixvO, Int.toNat_natCast, if_pos (show (0 : Int) ≤ (n : Int) ∧ (n : Int) < (len : Int) by omega), if_pos h1, Nat.mul_one]
  rw [eM_cell h2]
  rw [Nat.mul_one] at h1
  rw [if_pos h1]
  rfl
theorem loop69 (m : List Int) (hm : m.length = 8) (F : Nat) (out : Sto) (Q : Ex → St → Prop) : ∀ (k i : Nat) (nx : Nat), i + k = 8 →
    ((m.drop i).all okE = true → ∀ nx, Q (.exit 0) { r := (upd (upd (upd (fun _ => .u) 7 (.b false)) 6 (.i .i64 8)) 5 (.a (eM m))), own := fun _ => none, out := out, nx := nx }) →
    ((m.drop i).all okE = false → ∀ nx, Q .ret { r := (upd (fun _ => .u) 2 (.b false)), own := fun _ => none, out := out, nx := nx }) →
    Loop Go.Proofs.Tryz.prog F [5, 6] [] b69_0 { r := (upd (upd (fun _ => .u) 6 (.i .i64 i)) 5 (.a (eM m))), own := fun _ => none, out := out, nx := nx } Q := by
  intro k
  induction k with
  | zero =>
    intro i nx hi h0 h1
    refine Loop.stepW ?_
    have : i = 8 := by omega
    subst this
    have c1 : decide (((8 : Nat) : Int) < 8) = false := by decide
    have hd : m.drop 8 = [] := by rw [List.drop_eq_nil_iff]; omega
    rw [hd] at h0
    simp only [go_sem, sB, reduceCtorEq, sL, sA, sE, sN, wb69_0, c1]
    exact h0 rfl _
  | succ k ih =>
    intro i nx hi h0 h1
    refine Loop.stepW ?_
    have c1 : decide (((i : Nat) : Int) < 8) = true := decide_eq_true (by omega)
    have hil : i < m.length := by omega
    have hdr : m.drop i = m.getD i 0 :: m.drop (i + 1) := by
      rw [List.drop_eq_getElem_cons hil]
      simp [List.getD_eq_getElem?_getD, List.getElem?_eq_getElem hil]
    rw [hdr] at h0 h1
    have e2 : IntKind.wrap .i64 (((i : Nat) : Int) + 1) = ((i + 1 : Nat) : Int) := by rw [IntWalk.i64_in _ (by omega)]; omega
    have hx := ixvO_m m 8 i .i64 (by omega) hil
    generalize m.getD i 0 = x at *
    by_cases hx0 : x < 0
    · have hk : okE x = false := by simp [okE]; omega
      simp only [go_sem, sB, reduceCtorEq, sL, sA, sE, sN, wb69_0, c1, hx, decide_eq_true hx0]
      exact h1 (by simp [hk]) _
    · by_cases hy : x > 65535
      · have hk : okE x = false := by simp [okE]; omega
        simp only [go_sem, sB, reduceCtorEq, sL, sA, sE, sN, wb69_0, c1, hx, decide_eq_false hx0, decide_eq_true hy]
        exact h1 (by simp [hk]) _
      · have hk : okE x = true := by simp [okE]; omega
        simp only [go_sem, sB, reduceCtorEq, sL, sA, sE, sN, wb69_0, c1, hx, decide_eq_false hx0, decide_eq_false hy, e2]
        simp only [List.all_cons, hk, Bool.true_and] at h0 h1
        exact ih (i + 1) _ (by omega) h0 h1
theorem take8 {m : List Int} (hm : m.length = 8) : (eM m).take 8 = eM m := List.take_of_length_le (by rw [eM_len]; omega)
theorem len8 {m : List Int} (hm : m.length = 8) : (eM m).length = 8 := by rw [eM_len]; exact hm
theorem w69 (m : List Int) (hm : m.length = 8) : FnR Go.Proofs.Tryz.prog 69 [.a (eM m)] [] (.b (m.all okE)) := by
  refine fnr69 (by simp) rfl (by simp) List.nodup_nil fun F out hS => ?_
  unfold ir69
  simp only [go_sem, sB, reduceCtorEq, sL, sA, sE, sN, len8 hm, take8 hm]
  refine loop69 m hm F out _ 8 0 _ (by omega) (fun h nx => ?_) (fun h nx => ?_)
  · rw [List.drop_zero] at h
    simp only [go_sem, sB, reduceCtorEq, sL, sA, sE, sN, rv69, fin_t, h]
    exact .refl _
  · rw [List.drop_zero] at h
    simp only [go_sem, sB, reduceCtorEq, sL, sA, sE, sN, rv69, fin_t, h]
    exact .refl _
def sM (m : List Int) : List (List D) := m.map fun x => [.i .i64 x]
theorem sM_len (m : List Int) : (sM m).length = m.length := by simp [sM]
theorem sM_at {m : List Int} {n : Nat} (h : n < m.length) : (sM m)[n]? = some [.i .i64 (m.getD n 0)] := by
  rw [sM, List.getElem?_map, getD_some h]; rfl
theorem loop128 (a b : List Int) (f g : Bool) (hab : a.length = b.length) (hl : a.length ≤ 1000) (F : Nat) (out : Sto) (Q : Ex → St → Prop) : ∀ (k i : Nat) (nx : Nat), i + k = a.length →
    (cmpL (a.drop i) (b.drop i) = 0 → ∀ nx, Q (.exit 0) { r := (upd (upd (upd (upd (upd (upd (fun _ => .u) 12 (.b false)) 11 (.i .i64 a.length)) 10 (.i .i64 a.length)) 9 (.sl 1 f (sM a))) 1 (.sl 1 g (sM b))) 0 (.sl 1 f (sM a))), own := fun _ => none, out := out, nx := nx }) →
    (cmpL (a.drop i) (b.drop i) ≠ 0 → ∀ nx, Q .ret { r := (upd (fun _ => .u) 4 (.i .i64 (cmpL (a.drop i) (b.drop i)))), own := fun _ => none, out := out, nx := nx }) →
    Loop Go.Proofs.Tryz.prog F [0, 1, 9, 10, 11] [] b128_0 { r := (upd (upd (upd (upd (upd (fun _ => .u) 11 (.i .i64 i)) 10 (.i .i64 a.length)) 9 (.sl 1 f (sM a))) 1 (.sl 1 g (sM b))) 0 (.sl 1 f (sM a))), own := fun _ => none, out := out, nx := nx } Q := by
  intro k
  induction k with
  | zero =>
    intro i nx hi h0 h1
    refine Loop.stepW ?_
    have hi' : i = a.length := by omega
    subst hi'
    have c1 : decide (((a.length : Nat) : Int) < ((a.length : Nat) : Int)) = false := by simp
    have hd : a.drop a.length = [] := by rw [List.drop_eq_nil_iff]; omega
    rw [hd] at h0
    simp only [go_sem, sB, reduceCtorEq, sL, sA, sE, sN, wb128_0, c1]
    exact h0 rfl _
  | succ k ih =>
    intro i nx hi h0 h1
    refine Loop.stepW ?_
    have hia : i < a.length := by omega
    have hib : i < b.length := by omega
    have c1 : decide (((i : Nat) : Int) < ((a.length : Nat) : Int)) = true := by simp; omega
    have c2 : decide (((i : Nat) : Int) ≥ ((b.length : Nat) : Int)) = false := by simp; omega
    have dra : a.drop i = a.getD i 0 :: a.drop (i + 1) := by
      rw [List.drop_eq_getElem_cons hia]; simp [List.getD_eq_getElem?_getD, List.getElem?_eq_getElem hia]
    have drb : b.drop i = b.getD i 0 :: b.drop (i + 1) := by
      rw [List.drop_eq_getElem_cons hib]; simp [List.getD_eq_getElem?_getD, List.getElem?_eq_getElem hib]
    have hA := sM_at hia
    have hB := sM_at hib
    have e5 : IntKind.wrap .i64 (((i : Nat) : Int) + 1) = ((i + 1 : Nat) : Int) := by rw [IntWalk.i64_in _ (by omega)]; omega
    rw [dra, drb] at h0 h1
    generalize a.getD i 0 = x at *
    generalize b.getD i 0 = y at *
    simp only [go_sem, sB, reduceCtorEq, sL, sA, sE, sN, wb128_0, c1, sM_len, c2, ixsO_sl _ _ _ _ _ _ hA, ixsO_sl _ _ _ _ _ _ hB]
    refine callO_intro (w154 x y) ?_
    by_cases hxy : x = y
    · have hc : cmpI x y = 0 := by unfold cmpI; rw [if_neg (by omega), if_neg (by omega)]
      have hn : ((0 : Int) != 0) = false := rfl
      rw [hc]
      simp only [go_sem, sB, reduceCtorEq, sL, sA, sE, sN, hn, e5]
      simp only [cmpL] at h0 h1
      rw [if_neg (by omega), if_neg (by omega)] at h0 h1
      exact ih (i + 1) _ (by omega) h0 h1
    · have hc : cmpI x y ≠ 0 := by unfold cmpI; split <;> (try split) <;> omega
      have hn : (cmpI x y != 0) = true := bne_iff_ne.2 hc
      simp only [go_sem, sB, reduceCtorEq, sL, sA, sE, sN, hn]
      simp only [cmpL] at h1
      have hcl : (if x < y then (-1 : Int) else if y < x then 1 else cmpL (a.drop (i + 1)) (b.drop (i + 1))) = cmpI x y := by
        unfold cmpI
        by_cases h : x < y
        · rw [if_pos h, if_pos h]
        · rw [if_neg h, if_neg h, if_pos (by omega), if_pos (by omega)]
      rw [hcl] at h1
      exact h1 hc _
theorem w128 (a b : List Int) (f g : Bool) (hab : a.length = b.length) (hl : a.length ≤ 1000) : FnR Go.Proofs.Tryz.prog 128 [.sl 1 f (sM a), .sl 1 g (sM b)] [] (.i .i64 (cmpL a b)) := by
  refine fnr128 (by simp) rfl (by simp) List.nodup_nil fun F out hS => ?_
  unfold ir128
  have c2 : decide (((a.length : Nat) : Int) < ((b.length : Nat) : Int)) = false := by simp; omega
  simp only [go_sem, sB, reduceCtorEq, sL, sA, sE, sN, sM_len]
  refine loop128 a b f g hab hl F out _ a.length 0 _ (by omega) (fun h nx => ?_) (fun h nx => ?_)
  · rw [List.drop_zero, List.drop_zero] at h
    simp only [go_sem, sB, reduceCtorEq, sL, sA, sE, sN, sM_len, c2, rv128, fin_t, h]
    exact .refl _
  · simp only [go_sem, sB, reduceCtorEq, sL, sA, sE, sN, rv128, fin_t, List.drop_zero]
    exact .refl _
theorem w70 (a b : List Int) (ha : a.length = 8) (hb : b.length = 8) : FnR Go.Proofs.Tryz.prog 70 [.a (eM a), .a (eM b)] [] (.i .i64 (cmpL a b)) := by
  refine fnr70 (by simp) rfl (by simp) List.nodup_nil fun F out hS => ?_
  unfold ir70
  simp only [go_sem, sB, reduceCtorEq, sL, sA, sE, sN, frzW_p, frzB_s, slaO_q, len8 ha, len8 hb, take8 ha, take8 hb]
  have e : ∀ m : List Int, (eM m).map (fun d => [d]) = sM m := fun m => by simp [eM, sM]
  rw [e, e]
  refine callO_intro (w128 a b true true (by omega) (by omega)) ?_
  simp only [go_sem, sB, reduceCtorEq, sL, sA, sE, sN, rv70, fin_t]
  exact .refl _
structure RT where
  nv : Bool
  a : List Nat
  dv : Bool
  b : List Nat
  m : List Int
structure RT.ok (t : RT) : Prop where
  wa : Wd t.a
  wb : Wd t.b
  la : t.a.length ≤ 1099511627776
  lb : t.b.length ≤ 1099511627776
  lm : t.m.length = 8
def tE (t : RT) : List D := .b t.nv :: .sl 1 false (eW t.a) :: .b t.dv :: .sl 1 false (eW t.b) :: eM t.m
def termOk (t : RT) : Bool := validQ t.nv t.a t.dv t.b && (decide ((if t.nv then (-1 : Int) else if t.a.length = 0 then 0 else 1) ≠ 0) && t.m.all okE)
def validP : Option RT → List RT → Bool
  | _, [] => true
  | p, t :: l => termOk t && ((match p with | none => true | some p => decide (0 < cmpL p.m t.m)) && validP (some t) l)
theorem loop14 (ts : List RT) (f : Bool) (hok : ∀ t ∈ ts, t.ok) (hl : ts.length ≤ 1099511627776) (F : Nat) (out : Sto) (Q : Ex → St → Prop) : ∀ (r : List RT) (i : Nat) (p : Option RT) (nx : Nat), ts.drop i = r → i + r.length = ts.length → (i = 0 → p = none) → (0 < i → ∃ t, ts[i - 1]? = some t ∧ p = some t) →
    (validP p r = true → ∀ nx, Q (.exit 0) { r := (upd (upd (upd (upd (upd (fun _ => .u) 8 (.b false)) 7 (.i .i64 ts.length)) 6 (.i .i64 ts.length)) 5 (.sl 12 f (ts.map tE))) 0 (.sl 12 f (ts.map tE))), own := fun _ => none, out := out, nx := nx }) →
    (validP p r = false → ∀ nx, Q .ret { r := (upd (fun _ => .u) 2 (.b false)), own := fun _ => none, out := out, nx := nx }) →
    Loop Go.Proofs.Tryz.prog F [0, 5, 6, 7] [] b14_0 { r := (upd (upd (upd (upd (fun _ => .u) 7 (.i .i64 i)) 6 (.i .i64 ts.length)) 5 (.sl 12 f (ts.map tE))) 0 (.sl 12 f (ts.map tE))), own := fun _ => none, out := out, nx := nx } Q := by
  intro r
  induction r with
  | nil =>
    intro i p nx hd hi hp0 hp1 h0 h1
    refine Loop.stepW ?_
    have hi' : i = ts.length := by simpa using hi
    subst hi'
    have c1 : decide (((ts.length : Nat) : Int) < ((ts.length : Nat) : Int)) = false := by simp
    simp only [go_sem, sB, reduceCtorEq, sL, sA, sE, sN, wb14_0, c1]
    exact h0 (by cases p <;> rfl) _
  | cons t r ih =>
    intro i p nx hd hi hp0 hp1 h0 h1
    refine Loop.stepW ?_
    simp only [List.length_cons] at hi
    have hin : i < ts.length := by omega
    have c1 : decide (((i : Nat) : Int) < ((ts.length : Nat) : Int)) = true := by simp; omega
    have e5 : IntKind.wrap .i64 (((i : Nat) : Int) + 1) = ((i + 1 : Nat) : Int) := by rw [IntWalk.i64_in _ (by omega)]; omega
    have hda : ts[i]? = some t := by
      have := List.getElem?_drop (xs := ts) (i := i) (j := 0)
      rw [hd] at this
      simpa using this.symm
    have ht := hok t (List.mem_of_getElem? hda)
    have hat : (ts.map tE)[i]? = some (tE t) := by rw [List.getElem?_map, hda]; rfl
    have hdn : ts.drop (i + 1) = r := by rw [← List.drop_drop, hd]; rfl
    have hx := ixsO_sl 12 f (ts.map tE) .i64 i _ hat
    simp only [tE] at hx
    have hl8 := len8 ht.lm
    have ht8 := take8 ht.lm
    simp only [validP] at h0 h1
    simp only [go_sem, sB, reduceCtorEq, sL, sA, sE, sN, wb14_0, c1, hx, hl8, ht8]
    refine callO_intro (w67 t.nv t.dv t.a t.b ht.wa ht.wb (by have := ht.la; omega) (by have := ht.lb; omega)) ?_
    by_cases hv : validQ t.nv t.a t.dv t.b = true
    · rw [hv]
      simp only [go_sem, sB, reduceCtorEq, sL, sA, sE, sN, hl8, ht8]
      refine callO_intro (w68 t.nv t.dv t.a t.b false false) ?_
      by_cases hs : (if t.nv = true then (-1 : Int) else if t.a.length = 0 then 0 else 1) = 0
      · have hk : termOk t = false := by unfold termOk; rw [decide_eq_false (fun h => h hs)]; simp
        have hq : ((0 : Int) == 0) = true := rfl
        rw [hs]
        simp only [go_sem, sB, reduceCtorEq, sL, sA, sE, sN, hq]
        exact h1 (by simp [hk]) _
      · have hq : ((if t.nv = true then (-1 : Int) else if t.a.length = 0 then 0 else 1) == 0) = false := by rw [beq_eq_false_iff_ne]; exact hs
        generalize hsg : (if t.nv = true then (-1 : Int) else if t.a.length = 0 then 0 else 1) = sg at *
        simp only [go_sem, sB, reduceCtorEq, sL, sA, sE, sN, hq, hl8, ht8]
        refine callO_intro (w69 t.m ht.lm) ?_
        by_cases hm : t.m.all okE = true
        · have hk : termOk t = true := by unfold termOk; rw [hv, hsg, decide_eq_true hs, hm]; rfl
          rw [hm]
          rw [hk, Bool.true_and] at h0 h1
          cases p with
          | none =>
            have hi0 : i = 0 := by
              rcases Nat.eq_zero_or_pos i with h | h
              · exact h
              · obtain ⟨q, _, h2⟩ := hp1 h; cases h2
            have c2 : decide (((i : Nat) : Int) > 0) = false := by simp; omega
            simp only [Bool.true_and] at h0 h1
            simp only [go_sem, sB, reduceCtorEq, sL, sA, sE, sN, c2, e5]
            exact ih (i + 1) (some t) _ hdn (by omega) (fun h => by omega) (fun _ => ⟨t, by simpa using hda, rfl⟩) h0 h1
          | some q =>
            have hi0 : 0 < i := by
              rcases Nat.eq_zero_or_pos i with h | h
              · cases hp0 h
              · exact h
            obtain ⟨q', hq1, hq2⟩ := hp1 hi0
            injection hq2 with hq2
            subst hq2
            have c2 : decide (((i : Nat) : Int) > 0) = true := by simp; omega
            have e6 : IntKind.wrap .i64 (((i : Nat) : Int) - 1) = ((i - 1 : Nat) : Int) := by rw [IntWalk.i64_in _ (by omega)]; omega
            have hoq := hok q (List.mem_of_getElem? hq1)
            have hat2 : (ts.map tE)[i - 1]? = some (tE q) := by rw [List.getElem?_map, hq1]; rfl
            have hx2 := ixsO_sl 12 f (ts.map tE) .i64 (i - 1) _ hat2
            simp only [tE] at hx2
            simp only [go_sem, sB, reduceCtorEq, sL, sA, sE, sN, c2, e6, hx2, hl8, ht8, len8 hoq.lm, take8 hoq.lm]
            refine callO_intro (w70 q.m t.m hoq.lm ht.lm) ?_
            by_cases hc : 0 < cmpL q.m t.m
            · have c3 : decide (cmpL q.m t.m ≤ 0) = false := decide_eq_false (by omega)
              dsimp only at h0 h1
              rw [decide_eq_true hc, Bool.true_and] at h0 h1
              simp only [go_sem, sB, reduceCtorEq, sL, sA, sE, sN, c3, e5]
              exact ih (i + 1) (some t) _ hdn (by omega) (fun h => by omega) (fun _ => ⟨t, by simpa using hda, rfl⟩) h0 h1
            · have c3 : decide (cmpL q.m t.m ≤ 0) = true := decide_eq_true (by omega)
              simp only [go_sem, sB, reduceCtorEq, sL, sA, sE, sN, c3]
              exact h1 (by dsimp only; rw [decide_eq_false hc]; rfl) _
        · have hm' : t.m.all okE = false := by simpa using hm
          have hk : termOk t = false := by unfold termOk; rw [hm']; simp
          rw [hm']
          simp only [go_sem, sB, reduceCtorEq, sL, sA, sE, sN]
          exact h1 (by rw [hk]; rfl) _
    · have hv' : validQ t.nv t.a t.dv t.b = false := by simpa using hv
      have hk : termOk t = false := by unfold termOk; rw [hv']; rfl
      rw [hv']
      simp only [go_sem, sB, reduceCtorEq, sL, sA, sE, sN]
      exact h1 (by rw [hk]; rfl) _
theorem w14 (ts : List RT) (f : Bool) (hok : ∀ t ∈ ts, t.ok) (hl : ts.length ≤ 1099511627776) : FnR Go.Proofs.Tryz.prog 14 [.sl 12 f (ts.map tE)] [] (.b (validP none ts)) := by
  refine fnr14 (by simp) rfl (by simp) List.nodup_nil fun F out hS => ?_
  unfold ir14
  simp only [go_sem, sB, reduceCtorEq, sL, sA, sE, sN, List.length_map]
  refine loop14 ts f hok hl F out _ ts 0 none _ rfl (by omega) (fun _ => rfl) (fun h => by omega) (fun h nx => ?_) (fun h nx => ?_)
  · simp only [go_sem, sB, reduceCtorEq, sL, sA, sE, sN, rv14, fin_t, h]
    exact .refl _
  · simp only [go_sem, sB, reduceCtorEq, sL, sA, sE, sN, rv14, fin_t, h]
    exact .refl _
def OwnB (own : Nat → Option (Nat × Obj)) (nx : Nat) : Prop := ∀ s z o, own s = some (z, o) → z < nx
def RowD (F : Nat) (S : List Nat) (own : Nat → Option (Nat × Obj)) (d : D) (sz : Nat) (es : List (List D)) : Prop :=
  (d = .sl sz true [] ∧ es = []) ∨ ∃ s z, s ∈ S ∧ d = .w (F, s) z sz 0 es.length ∧ own s = some (z, .row sz es)
theorem OwnB.none (nx : Nat) : OwnB (fun _ => none) nx := fun s z o h => by simp at h
theorem OwnB.mono {own : Nat → Option (Nat × Obj)} {n m : Nat} (h : OwnB own n) (k : n ≤ m) : OwnB own m := fun s z o e => Nat.lt_of_lt_of_le (h s z o e) k
theorem OwnB.updv {own own' : Nat → Option (Nat × Obj)} {n s : Nat} (h : OwnB own' n) (k : OwnB own n) : OwnB (upd own' s (own s)) n := by
  intro s' z o e
  unfold upd at e
  split at e
  · exact k _ _ _ e
  · exact h _ _ _ e
theorem OwnB.updn {own' : Nat → Option (Nat × Obj)} {n s z : Nat} {o : Obj} (h : OwnB own' n) (k : z < n) : OwnB (upd own' s (some (z, o))) n := by
  intro s' z' o' e
  unfold upd at e
  split at e
  · injection e with e; injection e with e1 e2; omega
  · exact h _ _ _ e
theorem OwnB.upd0 {own' : Nat → Option (Nat × Obj)} {n s : Nat} (h : OwnB own' n) : OwnB (upd own' s Option.none) n := by
  intro s' z' o' e
  unfold upd at e
  split at e
  · simp at e
  · exact h _ _ _ e
theorem RowD.at {F : Nat} {S : List Nat} {own : Nat → Option (Nat × Obj)} {s z sz n : Nat} {es : List (List D)} (hs : s ∈ S) (h : own s = some (z, .row sz es)) (hn : n = es.length) : RowD F S own (.w (F, s) z sz 0 n) sz es :=
  .inr ⟨s, z, hs, by rw [hn], h⟩
theorem RowD.nil (F : Nat) (S : List Nat) (own : Nat → Option (Nat × Obj)) (sz : Nat) : RowD F S own (.sl sz true []) sz [] := .inl ⟨rfl, rfl⟩
theorem RowD.on {F : Nat} {S : List Nat} {own own' : Nat → Option (Nat × Obj)} {d : D} {sz : Nat} {es : List (List D)} (h : RowD F S own d sz es) (k : ∀ s ∈ S, own' s = own s) : RowD F S own' d sz es := by
  rcases h with h | ⟨s, z, h1, h2, h3⟩
  · exact .inl h
  · exact .inr ⟨s, z, h1, h2, by rw [k s h1]; exact h3⟩
theorem appO_R {F : Nat} {S : List Nat} {s sz bytes : Nat} {st : St} {d : D} {es ys : List (List D)} {K : St → Prop} (h : RowD F S st.own d sz es) (hb : OwnB st.own st.nx) (hys : ys ≠ [])
    (hl : (es.length + ys.length) * bytes ≤ 140737488355328) (hl2 : es.length + ys.length ≤ 140737488355328)
    (hK : ∀ own' : Nat → Option (Nat × Obj), OwnB own' (st.nx + 1) → (∀ q, q ≠ s → q ∉ S → own' q = st.own q) → own' s = some (st.nx, .row sz (es ++ ys)) →
      K { r := upd st.r s (.w (F, s) st.nx sz 0 (es.length + ys.length)), own := own', out := st.out, nx := st.nx }) :
    @appO F sz bytes s st d (some ys) ⟨K⟩ := by
  obtain ⟨y, ys', rfl⟩ : ∃ y l, ys = y :: l := by
    cases ys with
    | nil => exact absurd rfl hys
    | cons y l => exact ⟨y, l, rfl⟩
  have slot : ∀ own' : Nat → Option (Nat × Obj), OwnB own' st.nx → ∀ st' : St, st'.own = own' → st'.nx = st.nx → slotOk st' s := by
    intro own' ho st' e1 e2
    unfold slotOk
    rw [e1, e2]
    cases hh : own' s with
    | none => trivial
    | some v => obtain ⟨z, o⟩ := v; have := ho s z o hh; show z ≠ st.nx; omega
  rcases h with ⟨rfl, rfl⟩ | ⟨s', z, h1, rfl, h3⟩
  · simp only [appO]
    refine ⟨trivial, trivial, hl, hl2, slot _ hb _ rfl rfl, ?_⟩
    exact hK (upd st.own s (some (st.nx, .row sz ([] ++ y :: ys')))) ((hb.mono (Nat.le_succ _)).updn (Nat.lt_succ_self _)) (fun q h1 _ => by simp [upd, h1]) (by simp [upd])
  · have hlk : st.look F (F, s') = some (z, .row sz es) := by simp [St.look, h3]
    simp only [appO, hlk]
    have ho : OwnB (upd st.own s' (some (z, .gone))) st.nx := hb.updn (hb _ _ _ h3)
    refine ⟨trivial, trivial, trivial, trivial, trivial, hl, hl2, slot _ ho _ (by simp [St.set]) (by simp [St.set]), ?_⟩
    have := hK (upd (upd st.own s' (some (z, .gone))) s (some (st.nx, .row sz (es ++ y :: ys')))) ((ho.mono (Nat.le_succ _)).updn (Nat.lt_succ_self _))
      (fun q h4 h5 => by
        have : q ≠ s' := fun e => h5 (e ▸ h1)
        simp [upd, h4, this]) (by simp [upd])
    simpa [St.newObj, St.set] using this
theorem frz_R {F : Nat} {S : List Nat} {s sz : Nat} {st : St} {d : D} {es : List (List D)} {K : St → Prop} (h : RowD F S st.own d sz es) (hd : st.r s = d)
    (hK : ∀ (f : Bool) (own' : Nat → Option (Nat × Obj)) (nx' : Nat), K { r := upd st.r s (.sl sz f es), own := own', out := st.out, nx := nx' }) : @frzO (frzW F s st d) ⟨K⟩ := by
  rcases h with ⟨rfl, rfl⟩ | ⟨s', z, h1, rfl, h3⟩
  · rw [frzW_sl, frzO_some]
    have := hK true st.own st.nx
    have e : upd st.r s (.sl sz true []) = st.r := by
      funext q
      unfold upd
      by_cases hq : q = s
      · rw [if_pos hq, hq, hd]
      · rw [if_neg hq]
    rw [e] at this
    exact this
  · rw [frzW_w, h3, frzR_s _ _ _ _ _ _ _ _ (by omega), frzO_some]
    have := hK false (upd st.own s' none) (st.nx + 1)
    rw [List.drop_zero, List.take_length]
    exact this
theorem weak_full (sz : Nat) (f : Bool) (es : List (List D)) : Weak (.sl sz false es) (.sl sz f es) := by
  intro w ok β v h
  cases h with
  | sl _ _ _ A c blk off cs hc hm hf hz hA h1 h hr => exact .sl sz false es A c blk off cs hc hm (by simp) hz hA h1 h hr
abbrev Tm := List Int × Rat
def rC (q : Rat) : List D := [.b (decide (q.num < 0)), nW q.num.natAbs, .b false, nW q.den]
theorem rW_C (q : Rat) : rW q = .a (rC q) := (rfl)
theorem rC_len (q : Rat) : (rC q).length = 4 := (rfl)
def eT (t : Tm) : List D := rC t.2 ++ eM t.1
def eP (f : Bool) (p : List Tm) : D := .sl 12 f (p.map eT)
theorem nrL_app : ∀ (x y : List D), nrL x = true → nrL y = true → nrL (x ++ y) = true := by
  intro x y hx hy
  induction x with
  | nil => exact hy
  | cons a x ih => simp only [nrL, Bool.and_eq_true] at hx; simp only [List.cons_append, nrL, Bool.and_eq_true]; exact ⟨hx.1, ih hx.2⟩
theorem nrL_eM : ∀ (m : List Int), nrL (eM m) = true
  | [] => rfl
  | x :: m => by
    have := nrL_eM m
    unfold eM at this ⊢
    simp only [List.map_cons, nrL, D.nr, this, Bool.and_self]
theorem nrL_rC (q : Rat) : nrL (rC q) = true := by simp [rC, nrL, D.nr, nW, eN, nrLL_eW]
theorem nrL_eT (t : Tm) : nrL (eT t) = true := nrL_app _ _ (nrL_rC _) (nrL_eM _)
theorem nrLL_eT : ∀ (p : List Tm), nrLL (p.map eT) = true
  | [] => rfl
  | t :: p => by simp only [List.map_cons, nrLL, nrL_eT, nrLL_eT p, Bool.and_self]
theorem nr_eP (f : Bool) (p : List Tm) : (eP f p).nr = true := nrLL_eT p
structure PB (A : Nat) (p : List Tm) : Prop where
  len : ∀ t ∈ p, t.1.length = 8
  lq : ∀ t ∈ p, LQ t.2 ≤ A
theorem PB.get {A : Nat} {p : List Tm} (h : PB A p) {i : Nat} {t : Tm} (hi : p[i]? = some t) : t.1.length = 8 ∧ LQ t.2 ≤ A := ⟨h.len t (List.mem_of_getElem? hi), h.lq t (List.mem_of_getElem? hi)⟩
theorem PB.nil (A : Nat) : PB A [] := ⟨by simp, by simp⟩
theorem PB.cons {A : Nat} {t : Tm} {p : List Tm} (h1 : t.1.length = 8) (h2 : LQ t.2 ≤ A) (h : PB A p) : PB A (t :: p) :=
  ⟨fun u hu => (List.mem_cons.1 hu).elim (fun e => e ▸ h1) (h.len u), fun u hu => (List.mem_cons.1 hu).elim (fun e => e ▸ h2) (h.lq u)⟩
theorem PB.mono {A B : Nat} {p : List Tm} (h : PB A p) (k : A ≤ B) : PB B p := ⟨h.len, fun t ht => Nat.le_trans (h.lq t ht) k⟩
theorem PB.tail {A : Nat} {t : Tm} {p : List Tm} (h : PB A (t :: p)) : PB A p := ⟨fun u hu => h.len u (List.mem_cons_of_mem _ hu), fun u hu => h.lq u (List.mem_cons_of_mem _ hu)⟩
theorem PB.head {A : Nat} {t : Tm} {p : List Tm} (h : PB A (t :: p)) : t.1.length = 8 ∧ LQ t.2 ≤ A := ⟨h.len t (by simp), h.lq t (by simp)⟩
def mrg (f : Rat → Rat → Rat) (g : Rat → Rat) : Nat → List Tm → List Tm → List Tm
  | 0, _, _ => []
  | _ + 1, [], [] => []
  | n + 1, [], b :: q => (b.1, g b.2) :: mrg f g n [] q
  | n + 1, a :: p, [] => a :: mrg f g n p []
  | n + 1, a :: p, b :: q =>
    if 0 < cmpL a.1 b.1 then a :: mrg f g n p (b :: q) else if cmpL a.1 b.1 < 0 then (b.1, g b.2) :: mrg f g n (a :: p) q
    else if f a.2 b.2 = 0 then mrg f g n p q else (a.1, f a.2 b.2) :: mrg f g n p q
def addP (p q : List Tm) : List Tm := mrg (· + ·) id (p.length + q.length) p q
def difP (p q : List Tm) : List Tm := mrg (· - ·) (- ·) (p.length + q.length) p q
theorem eP_len (p : List Tm) : (p.map eT).length = p.length := by simp
theorem eP_at {p : List Tm} {i : Nat} {t : Tm} (h : p[i]? = some t) : (p.map eT)[i]? = some (eT t) := by rw [List.getElem?_map, h]; rfl
theorem eT_len {t : Tm} (h : t.1.length = 8) : (eT t).length = 12 := by simp [eT, rC_len, eM_len, h]
def m0 : List Int := List.replicate 8 0
def cP (q : Rat) : List Tm := if q = 0 then [] else [(m0, q)]
theorem sgn0 {q : Rat} (h : q = 0) : (q.num.sign == 0) = true := by simp [h]
theorem sgn1 {q : Rat} (h : q ≠ 0) : (q.num.sign == 0) = false := by
  rw [beq_eq_false_iff_ne]; exact fun h' => h (Rat.num_eq_zero.1 (Int.sign_eq_zero_iff_zero.1 h'))
theorem w63 (q : Rat) : FnR Go.Proofs.Tryz.prog 63 [rW q] [] (eP false (cP q)) := by
  refine fnr63 (by simp) (nr_eP _ _) (by simp) List.nodup_nil fun F out hS => ?_
  have c := q71 q
  unfold rW at c ⊢
  unfold ir63 cP
  simp only [go_sem, sB, reduceCtorEq, sL, sA, sE, sN]
  refine callO_intro c ?_
  by_cases h : q = 0
  · rw [if_pos h]
    simp only [go_sem, sB, reduceCtorEq, sL, sA, sE, sN, sgn0 h, rv63, fin_t]
    exact weak_full _ _ _
  · rw [if_neg h]
    simp only [go_sem, sB, reduceCtorEq, sL, sA, sE, sN, sgn1 h, rv63, fin_t]
    exact weak_full _ _ _
theorem w22 (q : Rat) : FnR Go.Proofs.Tryz.prog 22 [rW q] [] (eP false (cP q)) := by
  refine fnr22 (by simp) (nr_eP _ _) (by simp) List.nodup_nil fun F out hS => ?_
  have c := q68 q
  unfold rW at c ⊢
  unfold ir22 cP
  simp only [go_sem, sB, reduceCtorEq, sL, sA, sE, sN]
  refine callO_intro c ?_
  by_cases h : q = 0
  · rw [if_pos h]
    simp only [go_sem, sB, reduceCtorEq, sL, sA, sE, sN, sgn0 h, rv22, fin_t]
    exact weak_full _ _ _
  · rw [if_neg h]
    simp only [go_sem, sB, reduceCtorEq, sL, sA, sE, sN, sgn1 h, rv22, fin_t]
    exact weak_full _ _ _
theorem w64 (n : Int) (h1 : -9223372036854775808 ≤ n) (h2 : n < 9223372036854775808) : FnR Go.Proofs.Tryz.prog 64 [.i .i64 n] [] (eP false (cP (n : Rat))) := by
  refine fnr64 (by simp) (nr_eP _ _) (by simp) List.nodup_nil fun F out hS => ?_
  unfold ir64
  simp only [go_sem, sB, reduceCtorEq, sL, sA, sE, sN]
  refine callO_intro (q23 n h1 h2) ?_
  simp only [go_sem, sB, reduceCtorEq, sL, sA, sE, sN]
  refine callO_intro (w63 _) ?_
  simp only [go_sem, sB, reduceCtorEq, sL, sA, sE, sN, rv64, fin_t]
  exact .refl _
theorem splM (i : Nat) (x : Int) (m : List Int) (h : i < m.length) : splice (eM m) i [.i .i64 x] = eM (m.set i x) := by
  unfold splice eM
  rw [List.map_set, List.set_eq_take_append_cons_drop, if_pos (by simpa using h), List.append_assoc]
  rfl
theorem z8 : [D.i .i64 0, .i .i64 0, .i .i64 0, .i .i64 0, .i .i64 0, .i .i64 0, .i .i64 0, .i .i64 0] = eM m0 := (rfl)
theorem len8s (i : Nat) : (eM (m0.set i 1)).length = 8 := by rw [eM_len, List.length_set]; rfl
theorem take8s (i : Nat) : (eM (m0.set i 1)).take 8 = eM (m0.set i 1) := List.take_of_length_le (by rw [len8s]; omega)
theorem len8m (i : Nat) : (m0.set i 1).length = 8 := by rw [List.length_set]; rfl
theorem drop80 : (eM m0).drop 8 = [] := (rfl)
theorem len80 : (eM m0).length = 8 := (rfl)
theorem fillT0 (a b c d : D) (m : List Int) (h : m.length = 8) : fillS (a :: b :: c :: d :: eM m0) 4 8 (some (eM m)) = some (a :: b :: c :: d :: eM m) := by
  rw [fillS_s _ _ _ _ (by rw [eM_len, h]) (by simp [len80])]
  unfold splice
  rw [eM_len, h, List.drop_of_length_le (by simp [len80])]
  simp
def xP (i : Nat) : List Tm := [(m0.set i 1, 1)]
theorem w116 (i : Nat) (h : i < 8) : FnR Go.Proofs.Tryz.prog 116 [.i .i64 (i : Int)] [] (.t [eP false (xP i), .i .i64 0]) := by
  have c := q23 1 (by omega) (by omega)
  have e1 : ((1 : Int) : Rat) = 1 := rfl
  rw [e1] at c
  refine fnr116 (by simp) (by simp only [D.nr, nrL, Bool.and_true]; exact nrLL_eT _) (by simp) List.nodup_nil fun F out hS => ?_
  unfold rW at c
  unfold ir116 xP
  have c1 : decide (((i : Nat) : Int) < 0) = false := decide_eq_false (by omega)
  have c2 : decide (((i : Nat) : Int) ≥ 8) = false := decide_eq_false (by omega)
  have hi : i + 1 ≤ (eM m0).length := by rw [eM_len]; exact h
  simp only [go_sem, sB, reduceCtorEq, sL, sA, sE, sN, c1, c2, ixaO_p _ _ _ _ _ _ _ h, Nat.mul_one, z8, boxS_s _ _ i [.i .i64 1] (eM m0) hi, splM i 1 m0 h, drop80, len80, len8s i, take8s i]
  refine callO_intro c ?_
  simp only [go_sem, sB, reduceCtorEq, sL, sA, sE, sN, z8, len8s i, take8s i, fillT0 _ _ _ _ _ (len8m i), rv116, fin_t2]
  exact .t (.cons (weak_full _ _ _) (.refl _))
theorem w49 (i : Nat) (h : i < 8) : FnR Go.Proofs.Tryz.prog 49 [.i .i64 (i : Int)] [] (eP false (xP i)) := by
  refine fnr49 (by simp) (nr_eP _ _) (by simp) List.nodup_nil fun F out hS => ?_
  unfold ir49
  simp only [go_sem, sB, reduceCtorEq, sL, sA, sE, sN]
  refine callO_intro (w116 i h) ?_
  simp only [go_sem, sB, reduceCtorEq, sL, sA, sE, sN, rv49, fin_t]
  exact .refl _
theorem w25 (i : Nat) (h : i < 8) : FnR Go.Proofs.Tryz.prog 25 [.i .i64 (i : Int)] [] (.t [eP false (xP i), .i .i64 0]) := by
  have c := q85 1 (by omega) (by omega)
  have e1 : ((1 : Int) : Rat) = 1 := rfl
  rw [e1] at c
  refine fnr25 (by simp) (by simp only [D.nr, nrL, Bool.and_true]; exact nrLL_eT _) (by simp) List.nodup_nil fun F out hS => ?_
  unfold rW at c
  unfold ir25 xP
  have c1 : decide (((i : Nat) : Int) < 0) = false := decide_eq_false (by omega)
  have c2 : decide (((i : Nat) : Int) ≥ 8) = false := decide_eq_false (by omega)
  have hi : i + 1 ≤ (eM m0).length := by rw [eM_len]; exact h
  simp only [go_sem, sB, reduceCtorEq, sL, sA, sE, sN, c1, c2, ixaO_p _ _ _ _ _ _ _ h, Nat.mul_one, z8, boxS_s _ _ i [.i .i64 1] (eM m0) hi, splM i 1 m0 h, drop80, len80, len8s i, take8s i]
  refine callO_intro c ?_
  simp only [go_sem, sB, reduceCtorEq, sL, sA, sE, sN, z8, len8s i, take8s i, fillT0 _ _ _ _ _ (len8m i), rv25, fin_t2]
  exact .t (.cons (weak_full _ _ _) (.refl _))
theorem w17 (f : Bool) (p : List Tm) : FnR Go.Proofs.Tryz.prog 17 [eP f p, .i .i64 0] [] (eP f p) := by
  refine fnr17 (by simp) (nr_eP _ _) (by simp) List.nodup_nil fun F out hS => ?_
  unfold ir17
  simp only [go_sem, sB, reduceCtorEq, sL, sA, sE, sN, show ((0 : Int) != 0) = false from rfl, rv17, fin_t]
  exact .refl _
theorem w65 : FnR Go.Proofs.Tryz.prog 65 [] [] (.sl 8 true [eM (List.replicate 8 1)]) := by
  refine fnr65 (by simp) rfl (by simp) List.nodup_nil fun F out hS => ?_
  unfold ir65
  simp only [go_sem, sB, reduceCtorEq, sL, sA, sE, sN, rv65, fin_t]
  exact .refl _
theorem w66 : FnR Go.Proofs.Tryz.prog 66 [] [] (.sl 8 true []) := by
  refine fnr66 (by simp) rfl (by simp) List.nodup_nil fun F out hS => ?_
  unfold ir66
  simp only [go_sem, sB, reduceCtorEq, sL, sA, sE, sN, rv66, fin_t]
  exact .refl _
def mMul (a b : List Int) : List Int := List.zipWith (· + ·) a b
def mPart (f : Int → Int → Int) (a b : List Int) (i : Nat) : List Int := (List.zipWith f a b).take i ++ a.drop i
theorem mPart_len (f : Int → Int → Int) {a b : List Int} (ha : a.length = 8) (hb : b.length = 8) (i : Nat) (h : i ≤ 8) : (mPart f a b i).length = 8 := by
  simp [mPart, ha, hb]; omega
theorem mPart_get (f : Int → Int → Int) {a b : List Int} (ha : a.length = 8) (hb : b.length = 8) (i : Nat) (h : i < 8) : (mPart f a b i).getD i 0 = a.getD i 0 := by
  unfold mPart
  rw [List.getD_eq_getElem?_getD, List.getElem?_append_right (by simp [ha, hb]; omega), List.getElem?_drop, List.getD_eq_getElem?_getD]
  simp [ha, hb]
  congr 2
  omega
theorem mPart_set (f : Int → Int → Int) {a b : List Int} (ha : a.length = 8) (hb : b.length = 8) (i : Nat) (h : i < 8) : (mPart f a b i).set i (f (a.getD i 0) (b.getD i 0)) = mPart f a b (i + 1) := by
  have hia : i < a.length := by omega
  have hib : i < b.length := by omega
  unfold mPart
  apply List.ext_getElem?
  intro j
  rw [List.getElem?_set]
  by_cases hj : i = j
  · subst hj
    rw [if_pos rfl, if_pos (by simp [ha, hb]; omega), List.getElem?_append_left (by simp [ha, hb]; omega), List.getElem?_take, if_pos (by omega)]
    simp [List.getElem?_zipWith, List.getElem?_eq_getElem hia, List.getElem?_eq_getElem hib, List.getD_eq_getElem?_getD]
  · rw [if_neg hj]
    by_cases hlt : j < i
    · rw [List.getElem?_append_left (by simp [ha, hb]; omega), List.getElem?_append_left (by simp [ha, hb]; omega), List.getElem?_take, List.getElem?_take, if_pos hlt, if_pos (by omega)]
    · rw [List.getElem?_append_right (by simp [ha, hb]; omega), List.getElem?_append_right (by simp [ha, hb]; omega)]
      simp only [List.length_take, List.length_zipWith, ha, hb, List.getElem?_drop]
      congr 1
      omega
theorem mPart_8 (f : Int → Int → Int) {a b : List Int} (ha : a.length = 8) (hb : b.length = 8) : mPart f a b 8 = List.zipWith f a b := by
  unfold mPart
  rw [List.take_of_length_le (by simp [ha, hb]), List.drop_of_length_le (by omega), List.append_nil]
theorem okE_get {a : List Int} (h : a.all okE = true) (i : Nat) : 0 ≤ a.getD i 0 ∧ a.getD i 0 ≤ 65535 := by
  rw [List.getD_eq_getElem?_getD]
  by_cases hi : i < a.length
  · rw [List.getElem?_eq_getElem hi]
    have := List.all_eq_true.1 h a[i] (List.getElem_mem _)
    simpa [okE] using this
  · rw [List.getElem?_eq_none (by omega)]
    simp
theorem mMul_len {a b : List Int} (ha : a.length = 8) (hb : b.length = 8) : (mMul a b).length = 8 := by simp [mMul, ha, hb]
theorem loop39 (a b : List Int) (ha : a.length = 8) (hb : b.length = 8) (ka : a.all okE = true) (kb : b.all okE = true) (F : Nat) (out : Sto) (Q : Ex → St → Prop) (z z' z'' : Nat) : ∀ (k i : Nat) (nx : Nat), i + k = 8 →
    (∀ nx, Q (.exit 0) { r := (upd (upd (upd (upd (upd (fun _ => .u) 8 (.b false)) 6 (.i .i64 8)) 4 (.p (F, 4) z'' 0)) 3 (.p (F, 3) z' 0)) 2 (.p (F, 2) z 0)), own := upd (upd (upd (fun _ => none) 4 (some (z'', .box (eM m0)))) 3 (some (z', .box (eM b)))) 2 (some (z, .box (eM (mMul a b)))), out := out, nx := nx }) →
    Loop Go.Proofs.Tryz.prog F [2, 3, 4, 6] [2, 3, 4] b39_0 { r := (upd (upd (upd (upd (fun _ => .u) 6 (.i .i64 i)) 4 (.p (F, 4) z'' 0)) 3 (.p (F, 3) z' 0)) 2 (.p (F, 2) z 0)), own := upd (upd (upd (fun _ => none) 4 (some (z'', .box (eM m0)))) 3 (some (z', .box (eM b)))) 2 (some (z, .box (eM (mPart (· + ·) a b i)))), out := out, nx := nx } Q := by
  intro k
  induction k with
  | zero =>
    intro i nx hi h0
    refine Loop.stepW ?_
    have : i = 8 := by omega
    subst this
    have c1 : decide (((8 : Nat) : Int) < 8) = false := by decide
    simp only [go_sem, sB, reduceCtorEq, sL, sA, sE, sN, wb39_0, c1, mPart_8 (fun x y => x + y) ha hb]
    exact h0 _
  | succ k ih =>
    intro i nx hi h0
    refine Loop.stepW ?_
    have hi8 : i < 8 := by omega
    have c1 : decide (((i : Nat) : Int) < 8) = true := decide_eq_true (by omega)
    have hl := mPart_len (fun x y => x + y) ha hb i (by omega)
    have hg := mPart_get (fun x y => x + y) ha hb i hi8
    have hs := mPart_set (fun x y => x + y) ha hb i hi8
    have hib : i < b.length := by omega
    have e2 : IntKind.wrap .i64 (((i : Nat) : Int) + 1) = ((i + 1 : Nat) : Int) := by rw [IntWalk.i64_in _ (by omega)]; omega
    have e3 : IntKind.wrap .i64 (a.getD i 0 + b.getD i 0) = a.getD i 0 + b.getD i 0 := by
      have := okE_get ka i
      have := okE_get kb i
      rw [IntWalk.i64_in _ (by omega)]
    have hxa : boxC (some (z, .box (eM (mPart (fun x y => x + y) a b i)))) z i 1 = some [.i .i64 (a.getD i 0)] := by rw [boxC_s _ _ _ _ (by rw [eM_len]; omega), eM_cell (by omega), hg]
    have hxb : boxC (some (z', .box (eM b))) z' i 1 = some [.i .i64 (b.getD i 0)] := by rw [boxC_s _ _ _ _ (by rw [eM_len]; omega), eM_cell hib]
    generalize a.getD i 0 = x at *
    generalize b.getD i 0 = y at *
    have hst : boxS (some (z, .box (eM (mPart (fun x y => x + y) a b i)))) (F, 2) z i [.i .i64 (x + y)] = some ((F, 2), z, .box (eM (mPart (fun x y => x + y) a b (i + 1)))) := by
      rw [boxS_s _ _ _ _ _ (by rw [eM_len]; simp; omega), splM _ _ _ (by omega), hs]
    simp only [go_sem, sB, reduceCtorEq, sL, sA, sE, sN, wb39_0, c1, ixaO_p _ _ _ _ _ _ _ hi8, Nat.mul_one, hxa, hxb, e2, e3, hst]
    exact ih (i + 1) _ (by omega) h0
theorem w39 (a b : List Int) (ha : a.length = 8) (hb : b.length = 8) (ka : a.all okE = true) (kb : b.all okE = true) :
    FnR Go.Proofs.Tryz.prog 39 [.a (eM a), .a (eM b)] [] (if (mMul a b).all okE then .t [.a (eM (mMul a b)), .i .i64 0] else .t [.a (eM m0), .i .i64 2]) := by
  refine fnr39 (by simp) (by split <;> simp [D.nr, nrL, nrL_eM]) (by simp) List.nodup_nil fun F out hS => ?_
  have hl := mMul_len ha hb
  unfold ir39
  simp only [go_sem, sB, reduceCtorEq, sL, sA, sE, sN, z8]
  refine loop39 a b ha hb ka kb F out _ _ _ _ 8 0 _ (by omega) (fun nx => ?_)
  simp only [go_sem, sB, reduceCtorEq, sL, sA, sE, sN, len8 hl, take8 hl, boxC_s _ _ _ _ (show 0 + 8 ≤ (eM (mMul a b)).length by rw [len8 hl]; decide)]
  refine callO_intro (w72 _ hl) ?_
  cases h : (mMul a b).all okE with
  | true => 
    simp only [go_sem, sB, reduceCtorEq, sL, sA, sE, sN, z8, len8 hl, take8 hl, boxC_s _ _ _ _ (show 0 + 8 ≤ (eM (mMul a b)).length by rw [len8 hl]; decide), len80, drop80, rv39, fin_g, resAll, resL, resD, mkV]
    exact ⟨_, rfl, .refl _⟩
  | false => 
    simp only [go_sem, sB, reduceCtorEq, sL, sA, sE, sN, z8, len80, drop80, rv39, fin_g, resAll, resL, resD, mkV]
    exact ⟨_, rfl, .refl _⟩
theorem w130 (x y : Int) (hx : -4611686018427387904 ≤ x + y) (hy : x + y < 4611686018427387904) : FnR Go.Proofs.Tryz.prog 130 [.i .i64 x, .i .i64 y] [] (.i .i64 (x + y)) := by
  refine fnr130 (by simp) rfl (by simp) List.nodup_nil fun F out hS => ?_
  have e : IntKind.wrap .i64 (x + y) = x + y := IntWalk.i64_in _ (by omega)
  unfold ir130
  simp only [go_sem, sB, reduceCtorEq, sL, sA, sE, sN, e, rv130, fin_t]
  exact .refl _
theorem loop129 (f : Int → Int → Int) (g : Nat) (a b : List Int) (ha : a.length = 8) (hb : b.length = 8)
    (hg : ∀ i, i < 8 → FnR Go.Proofs.Tryz.prog g [.i .i64 (a.getD i 0), .i .i64 (b.getD i 0)] [] (.i .i64 (f (a.getD i 0) (b.getD i 0))))
    (F : Nat) (out : Sto) (Q : Ex → St → Prop) (z z' z'' : Nat) : ∀ (k i : Nat) (nx : Nat), i + k = 8 →
    (∀ nx, Q (.exit 0) { r := (upd (upd (upd (upd (upd (upd (fun _ => .u) 9 (.b false)) 8 (.i .i64 8)) 6 (.p (F, 6) z'' 0)) 4 (.p (F, 4) z' 0)) 3 (.p (F, 3) z 0)) 2 (.f g [] [])), own := upd (upd (upd (fun _ => none) 6 (some (z'', .box (eM m0)))) 4 (some (z', .box (eM b)))) 3 (some (z, .box (eM (List.zipWith f a b)))), out := out, nx := nx }) →
    Loop Go.Proofs.Tryz.prog F [2, 3, 4, 6, 8] [3, 4, 6] b129_0 { r := (upd (upd (upd (upd (upd (fun _ => .u) 8 (.i .i64 i)) 6 (.p (F, 6) z'' 0)) 4 (.p (F, 4) z' 0)) 3 (.p (F, 3) z 0)) 2 (.f g [] [])), own := upd (upd (upd (fun _ => none) 6 (some (z'', .box (eM m0)))) 4 (some (z', .box (eM b)))) 3 (some (z, .box (eM (mPart f a b i)))), out := out, nx := nx } Q := by
  intro k
  induction k with
  | zero =>
    intro i nx hi h0
    refine Loop.stepW ?_
    have : i = 8 := by omega
    subst this
    have c1 : decide (((8 : Nat) : Int) < 8) = false := by decide
    simp only [go_sem, sB, reduceCtorEq, sL, sA, sE, sN, wb129_0, c1, mPart_8 f ha hb]
    exact h0 _
  | succ k ih =>
    intro i nx hi h0
    refine Loop.stepW ?_
    have hi8 : i < 8 := by omega
    have c1 : decide (((i : Nat) : Int) < 8) = true := decide_eq_true (by omega)
    have hl := mPart_len f ha hb i (by omega)
    have hg2 := mPart_get f ha hb i hi8
    have hs := mPart_set f ha hb i hi8
    have hib : i < b.length := by omega
    have e2 : IntKind.wrap .i64 (((i : Nat) : Int) + 1) = ((i + 1 : Nat) : Int) := by rw [IntWalk.i64_in _ (by omega)]; omega
    have hxa : boxC (some (z, .box (eM (mPart f a b i)))) z i 1 = some [.i .i64 (a.getD i 0)] := by rw [boxC_s _ _ _ _ (by rw [eM_len]; omega), eM_cell (by omega), hg2]
    have hxb : boxC (some (z', .box (eM b))) z' i 1 = some [.i .i64 (b.getD i 0)] := by rw [boxC_s _ _ _ _ (by rw [eM_len]; omega), eM_cell hib]
    have hc := hg i hi8
    generalize a.getD i 0 = x at *
    generalize b.getD i 0 = y at *
    have hst : boxS (some (z, .box (eM (mPart f a b i)))) (F, 3) z i [.i .i64 (f x y)] = some ((F, 3), z, .box (eM (mPart f a b (i + 1)))) := by
      rw [boxS_s _ _ _ _ _ (by rw [eM_len]; simp; omega), splM _ _ _ (by omega), hs]
    simp only [go_sem, sB, reduceCtorEq, sL, sA, sE, sN, wb129_0, c1, ixaO_p _ _ _ _ _ _ _ hi8, Nat.mul_one, hxa, hxb, e2]
    refine callO_intro hc ?_
    simp only [go_sem, sB, reduceCtorEq, sL, sA, sE, sN, ixaO_p _ _ _ _ _ _ _ hi8, Nat.mul_one, hst, e2]
    exact ih (i + 1) _ (by omega) h0
theorem w129 (f : Int → Int → Int) (g : Nat) (a b : List Int) (ha : a.length = 8) (hb : b.length = 8)
    (hg : ∀ i, i < 8 → FnR Go.Proofs.Tryz.prog g [.i .i64 (a.getD i 0), .i .i64 (b.getD i 0)] [] (.i .i64 (f (a.getD i 0) (b.getD i 0)))) :
    FnR Go.Proofs.Tryz.prog 129 [.a (eM a), .a (eM b), .f g [] []] [] (.a (eM (List.zipWith f a b))) := by
  refine fnr129 (by simp) (by simp [D.nr, nrL_eM]) (by simp) List.nodup_nil fun F out hS => ?_
  have hl : (List.zipWith f a b).length = 8 := by simp [ha, hb]
  unfold ir129
  simp only [go_sem, sB, reduceCtorEq, sL, sA, sE, sN, z8]
  refine loop129 f g a b ha hb hg F out _ _ _ _ 8 0 _ (by omega) (fun nx => ?_)
  simp only [go_sem, sB, reduceCtorEq, sL, sA, sE, sN, z8, len8 hl, take8 hl, boxC_s _ _ _ _ (show 0 + 8 ≤ (eM (List.zipWith f a b)).length by rw [len8 hl]; decide), len80, drop80, rv129, fin_c]
  exact ⟨_, rfl, .refl _⟩
theorem w74 (a b : List Int) (ha : a.length = 8) (hb : b.length = 8) (ka : a.all okE = true) (kb : b.all okE = true) :
    FnR Go.Proofs.Tryz.prog 74 [.a (eM a), .a (eM b)] [] (if (mMul a b).all okE then .t [.a (eM (mMul a b)), .i .i64 0] else .t [.a (eM m0), .i .i64 2]) := by
  refine fnr74 (by simp) (by split <;> simp [D.nr, nrL, nrL_eM]) (by simp) List.nodup_nil fun F out hS => ?_
  have hl := mMul_len ha hb
  unfold ir74
  simp only [go_sem, sB, reduceCtorEq, sL, sA, sE, sN, z8, len8 ha, len8 hb, take8 ha, take8 hb, boxC_s _ _ _ _ (show 0 + 8 ≤ (eM a).length by rw [len8 ha]; decide), boxC_s _ _ _ _ (show 0 + 8 ≤ (eM b).length by rw [len8 hb]; decide)]
  refine callO_intro (w129 (fun x y => x + y) 130 a b ha hb (fun i _ => ?_)) ?_
  · have := okE_get ka i
    have := okE_get kb i
    exact w130 _ _ (by omega) (by omega)
  change _ at hl
  have e : List.zipWith (fun x y => x + y) a b = mMul a b := rfl
  rw [e]
  simp only [go_sem, sB, reduceCtorEq, sL, sA, sE, sN, z8, len8 hl, take8 hl, len80, drop80, boxC_s _ _ _ _ (show 0 + 8 ≤ (eM (mMul a b)).length by rw [len8 hl]; decide)]
  refine callO_intro (w69 _ hl) ?_
  cases h : (mMul a b).all okE with
  | true => 
    simp only [go_sem, sB, reduceCtorEq, sL, sA, sE, sN, z8, len8 hl, take8 hl, boxC_s _ _ _ _ (show 0 + 8 ≤ (eM (mMul a b)).length by rw [len8 hl]; decide), len80, drop80, rv74, fin_g, resAll, resL, resD, mkV]
    exact ⟨_, rfl, .refl _⟩
  | false => 
    simp only [go_sem, sB, reduceCtorEq, sL, sA, sE, sN, z8, len80, drop80, rv74, fin_g, resAll, resL, resD, mkV]
    exact ⟨_, rfl, .refl _⟩
theorem takeT {t : Tm} (h : t.1.length = 8) : (eT t).take 12 = eT t := List.take_of_length_le (by rw [eT_len h]; omega)
theorem takeT4 (t : Tm) : (eT t).take 4 = rC t.2 := (rfl)
theorem dropT (t : Tm) : (eT t).drop 4 = eM t.1 := (rfl)
theorem takeC (q : Rat) : (rC q).take 4 = rC q := (rfl)
theorem dropC (q : Rat) : (rC q).drop 4 = [] := (rfl)
theorem fillT2 (q : Rat) (m : List Int) (h : m.length = 8) : fillS (rC q ++ eM m0) 4 8 (some (eM m)) = some (eT (m, q)) := fillT0 _ _ _ _ m h
theorem eT_mk (t : Tm) : eT (t.1, t.2) = eT t := (rfl)
theorem beq_nat_ff {a b : Nat} (h : a ≠ b) : (((a : Nat) : Int) == ((b : Nat) : Int)) = false := by
  rw [beq_eq_false_iff_ne]; omega
theorem beq_nat_tt {a b : Nat} (h : a = b) : (((a : Nat) : Int) == ((b : Nat) : Int)) = true := by subst h; simp
theorem get_ex {α : Type} {l : List α} {i : Nat} (h : i < l.length) : ∃ t, l[i]? = some t := ⟨_, List.getElem?_eq_getElem h⟩
theorem drop_at {α : Type} {l : List α} {i : Nat} {t : α} (h : l[i]? = some t) : l.drop i = t :: l.drop (i + 1) := by
  obtain ⟨h1, h2⟩ := List.getElem?_eq_some_iff.1 h
  rw [List.drop_eq_getElem_cons h1, h2]
theorem map_app1 (res : List Tm) (t : Tm) : res.map eT ++ [eT t] = (res ++ [t]).map eT := by simp
theorem app_assoc1 (res l : List Tm) (t : Tm) : res ++ [t] ++ l = res ++ t :: l := by simp
theorem loop56 (p q : List Tm) (f g : Bool) {A : Nat} (hp : PB A p) (hq : PB A q) (hA : A ≤ 549755813888) (hl : p.length + q.length ≤ 1000000000000) (F : Nat) (out : Sto) (Q : Ex → St → Prop) :
    ∀ (n i k : Nat) (res : List Tm) (d : D) (own : Nat → Option (Nat × Obj)) (nx : Nat), (p.length - i) + (q.length - k) ≤ n → i ≤ p.length → k ≤ q.length → RowD F [50, 77, 103] own d 12 (res.map eT) → OwnB own nx → res.length ≤ i + k →
    (∀ d own nx, RowD F [50, 77, 103] own d 12 ((res ++ mrg (· + ·) id n (p.drop i) (q.drop k)).map eT) → OwnB own nx → Q (.exit 0) { r := (upd (upd (upd (upd (upd (upd (fun _ => .u) 19 (.b false)) 7 (.i .i64 q.length)) 6 (.i .i64 p.length)) 5 (d)) 1 (eP g q)) 0 (eP f p)), own := own, out := out, nx := nx }) →
    Loop Go.Proofs.Tryz.prog F [0, 1, 5, 6, 7] [50, 77, 103] b56_0 { r := (upd (upd (upd (upd (upd (fun _ => .u) 7 (.i .i64 k)) 6 (.i .i64 i)) 5 (d)) 1 (eP g q)) 0 (eP f p)), own := own, out := out, nx := nx } Q := by
  intro n
  induction n with
  | zero =>
    intro i k res d own nx hn hi hk hR hO hres h0
    refine Loop.stepW ?_
    have ei : i = p.length := by omega
    have ek : k = q.length := by omega
    subst ei ek
    have c1 : decide (((p.length : Nat) : Int) < ((p.length : Nat) : Int)) = false := by simp
    have c2 : decide (((q.length : Nat) : Int) < ((q.length : Nat) : Int)) = false := by simp
    simp only [go_sem, sB, reduceCtorEq, sL, sA, sE, sN, wb56_0, eP, eP_len, c1, c2]
    refine h0 _ _ _ ?_ ?_
    · simp only [mrg, List.append_nil]
      exact hR.on (by simp [upd])
    · exact ((((OwnB.none _).updv hO).updv hO).updv hO).mono (by omega)
  | succ n ih =>
    intro i k res d own nx hn hi hk hR hO hres h0
    refine Loop.stepW ?_
    have e1 : IntKind.wrap .i64 (((i : Nat) : Int) + 1) = ((i + 1 : Nat) : Int) := by rw [IntWalk.i64_in _ (by omega)]; omega
    have e2 : IntKind.wrap .i64 (((k : Nat) : Int) + 1) = ((k + 1 : Nat) : Int) := by rw [IntWalk.i64_in _ (by omega)]; omega
    by_cases hik : i < p.length
    · obtain ⟨t, ht⟩ := get_ex hik
      have hT := (hp.get ht).1
      have c1 : decide (((i : Nat) : Int) < ((p.length : Nat) : Int)) = true := decide_eq_true (by omega)
      have c3 := beq_nat_ff (show i ≠ p.length by omega)
      have hxp := ixsO_sl 12 f _ .i64 i _ (eP_at ht)
      by_cases hkq : k < q.length
      · obtain ⟨u, hu⟩ := get_ex hkq
        have hU := (hq.get hu).1
        have c2 : decide (((k : Nat) : Int) < ((q.length : Nat) : Int)) = true := decide_eq_true (by omega)
        have c4 := beq_nat_ff (show k ≠ q.length by omega)
        have hxq := ixsO_sl 12 g _ .i64 k _ (eP_at hu)
        rw [drop_at ht, drop_at hu] at h0
        simp only [go_sem, sB, reduceCtorEq, sL, sA, sE, sN, wb56_0, eP, eP_len, c1, c2, c3, c4, hxp, hxq, dropT, take8 hT, take8 hU, len8 hT, len8 hU]
        refine callO_intro (w73 _ _ hT hU) ?_
        by_cases g1 : 0 < cmpL t.1 u.1
        · simp only [mrg, if_pos g1] at h0
          rw [← drop_at hu] at h0
          simp only [go_sem, sB, reduceCtorEq, sL, sA, sE, sN, decide_eq_true (show cmpL t.1 u.1 > 0 from g1), hxp, takeT hT, eT_len hT]
          refine appO_R (S := [50, 77, 103]) (es := res.map eT) (hR.on (by simp [upd])) (((((OwnB.none _).updv hO).updv hO).updv hO).mono (by dsimp only; omega)) (by simp) (by simp; omega) (by simp; omega) (fun own' hb hoth hs => ?_)
          simp only [go_sem, sB, reduceCtorEq, sL, sA, sE, sN, eP, e1, c1, c2, map_app1]
          refine ih (i + 1) k (res ++ [t]) _ _ _ (by omega) (by omega) (by omega) ?_ ?_ (by simp; omega) (fun d own nx hR hO => h0 _ _ _ ?_ hO)
          · rw [← map_app1]
            exact .at (by simp) hs (by simp)
          · exact ((((OwnB.none _).updv hb).updv hb).updv hb).mono (by dsimp only; omega)
          · simpa only [mrg, id, app_assoc1, List.drop_length] using hR
        · simp only [go_sem, sB, reduceCtorEq, sL, sA, sE, sN, eP_len, decide_eq_false (show ¬ cmpL t.1 u.1 > 0 from g1), hxp, hxq, c3, dropT, take8 hT, take8 hU, len8 hT, len8 hU]
          refine callO_intro (w73 _ _ hT hU) ?_
          by_cases g2 : cmpL t.1 u.1 < 0
          · simp only [mrg, if_neg g1, if_pos g2] at h0
            rw [← drop_at ht] at h0
            simp only [go_sem, sB, reduceCtorEq, sL, sA, sE, sN, decide_eq_true g2, hxq, takeT hU, eT_len hU]
            refine appO_R (S := [50, 77, 103]) (es := res.map eT) (hR.on (by simp [upd])) (((((OwnB.none _).updv hO).updv hO).updv hO).mono (by dsimp only; omega)) (by simp) (by simp; omega) (by simp; omega) (fun own' hb hoth hs => ?_)
            simp only [go_sem, sB, reduceCtorEq, sL, sA, sE, sN, eP, e2, c1, c2, map_app1]
            refine ih i (k + 1) (res ++ [u]) _ _ _ (by omega) (by omega) (by omega) ?_ ?_ (by simp; omega) (fun d own nx hR hO => h0 _ _ _ ?_ hO)
            · rw [← map_app1]
              exact .at (by simp) hs (by simp)
            · exact ((((OwnB.none _).updv hb).updv hb).updv hb).mono (by dsimp only; omega)
            · simpa only [mrg, id, app_assoc1, List.drop_length] using hR
          · simp only [mrg, if_neg g1, if_neg g2] at h0
            simp only [go_sem, sB, reduceCtorEq, sL, sA, sE, sN, decide_eq_false g2, hxp, hxq, takeT4, eT_len hT, eT_len hU]
            refine callO_intro (q31 t.2 u.2 (by have := (hp.get ht).2; omega) (by have := (hq.get hu).2; omega)) ?_
            simp only [go_sem, sB, reduceCtorEq, sL, sA, sE, sN, rW_C, rC_len, takeC]
            refine callO_intro (q71 (t.2 + u.2)) ?_
            by_cases g3 : t.2 + u.2 = 0
            · simp only [if_pos g3] at h0
              have g4 : ((t.2 + u.2).num.sign != 0) = false := by rw [bne, sgn0 g3]; rfl
              simp only [go_sem, sB, reduceCtorEq, sL, sA, sE, sN, g4, e1, e2]
              refine ih (i + 1) (k + 1) res _ _ _ (by omega) (by omega) (by omega) ?_ ?_ (by omega) h0
              · exact hR.on (by simp [upd])
              · exact ((((OwnB.none _).updv hO).updv hO).updv hO).mono (by omega)
            · simp only [if_neg g3] at h0
              have g4 : ((t.2 + u.2).num.sign != 0) = true := by rw [bne, sgn1 g3]; rfl
              simp only [go_sem, sB, reduceCtorEq, sL, sA, sE, sN, g4, e1, e2, hxp, dropT, take8 hT, len8 hT, takeC, rC_len, eT_len (t := (t.1, t.2 + u.2)) hT, z8, fillT2 _ _ hT]
              refine appO_R (S := [50, 77, 103]) (es := res.map eT) (hR.on (by simp [upd])) (by dsimp only; exact (((((OwnB.none _).updv hO).updv hO).updv hO).mono (by omega)).updn (by omega)) (by simp) (by simp; omega) (by simp; omega) (fun own' hb hoth hs => ?_)
              simp only [go_sem, sB, reduceCtorEq, sL, sA, sE, sN, eP, e1, e2, map_app1]
              refine ih (i + 1) (k + 1) (res ++ [(t.1, t.2 + u.2)]) _ _ _ (by omega) (by omega) (by omega) ?_ ?_ (by simp; omega) (fun d own nx hR hO => h0 _ _ _ ?_ hO)
              · rw [← map_app1]
                exact .at (by simp) hs (by simp)
              · exact ((((OwnB.none _).updv hb).updv hb).updv hb).mono (by dsimp only; omega)
              · simpa only [app_assoc1] using hR
      · have ek : k = q.length := by omega
        subst ek
        have c2 : decide (((q.length : Nat) : Int) < ((q.length : Nat) : Int)) = false := by simp
        have c4 := beq_nat_tt (rfl : q.length = q.length)
        rw [drop_at ht, List.drop_length] at h0
        simp only [go_sem, sB, reduceCtorEq, sL, sA, sE, sN, wb56_0, eP, eP_len, c1, c2, c3, c4, hxp, takeT hT, eT_len hT]
        refine appO_R (S := [50, 77, 103]) (es := res.map eT) (hR.on (by simp [upd])) (((((OwnB.none _).updv hO).updv hO).updv hO).mono (by dsimp only; omega)) (by simp) (by simp; omega) (by simp; omega) (fun own' hb hoth hs => ?_)
        simp only [go_sem, sB, reduceCtorEq, sL, sA, sE, sN, eP, e1, c1, c2, map_app1]
        refine ih (i + 1) q.length (res ++ [t]) _ _ _ (by omega) (by omega) (by omega) ?_ ?_ (by simp; omega) (fun d own nx hR hO => h0 _ _ _ ?_ hO)
        · rw [← map_app1]
          exact .at (by simp) hs (by simp)
        · exact ((((OwnB.none _).updv hb).updv hb).updv hb).mono (by dsimp only; omega)
        · simpa only [mrg, id, app_assoc1, List.drop_length] using hR
    · have ei : i = p.length := by omega
      subst ei
      by_cases hkq : k < q.length
      case neg =>
        have ek : k = q.length := by omega
        subst ek
        have c1 : decide (((p.length : Nat) : Int) < ((p.length : Nat) : Int)) = false := by simp
        have c2 : decide (((q.length : Nat) : Int) < ((q.length : Nat) : Int)) = false := by simp
        simp only [go_sem, sB, reduceCtorEq, sL, sA, sE, sN, wb56_0, eP, eP_len, c1, c2]
        refine h0 _ _ _ ?_ ?_
        · simp only [mrg, List.drop_length, List.append_nil]
          exact hR.on (by simp [upd])
        · exact ((((OwnB.none _).updv hO).updv hO).updv hO).mono (by omega)
      obtain ⟨u, hu⟩ := get_ex hkq
      have hU := (hq.get hu).1
      have c1 : decide (((p.length : Nat) : Int) < ((p.length : Nat) : Int)) = false := by simp
      have c2 : decide (((k : Nat) : Int) < ((q.length : Nat) : Int)) = true := decide_eq_true (by omega)
      have c3 := beq_nat_tt (rfl : p.length = p.length)
      have c4 := beq_nat_ff (show k ≠ q.length by omega)
      have hxq := ixsO_sl 12 g _ .i64 k _ (eP_at hu)
      rw [drop_at hu, List.drop_length] at h0
      simp only [go_sem, sB, reduceCtorEq, sL, sA, sE, sN, wb56_0, eP, eP_len, c1, c2, c3, c4, hxq, takeT hU, eT_len hU]
      refine appO_R (S := [50, 77, 103]) (es := res.map eT) (hR.on (by simp [upd])) (((((OwnB.none _).updv hO).updv hO).updv hO).mono (by dsimp only; omega)) (by simp) (by simp; omega) (by simp; omega) (fun own' hb hoth hs => ?_)
      simp only [go_sem, sB, reduceCtorEq, sL, sA, sE, sN, eP, e2, c1, c2, map_app1]
      refine ih p.length (k + 1) (res ++ [u]) _ _ _ (by omega) (by omega) (by omega) ?_ ?_ (by simp; omega) (fun d own nx hR hO => h0 _ _ _ ?_ hO)
      · rw [← map_app1]
        exact .at (by simp) hs (by simp)
      · exact ((((OwnB.none _).updv hb).updv hb).updv hb).mono (by dsimp only; omega)
      · simpa only [mrg, id, app_assoc1, List.drop_length] using hR
theorem w56 (p q : List Tm) (f g : Bool) {A : Nat} (hp : PB A p) (hq : PB A q) (hA : A ≤ 549755813888) (hl : p.length + q.length ≤ 1000000000000) : FnR Go.Proofs.Tryz.prog 56 [eP f p, eP g q] [] (eP false (addP p q)) := by
  refine fnr56 (by simp) (nr_eP _ _) (by simp) List.nodup_nil fun F out hS => ?_
  unfold ir56
  simp only [go_sem, sB, reduceCtorEq, sL, sA, sE, sN, eP]
  refine loop56 p q f g hp hq hA hl F out _ (p.length + q.length) 0 0 [] _ _ _ (by omega) (by omega) (by omega) (.nil _ _ _ _) ?_ (by simp) (fun d own nx hR hO => ?_)
  · exact (((OwnB.none _).upd0).upd0).upd0
  · simp only [go_sem, sB, reduceCtorEq, sL, sA, sE, sN]
    refine frz_R (S := [50, 77, 103]) (hR.on (by simp [upd])) rfl (fun f' own' nx' => ?_)
    simp only [go_sem, sB, reduceCtorEq, sL, sA, sE, sN, rv56, fin_t, addP]
    exact weak_full _ _ _
def PM (p : List Tm) : Prop := ∀ t ∈ p, t.1.all okE = true
theorem PM.get {p : List Tm} (h : PM p) {i : Nat} {t : Tm} (hi : p[i]? = some t) : t.1.all okE = true := h t (List.mem_of_getElem? hi)
theorem PM.tail {t : Tm} {p : List Tm} (h : PM (t :: p)) : PM p := fun u hu => h u (List.mem_cons_of_mem _ hu)
theorem PM.head {t : Tm} {p : List Tm} (h : PM (t :: p)) : t.1.all okE = true := h t (by simp)
def fitP (m : List Int) (p : List Tm) : Bool := p.all fun t => (mMul m t.1).all okE
def mulT (c : Rat) (m : List Int) (p : List Tm) : List Tm := p.map fun t => (mMul m t.1, c * t.2)
theorem loop52 (c : Rat) (m : List Int) (p : List Tm) (f : Bool) {A : Nat} (hm : m.length = 8) (km : m.all okE = true) (hp : PB A p) (kp : PM p) (hc : LQ c ≤ A) (hA : A ≤ 549755813888) (hl : p.length ≤ 1000000000000) (F : Nat) (out : Sto) (Q : Ex → St → Prop) (z z' : Nat) :
    ∀ (l : List Tm) (i : Nat) (res : List Tm) (d : D) (own : Nat → Option (Nat × Obj)) (nx : Nat), p.drop i = l → i + l.length = p.length → RowD F [45] own d 12 (res.map eT) → own 3 = some (z, .box (rC c)) → own 4 = some (z', .box (eM m)) → OwnB own nx → res.length = i →
    (fitP m l = true → ∀ r d own nx, RowD F [45] own d 12 ((res ++ mulT c m l).map eT) → OwnB own nx → r 8 = d → Q (.exit 0) { r := r, own := own, out := out, nx := nx }) →
    (fitP m l = false → ∀ own nx, Q .ret { r := (upd (upd (fun _ => .u) 7 (.i .i64 2)) 6 (.sl 12 true [])), own := own, out := out, nx := nx }) →
    Loop Go.Proofs.Tryz.prog F [2, 3, 4, 8, 9] [3, 4, 45] b52_0 { r := (upd (upd (upd (upd (upd (fun _ => .u) 9 (.i .i64 i)) 8 (d)) 4 (.p (F, 4) z' 0)) 3 (.p (F, 3) z 0)) 2 (eP f p)), own := own, out := out, nx := nx } Q := by
  intro l
  induction l with
  | nil =>
    intro i res d own nx hd hi hR h3 h4 hO hres h0 h1
    refine Loop.stepW ?_
    have ei : i = p.length := by simpa using hi
    subst ei
    have c1 : decide (((p.length : Nat) : Int) < ((p.length : Nat) : Int)) = false := by simp
    simp only [go_sem, sB, reduceCtorEq, sL, sA, sE, sN, wb52_0, eP, eP_len, c1]
    refine h0 rfl _ d _ _ ?_ ?_ rfl
    · simp only [mulT, List.map_nil, List.append_nil]
      exact hR.on (by simp [upd])
    · exact ((((OwnB.none _).updv hO).updv hO).updv hO).mono (by omega)
  | cons t l ih =>
    intro i res d own nx hd hi hR h3 h4 hO hres h0 h1
    refine Loop.stepW ?_
    simp only [List.length_cons] at hi
    have ht : p[i]? = some t := by
      have := List.getElem?_drop (xs := p) (i := i) (j := 0)
      rw [hd] at this
      simpa using this.symm
    have e1 : IntKind.wrap .i64 (((i : Nat) : Int) + 1) = ((i + 1 : Nat) : Int) := by rw [IntWalk.i64_in _ (by omega)]; omega
    have c1 : decide (((i : Nat) : Int) < ((p.length : Nat) : Int)) = true := decide_eq_true (by omega)
    have hT := (hp.get ht).1
    have hxp := ixsO_sl 12 f _ .i64 i _ (eP_at ht)
    have hl8 := mMul_len hm hT
    have b4 : ∀ z', boxC (some (z', .box (eM m))) z' 0 8 = some (eM m) := fun z' => by rw [boxC_s _ _ _ _ (by rw [len8 hm]; decide), List.drop_zero, take8 hm]
    have bn : ∀ z', boxC (some (z', .box (eM (mMul m t.1)))) z' 0 8 = some (eM (mMul m t.1)) := fun z' => by rw [boxC_s _ _ _ _ (by rw [len8 hl8]; decide), List.drop_zero, take8 hl8]
    simp only [go_sem, sB, reduceCtorEq, sL, sA, sE, sN, wb52_0, eP, eP_len, c1, h3, h4, b4, hxp, dropT, take8 hT, len8 hT]
    refine callO_intro (w39 _ _ hm hT km (kp.get ht)) ?_
    cases hf : (mMul m t.1).all okE with
    | false =>
      have hff : fitP m (t :: l) = false := by simp [fitP, hf]
      simp only [go_sem, sB, reduceCtorEq, sL, sA, sE, sN, z8, len80, drop80, show ((2 : Int) != 0) = true from rfl]
      exact h1 hff _ _
    | true =>
      have hfe : fitP m (t :: l) = fitP m l := by simp [fitP, hf]
      rw [hfe] at h0 h1
      simp only [go_sem, sB, reduceCtorEq, sL, sA, sE, sN, eP_len, z8, len80, len8 hl8, drop80, show ((0 : Int) != 0) = false from rfl, h3, hxp, takeT4, takeC, rC_len, eT_len hT, dropC]
      refine callO_intro (q32 c t.2 (by omega) (by have := (hp.get ht).2; omega)) ?_
      simp only [go_sem, sB, reduceCtorEq, sL, sA, sE, sN, rW_C, rC_len, takeC, bn, z8, fillT2 _ _ hl8, eT_len (t := (mMul m t.1, c * t.2)) hl8]
      have z3 := hO _ _ _ h3
      have z4 := hO _ _ _ h4
      refine appO_R (S := [45]) (es := res.map eT) (hR.on (by simp [upd])) (by dsimp only; repeat' first | exact OwnB.none _ | refine OwnB.updn ?_ (by omega) | refine OwnB.upd0 ?_ | refine OwnB.updv (own := own) ?_ (hO.mono (by omega))) (by simp) (by simp; omega) (by simp; omega) (fun own' hb hoth hs => ?_)
      have h3' := hoth 3 (by decide) (by decide)
      have h4' := hoth 4 (by decide) (by decide)
      simp only [go_sem, sB, reduceCtorEq, sL, sA, sE, sN, eP, e1, map_app1, h3, h4] at h3' h4' ⊢
      refine ih (i + 1) (res ++ [(mMul m t.1, c * t.2)]) _ _ _ (by rw [drop_at ht] at hd; injection hd) (by omega) ?_ h3' h4' ?_ (by simp; omega) (fun hf r d own nx hR hO hd => h0 hf r d own nx ?_ hO hd) h1
      · rw [← map_app1]
        exact .at (by simp) hs (by simp)
      · repeat' first | exact OwnB.none _ | refine OwnB.updn ?_ (by first | omega | (dsimp only; omega)) | refine OwnB.upd0 ?_ | refine OwnB.updv (own := own') ?_ (hb.mono (by first | omega | (dsimp only; omega)))
      · simpa only [mulT, List.map_cons, app_assoc1] using hR
def timP (c : Rat) (m : List Int) (p : List Tm) : List Tm × Int := if c = 0 then ([], 0) else if fitP m p then (mulT c m p, 0) else ([], 2)
theorem nr_t2 (f : Bool) (p : List Tm) (n : Int) : (D.t [eP f p, .i .i64 n]).nr = true := by simp only [D.nr, nrL, Bool.and_true]; exact nr_eP _ _
theorem w52 (c : Rat) (m : List Int) (p : List Tm) (f : Bool) {A : Nat} (hm : m.length = 8) (km : m.all okE = true) (hp : PB A p) (kp : PM p) (hc : LQ c ≤ A) (hA : A ≤ 549755813888) (hl : p.length ≤ 1000000000000) :
    FnR Go.Proofs.Tryz.prog 52 [rW c, .a (eM m), eP f p] [] (.t [eP false (timP c m p).1, .i .i64 (timP c m p).2]) := by
  refine fnr52 (by simp) (nr_t2 _ _ _) (by simp) List.nodup_nil fun F out hS => ?_
  unfold ir52
  simp only [go_sem, sB, reduceCtorEq, sL, sA, sE, sN, rW_C, rC_len, takeC]
  refine callO_intro (q71 c) ?_
  by_cases h : c = 0
  · have e : timP c m p = ([], 0) := if_pos h
    rw [e]
    simp only [go_sem, sB, reduceCtorEq, sL, sA, sE, sN, sgn0 h, rv52, fin_t2]
    exact .t (.cons (weak_full _ _ _) (.refl _))
  · have e : timP c m p = if fitP m p then (mulT c m p, 0) else ([], 2) := if_neg h
    rw [e]
    simp only [go_sem, sB, reduceCtorEq, sL, sA, sE, sN, sgn1 h]
    refine loop52 c m p f hm km hp kp hc hA hl F out _ _ _ p 0 [] _ _ _ rfl (by omega) (.nil _ _ _ _) rfl rfl ?_ rfl (fun hf r d own nx hR hO hd => ?_) (fun hf own nx => ?_)
    · repeat' first | exact OwnB.none _ | refine OwnB.updn ?_ (by first | omega | (dsimp only; omega)) | refine OwnB.upd0 ?_
    · simp only [go_sem, sB, reduceCtorEq, sL, sA, sE, sN, hd]
      refine frz_R (S := [45]) (hR.on (by simp [upd])) rfl (fun f' own' nx' => ?_)
      simp only [go_sem, sB, reduceCtorEq, sL, sA, sE, sN, rv52, fin_t2, hf]
      exact .t (.cons (weak_full _ _ _) (.refl _))
    · simp only [go_sem, sB, reduceCtorEq, sL, sA, sE, sN, rv52, fin_t2, hf]
      exact .t (.cons (weak_full _ _ _) (.refl _))
theorem w98 (c : Rat) (p : List Tm) (f : Bool) {A : Nat} (hp : PB A p) (kp : PM p) (hc : LQ c ≤ A) (hA : A ≤ 549755813888) (hl : p.length ≤ 1000000000000) :
    FnR Go.Proofs.Tryz.prog 98 [rW c, eP f p] [] (eP false (timP c m0 p).1) := by
  refine fnr98 (by simp) (nr_eP _ _) (by simp) List.nodup_nil fun F out hS => ?_
  unfold ir98
  simp only [go_sem, sB, reduceCtorEq, sL, sA, sE, sN, rW_C, rC_len, takeC, z8]
  refine callO_intro (w52 c m0 p f rfl (by decide) hp kp hc hA hl) ?_
  simp only [go_sem, sB, reduceCtorEq, sL, sA, sE, sN, rv98, fin_t]
  exact .refl _
theorem mrg_length (f : Rat → Rat → Rat) (g : Rat → Rat) : ∀ (n : Nat) (p q : List Tm), (mrg f g n p q).length ≤ p.length + q.length
  | 0, _, _ => by simp [mrg]
  | n + 1, [], [] => by simp [mrg]
  | n + 1, [], b :: q => by have := mrg_length f g n [] q; simp [mrg] at this ⊢; omega
  | n + 1, a :: p, [] => by have := mrg_length f g n p []; simp [mrg] at this ⊢; omega
  | n + 1, a :: p, b :: q => by
    have h1 := mrg_length f g n p (b :: q)
    have h2 := mrg_length f g n (a :: p) q
    have h3 := mrg_length f g n p q
    simp only [mrg]
    simp only [List.length_cons] at *
    split
    · simp only [List.length_cons]; omega
    · split
      · simp only [List.length_cons]; omega
      · split
        · omega
        · simp only [List.length_cons]; omega
theorem mrg_all {P : Tm → Prop} {f : Rat → Rat → Rat} {g : Rat → Rat} (hg : ∀ t : Tm, P t → P (t.1, g t.2)) (hf : ∀ t u : Tm, P t → P u → P (t.1, f t.2 u.2)) : ∀ (n : Nat) (p q : List Tm), (∀ t ∈ p, P t) → (∀ t ∈ q, P t) → ∀ t ∈ mrg f g n p q, P t
  | 0, _, _, _, _, t, h => by simp [mrg] at h
  | n + 1, [], [], _, _, t, h => by simp [mrg] at h
  | n + 1, [], b :: q, hp, hq, t, h => by
    simp only [mrg, List.mem_cons] at h
    rcases h with rfl | h
    · exact hg b (hq b (by simp))
    · exact mrg_all hg hf n [] q hp (fun t ht => hq t (by simp [ht])) t h
  | n + 1, a :: p, [], hp, hq, t, h => by
    simp only [mrg, List.mem_cons] at h
    rcases h with rfl | h
    · exact hp _ (by simp)
    · exact mrg_all hg hf n p [] (fun t ht => hp t (by simp [ht])) hq t h
  | n + 1, a :: p, b :: q, hp, hq, t, h => by
    have ha := hp a (by simp)
    have hb := hq b (by simp)
    have hp' : ∀ t ∈ p, P t := fun t ht => hp t (by simp [ht])
    have hq' : ∀ t ∈ q, P t := fun t ht => hq t (by simp [ht])
    have h1 := mrg_all hg hf n p (b :: q) hp' hq t
    have h2 := mrg_all hg hf n (a :: p) q hp hq' t
    have h3 := mrg_all hg hf n p q hp' hq' t
    simp only [mrg] at h
    split at h
    · rcases List.mem_cons.1 h with rfl | h
      · exact ha
      · exact h1 h
    · split at h
      · rcases List.mem_cons.1 h with rfl | h
        · exact hg b hb
        · exact h2 h
      · split at h
        · exact h3 h
        · rcases List.mem_cons.1 h with rfl | h
          · exact hf a b ha hb
          · exact h3 h
theorem PB_add {A B : Nat} {p q : List Tm} (hp : PB A p) (hq : PB B q) : PB (A + B + 1) (addP p q) := by
  have key : ∀ n (p q : List Tm), PB A p → PB B q → ∀ t ∈ mrg (· + ·) id n p q, t.1.length = 8 ∧ LQ t.2 ≤ A + B + 1 := by
    intro n
    induction n with
    | zero => intro p q _ _ t ht; simp [mrg] at ht
    | succ n ih =>
      intro p q hp hq t ht
      cases p with
      | nil =>
        cases q with
        | nil => simp [mrg] at ht
        | cons b q =>
          simp only [mrg, List.mem_cons] at ht
          rcases ht with rfl | ht
          · exact ⟨hq.head.1, by have := hq.head.2; simp only [id]; omega⟩
          · exact ih [] q hp hq.tail t ht
      | cons a p =>
        cases q with
        | nil =>
          simp only [mrg, List.mem_cons] at ht
          rcases ht with rfl | ht
          · exact ⟨hp.head.1, by have := hp.head.2; omega⟩
          · exact ih p [] hp.tail hq t ht
        | cons b q =>
          simp only [mrg] at ht
          have h1 := hp.head
          have h2 := hq.head
          have h3 := LQ_add a.2 b.2
          split at ht
          · rcases List.mem_cons.1 ht with rfl | ht
            · exact ⟨h1.1, by omega⟩
            · exact ih p (b :: q) hp.tail hq t ht
          · split at ht
            · rcases List.mem_cons.1 ht with rfl | ht
              · exact ⟨h2.1, by simp only [id]; omega⟩
              · exact ih (a :: p) q hp hq.tail t ht
            · split at ht
              · exact ih p q hp.tail hq.tail t ht
              · rcases List.mem_cons.1 ht with rfl | ht
                · exact ⟨h1.1, by simp only; omega⟩
                · exact ih p q hp.tail hq.tail t ht
  exact ⟨fun t ht => (key _ p q hp hq t ht).1, fun t ht => (key _ p q hp hq t ht).2⟩
theorem PM_add {p q : List Tm} (hp : PM p) (hq : PM q) : PM (addP p q) := mrg_all (P := fun t => t.1.all okE = true) (fun t h => h) (fun t u h _ => h) _ p q hp hq
theorem add_length (p q : List Tm) : (addP p q).length ≤ p.length + q.length := mrg_length _ _ _ p q
theorem PB_tim {A B : Nat} {c : Rat} {m : List Int} {p : List Tm} (hm : m.length = 8) (hp : PB A p) (hc : LQ c ≤ B) : PB (B + A) (timP c m p).1 := by
  have h1 : PB (B + A) (mulT c m p) := by
    refine ⟨fun t ht => ?_, fun t ht => ?_⟩
    · obtain ⟨u, hu, rfl⟩ := List.mem_map.1 ht
      exact mMul_len hm (hp.len u hu)
    · obtain ⟨u, hu, rfl⟩ := List.mem_map.1 ht
      have := LQ_mul c u.2
      have := hp.lq u hu
      show LQ (c * u.2) ≤ _
      omega
  unfold timP
  split
  · exact .nil _
  · split
    · exact h1
    · exact .nil _
theorem tim_length (c : Rat) (m : List Int) (p : List Tm) : (timP c m p).1.length ≤ p.length := by
  unfold timP
  split
  · simp
  · split
    · simp [mulT]
    · simp
theorem PM_tim (c : Rat) (m : List Int) (p : List Tm) : PM (timP c m p).1 := by
  unfold timP
  split
  · intro t ht; simp at ht
  · split
    · rename_i h
      intro t ht
      obtain ⟨u, hu, rfl⟩ := List.mem_map.1 ht
      exact List.all_eq_true.1 h u hu
    · intro t ht; simp at ht
def subR (p q : List Tm) : List Tm := addP p (timP (-1) m0 q).1
theorem LQ_m1 : LQ (-1) ≤ 1 := by
  have : LZ (-1) ≤ 1 := L_le (by decide)
  have h2 : L 1 ≤ 1 := L_le (by decide)
  exact Nat.max_le.2 ⟨this, h2⟩
theorem w57 (p q : List Tm) (f g : Bool) {A : Nat} (hp : PB A p) (hq : PB A q) (kq : PM q) (hA : A + 1 ≤ 549755813888) (hl : p.length + q.length ≤ 1000000000000) : FnR Go.Proofs.Tryz.prog 57 [eP f p, eP g q] [] (eP false (subR p q)) := by
  refine fnr57 (by simp) (nr_eP _ _) (by simp) List.nodup_nil fun F out hS => ?_
  have e1 : ((-1 : Int) : Rat) = -1 := rfl
  unfold ir57 subR
  simp only [go_sem, sB, reduceCtorEq, sL, sA, sE, sN]
  refine callO_intro (q23 (-1) (by omega) (by omega)) ?_
  rw [e1]
  simp only [go_sem, sB, reduceCtorEq, sL, sA, sE, sN]
  refine callO_intro (w98 (-1) q g (A := A + 1) (hq.mono (by omega)) kq (by have := LQ_m1; omega) (by omega) (by omega)) ?_
  simp only [go_sem, sB, reduceCtorEq, sL, sA, sE, sN]
  have h1 := tim_length (-1) m0 q
  refine callO_intro (w56 p _ f false (A := A + 1) (hp.mono (by omega)) ((PB_tim (A := A) (B := 1) rfl hq LQ_m1).mono (by omega)) (by omega) (by omega)) ?_
  simp only [go_sem, sB, reduceCtorEq, sL, sA, sE, sN, rv57, fin_t]
  exact .refl _
def mulR : List Tm → List Tm → List Tm → List Tm × Int
  | out, [], _ => (out, 0)
  | out, t :: p, q => if (timP t.2 t.1 q).2 = 0 then mulR (addP out (timP t.2 t.1 q).1) p q else ([], 2)
def mulP (p q : List Tm) : List Tm × Int := mulR [] p q
theorem tim_2 (c : Rat) (m : List Int) (p : List Tm) : (timP c m p).2 = 0 ∨ (timP c m p).2 = 2 := by
  unfold timP
  split
  · simp
  · split <;> simp
theorem loop115 (p q : List Tm) (f g : Bool) {A : Nat} (hp : PB A p) (hq : PB A q) (kp : PM p) (kq : PM q) (hA : (p.length + 1) * (2 * A + 1) ≤ 549755813888) (hl : p.length + (p.length + 1) * q.length ≤ 1000000000000) (F : Nat) (out : Sto) (Q : Ex → St → Prop) :
    ∀ (l : List Tm) (i : Nat) (res : List Tm) (h : Bool) (nx : Nat), p.drop i = l → i + l.length = p.length → PB (i * (2 * A + 1)) res → PM res → res.length ≤ i * q.length →
    ((mulR res l q).2 = 0 → ∀ r h' nx, r 6 = eP h' (mulR res l q).1 → Q (.exit 0) { r := r, own := fun _ => none, out := out, nx := nx }) →
    ((mulR res l q).2 = 2 → ∀ nx, Q .ret { r := (upd (upd (fun _ => .u) 5 (.i .i64 2)) 4 (.sl 12 true [])), own := fun _ => none, out := out, nx := nx }) →
    Loop Go.Proofs.Tryz.prog F [0, 1, 6, 7] [] b115_0 { r := (upd (upd (upd (upd (fun _ => .u) 7 (.i .i64 i)) 6 (eP h res)) 1 (eP g q)) 0 (eP f p)), own := fun _ => none, out := out, nx := nx } Q := by
  intro l
  induction l with
  | nil =>
    intro i res h nx hd hi hB hM hres h0 h1
    refine Loop.stepW ?_
    have ei : i = p.length := by simpa using hi
    subst ei
    have c1 : decide (((p.length : Nat) : Int) < ((p.length : Nat) : Int)) = false := by simp
    simp only [go_sem, sB, reduceCtorEq, sL, sA, sE, sN, wb115_0, eP, eP_len, c1]
    exact h0 rfl _ h _ rfl
  | cons t l ih =>
    intro i res h nx hd hi hB hM hres h0 h1
    refine Loop.stepW ?_
    simp only [List.length_cons] at hi
    have ht : p[i]? = some t := by
      have := List.getElem?_drop (xs := p) (i := i) (j := 0)
      rw [hd] at this
      simpa using this.symm
    have e1 : IntKind.wrap .i64 (((i : Nat) : Int) + 1) = ((i + 1 : Nat) : Int) := by rw [IntWalk.i64_in _ (by omega)]; omega
    have c1 : decide (((i : Nat) : Int) < ((p.length : Nat) : Int)) = true := decide_eq_true (by omega)
    have hT := hp.get ht
    have hxp := ixsO_sl 12 f _ .i64 i _ (eP_at ht)
    have m1 : (i + 1) * (2 * A + 1) ≤ (p.length + 1) * (2 * A + 1) := Nat.mul_le_mul_right _ (by omega)
    have m1' : (i + 1) * (2 * A + 1) = i * (2 * A + 1) + (2 * A + 1) := by rw [Nat.add_mul, Nat.one_mul]
    have m2 : (i + 1) * q.length ≤ (p.length + 1) * q.length := Nat.mul_le_mul_right _ (by omega)
    have m2' : (i + 1) * q.length = i * q.length + q.length := by rw [Nat.add_mul, Nat.one_mul]
    have ql : q.length ≤ (p.length + 1) * q.length := Nat.le_mul_of_pos_left _ (by omega)
    simp only [go_sem, sB, reduceCtorEq, sL, sA, sE, sN, wb115_0, eP_len, eP, c1, hxp, dropT, takeT4, take8 hT.1, len8 hT.1, eT_len hT.1]
    refine callO_intro (w52 t.2 t.1 q g hT.1 (kp.get ht) hq kq hT.2 (by omega) (by omega)) ?_
    simp only [mulR] at h0 h1
    have tl := tim_length t.2 t.1 q
    rcases tim_2 t.2 t.1 q with h2 | h2
    · rw [if_pos h2] at h0 h1
      simp only [go_sem, sB, reduceCtorEq, sL, sA, sE, sN, h2, show ((0 : Int) != 0) = false from rfl]
      refine callO_intro (w56 res _ h false (A := i * (2 * A + 1) + 2 * A) (hB.mono (by omega)) ((PB_tim hT.1 hq hT.2).mono (by omega)) (by omega) (by omega)) ?_
      simp only [go_sem, sB, reduceCtorEq, sL, sA, sE, sN, e1]
      refine ih (i + 1) _ false _ (by rw [drop_at ht] at hd; injection hd) (by omega) ((PB_add hB (PB_tim hT.1 hq hT.2)).mono (by omega)) (PM_add hM (PM_tim _ _ _)) ?_ h0 h1
      have := add_length res (timP t.2 t.1 q).1
      omega
    · have hne : ¬ (timP t.2 t.1 q).2 = 0 := by omega
      rw [if_neg hne] at h0 h1
      simp only [go_sem, sB, reduceCtorEq, sL, sA, sE, sN, h2, show ((2 : Int) != 0) = true from rfl]
      exact h1 rfl _
theorem mulR_2 : ∀ (p out q : List Tm), (mulR out p q).2 = 0 ∨ (mulR out p q = ([], 2))
  | [], out, q => .inl rfl
  | t :: p, out, q => by
    simp only [mulR]
    split
    · exact mulR_2 p _ q
    · exact .inr rfl
theorem w115 (p q : List Tm) (f g : Bool) {A : Nat} (hp : PB A p) (hq : PB A q) (kp : PM p) (kq : PM q) (hA : (p.length + 1) * (2 * A + 1) ≤ 549755813888) (hl : p.length + (p.length + 1) * q.length ≤ 1000000000000) :
    FnR Go.Proofs.Tryz.prog 115 [eP f p, eP g q] [] (.t [eP false (mulP p q).1, .i .i64 (mulP p q).2]) := by
  refine fnr115 (by simp) (nr_t2 _ _ _) (by simp) List.nodup_nil fun F out hS => ?_
  unfold ir115 mulP
  simp only [go_sem, sB, reduceCtorEq, sL, sA, sE, sN]
  refine loop115 p q f g hp hq kp kq hA hl F out _ p 0 [] true _ rfl (by omega) (.nil _) (by intro t ht; simp at ht) (by simp) (fun h0 r h' nx hr => ?_) (fun h2 nx => ?_)
  · simp only [go_sem, sB, reduceCtorEq, sL, sA, sE, sN, hr, h0, rv115, fin_t2]
    exact .t (.cons (weak_full _ _ _) (.refl _))
  · rcases mulR_2 p [] q with h3 | h3
    · omega
    · simp only [go_sem, sB, reduceCtorEq, sL, sA, sE, sN, h3, rv115, fin_t2]
      exact .t (.cons (weak_full _ _ _) (.refl _))
theorem w47 (p q : List Tm) (f g : Bool) {A : Nat} (hp : PB A p) (hq : PB A q) (kp : PM p) (kq : PM q) (hA : (p.length + 1) * (2 * A + 1) ≤ 549755813888) (hl : p.length + (p.length + 1) * q.length ≤ 1000000000000) :
    FnR Go.Proofs.Tryz.prog 47 [eP f p, eP g q] [] (eP false (mulP p q).1) := by
  refine fnr47 (by simp) (nr_eP _ _) (by simp) List.nodup_nil fun F out hS => ?_
  unfold ir47
  simp only [go_sem, sB, reduceCtorEq, sL, sA, sE, sN]
  refine callO_intro (w115 p q f g hp hq kp kq hA hl) ?_
  simp only [go_sem, sB, reduceCtorEq, sL, sA, sE, sN, rv47, fin_t]
  exact .refl _
theorem intsEq_eM : ∀ (a b : List Int), a.length = b.length → intsEq (eM a) (eM b) = some (decide (a = b))
  | [], [], _ => by simp [eM, intsEq]
  | x :: a, y :: b, h => by
    have := intsEq_eM a b (by simpa using h)
    simp only [eM, List.map_cons, intsEq] at this ⊢
    by_cases hxy : x = y
    · simp [hxy, this]
    · simp [hxy]
theorem eqMf {a b : List Int} (ha : a.length = 8) (hb : b.length = 8) : evEqa false 8 (.a (eM a)) (.a (eM b)) = some (.b (decide (a = b))) := by
  simp only [evEqa, len8 ha, len8 hb, and_self, if_true, intsEq_eM a b (by omega), Option.map_some, Bool.bne_false]
theorem w78 (t u : Tm) (ht : t.1.length = 8) (hu : u.1.length = 8) (hl : LQ t.2 ≤ 140737488355328) : FnR Go.Proofs.Tryz.prog 78 [.a (eT t), .a (eT u)] [] (.b (decide (t = u))) := by
  refine fnr78 (by simp) rfl (by simp) List.nodup_nil fun F out hS => ?_
  have bt : ∀ z, boxC (some (z, .box (eT t))) z 4 8 = some (eM t.1) := fun z => by rw [boxC_s _ _ _ _ (by rw [eT_len ht]; decide), dropT, take8 ht]
  have bu : ∀ z, boxC (some (z, .box (eT u))) z 4 8 = some (eM u.1) := fun z => by rw [boxC_s _ _ _ _ (by rw [eT_len hu]; decide), dropT, take8 hu]
  have bt' : ∀ z, boxC (some (z, .box (eT t))) z 0 4 = some (rC t.2) := fun z => by rw [boxC_s _ _ _ _ (by rw [eT_len ht]; decide), List.drop_zero, takeT4]
  have bu' : ∀ z, boxC (some (z, .box (eT u))) z 0 4 = some (rC u.2) := fun z => by rw [boxC_s _ _ _ _ (by rw [eT_len hu]; decide), List.drop_zero, takeT4]
  unfold ir78
  by_cases h1 : t.1 = u.1
  · simp only [go_sem, sB, reduceCtorEq, sL, sA, sE, sN, eT_len ht, eT_len hu, bt, bu, eqMf ht hu, decide_eq_true h1, bt', bu']
    have c := q29 t.2 u.2 hl
    refine callO_intro c ?_
    have e : decide (t = u) = decide (t.2 = u.2) := by
      apply decide_eq_decide.2
      constructor
      · rintro rfl; rfl
      · intro h; exact Prod.ext h1 h
    rw [e]
    simp only [go_sem, sB, reduceCtorEq, sL, sA, sE, sN, rv78, fin_t]
    exact .refl _
  · have e : decide (t = u) = false := by
      apply decide_eq_false
      rintro rfl
      exact h1 rfl
    rw [e]
    simp only [go_sem, sB, reduceCtorEq, sL, sA, sE, sN, eT_len ht, eT_len hu, bt, bu, eqMf ht hu, decide_eq_false h1, rv78, fin_t]
    exact .refl _
theorem loop19 (p q : List Tm) (f g : Bool) {A : Nat} (hp : PB A p) (hq : PB A q) (hA : A ≤ 140737488355328) (hl : p.length ≤ 1000000000000) (hpq : p.length = q.length) (F : Nat) (out : Sto) (Q : Ex → St → Prop) :
    ∀ (k i : Nat) (nx : Nat), i + k = p.length →
    (p.drop i = q.drop i → ∀ nx, Q (.exit 0) { r := (upd (upd (upd (upd (fun _ => .u) 14 (.b false)) 5 (.i .i64 p.length)) 1 (eP g q)) 0 (eP f p)), own := fun _ => none, out := out, nx := nx }) →
    (p.drop i ≠ q.drop i → ∀ nx, Q .ret { r := (upd (fun _ => .u) 4 (.b false)), own := fun _ => none, out := out, nx := nx }) →
    Loop Go.Proofs.Tryz.prog F [0, 1, 5] [] b19_0 { r := (upd (upd (upd (fun _ => .u) 5 (.i .i64 i)) 1 (eP g q)) 0 (eP f p)), own := fun _ => none, out := out, nx := nx } Q := by
  intro k
  induction k with
  | zero =>
    intro i nx hi h0 h1
    refine Loop.stepW ?_
    have ei : i = p.length := by omega
    subst ei
    have c1 : decide (((p.length : Nat) : Int) < ((p.length : Nat) : Int)) = false := by simp
    simp only [go_sem, sB, reduceCtorEq, sL, sA, sE, sN, wb19_0, eP, eP_len, c1]
    exact h0 (by rw [List.drop_length, hpq, List.drop_length]) _
  | succ k ih =>
    intro i nx hi h0 h1
    refine Loop.stepW ?_
    obtain ⟨t, ht⟩ := get_ex (show i < p.length by omega)
    obtain ⟨u, hu⟩ := get_ex (show i < q.length by omega)
    have e1 : IntKind.wrap .i64 (((i : Nat) : Int) + 1) = ((i + 1 : Nat) : Int) := by rw [IntWalk.i64_in _ (by omega)]; omega
    have c1 : decide (((i : Nat) : Int) < ((p.length : Nat) : Int)) = true := decide_eq_true (by omega)
    have hT := hp.get ht
    have hU := hq.get hu
    have hxp := ixsO_sl 12 f _ .i64 i _ (eP_at ht)
    have hxq := ixsO_sl 12 g _ .i64 i _ (eP_at hu)
    rw [drop_at ht, drop_at hu] at h0 h1
    simp only [go_sem, sB, reduceCtorEq, sL, sA, sE, sN, wb19_0, eP_len, eP, c1, hxp, hxq, takeT hT.1, takeT hU.1, eT_len hT.1, eT_len hU.1]
    refine callO_intro (w78 t u hT.1 hU.1 (by omega)) ?_
    by_cases htu : t = u
    · subst htu
      simp only [go_sem, sB, reduceCtorEq, sL, sA, sE, sN, decide_true, e1]
      refine ih (i + 1) _ (by omega) (fun h => h0 (by rw [h])) (fun h => h1 (by simpa using h))
    · simp only [go_sem, sB, reduceCtorEq, sL, sA, sE, sN, decide_eq_false htu]
      exact h1 (by intro h; injection h with h; exact htu h) _
theorem w19 (p q : List Tm) (f g : Bool) {A : Nat} (hp : PB A p) (hq : PB A q) (hA : A ≤ 140737488355328) (hl : p.length ≤ 1000000000000) : FnR Go.Proofs.Tryz.prog 19 [eP f p, eP g q] [] (.b (decide (p = q))) := by
  refine fnr19 (by simp) rfl (by simp) List.nodup_nil fun F out hS => ?_
  unfold ir19
  by_cases hpq : p.length = q.length
  · have c1 : (((p.length : Nat) : Int) != ((q.length : Nat) : Int)) = false := by rw [bne, beq_nat_tt hpq]; rfl
    simp only [go_sem, sB, reduceCtorEq, sL, sA, sE, sN, eP, eP_len, c1]
    refine loop19 p q f g hp hq hA hl hpq F out _ p.length 0 _ (by omega) (fun h nx => ?_) (fun h nx => ?_)
    · rw [List.drop_zero, List.drop_zero] at h
      simp only [go_sem, sB, reduceCtorEq, sL, sA, sE, sN, rv19, fin_t, decide_eq_true h]
      exact .refl _
    · rw [List.drop_zero, List.drop_zero] at h
      simp only [go_sem, sB, reduceCtorEq, sL, sA, sE, sN, rv19, fin_t, decide_eq_false h]
      exact .refl _
  · have c1 : (((p.length : Nat) : Int) != ((q.length : Nat) : Int)) = true := by rw [bne, beq_nat_ff hpq]; rfl
    have hne : p ≠ q := fun h => hpq (by rw [h])
    simp only [go_sem, sB, reduceCtorEq, sL, sA, sE, sN, eP, eP_len, c1, rv19, fin_t, decide_eq_false hne]
    exact .refl _
theorem loop108 (m : List Int) (hm : m.length = 8) (km : m.all okE = true) (F : Nat) (out : Sto) (Q : Ex → St → Prop) : ∀ (k i : Nat) (acc : Int) (nx : Nat), i + k = 8 → 0 ≤ acc → acc ≤ i * 65535 →
    (∀ nx, Q (.exit 0) { r := (upd (upd (upd (upd (fun _ => .u) 8 (.b false)) 7 (.i .i64 8)) 6 (.a (eM m))) 3 (.i .i64 (acc + (m.drop i).sum))), own := fun _ => none, out := out, nx := nx }) →
    Loop Go.Proofs.Tryz.prog F [3, 6, 7] [] b108_0 { r := (upd (upd (upd (fun _ => .u) 7 (.i .i64 i)) 6 (.a (eM m))) 3 (.i .i64 acc)), own := fun _ => none, out := out, nx := nx } Q := by
  intro k
  induction k with
  | zero =>
    intro i acc nx hi ha hb h0
    refine Loop.stepW ?_
    have : i = 8 := by omega
    subst this
    have c1 : decide (((8 : Nat) : Int) < 8) = false := by decide
    have hd : m.drop 8 = [] := by rw [List.drop_eq_nil_iff]; omega
    rw [hd, List.sum_nil, Int.add_zero] at h0
    simp only [go_sem, sB, reduceCtorEq, sL, sA, sE, sN, wb108_0, c1]
    exact h0 _
  | succ k ih =>
    intro i acc nx hi ha hb h0
    refine Loop.stepW ?_
    have c1 : decide (((i : Nat) : Int) < 8) = true := decide_eq_true (by omega)
    have hil : i < m.length := by omega
    have hdr : m.drop i = m.getD i 0 :: m.drop (i + 1) := by
      rw [List.drop_eq_getElem_cons hil]
      simp [List.getD_eq_getElem?_getD, List.getElem?_eq_getElem hil]
    rw [hdr, List.sum_cons, ← Int.add_assoc] at h0
    have e2 : IntKind.wrap .i64 (((i : Nat) : Int) + 1) = ((i + 1 : Nat) : Int) := by rw [IntWalk.i64_in _ (by omega)]; omega
    have hx := ixvO_m m 8 i .i64 (by omega) hil
    have hb2 := okE_get km i
    generalize m.getD i 0 = x at *
    have e3 : IntKind.wrap .i64 (acc + x) = acc + x := IntWalk.i64_in _ (by omega)
    simp only [go_sem, sB, reduceCtorEq, sL, sA, sE, sN, wb108_0, c1, hx, e2, e3]
    exact ih (i + 1) _ _ (by omega) (by omega) (by omega) h0
theorem w108 (m : List Int) (hm : m.length = 8) (km : m.all okE = true) : FnR Go.Proofs.Tryz.prog 108 [.a (eM m)] [] (.i .i64 m.sum) := by
  refine fnr108 (by simp) rfl (by simp) List.nodup_nil fun F out hS => ?_
  unfold ir108
  simp only [go_sem, sB, reduceCtorEq, sL, sA, sE, sN, len8 hm, take8 hm, boxC_s _ _ _ _ (show 0 + 8 ≤ (eM m).length by rw [len8 hm]; decide)]
  refine loop108 m hm km F out _ 8 0 0 _ (by omega) (by omega) (by omega) (fun nx => ?_)
  simp only [go_sem, sB, reduceCtorEq, sL, sA, sE, sN, rv108, fin_t, Int.zero_add]
  exact .refl _
def degP : Int → List Tm → Int
  | d, [] => d
  | d, t :: p => degP (if t.1.sum > d then t.1.sum else d) p
theorem loop40 (p : List Tm) (f : Bool) {A : Nat} (hp : PB A p) (kp : PM p) (hl : p.length ≤ 1000000000000) (F : Nat) (out : Sto) (Q : Ex → St → Prop) :
    ∀ (l : List Tm) (i : Nat) (d : Int) (nx : Nat), p.drop i = l → i + l.length = p.length →
    (∀ nx, Q (.exit 0) { r := (upd (upd (upd (upd (upd (fun _ => .u) 9 (.b false)) 8 (.i .i64 p.length)) 7 (.i .i64 p.length)) 6 (eP f p)) 3 (.i .i64 (degP d l))), own := fun _ => none, out := out, nx := nx }) →
    Loop Go.Proofs.Tryz.prog F [3, 6, 7, 8] [] b40_0 { r := (upd (upd (upd (upd (fun _ => .u) 8 (.i .i64 i)) 7 (.i .i64 p.length)) 6 (eP f p)) 3 (.i .i64 d)), own := fun _ => none, out := out, nx := nx } Q := by
  intro l
  induction l with
  | nil =>
    intro i d nx hd hi h0
    refine Loop.stepW ?_
    have ei : i = p.length := by simpa using hi
    subst ei
    have c1 : decide (((p.length : Nat) : Int) < ((p.length : Nat) : Int)) = false := by simp
    simp only [go_sem, sB, reduceCtorEq, sL, sA, sE, sN, wb40_0, eP, eP_len, c1]
    exact h0 _
  | cons t l ih =>
    intro i d nx hd hi h0
    refine Loop.stepW ?_
    simp only [List.length_cons] at hi
    have ht : p[i]? = some t := by
      have := List.getElem?_drop (xs := p) (i := i) (j := 0)
      rw [hd] at this
      simpa using this.symm
    have e1 : IntKind.wrap .i64 (((i : Nat) : Int) + 1) = ((i + 1 : Nat) : Int) := by rw [IntWalk.i64_in _ (by omega)]; omega
    have c1 : decide (((i : Nat) : Int) < ((p.length : Nat) : Int)) = true := decide_eq_true (by omega)
    have hT := hp.get ht
    have hxp := ixsO_sl 12 f _ .i64 i _ (eP_at ht)
    have bt : ∀ z, boxC (some (z, .box (eT t))) z 4 8 = some (eM t.1) := fun z => by rw [boxC_s _ _ _ _ (by rw [eT_len hT.1]; decide), dropT, take8 hT.1]
    have d12 : (eT t).drop 12 = [] := List.drop_of_length_le (by rw [eT_len hT.1]; omega)
    simp only [go_sem, sB, reduceCtorEq, sL, sA, sE, sN, wb40_0, eP_len, eP, c1, hxp, takeT hT.1, eT_len hT.1, bt]
    refine callO_intro (w108 t.1 hT.1 (kp.get ht)) ?_
    simp only [go_sem, sB, reduceCtorEq, sL, sA, sE, sN, e1]
    exact ih (i + 1) _ _ (by rw [drop_at ht] at hd; injection hd) (by omega) h0
theorem w40 (p : List Tm) (f : Bool) {A : Nat} (hp : PB A p) (kp : PM p) (hl : p.length ≤ 1000000000000) : FnR Go.Proofs.Tryz.prog 40 [eP f p] [] (.i .i64 (degP (-1) p)) := by
  refine fnr40 (by simp) rfl (by simp) List.nodup_nil fun F out hS => ?_
  unfold ir40
  simp only [go_sem, sB, reduceCtorEq, sL, sA, sE, sN, eP, eP_len]
  refine loop40 p f hp kp hl F out _ p 0 _ _ rfl (by omega) (fun nx => ?_)
  simp only [go_sem, sB, reduceCtorEq, sL, sA, sE, sN, rv40, fin_t]
  exact .refl _
def okRow (w : List Int) : Prop := w.length = 8 ∧ ∀ x ∈ w, -1000 ≤ x ∧ x ≤ 1000
def okO (o : List (List Int)) : Prop := ∀ w ∈ o, okRow w
def wdot : List Int → List Int → List Int → Int
  | w :: ws, x :: xs, y :: ys => w * (x - y) + wdot ws xs ys
  | _, _, _ => 0
def ordG : List (List Int) → List Int → List Int → Int
  | [], a, b => cmpL a b
  | w :: o, a, b => if wdot w a b < 0 then -1 else if 0 < wdot w a b then 1 else ordG o a b
def ordC (o : List (List Int)) (a b : List Int) : Int := if a = b then 0 else ordG o a b
theorem cons_at {m : List Int} {i : Nat} (hil : i < m.length) : m.drop i = m.getD i 0 :: m.drop (i + 1) := by
  rw [List.drop_eq_getElem_cons hil]
  simp [List.getD_eq_getElem?_getD, List.getElem?_eq_getElem hil]
theorem okRow_get {w : List Int} (h : okRow w) (i : Nat) : -1000 ≤ w.getD i 0 ∧ w.getD i 0 ≤ 1000 := by
  rw [List.getD_eq_getElem?_getD]
  by_cases hi : i < w.length
  · rw [List.getElem?_eq_getElem hi]
    exact h.2 _ (List.getElem_mem _)
  · rw [List.getElem?_eq_none (by omega)]
    simp
theorem mul_bnd {w x : Int} (h1 : -1000 ≤ w) (h2 : w ≤ 1000) (h3 : -65535 ≤ x) (h4 : x ≤ 65535) : -65535000 ≤ w * x ∧ w * x ≤ 65535000 := by
  have : (w * x).natAbs ≤ 1000 * 65535 := by
    rw [Int.natAbs_mul]
    exact Nat.mul_le_mul (by omega) (by omega)
  omega
theorem loop107a (a b w : List Int) (ha : a.length = 8) (hb : b.length = 8) (ka : a.all okE = true) (kb : b.all okE = true) (hw : okRow w) (dd : D) (nn jj : D) (F : Nat) (out : Sto) (Q : Ex → St → Prop) (z z' : Nat) : ∀ (k i : Nat) (acc : Int) (nx : Nat), i + k = 8 → -(i * 65535000) ≤ acc → acc ≤ i * 65535000 →
    (∀ nx, Q (.exit 2) { r := (upd (upd (upd (upd (upd (upd (upd (upd (upd (fun _ => .u) 23 (.b false)) 22 (.i .i64 8)) 21 (.a (eM w))) 17 (jj)) 16 (nn)) 15 (dd)) 9 (.i .i64 (acc + wdot (w.drop i) (a.drop i) (b.drop i)))) 5 (.p (F, 5) z' 0)) 4 (.p (F, 4) z 0)), own := upd (upd (fun _ => none) 5 (some (z', .box (eM b)))) 4 (some (z, .box (eM a))), out := out, nx := nx }) →
    Loop Go.Proofs.Tryz.prog F [4, 5, 9, 15, 16, 17, 21, 22] [4, 5] b107_0 { r := (upd (upd (upd (upd (upd (upd (upd (upd (fun _ => .u) 22 (.i .i64 i)) 21 (.a (eM w))) 17 (jj)) 16 (nn)) 15 (dd)) 9 (.i .i64 acc)) 5 (.p (F, 5) z' 0)) 4 (.p (F, 4) z 0)), own := upd (upd (fun _ => none) 5 (some (z', .box (eM b)))) 4 (some (z, .box (eM a))), out := out, nx := nx } Q := by
  intro k
  induction k with
  | zero =>
    intro i acc nx hi h1 h2 h0
    refine Loop.stepW ?_
    have : i = 8 := by omega
    subst this
    have c1 : decide (((8 : Nat) : Int) < 8) = false := by decide
    have hd : wdot (w.drop 8) (a.drop 8) (b.drop 8) = 0 := by
      rw [List.drop_eq_nil_iff.2 (show w.length ≤ 8 by rw [hw.1]; omega)]
      rfl
    rw [hd, Int.add_zero] at h0
    simp only [go_sem, sB, reduceCtorEq, sL, sA, sE, sN, wb107_0, c1]
    exact h0 _
  | succ k ih =>
    intro i acc nx hi h1 h2 h0
    refine Loop.stepW ?_
    have hi8 : i < 8 := by omega
    have c1 : decide (((i : Nat) : Int) < 8) = true := decide_eq_true (by omega)
    have hia : i < a.length := by omega
    have hib : i < b.length := by omega
    have hiw : i < w.length := by have := hw.1; omega
    rw [cons_at hia, cons_at hib, cons_at hiw] at h0
    simp only [wdot, ← Int.add_assoc] at h0
    have e1 : IntKind.wrap .i64 (((i : Nat) : Int) + 1) = ((i + 1 : Nat) : Int) := by rw [IntWalk.i64_in _ (by omega)]; omega
    have hx := ixvO_m w 8 i .i64 (by omega) hiw
    have hxa : boxC (some (z, .box (eM a))) z i 1 = some [.i .i64 (a.getD i 0)] := by rw [boxC_s _ _ _ _ (by rw [eM_len]; omega), eM_cell hia]
    have hxb : boxC (some (z', .box (eM b))) z' i 1 = some [.i .i64 (b.getD i 0)] := by rw [boxC_s _ _ _ _ (by rw [eM_len]; omega), eM_cell hib]
    have q1 := okE_get ka i
    have q2 := okE_get kb i
    have q3 := okRow_get hw i
    generalize a.getD i 0 = x at *
    generalize b.getD i 0 = y at *
    generalize w.getD i 0 = v at *
    have q4 := mul_bnd q3.1 q3.2 (show -65535 ≤ x - y by omega) (by omega)
    have e2 : IntKind.wrap .i64 (x - y) = x - y := IntWalk.i64_in _ (by omega)
    have e3 : IntKind.wrap .i64 (v * (x - y)) = v * (x - y) := IntWalk.i64_in _ (by omega)
    have e4 : IntKind.wrap .i64 (acc + v * (x - y)) = acc + v * (x - y) := IntWalk.i64_in _ (by omega)
    simp only [go_sem, sB, reduceCtorEq, sL, sA, sE, sN, wb107_0, c1, hx, ixaO_p _ _ _ _ _ _ _ hi8, Nat.mul_one, hxa, hxb, e1, e2, e3, e4]
    exact ih (i + 1) _ _ (by omega) (by omega) (by omega) h0
theorem loop107b (a b : List Int) (o : List (List Int)) (f : Bool) (ha : a.length = 8) (hb : b.length = 8) (ka : a.all okE = true) (kb : b.all okE = true) (ho : okO o) (hl : o.length ≤ 1000000000000) (F : Nat) (out : Sto) (Q : Ex → St → Prop) (z z' : Nat) :
    ∀ (l : List (List Int)) (i : Nat) (nx : Nat), o.drop i = l → i + l.length = o.length →
    (∀ nx, ordG l a b = cmpL a b → Q (.exit 0) { r := (upd (upd (upd (upd (upd (upd (fun _ => .u) 18 (.b false)) 17 (.i .i64 o.length)) 16 (.i .i64 o.length)) 15 (.sl 8 f (o.map eM))) 5 (.p (F, 5) z' 0)) 4 (.p (F, 4) z 0)), own := upd (upd (fun _ => none) 5 (some (z', .box (eM b)))) 4 (some (z, .box (eM a))), out := out, nx := nx }) →
    (∀ nx, Q .ret { r := (upd (fun _ => .u) 6 (.i .i64 (ordG l a b))), own := fun _ => none, out := out, nx := nx }) →
    Loop Go.Proofs.Tryz.prog F [4, 5, 15, 16, 17] [4, 5] b107_1 { r := (upd (upd (upd (upd (upd (fun _ => .u) 17 (.i .i64 i)) 16 (.i .i64 o.length)) 15 (.sl 8 f (o.map eM))) 5 (.p (F, 5) z' 0)) 4 (.p (F, 4) z 0)), own := upd (upd (fun _ => none) 5 (some (z', .box (eM b)))) 4 (some (z, .box (eM a))), out := out, nx := nx } Q := by
  intro l
  induction l with
  | nil =>
    intro i nx hd hi h0 h1
    refine Loop.stepW ?_
    have ei : i = o.length := by simpa using hi
    subst ei
    have c1 : decide (((o.length : Nat) : Int) < ((o.length : Nat) : Int)) = false := by simp
    simp only [go_sem, sB, reduceCtorEq, sL, sA, sE, sN, wb107_1, c1]
    exact h0 _ rfl
  | cons w l ih =>
    intro i nx hd hi h0 h1
    refine Loop.stepW ?_
    simp only [List.length_cons] at hi
    have ht : o[i]? = some w := by
      have := List.getElem?_drop (xs := o) (i := i) (j := 0)
      rw [hd] at this
      simpa using this.symm
    have hw := ho w (List.mem_of_getElem? ht)
    have e1 : IntKind.wrap .i64 (((i : Nat) : Int) + 1) = ((i + 1 : Nat) : Int) := by rw [IntWalk.i64_in _ (by omega)]; omega
    have c1 : decide (((i : Nat) : Int) < ((o.length : Nat) : Int)) = true := decide_eq_true (by omega)
    have hxp := ixsO_sl 8 f (o.map eM) .i64 i (eM w) (by rw [List.getElem?_map, ht]; rfl)
    have bw : ∀ z, boxC (some (z, .box (eM w))) z 0 8 = some (eM w) := fun z => by rw [boxC_s _ _ _ _ (by rw [len8 hw.1]; decide), List.drop_zero, take8 hw.1]
    simp only [go_sem, sB, reduceCtorEq, sL, sA, sE, sN, wb107_1, c1, hxp, take8 hw.1, len8 hw.1, bw]
    refine loop107a a b w ha hb ka kb hw _ _ _ F out _ _ _ 8 0 0 _ (by omega) (by omega) (by omega) (fun nx => ?_)
    simp only [List.drop_zero, Int.zero_add]
    simp only [ordG] at h0 h1
    by_cases g1 : wdot w a b < 0
    · simp only [if_pos g1] at h1
      simp only [go_sem, sB, reduceCtorEq, sL, sA, sE, sN, decide_eq_true g1]
      exact h1 _
    · by_cases g2 : 0 < wdot w a b
      · simp only [if_neg g1, if_pos g2] at h1
        simp only [go_sem, sB, reduceCtorEq, sL, sA, sE, sN, decide_eq_false g1, decide_eq_true (show wdot w a b > 0 from g2)]
        exact h1 _
      · simp only [if_neg g1, if_neg g2] at h0 h1
        simp only [go_sem, sB, reduceCtorEq, sL, sA, sE, sN, decide_eq_false g1, decide_eq_false (show ¬ wdot w a b > 0 from g2), e1]
        exact ih (i + 1) _ (by rw [drop_at ht] at hd; injection hd) (by omega) h0 h1
theorem w107 (o : List (List Int)) (f : Bool) (a b : List Int) (ha : a.length = 8) (hb : b.length = 8) (ka : a.all okE = true) (kb : b.all okE = true) (ho : okO o) (hl : o.length ≤ 1000000000000) :
    FnR Go.Proofs.Tryz.prog 107 [.sl 8 f (o.map eM), .a (eM a), .a (eM b)] [] (.i .i64 (ordC o a b)) := by
  refine fnr107 (by simp) rfl (by simp) List.nodup_nil fun F out hS => ?_
  unfold ir107 ordC
  have ba : ∀ z, boxC (some (z, .box (eM a))) z 0 8 = some (eM a) := fun z => by rw [boxC_s _ _ _ _ (by rw [len8 ha]; decide), List.drop_zero, take8 ha]
  have bb : ∀ z, boxC (some (z, .box (eM b))) z 0 8 = some (eM b) := fun z => by rw [boxC_s _ _ _ _ (by rw [len8 hb]; decide), List.drop_zero, take8 hb]
  by_cases h : a = b
  · rw [if_pos h]
    simp only [go_sem, sB, reduceCtorEq, sL, sA, sE, sN, ba, bb, eqMf ha hb, decide_eq_true h, rv107, fin_t]
    exact .refl _
  · rw [if_neg h]
    simp only [go_sem, sB, reduceCtorEq, sL, sA, sE, sN, ba, bb, eqMf ha hb, decide_eq_false h, List.length_map]
    refine loop107b a b o f ha hb ka kb ho hl F out _ _ _ o 0 _ rfl (by omega) (fun nx hn => ?_) (fun nx => ?_)
    · simp only [go_sem, sB, reduceCtorEq, sL, sA, sE, sN, ba, bb]
      refine callO_intro (w70 a b ha hb) ?_
      simp only [go_sem, sB, reduceCtorEq, sL, sA, sE, sN, rv107, fin_t, hn]
      exact .refl _
    · simp only [go_sem, sB, reduceCtorEq, sL, sA, sE, sN, rv107, fin_t]
      exact .refl _
theorem w106 (o : List (List Int)) (f : Bool) (t u : Tm) (ht : t.1.length = 8) (hu : u.1.length = 8) (kt : t.1.all okE = true) (ku : u.1.all okE = true) (ho : okO o) (hl : o.length ≤ 1000000000000) :
    FnR Go.Proofs.Tryz.prog 106 [.a (eT t), .a (eT u), .q [.sl 8 f (o.map eM)]] [] (.i .i64 (ordC o t.1 u.1)) := by
  refine fnr106 (by simp) rfl (by simp) List.nodup_nil fun F out hS => ?_
  have bt : ∀ z, boxC (some (z, .box (eT t))) z 4 8 = some (eM t.1) := fun z => by rw [boxC_s _ _ _ _ (by rw [eT_len ht]; decide), dropT, take8 ht]
  have bu : ∀ z, boxC (some (z, .box (eT u))) z 4 8 = some (eM u.1) := fun z => by rw [boxC_s _ _ _ _ (by rw [eT_len hu]; decide), dropT, take8 hu]
  unfold ir106
  simp only [go_sem, sB, reduceCtorEq, sL, sA, sE, sN, bt, bu]
  refine callO_intro (w107 o f t.1 u.1 ht hu kt ku ho hl) ?_
  simp only [go_sem, sB, reduceCtorEq, sL, sA, sE, sN, rv106, fin_t]
  exact .refl _
def leadP (o : List (List Int)) : Tm → List Tm → Tm
  | t, [] => t
  | t, u :: p => leadP o (if 0 < ordC o u.1 t.1 then u else t) p
theorem loop105 (o : List (List Int)) (p : List Tm) (f g : Bool) {A : Nat} (hp : PB A p) (kp : PM p) (ho : okO o) (hlo : o.length ≤ 1000000000000) (hl : p.length ≤ 1000000000000) (F : Nat) (out : Sto) (Q : Ex → St → Prop) (z z' : Nat) (zs : List D) :
    ∀ (l : List Tm) (i : Nat) (t : Tm) (nx : Nat), p.drop i = l → i + l.length = p.length → t.1.length = 8 → t.1.all okE = true →
    (∀ nx, Q (.exit 0) { r := (upd (upd (upd (upd (upd (upd (fun _ => .u) 17 (.b false)) 6 (.i .i64 p.length)) 5 (.p (F, 5) z' 0)) 4 (.p (F, 4) z 0)) 1 (.f 106 [] [.q [.sl 8 f (o.map eM)]])) 0 (eP g p)), own := upd (upd (fun _ => none) 5 (some (z', .box (eT (leadP o t l))))) 4 (some (z, .box zs)), out := out, nx := nx }) →
    Loop Go.Proofs.Tryz.prog F [0, 1, 4, 5, 6] [4, 5] b105_0 { r := (upd (upd (upd (upd (upd (fun _ => .u) 6 (.i .i64 i)) 5 (.p (F, 5) z' 0)) 4 (.p (F, 4) z 0)) 1 (.f 106 [] [.q [.sl 8 f (o.map eM)]])) 0 (eP g p)), own := upd (upd (fun _ => none) 5 (some (z', .box (eT t)))) 4 (some (z, .box zs)), out := out, nx := nx } Q := by
  intro l
  induction l with
  | nil =>
    intro i t nx hd hi ht kt h0
    refine Loop.stepW ?_
    have ei : i = p.length := by simpa using hi
    subst ei
    have c1 : decide (((p.length : Nat) : Int) < ((p.length : Nat) : Int)) = false := by simp
    simp only [go_sem, sB, reduceCtorEq, sL, sA, sE, sN, wb105_0, eP, eP_len, c1]
    exact h0 _
  | cons u l ih =>
    intro i t nx hd hi ht kt h0
    refine Loop.stepW ?_
    simp only [List.length_cons] at hi
    have hu : p[i]? = some u := by
      have := List.getElem?_drop (xs := p) (i := i) (j := 0)
      rw [hd] at this
      simpa using this.symm
    have e1 : IntKind.wrap .i64 (((i : Nat) : Int) + 1) = ((i + 1 : Nat) : Int) := by rw [IntWalk.i64_in _ (by omega)]; omega
    have c1 : decide (((i : Nat) : Int) < ((p.length : Nat) : Int)) = true := decide_eq_true (by omega)
    have hU := hp.get hu
    have hxp := ixsO_sl 12 g _ .i64 i _ (eP_at hu)
    have bt : ∀ z, boxC (some (z, .box (eT t))) z 0 12 = some (eT t) := fun z => by rw [boxC_s _ _ _ _ (by rw [eT_len ht]; decide), List.drop_zero, takeT ht]
    have d12 : (eT t).drop 12 = [] := List.drop_of_length_le (by rw [eT_len ht]; omega)
    simp only [go_sem, sB, reduceCtorEq, sL, sA, sE, sN, wb105_0, eP_len, eP, c1, hxp, takeT hU.1, eT_len hU.1, bt]
    refine callO_intro (w106 o f u t hU.1 ht (kp.get hu) kt ho hlo) ?_
    by_cases hg : 0 < ordC o u.1 t.1
    · have e : leadP o t (u :: l) = leadP o u l := by simp only [leadP, if_pos hg]
      rw [e] at h0
      simp only [go_sem, sB, reduceCtorEq, sL, sA, sE, sN, decide_eq_true (show ordC o u.1 t.1 > 0 from hg), hxp, takeT hU.1, eT_len hU.1, eT_len ht, e1, d12]
      exact ih (i + 1) u _ (by rw [drop_at hu] at hd; injection hd) (by omega) hU.1 (kp.get hu) h0
    · have e : leadP o t (u :: l) = leadP o t l := by simp only [leadP, if_neg hg]
      rw [e] at h0
      simp only [go_sem, sB, reduceCtorEq, sL, sA, sE, sN, decide_eq_false (show ¬ ordC o u.1 t.1 > 0 from hg), e1]
      exact ih (i + 1) t _ (by rw [drop_at hu] at hd; injection hd) (by omega) ht kt h0
theorem lead_ok {o : List (List Int)} : ∀ (p : List Tm) (t : Tm), t.1.length = 8 → (∀ u ∈ p, u.1.length = 8) → (leadP o t p).1.length = 8
  | [], t, h, _ => h
  | u :: p, t, h, hp => by
    simp only [leadP]
    exact lead_ok p _ (by split; · exact hp u (by simp)
                          · exact h) (fun v hv => hp v (by simp [hv]))
theorem w105 (o : List (List Int)) (t : Tm) (p : List Tm) (f g : Bool) {A : Nat} (hp : PB A (t :: p)) (kp : PM (t :: p)) (ho : okO o) (hlo : o.length ≤ 1000000000000) (hl : (t :: p).length ≤ 1000000000000) :
    FnR Go.Proofs.Tryz.prog 105 [eP g (t :: p), .f 106 [] [.q [.sl 8 f (o.map eM)]]] [] (.a (eT (leadP o t p))) := by
  refine fnr105 (by simp) (by simp only [D.nr]; exact nrL_eT _) (by simp) List.nodup_nil fun F out hS => ?_
  have ht := hp.head.1
  have hT : (leadP o t p).1.length = 8 := lead_ok p t ht hp.tail.len
  have c1 : decide (((p.length + 1 : Nat) : Int) < 1) = false := decide_eq_false (by omega)
  have hx : ixsO 12 (.sl 12 g (eT t :: p.map eT)) (.i .i64 0) = some (.q (eT t)) := ixsO_sl 12 g _ .i64 0 _ rfl
  have bt : ∀ z, boxC (some (z, .box (eT (leadP o t p)))) z 0 12 = some (eT (leadP o t p)) := fun z => by rw [boxC_s _ _ _ _ (by rw [eT_len hT]; decide), List.drop_zero, takeT hT]
  unfold ir105
  simp only [go_sem, sB, reduceCtorEq, sL, sA, sE, sN, eP, eP_len, c1, hx, takeT ht, eT_len ht]
  have := loop105 o (t :: p) f g hp kp ho hlo hl F out
  refine this _ _ _ _ p 1 t _ rfl (by simp; omega) ht kp.head (fun nx => ?_)
  simp only [go_sem, sB, reduceCtorEq, sL, sA, sE, sN, bt, eT_len hT, rv105, fin_c]
  exact ⟨_, rfl, .refl _⟩
theorem w38_0 (o : List (List Int)) (f g : Bool) : FnR Go.Proofs.Tryz.prog 38 [eP g [], .sl 8 f (o.map eM)] [] (.t [.a [.b false, .sl 1 true [], .b false, .sl 1 true [], .i .i64 0, .i .i64 0, .i .i64 0, .i .i64 0, .i .i64 0, .i .i64 0, .i .i64 0, .i .i64 0], .b false]) := by
  refine fnr38 (by simp) rfl (by simp) List.nodup_nil fun F out hS => ?_
  unfold ir38
  have c1 : (((0 : Nat) : Int) == 0) = true := rfl
  simp only [go_sem, sB, reduceCtorEq, sL, sA, sE, sN, eP, eP_len, c1, rv38, fin_g, resAll, resL, resD, mkV]
  exact ⟨_, rfl, .refl _⟩
theorem w38 (o : List (List Int)) (t : Tm) (p : List Tm) (f g : Bool) {A : Nat} (hp : PB A (t :: p)) (kp : PM (t :: p)) (ho : okO o) (hlo : o.length ≤ 1000000000000) (hl : (t :: p).length ≤ 1000000000000) :
    FnR Go.Proofs.Tryz.prog 38 [eP g (t :: p), .sl 8 f (o.map eM)] [] (.t [.a (eT (leadP o t p)), .b true]) := by
  refine fnr38 (by simp) (by simp only [D.nr, nrL, Bool.and_true]; exact nrL_eT _) (by simp) List.nodup_nil fun F out hS => ?_
  have hT : (leadP o t p).1.length = 8 := lead_ok p t hp.head.1 hp.tail.len
  have d12 : (eT (leadP o t p)).drop 12 = [] := List.drop_of_length_le (by rw [eT_len hT]; omega)
  have c1 : (((p.length + 1 : Nat) : Int) == 0) = false := by rw [beq_eq_false_iff_ne]; omega
  unfold ir38
  simp only [go_sem, sB, reduceCtorEq, sL, sA, sE, sN, eP, eP_len, c1, frzW_p, frzB_s]
  refine callO_intro (w105 o t p f g hp kp ho hlo hl) ?_
  simp only [go_sem, sB, reduceCtorEq, sL, sA, sE, sN, eT_len hT, d12, takeT hT, rv38, fin_g, resAll, resL, resD, mkV]
  exact ⟨_, rfl, .refl _⟩
theorem appO_R0 {F : Nat} {S : List Nat} {s sz bytes : Nat} {st : St} {d : D} {es : List (List D)} {K : St → Prop} (h : RowD F S st.own d sz es) (hK : K (st.put (some s) d)) : @appO F sz bytes s st d (some []) ⟨K⟩ := by
  rcases h with ⟨rfl, rfl⟩ | ⟨s', z, h1, rfl, h3⟩
  · simp only [appO]; exact ⟨trivial, hK⟩
  · have hlk : st.look F (F, s') = some (z, .row sz es) := by simp [St.look, h3]
    simp only [appO, hlk]
    exact ⟨trivial, trivial, trivial, trivial, trivial, hK⟩
theorem slc1 (f : Bool) (e : List D) (es : List (List D)) : slcO 12 (.sl 12 f (e :: es)) (some (.i .i64 1)) none none = some (.sl 12 f es) := by
  have := slcO_l (sz := 12) (f := f) (es := e :: es) (k := .i64) (n := 1) (by simp)
  simpa using this
theorem ix0 (f : Bool) (e : List D) (es : List (List D)) : ixsO 12 (.sl 12 f (e :: es)) (.i .i64 0) = some (.q e) := ixsO_sl 12 f _ .i64 0 _ rfl
theorem gt0 (n : Nat) : decide (((n + 1 : Nat) : Int) > 0) = true := decide_eq_true (by omega)
theorem ngt0 : decide (((0 : Nat) : Int) > 0) = false := by decide
abbrev S79 : List Nat := [19, 58, 71, 90, 95, 111]
theorem loop79a (F1 F2 : Nat) (fb : Rat → Rat → Rat) (fo : Rat → Rat) {A : Nat} (hb : ∀ x y, LQ x ≤ A → LQ y ≤ A → FnR Go.Proofs.Tryz.prog F1 [rW x, rW y] [] (rW (fb x y))) (ho : ∀ y, LQ y ≤ A → FnR Go.Proofs.Tryz.prog F2 [rW y] [] (rW (fo y))) (f g : Bool) (F : Nat) (out : Sto) (Q : Ex → St → Prop) :
    ∀ (n : Nat) (p q res : List Tm) (d : D) (own : Nat → Option (Nat × Obj)) (nx : Nat), p.length + q.length ≤ n → PB A p → PB A q → res.length + p.length + q.length ≤ 1000000000000 → RowD F S79 own d 12 (res.map eT) → OwnB own nx →
    (∀ p' q' res' d own nx x, (p' = [] ∨ q' = []) → res ++ mrg fb fo n p q = res' ++ p' ++ q'.map (fun t => (t.1, fo t.2)) → PB A p' → PB A q' → res'.length + p'.length + q'.length ≤ 1000000000000 → RowD F S79 own d 12 (res'.map eT) → OwnB own nx →
      Q (.exit 0) { r := (upd (upd (upd (upd (upd (upd (fun _ => .u) 27 (x)) 9 (d)) 3 (.f F2 [] [])) 2 (.f F1 [] [])) 1 (eP g q')) 0 (eP f p')), own := own, out := out, nx := nx }) →
    Loop Go.Proofs.Tryz.prog F [0, 1, 2, 3, 9] [19, 58, 71, 90, 95, 111] b79_0 { r := (upd (upd (upd (upd (upd (fun _ => .u) 9 (d)) 3 (.f F2 [] [])) 2 (.f F1 [] [])) 1 (eP g q)) 0 (eP f p)), own := own, out := out, nx := nx } Q := by
  have tail1 : ∀ n (q : List Tm), q.length ≤ n → mrg fb fo n [] q = q.map (fun t => (t.1, fo t.2)) := by
    intro n
    induction n with
    | zero => intro q h; have : q = [] := List.length_eq_zero_iff.1 (by omega); subst this; rfl
    | succ n ih =>
      intro q h
      cases q with
      | nil => rfl
      | cons b q => simp only [mrg, List.map_cons]; rw [ih q (by simp at h; omega)]
  have tail2 : ∀ n (p : List Tm), p.length ≤ n → mrg fb fo n p [] = p := by
    intro n
    induction n with
    | zero => intro q h; have : q = [] := List.length_eq_zero_iff.1 (by omega); subst this; rfl
    | succ n ih =>
      intro q h
      cases q with
      | nil => rfl
      | cons b q => simp only [mrg]; rw [ih q (by simp at h; omega)]
  intro n
  induction n with
  | zero =>
    intro p q res d own nx hn hp hq hl hR hO h0
    have e1 : p = [] := List.length_eq_zero_iff.1 (by omega)
    have e2 : q = [] := List.length_eq_zero_iff.1 (by omega)
    subst e1 e2
    refine Loop.stepW ?_
    simp only [go_sem, sB, reduceCtorEq, sL, sA, sE, sN, wb79_0, eP, ngt0]
    refine h0 [] [] res _ _ _ _ (.inl rfl) (by simp [mrg]) hp hq hl (hR.on (by simp [upd])) ?_
    repeat' first | exact OwnB.none _ | refine OwnB.updn ?_ (by first | omega | (dsimp only; omega)) | refine OwnB.upd0 ?_ | refine OwnB.updv (own := own) ?_ (hO.mono (by first | omega | (dsimp only; omega)))
  | succ n ih =>
    intro p q res d own nx hn hp hq hl hR hO h0
    refine Loop.stepW ?_
    cases p with
    | nil =>
      simp only [go_sem, sB, reduceCtorEq, sL, sA, sE, sN, wb79_0, eP, ngt0]
      refine h0 [] q res _ _ _ _ (.inl rfl) (by rw [tail1 _ _ (by simpa using hn), List.append_nil]) hp hq hl (hR.on (by simp [upd])) ?_
      repeat' first | exact OwnB.none _ | refine OwnB.updn ?_ (by first | omega | (dsimp only; omega)) | refine OwnB.upd0 ?_ | refine OwnB.updv (own := own) ?_ (hO.mono (by first | omega | (dsimp only; omega)))
    | cons t p =>
      cases q with
      | nil =>
        simp only [go_sem, sB, reduceCtorEq, sL, sA, sE, sN, wb79_0, eP, ngt0, gt0]
        refine h0 (t :: p) [] res _ _ _ _ (.inr rfl) (by rw [tail2 _ _ (by simpa using hn), List.map_nil, List.append_nil]) hp hq hl (hR.on (by simp [upd])) ?_
        repeat' first | exact OwnB.none _ | refine OwnB.updn ?_ (by first | omega | (dsimp only; omega)) | refine OwnB.upd0 ?_ | refine OwnB.updv (own := own) ?_ (hO.mono (by first | omega | (dsimp only; omega)))
      | cons u q =>
        have hT := hp.head
        have hU := hq.head
        simp only [List.length_cons] at hn hl
        have hO' : ∀ m, nx ≤ m → OwnB (upd (upd (upd (upd (upd (upd (fun _ => none) 111 (own 111)) 95 (own 95)) 90 (own 90)) 71 (own 71)) 58 (own 58)) 19 (own 19)) m := by
          intro m hm
          repeat' first | exact OwnB.none _ | refine OwnB.updv (own := own) ?_ (hO.mono (by first | omega | (dsimp only; omega)))
        simp only [go_sem, sB, reduceCtorEq, sL, sA, sE, sN, wb79_0, eP, gt0, ix0, dropT, take8 hT.1, take8 hU.1, len8 hT.1, len8 hU.1]
        refine callO_intro (w70 _ _ hT.1 hU.1) ?_
        by_cases g1 : 0 < cmpL t.1 u.1
        · simp only [mrg, if_pos g1] at h0
          simp only [go_sem, sB, reduceCtorEq, sL, sA, sE, sN, decide_eq_true (show cmpL t.1 u.1 > 0 from g1), ix0, takeT hT.1, eT_len hT.1, slc1]
          refine appO_R (S := S79) (es := res.map eT) (hR.on (by simp [upd])) (hO' _ (by dsimp only; omega)) (by simp) (by simp; omega) (by simp; omega) (fun own' hb hoth hs => ?_)
          simp only [go_sem, sB, reduceCtorEq, sL, sA, sE, sN, slc1, map_app1]
          refine ih p (u :: q) (res ++ [t]) _ _ _ (by simp only [List.length_cons]; omega) hp.tail hq (by simp; omega) (by rw [← map_app1]; exact .at (by simp) hs (by simp)) ?_ (fun p' q' res' d own nx x e1 e2 => h0 p' q' res' d own nx x e1 (by rw [← e2, app_assoc1]))
          repeat' first | exact OwnB.none _ | refine OwnB.updv (own := own') ?_ (hb.mono (by first | omega | (dsimp only; omega)))
        · by_cases g2 : cmpL t.1 u.1 < 0
          · simp only [mrg, if_neg g1, if_pos g2] at h0
            have hu2 : (eT (u.1, fo u.2)).length = 12 := eT_len (t := (u.1, fo u.2)) hU.1
            simp only [go_sem, sB, reduceCtorEq, sL, sA, sE, sN, decide_eq_false (show ¬ cmpL t.1 u.1 > 0 from g1), decide_eq_true g2, ix0, takeT4, eT_len hU.1]
            refine callO_intro (ho u.2 hU.2) ?_
            simp only [go_sem, sB, reduceCtorEq, sL, sA, sE, sN, ix0, rW_C, rC_len, dropT, take8 hU.1, len8 hU.1, z8, fillT2 _ _ hU.1, hu2]
            refine appO_R (S := S79) (es := res.map eT) (hR.on (by simp [upd])) (hO' _ (by dsimp only; omega)) (by simp) (by simp; omega) (by simp; omega) (fun own' hb hoth hs => ?_)
            simp only [go_sem, sB, reduceCtorEq, sL, sA, sE, sN, slc1, map_app1]
            refine ih (t :: p) q (res ++ [(u.1, fo u.2)]) _ _ _ (by simp only [List.length_cons]; omega) hp hq.tail (by simp; omega) (by rw [← map_app1]; exact .at (by simp) hs (by simp)) ?_ (fun p' q' res' d own nx x e1 e2 => h0 p' q' res' d own nx x e1 (by rw [← e2, app_assoc1]))
            repeat' first | exact OwnB.none _ | refine OwnB.updv (own := own') ?_ (hb.mono (by first | omega | (dsimp only; omega)))
          · simp only [mrg, if_neg g1, if_neg g2] at h0
            simp only [go_sem, sB, reduceCtorEq, sL, sA, sE, sN, decide_eq_false (show ¬ cmpL t.1 u.1 > 0 from g1), decide_eq_false g2, ix0, takeT4, eT_len hT.1, eT_len hU.1]
            refine callO_intro (hb t.2 u.2 hT.2 hU.2) ?_
            simp only [go_sem, sB, reduceCtorEq, sL, sA, sE, sN, rW_C, rC_len, takeC]
            refine callO_intro (q68 (fb t.2 u.2)) ?_
            by_cases g3 : fb t.2 u.2 = 0
            · simp only [if_pos g3] at h0
              have g4 : ((fb t.2 u.2).num.sign != 0) = false := by rw [bne, sgn0 g3]; rfl
              simp only [go_sem, sB, reduceCtorEq, sL, sA, sE, sN, g4, slc1]
              refine ih p q res _ _ _ (by omega) hp.tail hq.tail (by omega) (hR.on (by simp [upd])) (hO' _ (by omega)) h0
            · simp only [if_neg g3] at h0
              have g4 : ((fb t.2 u.2).num.sign != 0) = true := by rw [bne, sgn1 g3]; rfl
              have hu2 : (eT (t.1, fb t.2 u.2)).length = 12 := eT_len (t := (t.1, fb t.2 u.2)) hT.1
              simp only [go_sem, sB, reduceCtorEq, sL, sA, sE, sN, g4, ix0, dropT, take8 hT.1, len8 hT.1, takeC, rC_len, z8, fillT2 _ _ hT.1, hu2]
              refine appO_R (S := S79) (es := res.map eT) (hR.on (by simp [upd])) (by dsimp only; exact (hO' _ (by omega)).updn (by omega)) (by simp) (by simp; omega) (by simp; omega) (fun own' hb hoth hs => ?_)
              simp only [go_sem, sB, reduceCtorEq, sL, sA, sE, sN, slc1, map_app1]
              refine ih p q (res ++ [(t.1, fb t.2 u.2)]) _ _ _ (by omega) hp.tail hq.tail (by simp; omega) (by rw [← map_app1]; exact .at (by simp) hs (by simp)) ?_ (fun p' q' res' d own nx x e1 e2 => h0 p' q' res' d own nx x e1 (by rw [← e2, app_assoc1]))
              repeat' first | exact OwnB.none _ | refine OwnB.updv (own := own') ?_ (hb.mono (by first | omega | (dsimp only; omega)))
theorem loop79b (F2 : Nat) (fo : Rat → Rat) {A : Nat} (ho : ∀ y, LQ y ≤ A → FnR Go.Proofs.Tryz.prog F2 [rW y] [] (rW (fo y))) (q : List Tm) (g : Bool) (hq : PB A q) (hql : q.length ≤ 1000000000000) (F : Nat) (out : Sto) (Q : Ex → St → Prop) :
    ∀ (l : List Tm) (i : Nat) (res : List Tm) (d : D) (own : Nat → Option (Nat × Obj)) (nx : Nat), q.drop i = l → i + l.length = q.length → res.length + l.length ≤ 1000000000000 → RowD F S79 own d 12 (res.map eT) → OwnB own nx →
    (∀ r d own nx, r 9 = d → RowD F S79 own d 12 ((res ++ l.map (fun t => (t.1, fo t.2))).map eT) → Q (.exit 3) { r := r, own := own, out := out, nx := nx }) →
    Loop Go.Proofs.Tryz.prog F [3, 9, 96, 97, 98] [19, 58, 71, 90, 95, 111] b79_1 { r := (upd (upd (upd (upd (upd (fun _ => .u) 98 (.i .i64 i)) 97 (.i .i64 q.length)) 96 (eP g q)) 9 (d)) 3 (.f F2 [] [])), own := own, out := out, nx := nx } Q := by
  intro l
  induction l with
  | nil =>
    intro i res d own nx hd hi hl hR hO h0
    refine Loop.stepW ?_
    have ei : i = q.length := by simpa using hi
    subst ei
    have c1 : decide (((q.length : Nat) : Int) < ((q.length : Nat) : Int)) = false := by simp
    simp only [go_sem, sB, reduceCtorEq, sL, sA, sE, sN, wb79_1, eP, c1]
    refine h0 _ d _ _ rfl ?_
    rw [List.map_nil, List.append_nil]
    exact hR.on (by simp [upd])
  | cons u l ih =>
    intro i res d own nx hd hi hl hR hO h0
    refine Loop.stepW ?_
    simp only [List.length_cons] at hi
    have hu : q[i]? = some u := by
      have := List.getElem?_drop (xs := q) (i := i) (j := 0)
      rw [hd] at this
      simpa using this.symm
    simp only [List.length_cons] at hl
    have e1 : IntKind.wrap .i64 (((i : Nat) : Int) + 1) = ((i + 1 : Nat) : Int) := by rw [IntWalk.i64_in _ (by omega)]; omega
    have hU := hq.get hu
    have c1 : decide (((i : Nat) : Int) < ((q.length : Nat) : Int)) = true := decide_eq_true (by omega)
    have hxq := ixsO_sl 12 g _ .i64 i _ (eP_at hu)
    have bt : ∀ z, boxC (some (z, .box (eT u))) z 4 8 = some (eM u.1) := fun z => by rw [boxC_s _ _ _ _ (by rw [eT_len hU.1]; decide), dropT, take8 hU.1]
    have bt' : ∀ z, boxC (some (z, .box (eT u))) z 0 4 = some (rC u.2) := fun z => by rw [boxC_s _ _ _ _ (by rw [eT_len hU.1]; decide), List.drop_zero, takeT4]
    have hu2 : (eT (u.1, fo u.2)).length = 12 := eT_len (t := (u.1, fo u.2)) hU.1
    simp only [go_sem, sB, reduceCtorEq, sL, sA, sE, sN, wb79_1, eP_len, eP, c1, hxq, takeT hU.1, eT_len hU.1, bt']
    refine callO_intro (ho u.2 hU.2) ?_
    simp only [go_sem, sB, reduceCtorEq, sL, sA, sE, sN, rW_C, rC_len, bt, len8 hU.1, z8, fillT2 _ _ hU.1, hu2]
    refine appO_R (S := S79) (es := res.map eT) (hR.on (by simp [upd])) ?_ (by simp) (by simp; omega) (by simp; omega) (fun own' hb hoth hs => ?_)
    · dsimp only
      repeat' first | exact OwnB.none _ | refine OwnB.updn ?_ (by first | omega | (dsimp only; omega)) | refine OwnB.updv (own := own) ?_ (hO.mono (by first | omega | (dsimp only; omega)))
    · simp only [go_sem, sB, reduceCtorEq, sL, sA, sE, sN, e1, map_app1]
      refine ih (i + 1) (res ++ [(u.1, fo u.2)]) _ _ _ (by rw [drop_at hu] at hd; injection hd) (by omega) (by simp; omega) (by rw [← map_app1]; exact .at (by simp) hs (by simp)) ?_ (fun r d own nx e1 e2 => h0 r d own nx e1 (by simpa only [List.map_cons, app_assoc1] using e2))
      repeat' first | exact OwnB.none _ | refine OwnB.updv (own := own') ?_ (hb.mono (by first | omega | (dsimp only; omega)))
def mrgP (f : Rat → Rat → Rat) (g : Rat → Rat) (p q : List Tm) : List Tm := mrg f g (p.length + q.length) p q
theorem w79 (F1 F2 : Nat) (fb : Rat → Rat → Rat) (fo : Rat → Rat) {A : Nat} (hb : ∀ x y, LQ x ≤ A → LQ y ≤ A → FnR Go.Proofs.Tryz.prog F1 [rW x, rW y] [] (rW (fb x y))) (ho : ∀ y, LQ y ≤ A → FnR Go.Proofs.Tryz.prog F2 [rW y] [] (rW (fo y)))
    (p q : List Tm) (f g : Bool) (hp : PB A p) (hq : PB A q) (hl : p.length + q.length ≤ 1000000000000) :
    FnR Go.Proofs.Tryz.prog 79 [eP f p, eP g q, .f F1 [] [], .f F2 [] []] [] (eP false (mrgP fb fo p q)) := by
  refine fnr79 (by simp) (nr_eP _ _) (by simp) List.nodup_nil fun F out hS => ?_
  have e1 : IntKind.wrap .i64 (((p.length : Nat) : Int) + ((q.length : Nat) : Int)) = ((p.length + q.length : Nat) : Int) := by rw [IntWalk.i64_in _ (by omega)]; omega
  unfold ir79
  simp only [go_sem, sB, reduceCtorEq, sL, sA, sE, sN, eP, eP_len, e1]
  refine mkO_intro (n := 0) (by omega) (by omega) (by omega) ?_
  simp only [go_sem, sB, reduceCtorEq, sL, sA, sE, sN]
  refine loop79a F1 F2 fb fo hb ho f g F out _ (p.length + q.length) p q [] _ _ _ (Nat.le_refl _) hp hq (by simp; omega) (.at (s := 19) (z := 1) (by simp) rfl rfl) ?_ (fun p' q' res' d own nx x e1 e2 hp' hq' hl' hR hO => ?_)
  · repeat' first | exact OwnB.none _ | refine OwnB.updn ?_ (by omega) | refine OwnB.upd0 ?_
  · have e3 : mrgP fb fo p q = res' ++ p' ++ q'.map (fun t => (t.1, fo t.2)) := by rw [← e2]; rfl
    have fin : ∀ (d : D) (own : Nat → Option (Nat × Obj)) (nx : Nat), RowD F S79 own d 12 ((res' ++ p').map eT) → OwnB own nx →
        Loop Go.Proofs.Tryz.prog F [3, 9, 96, 97, 98] [19, 58, 71, 90, 95, 111] b79_1 { r := (upd (upd (upd (upd (upd (fun _ => .u) 98 (.i .i64 0)) 97 (.i .i64 q'.length)) 96 (eP g q')) 9 (d)) 3 (.f F2 [] [])), own := own, out := out, nx := nx }
          (blockK 3 (seqK Go.Proofs.Tryz.prog F (.seq (.reg [oD 113 (.mv (.t 9)) 0, oD 8 (.mv (.t 113)) 1] [] [8] [19, 58, 71, 90, 95, 111]) (.frz 8 .ret)) (Fin F [] out rv79 (eP false (mrgP fb fo p q))))) := by
      intro d own nx hR hO
      refine loop79b F2 fo ho q' g hq' (by omega) F out _ q' 0 (res' ++ p') d own nx rfl (by omega) (by simp; omega) hR hO (fun r d own nx hr hR => ?_)
      simp only [go_sem, sB, reduceCtorEq, sL, sA, sE, sN, hr]
      refine frz_R (S := S79) (hR.on (by simp [upd])) rfl (fun f' own' nx' => ?_)
      simp only [go_sem, sB, reduceCtorEq, sL, sA, sE, sN, rv79, fin_t, e3]
      exact weak_full _ _ _
    cases p' with
    | nil =>
      simp only [go_sem, sB, reduceCtorEq, sL, sA, sE, sN, eP, elemsOf_sl]
      refine appO_R0 (S := S79) (es := res'.map eT) (hR.on (by simp [upd])) ?_
      simp only [go_sem, sB, reduceCtorEq, sL, sA, sE, sN, eP, eP_len]
      refine fin _ _ _ ?_ ?_
      · rw [List.append_nil]; exact hR.on (by simp [upd])
      · repeat' first | exact hO | exact hb | exact OwnB.none _ | refine OwnB.updv (own := own) ?_ (hO.mono (by first | omega | (dsimp only; omega)))
    | cons t p' =>
      simp only [go_sem, sB, reduceCtorEq, sL, sA, sE, sN, eP, elemsOf_sl]
      refine appO_R (S := S79) (es := res'.map eT) (hR.on (by simp [upd])) ?_ (by simp) (by simp at hl' ⊢; omega) (by simp at hl' ⊢; omega) (fun own' hb hoth hs => ?_)
      · dsimp only
        repeat' first | exact hO | exact hb | exact OwnB.none _ | refine OwnB.updv (own := own) ?_ (hO.mono (by first | omega | (dsimp only; omega)))
      · simp only [go_sem, sB, reduceCtorEq, sL, sA, sE, sN, eP, eP_len]
        refine fin _ _ _ ?_ ?_
        · rw [List.map_append]; exact .at (by simp) hs (by simp)
        · repeat' first | exact hO | exact hb | exact OwnB.none _ | refine OwnB.updv (own := own') ?_ (hb.mono (by first | omega | (dsimp only; omega)))
theorem w81 (q : Rat) : FnR Go.Proofs.Tryz.prog 81 [rW q] [] (rW q) := by
  refine fnr81 (by simp) (nr_rW _) (by simp) List.nodup_nil fun F out hS => ?_
  unfold ir81
  simp only [go_sem, sB, reduceCtorEq, sL, sA, sE, sN, rW_C, rC_len, takeC, dropC, rv81, fin_c]
  exact ⟨_, rfl, .refl _⟩
theorem w20 (p q : List Tm) (f g : Bool) {A : Nat} (hp : PB A p) (hq : PB A q) (hA : A ≤ 549755813888) (hl : p.length + q.length ≤ 1000000000000) : FnR Go.Proofs.Tryz.prog 20 [eP f p, eP g q] [] (eP false (addP p q)) := by
  refine fnr20 (by simp) (nr_eP _ _) (by simp) List.nodup_nil fun F out hS => ?_
  unfold ir20
  simp only [go_sem, sB, reduceCtorEq, sL, sA, sE, sN]
  refine callO_intro (w79 80 81 (fun x y => x + y) id (A := A) (fun x y hx hy => q80 x y (by omega) (by omega)) (fun y _ => w81 y) p q f g hp hq hl) ?_
  simp only [go_sem, sB, reduceCtorEq, sL, sA, sE, sN, rv20, fin_t]
  exact .refl _
theorem w21 (p q : List Tm) (f g : Bool) {A : Nat} (hp : PB A p) (hq : PB A q) (hA : A ≤ 549755813888) (hl : p.length + q.length ≤ 1000000000000) : FnR Go.Proofs.Tryz.prog 21 [eP f p, eP g q] [] (eP false (difP p q)) := by
  refine fnr21 (by simp) (nr_eP _ _) (by simp) List.nodup_nil fun F out hS => ?_
  unfold ir21
  simp only [go_sem, sB, reduceCtorEq, sL, sA, sE, sN]
  refine callO_intro (w79 82 83 (fun x y => x - y) (fun y => -y) (A := A) (fun x y hx hy => q82 x y (by omega) (by omega)) (fun y hy => q83 y (by omega)) p q f g hp hq hl) ?_
  simp only [go_sem, sB, reduceCtorEq, sL, sA, sE, sN, rv21, fin_t]
  exact .refl _
end Go.Vm.G

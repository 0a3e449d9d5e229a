/- A part of the proof of: All functions return the results of the reference (PolynomialMatchesReference), for every input. -/
import Derived.Test.YtnjccbacinbhgaaGreatPnC0
import Derived.Laws.BitsAllLaws
set_option linter.unusedSimpArgs false
set_option linter.unusedVariables false
namespace Go.Vm.G
open Go Go.Vm
open Nat renaming reduceBEq → sB, reduceLeDiff → sL, reduceAdd → sA
open Int renaming reduceEq → sE, reduceNe → sN
structure SubR where
  u : List Nat
  c : Nat
  b : Nat
def subAt (v : List Nat) (q lo : Nat) : Nat → Nat → List Nat → Nat → Nat → SubR
  | 0, _, U, c, b => ⟨U, c, b⟩
  | m + 1, i, U, c, b => subAt v q lo m (i + 1) (U.set (lo + i) ((BB + U.getD (lo + i) 0 - (q * v.getD i 0 + c) % BB - b) % BB)) ((q * v.getD i 0 + c) / BB) (1 - (BB + U.getD (lo + i) 0 - (q * v.getD i 0 + c) % BB - b) / BB)
theorem loop196 (v : List Nat) (g : Bool) (hv : Wd v) (q : Nat) (hq : q < BB) (key : Key) (z lo len : Nat) (hlen : len ≤ 17592186044416) (F : Nat) (hF : key.1 ≠ F) (Q : Ex → St → Prop) : ∀ (m i : Nat) (U : List Nat) (c b : Nat) (o : Sto) (nx : Nat), i + m = len → lo + len ≤ U.length → Wd U → c < BB → b ≤ 1 → o key = some (z, .row 1 (eW U)) →
    (∀ nx, Q (.exit 0) { r := (upd (upd (upd (upd (upd (upd (upd (fun _ => .u) 15 (.b false)) 9 (.i .i64 len)) 8 (.i .u64 (subAt v q lo m i U c b).b)) 7 (.i .u64 (subAt v q lo m i U c b).c)) 2 (.i .u64 q)) 1 (.sl 1 g (eW v))) 0 (.w key z 1 lo len)), own := fun _ => none, out := updK o key (some (z, .row 1 (eW (subAt v q lo m i U c b).u))), nx := nx }) →
    Loop Go.Proofs.Tryz.prog F [0, 1, 2, 7, 8, 9] [] b196_0 { r := (upd (upd (upd (upd (upd (upd (fun _ => .u) 9 (.i .i64 i)) 8 (.i .u64 b)) 7 (.i .u64 c)) 2 (.i .u64 q)) 1 (.sl 1 g (eW v))) 0 (.w key z 1 lo len)), own := fun _ => none, out := o, nx := nx } Q := by
  intro m
  induction m with
  | zero =>
    intro i U c b o nx hi hU hw hc hb ho hQ
    refine Loop.stepW ?_
    have hi' : i = len := by omega
    subst hi'
    have c1 : decide (((i : Nat) : Int) < ((i : Nat) : Int)) = false := by simp
    simp only [go_sem, sB, reduceCtorEq, sL, sA, sE, sN, wb196_0, c1]
    simp only [subAt, updK_self ho] at hQ
    exact hQ _
  | succ m ih =>
    intro i U c b o nx hi hU hw hc hb ho hQ
    refine Loop.stepW ?_
    have c1 : decide (((i : Nat) : Int) < ((len : Nat) : Int)) = true := by simp; omega
    have hil : i < len := by omega
    have hiU : lo + i < U.length := by omega
    have h1 : U.getD (lo + i) 0 < 4294967296 := hw.getD _
    have hB : BB = 4294967296 := rfl
    obtain ⟨t1, t2⟩ := mul_step hq (hv.getD i) hc BB_pos
    simp only [Nat.add_zero] at t1 t2
    have hat := eW_at hiU
    simp only [go_sem, sB, reduceCtorEq, sL, sA, sE, sN, wb196_0, c1]
    refine callO_intro (w170 v g i hv) ?_
    generalize hP : q * v.getD i 0 = p at *
    have e1 : IntKind.wrap .u64 (((q : Nat) : Int) * ((v.getD i 0 : Nat) : Int)) = ((p : Nat) : Int) := by
      rw [← Int.natCast_mul, hP]; exact w64 _ (by rw [hB] at t1; omega)
    have e2 : IntKind.wrap .u64 (((p : Nat) : Int) + ((c : Nat) : Int)) = ((p + c : Nat) : Int) := by
      rw [← Int.natCast_add]; exact w64 _ (by rw [hB] at t1; omega)
    generalize hs : p + c = s at *
    generalize hU0 : U.getD (lo + i) 0 = x at *
    have e3 : IntKind.wrap .u64 ((s / 4294967296 : Nat) : Int) = ((s / 4294967296 : Nat) : Int) := w64 _ (by rw [hB] at t2; omega)
    have e4 : IntKind.wrap .u64 (4294967296 + ((x : Nat) : Int)) = ((4294967296 + x : Nat) : Int) := by
      rw [IntWalk.u64_in _ (by omega)]; omega
    have e5 : IntKind.wrap .u64 (((4294967296 + x : Nat) : Int) - ((s % 4294967296 : Nat) : Int)) = ((4294967296 + x - s % 4294967296 : Nat) : Int) := by
      rw [IntWalk.u64_in _ (by omega)]; omega
    have e6 : IntKind.wrap .u64 (((4294967296 + x - s % 4294967296 : Nat) : Int) - ((b : Nat) : Int)) = ((4294967296 + x - s % 4294967296 - b : Nat) : Int) := by
      rw [IntWalk.u64_in _ (by omega)]; omega
    generalize ht : 4294967296 + x - s % 4294967296 - b = t at *
    have e7 : IntKind.wrap .u32 ((t % 4294967296 : Nat) : Int) = ((t % 4294967296 : Nat) : Int) := w32 _ (by omega)
    have e8 : IntKind.wrap .u64 ((t / 4294967296 : Nat) : Int) = ((t / 4294967296 : Nat) : Int) := w64 _ (by omega)
    have e9 : IntKind.wrap .u64 (1 - ((t / 4294967296 : Nat) : Int)) = ((1 - t / 4294967296 : Nat) : Int) := by
      rw [IntWalk.u64_in _ (by omega)]; omega
    have e10 : IntKind.wrap .i64 (((i : Nat) : Int) + 1) = ((i + 1 : Nat) : Int) := by rw [IntWalk.i64_in _ (by omega)]; omega
    simp only [go_sem, sB, reduceCtorEq, sL, sA, sE, sN, e1, e2, e3, e4, e5, e6, e7, e8, e9, e10, ixsO_w _ _ _ _ _ _ _ hil, look_out hF, ho, hat, set_out hF, w64 x (by omega)]
    refine ih (i + 1) (U.set (lo + i) (t % 4294967296)) (s / 4294967296) (1 - t / 4294967296) _ _ (by omega) (by simpa using hU) (hw.set (by rw [hB]; omega)) (by rw [hB] at t2 ⊢; exact t2) (by omega) (updK_eq _ _ _) (fun nx => ?_)
    rw [updK_twice]
    simp only [subAt, hP, hs, hU0, BB, ht] at hQ
    exact hQ nx
theorem w196 (v : List Nat) (g : Bool) (hv : Wd v) (q : Nat) (hq : q < BB) (key : Key) (z lo len : Nat) (hlen : len ≤ 17592186044416) (U : List Nat) (hU : lo + len ≤ U.length) (hw : Wd U) : FnR Go.Proofs.Tryz.prog 196 [.w key z 1 lo len, .sl 1 g (eW v), .i .u64 q] [⟨key, z, .row 1 (eW U), .row 1 (eW (subAt v q lo len 0 U 0 0).u)⟩] (.b (decide ((subAt v q lo len 0 U 0 0).b = 1))) := by
  refine fnr196 (by simp) rfl (by simp [Obj.nr, nrLL_eW]) (by simp) fun F out hS => ?_
  have hF : key.1 ≠ F := by have := hS.low _ (List.mem_singleton.2 rfl); simp only at this; omega
  have ho := hS.old _ (List.mem_singleton.2 rfl)
  simp only at ho
  unfold ir196
  simp only [go_sem, sB, reduceCtorEq, sL, sA, sE, sN]
  refine loop196 v g hv q hq key z lo len hlen F hF _ len 0 U 0 0 out _ (by omega) hU hw BB_pos (by omega) ho (fun nx => ?_)
  simp only [go_sem, sB, reduceCtorEq, sL, sA, sE, sN, rv196, fin_tu]
  have : (((subAt v q lo len 0 U 0 0).b : Int) == 1) = decide ((subAt v q lo len 0 U 0 0).b = 1) := by
    by_cases h : (subAt v q lo len 0 U 0 0).b = 1
    · simp [h]
    · simp [h]; omega
  rw [this]
  exact .refl _
def gLoop (v1 v2 u0 : Nat) : Nat → Nat → Nat → Nat
  | 0, q, _ => q
  | k + 1, q, r => if BB ≤ q ∨ r * BB + u0 < q * v2 then (if BB ≤ r + v1 then q - 1 else gLoop v1 v2 u0 k (q - 1) (r + v1)) else q
theorem loop195 (v : List Nat) (g : Bool) (hv : Wd v) (n : Nat) (hn : n = v.length) (h2 : 2 ≤ n) (hn2 : n ≤ 17592186044416) (v1 : Nat) (hv1 : v.getD (n - 1) 0 = v1) (hv10 : 0 < v1) (v2 : Nat) (hv2 : v.getD (n - 2) 0 = v2) (key : Key) (z lo : Nat) (U : List Nat) (hU : lo + (n + 1) ≤ U.length) (hw : Wd U) (u0 : Nat) (hu0 : U.getD (lo + (n - 2)) 0 = u0) (F : Nat) (hF : key.1 ≠ F) (o : Sto) (ho : o key = some (z, .row 1 (eW U))) (Q : Ex → St → Prop) : ∀ (k q r : Nat) (nx : Nat), BB ≤ r + k → r < BB → q < 18446744073709551616 →
    (∀ r' nx, Q (.exit 0) { r := (upd (upd (upd (upd (upd (upd (fun _ => .u) 61 (.b false)) 8 (.i .u64 r')) 7 (.i .u64 (gLoop v1 v2 u0 k q r))) 5 (.i .i64 n)) 1 (.sl 1 g (eW v))) 0 (.w key z 1 lo (n + 1))), own := fun _ => none, out := o, nx := nx }) →
    (∀ r' nx, Q (.exit 0) { r := (upd (upd (upd (upd (upd (upd (fun _ => .u) 73 (.b true)) 8 (.i .u64 r')) 7 (.i .u64 (gLoop v1 v2 u0 k q r))) 5 (.i .i64 n)) 1 (.sl 1 g (eW v))) 0 (.w key z 1 lo (n + 1))), own := fun _ => none, out := o, nx := nx }) →
    Loop Go.Proofs.Tryz.prog F [0, 1, 5, 7, 8] [] b195_0 { r := (upd (upd (upd (upd (upd (fun _ => .u) 8 (.i .u64 r)) 7 (.i .u64 q)) 5 (.i .i64 n)) 1 (.sl 1 g (eW v))) 0 (.w key z 1 lo (n + 1))), own := fun _ => none, out := o, nx := nx } Q := by
  have hB : BB = 4294967296 := rfl
  have hbv1 : v1 < 4294967296 := by rw [← hv1]; exact hv.getD _
  have hbv2 : v2 < 4294967296 := by rw [← hv2]; exact hv.getD _
  have hbu0 : u0 < 4294967296 := by rw [← hu0]; exact hw.getD _
  have i1 : IntKind.wrap .i64 (((n : Nat) : Int) - 1) = ((n - 1 : Nat) : Int) := by rw [IntWalk.i64_in _ (by omega)]; omega
  have i2 : IntKind.wrap .i64 (((n : Nat) : Int) - 2) = ((n - 2 : Nat) : Int) := by rw [IntWalk.i64_in _ (by omega)]; omega
  have a1 := eW_at (show n - 1 < v.length by omega)
  have a2 := eW_at (show n - 2 < v.length by omega)
  have a3 := eW_at (show lo + (n - 2) < U.length by omega)
  rw [hv1] at a1
  rw [hv2] at a2
  rw [hu0] at a3
  have hl : n - 2 < n + 1 := by omega
  intro k
  induction k with
  | zero => intro q r nx hk hr; omega
  | succ k ih =>
    intro q r nx hk hr hq hQ1 hQ2
    refine Loop.stepW ?_
    have go : BB ≤ q ∨ r * BB + u0 < q * v2 → 0 < q → (BB ≤ r + v1 → (∀ r' nx, Q (.exit 0) { r := (upd (upd (upd (upd (upd (upd (fun _ => .u) 73 (.b true)) 8 (.i .u64 r')) 7 (.i .u64 (q - 1 : Nat))) 5 (.i .i64 n)) 1 (.sl 1 g (eW v))) 0 (.w key z 1 lo (n + 1))), own := fun _ => none, out := o, nx := nx })) ∧ (¬ BB ≤ r + v1 → ∀ nx, Loop Go.Proofs.Tryz.prog F [0, 1, 5, 7, 8] [] b195_0 { r := (upd (upd (upd (upd (upd (fun _ => .u) 8 (.i .u64 (r + v1 : Nat))) 7 (.i .u64 (q - 1 : Nat))) 5 (.i .i64 n)) 1 (.sl 1 g (eW v))) 0 (.w key z 1 lo (n + 1))), own := fun _ => none, out := o, nx := nx } Q) := by
      intro hc h0
      refine ⟨fun h => ?_, fun h nx => ?_⟩
      · simp only [gLoop, hc, h, if_true] at hQ2
        exact hQ2
      · simp only [gLoop, hc, h, if_true, if_false] at hQ1 hQ2
        exact ih (q - 1) (r + v1) nx (by omega) (by omega) (by omega) hQ1 hQ2
    have e5 : 0 < q → IntKind.wrap .u64 (((q : Nat) : Int) - 1) = ((q - 1 : Nat) : Int) := fun h => by rw [IntWalk.u64_in _ (by omega)]; omega
    have e6 : IntKind.wrap .u64 (((r : Nat) : Int) + ((v1 : Nat) : Int)) = ((r + v1 : Nat) : Int) := by rw [← Int.natCast_add]; exact w64 _ (by omega)
    by_cases h1 : BB ≤ q
    · have c1 : decide (((q : Nat) : Int) ≥ 4294967296) = true := by simp; omega
      obtain ⟨g1, g2⟩ := go (.inl h1) (by omega)
      simp only [go_sem, sB, reduceCtorEq, sL, sA, sE, sN, wb195_0, c1, e5 (by omega), i1, ixsO_sl _ _ _ _ _ _ a1, w64 v1 (by omega), e6]
      refine condO_d (fun h => ?_) (fun h => ?_)
      · simp only [go_sem, sB, reduceCtorEq, sL, sA, sE, sN, decide_eq_true h]
        exact g1 (by omega) _ _
      · simp only [go_sem, sB, reduceCtorEq, sL, sA, sE, sN]
        exact g2 (by omega) _
    · have c1 : decide (((q : Nat) : Int) ≥ 4294967296) = false := by simp; omega
      have t1 : q * v2 ≤ 4294967295 * 4294967295 := Nat.mul_le_mul (by omega) (by omega)
      have e1 : IntKind.wrap .u64 (((q : Nat) : Int) * ((v2 : Nat) : Int)) = ((q * v2 : Nat) : Int) := by rw [← Int.natCast_mul]; exact w64 _ (by omega)
      have e2 : IntKind.wrap .u64 (((r : Nat) : Int) * 4294967296) = ((r * 4294967296 : Nat) : Int) := by rw [IntWalk.u64_in _ (by omega)]; omega
      have e3 : IntKind.wrap .u64 (((r * 4294967296 : Nat) : Int) + ((u0 : Nat) : Int)) = ((r * 4294967296 + u0 : Nat) : Int) := by rw [← Int.natCast_add]; exact w64 _ (by omega)
      simp only [go_sem, sB, reduceCtorEq, sL, sA, sE, sN, wb195_0, c1, i2, ixsO_sl _ _ _ _ _ _ a2, w64 v2 (by omega), e1, e2, ixsO_w _ _ _ _ _ _ _ hl, look_out hF, ho, a3, w64 u0 (by omega), e3]
      refine condO_d (fun h => ?_) (fun h => ?_)
      · have hgt : r * 4294967296 + u0 < q * v2 := by omega
        have hq0 : 0 < q := by
          rcases Nat.eq_zero_or_pos q with h0 | h0
          · subst h0; simp at hgt
          · exact h0
        obtain ⟨g1, g2⟩ := go (.inr (by rw [hB]; exact hgt)) hq0
        simp only [go_sem, sB, reduceCtorEq, sL, sA, sE, sN, e5 hq0, i1, ixsO_sl _ _ _ _ _ _ a1, w64 v1 (by omega), e6]
        refine condO_d (fun h => ?_) (fun h => ?_)
        · simp only [go_sem, sB, reduceCtorEq, sL, sA, sE, sN, decide_eq_true h]
          exact g1 (by omega) _ _
        · simp only [go_sem, sB, reduceCtorEq, sL, sA, sE, sN]
          exact g2 (by omega) _
      · have hgt : ¬ r * BB + u0 < q * v2 := by rw [hB]; omega
        simp only [go_sem, sB, reduceCtorEq, sL, sA, sE, sN, decide_eq_false h]
        simp only [gLoop, h1, hgt, or_self, if_false] at hQ1
        exact hQ1 _ _
def guessW (v U : List Nat) (lo : Nat) : Nat :=
  gLoop (v.getD (v.length - 1) 0) (v.getD (v.length - 2) 0) (U.getD (lo + (v.length - 2)) 0) BB ((U.getD (lo + v.length) 0 * BB + U.getD (lo + (v.length - 1)) 0) / v.getD (v.length - 1) 0) ((U.getD (lo + v.length) 0 * BB + U.getD (lo + (v.length - 1)) 0) % v.getD (v.length - 1) 0)
theorem w195 (v : List Nat) (g : Bool) (hv : Wd v) (h2 : 2 ≤ v.length) (hn2 : v.length ≤ 17592186044416) (hv10 : 0 < v.getD (v.length - 1) 0) (key : Key) (z lo : Nat) (U : List Nat) (hU : lo + (v.length + 1) ≤ U.length) (hw : Wd U) : FnR Go.Proofs.Tryz.prog 195 [.w key z 1 lo (v.length + 1), .sl 1 g (eW v)] [⟨key, z, .row 1 (eW U), .row 1 (eW U)⟩] (.i .u64 (guessW v U lo : Nat)) := by
  refine fnr195 (by simp) rfl (by simp [Obj.nr, nrLL_eW]) (by simp) fun F out hS => ?_
  have hF : key.1 ≠ F := by have := hS.low _ (List.mem_singleton.2 rfl); simp only at this; omega
  have ho := hS.old _ (List.mem_singleton.2 rfl)
  simp only at ho
  have hB : BB = 4294967296 := rfl
  unfold ir195
  have i1 : IntKind.wrap .i64 (((v.length : Nat) : Int) - 1) = ((v.length - 1 : Nat) : Int) := by rw [IntWalk.i64_in _ (by omega)]; omega
  have a1 := eW_at (show v.length - 1 < v.length by omega)
  have a3 := eW_at (show lo + v.length < U.length by omega)
  have a4 := eW_at (show lo + (v.length - 1) < U.length by omega)
  have hl1 : v.length < v.length + 1 := by omega
  have hl2 : v.length - 1 < v.length + 1 := by omega
  have b1 : v.getD (v.length - 1) 0 < 4294967296 := hv.getD _
  have b2 : U.getD (lo + v.length) 0 < 4294967296 := hw.getD _
  have b3 : U.getD (lo + (v.length - 1)) 0 < 4294967296 := hw.getD _
  have hF' : updK out key (some (z, .row 1 (eW U))) = out := updK_self ho
  have hx : guessW v U lo = guessW v U lo := rfl
  unfold guessW at hx ⊢
  generalize hV1 : v.getD (v.length - 1) 0 = v1 at *
  generalize hX : U.getD (lo + v.length) 0 = x at *
  generalize hY : U.getD (lo + (v.length - 1)) 0 = y at *
  have e1 : IntKind.wrap .u64 (((x : Nat) : Int) * 4294967296) = ((x * 4294967296 : Nat) : Int) := by rw [IntWalk.u64_in _ (by omega)]; omega
  have e2 : IntKind.wrap .u64 (((x * 4294967296 : Nat) : Int) + ((y : Nat) : Int)) = ((x * 4294967296 + y : Nat) : Int) := by rw [← Int.natCast_add]; exact w64 _ (by omega)
  have hd0 : ((v1 : Nat) : Int) ≠ 0 := by omega
  have hqb : (x * 4294967296 + y) / v1 < 18446744073709551616 := by
    have := Nat.div_le_self (x * 4294967296 + y) v1
    omega
  simp only [go_sem, sB, reduceCtorEq, sL, sA, sE, sN, i1, ixsO_w _ _ _ _ _ _ _ hl1, ixsO_w _ _ _ _ _ _ _ hl2, look_out hF, ho, a3, a4, w64 x (by omega), w64 y (by omega), e1, e2, ixsO_sl _ _ _ _ _ _ a1, w64 v1 (by omega), e_quo _ _ _ hd0, e_rem _ _ _ hd0, w64 _ hqb]
  have hr := Nat.mod_lt (x * 4294967296 + y) hv10
  refine loop195 v g hv v.length rfl h2 hn2 v1 hV1 hv10 _ rfl key z lo U hU hw _ rfl F hF out ho _ BB ((x * 4294967296 + y) / v1) ((x * 4294967296 + y) % v1) _ (by omega) (by omega) hqb (fun r' nx => ?_) (fun r' nx => ?_)
  · simp only [go_sem, sB, reduceCtorEq, sL, sA, sE, sN, rv195, fin_tu, hF', hB]
    exact .refl _
  · simp only [go_sem, sB, reduceCtorEq, sL, sA, sE, sN, rv195, fin_tu, hF', hB]
    exact .refl _
theorem guess_up {q v1 v2 v0 t r u0 w0 P : Nat} (hq : q * v1 + r = t) (hc : r * BB + u0 < q * v2) (hw : w0 < P) : (t * BB + u0) * P + w0 < q * ((v1 * BB + v2) * P + v0) := by
  have h1 : q * v1 * BB + r * BB = t * BB := by rw [← Nat.add_mul, hq]
  have h2 : t * BB + u0 + 1 ≤ q * v1 * BB + q * v2 := by omega
  have h3 := Nat.mul_le_mul_right P h2
  have h4 : q * ((v1 * BB + v2) * P + v0) = (q * v1 * BB + q * v2) * P + q * v0 := by
    rw [Nat.mul_add, ← Nat.mul_assoc, Nat.mul_add, ← Nat.mul_assoc]
  rw [Nat.add_mul _ 1 P, Nat.one_mul] at h3
  rw [h4]
  omega
theorem guess_a {q v1 v2 v0 t r u0 w0 P : Nat} (hq : q * v1 + r = t) (hc : q * v2 ≤ r * BB + u0) (hv : v0 < P) (hv1 : 1 ≤ v1) (hb : q < BB) : q * ((v1 * BB + v2) * P + v0) ≤ ((t * BB + u0) * P + w0) + ((v1 * BB + v2) * P + v0) := by
  have h1 : q * v1 * BB + r * BB = t * BB := by rw [← Nat.add_mul, hq]
  have h2 : q * v1 * BB + q * v2 ≤ t * BB + u0 := by omega
  have h3 := Nat.mul_le_mul_right P h2
  have h4 : q * ((v1 * BB + v2) * P + v0) = (q * v1 * BB + q * v2) * P + q * v0 := by
    rw [Nat.mul_add, ← Nat.mul_assoc, Nat.mul_add, ← Nat.mul_assoc]
  have h5 : q * v0 ≤ BB * P := Nat.mul_le_mul (by omega) (by omega)
  have h6 : BB * P ≤ (v1 * BB + v2) * P := Nat.mul_le_mul_right _ (by
    have := Nat.mul_le_mul_right BB hv1
    omega)
  rw [h4]
  omega
theorem guess_b {g v1 v2 v0 t r u0 w0 P : Nat} (hq : g * v1 + r = t) (hr : BB ≤ r) (hv : v0 < P) (hv2 : v2 < BB) (hb : g ≤ BB) : g * ((v1 * BB + v2) * P + v0) ≤ (t * BB + u0) * P + w0 := by
  have h1 : (v1 * BB + v2) * P + v0 ≤ (v1 + 1) * BB * P := by
    have : v1 * BB + v2 + 1 ≤ (v1 + 1) * BB := by rw [Nat.add_mul]; omega
    have := Nat.mul_le_mul_right P this
    rw [Nat.add_mul _ 1 P, Nat.one_mul] at this
    omega
  have h2 := Nat.mul_le_mul_left g h1
  have h3 : g * ((v1 + 1) * BB * P) = (g * v1 + g) * BB * P := by
    rw [← Nat.mul_assoc, ← Nat.mul_assoc, Nat.mul_add, Nat.mul_one]
  have h4 : (g * v1 + g) * BB * P ≤ t * BB * P := Nat.mul_le_mul_right _ (Nat.mul_le_mul_right _ (by omega))
  have h5 : t * BB * P ≤ (t * BB + u0) * P := Nat.mul_le_mul_right _ (by omega)
  omega
theorem gLoop_spec {v1 v2 v0 u0 w0 t P : Nat} (hv : v0 < P) (hw : w0 < P) (hv2 : v2 < BB) (hv1 : 1 ≤ v1) (hW : (t * BB + u0) * P + w0 < BB * ((v1 * BB + v2) * P + v0)) : ∀ (k q r : Nat), q * v1 + r = t → q ≤ BB + 1 → r < BB → BB ≤ r + k → (t * BB + u0) * P + w0 < (q + 1) * ((v1 * BB + v2) * P + v0) →
    (t * BB + u0) * P + w0 < (gLoop v1 v2 u0 k q r + 1) * ((v1 * BB + v2) * P + v0) ∧ gLoop v1 v2 u0 k q r * ((v1 * BB + v2) * P + v0) ≤ ((t * BB + u0) * P + w0) + ((v1 * BB + v2) * P + v0) ∧ gLoop v1 v2 u0 k q r < BB := by
  intro k
  induction k with
  | zero => intro q r _ _ hr hk; omega
  | succ k ih =>
    intro q r hq hb hr hk hu
    unfold gLoop
    by_cases hc : BB ≤ q ∨ r * BB + u0 < q * v2
    · rw [if_pos hc]
      have hlt : (t * BB + u0) * P + w0 < q * ((v1 * BB + v2) * P + v0) := by
        rcases hc with hc | hc
        · exact Nat.lt_of_lt_of_le hW (Nat.mul_le_mul_right _ hc)
        · exact guess_up hq hc hw
      have hq0 : 0 < q := by
        rcases Nat.eq_zero_or_pos q with h | h
        · subst h; simp at hlt
        · exact h
      have hq1 : (q - 1) * v1 + (r + v1) = t := by
        have : q = q - 1 + 1 := by omega
        rw [this, Nat.add_mul, Nat.one_mul] at hq
        omega
      have hq2 : (t * BB + u0) * P + w0 < (q - 1 + 1) * ((v1 * BB + v2) * P + v0) := by
        have : q - 1 + 1 = q := by omega
        rw [this]; exact hlt
      by_cases hr2 : BB ≤ r + v1
      · rw [if_pos hr2]
        have hgb := guess_b (u0 := u0) (w0 := w0) hq1 hr2 hv hv2 (by omega)
        refine ⟨hq2, by omega, ?_⟩
        have h := Nat.lt_of_le_of_lt hgb hW
        exact Nat.lt_of_mul_lt_mul_right h
      · rw [if_neg hr2]
        exact ih (q - 1) (r + v1) hq1 (by omega) (by omega) (by omega) hq2
    · rw [if_neg hc]
      have h1 : ¬ BB ≤ q := fun h => hc (.inl h)
      have h2 : ¬ r * BB + u0 < q * v2 := fun h => hc (.inr h)
      exact ⟨hu, guess_a hq (by omega) hv hv1 (by omega), by omega⟩
theorem val_drop_all (v : List Nat) (i : Nat) : val (v.drop i) = v.getD i 0 + BB * val (v.drop (i + 1)) := by
  by_cases h : i < v.length
  · exact val_drop_succ h
  · rw [List.drop_of_length_le (by omega), List.drop_of_length_le (by omega), List.getD_eq_getElem?_getD, List.getElem?_eq_none (by omega)]
    simp [val]
theorem subAt_spec {v : List Nat} {q lo : Nat} (hv : Wd v) (hq : q < BB) : ∀ (m i : Nat) (U : List Nat) (c b : Nat), lo + i + m ≤ U.length → v.length ≤ i + m → Wd U → c < BB → b ≤ 1 →
    (subAt v q lo m i U c b).u.length = U.length ∧ Wd (subAt v q lo m i U c b).u ∧ (subAt v q lo m i U c b).b ≤ 1 ∧ (∀ j, lo + i + m ≤ j → (subAt v q lo m i U c b).u.getD j 0 = U.getD j 0) ∧
    val (subAt v q lo m i U c b).u + BB ^ (lo + i) * (q * val (v.drop i) + c + b) = val U + BB ^ (lo + i + m) * ((subAt v q lo m i U c b).c + (subAt v q lo m i U c b).b)
  | 0, i, U, c, b, h1, h2, hw, hc, hb => by
    refine ⟨rfl, hw, hb, fun _ _ => rfl, ?_⟩
    simp only [subAt, Nat.add_zero]
    rw [List.drop_of_length_le (by omega)]
    simp [val]
  | m + 1, i, U, c, b, h1, h2, hw, hc, hb => by
    have hB : BB = 4294967296 := rfl
    obtain ⟨t1, t2⟩ := mul_step hq (hv.getD i) hc BB_pos
    simp only [Nat.add_zero] at t1 t2
    have hx := hw.getD (lo + i)
    have hpm := Nat.mod_lt (q * v.getD i 0 + c) BB_pos
    have hdm := Nat.div_add_mod (q * v.getD i 0 + c) BB
    simp only [subAt]
    have hs := val_set (l := U) (i := lo + i) (w := (BB + U.getD (lo + i) 0 - (q * v.getD i 0 + c) % BB - b) % BB) (by omega)
    generalize hY : v.getD i 0 = y at *
    generalize hX : U.getD (lo + i) 0 = x at *
    generalize hp : q * y = p at *
    generalize hr : (p + c) % BB = r at *
    generalize hd : (p + c) / BB = d at *
    have ht := Nat.div_add_mod (BB + x - r - b) BB
    have htm := Nat.mod_lt (BB + x - r - b) BB_pos
    have hdv : (BB + x - r - b) / BB ≤ 1 := by
      have : (BB + x - r - b) / BB < 2 := (Nat.div_lt_iff_lt_mul BB_pos).2 (by omega)
      omega
    generalize hm : (BB + x - r - b) % BB = w at *
    generalize he : (BB + x - r - b) / BB = e at *
    have hid : w + r + b = x + BB * (1 - e) := by
      have : e = 0 ∨ e = 1 := by omega
      rcases this with rfl | rfl <;> omega
    obtain ⟨g1, g2, g3, g4, g5⟩ := subAt_spec (lo := lo) hv hq m (i + 1) (U.set (lo + i) w) d (1 - e) (by rw [List.length_set]; omega) (by omega) (hw.set htm) t2 (by omega)
    refine ⟨by rw [g1]; simp, g2, g3, fun j hj => ?_, ?_⟩
    · rw [g4 j (by omega), getD_set_ne (by omega)]
    · have e1 : lo + (i + 1) + m = lo + i + (m + 1) := by omega
      have e2 : lo + (i + 1) = lo + i + 1 := by omega
      rw [e1, e2, Nat.pow_succ] at g5
      rw [val_drop_all v i, hY]
      generalize BB ^ (lo + i) = G at g5 hs ⊢
      generalize val (v.drop (i + 1)) = D at g5 ⊢
      generalize BB ^ (lo + i + (m + 1)) * ((subAt v q lo m (i + 1) (U.set (lo + i) w) d (1 - e)).c + (subAt v q lo m (i + 1) (U.set (lo + i) w) d (1 - e)).b) = E at g5 ⊢
      have f1 : G * (q * (y + BB * D) + c + b) = G * (BB * (q * D)) + G * (BB * d) + G * r + G * b := by
        rw [Nat.mul_add q, hp, Nat.mul_left_comm q BB D]
        have : p + BB * (q * D) + c + b = BB * (q * D) + (BB * d + r) + b := by omega
        rw [this, Nat.mul_add, Nat.mul_add, Nat.mul_add, ← Nat.add_assoc]
      have f2 : G * BB * (q * D + d + (1 - e)) = G * (BB * (q * D)) + G * (BB * d) + G * (BB * (1 - e)) := by
        rw [Nat.mul_assoc, Nat.mul_add, Nat.mul_add, Nat.mul_add, Nat.mul_add]
      have f3 : G * w + G * r + G * b = G * x + G * (BB * (1 - e)) := by
        rw [← Nat.mul_add, ← Nat.mul_add, hid, Nat.mul_add]
      rw [f1]
      rw [f2] at g5
      omega
theorem subAt_c {v : List Nat} {q lo : Nat} : ∀ (m i : Nat) (U : List Nat) (c b : Nat), v.length ≤ i + m → c < BB → (∀ i, q * v.getD i 0 + BB ≤ BB * BB) → (subAt v q lo (m + 1) i U c b).c = 0
  | 0, i, U, c, b, h, hc, _ => by
    have : v.getD i 0 = 0 := by rw [List.getD_eq_getElem?_getD, List.getElem?_eq_none (by omega)]; rfl
    simp only [subAt, this, Nat.mul_zero, Nat.zero_add]
    exact Nat.div_eq_of_lt hc
  | m + 1, i, U, c, b, h, hc, hb => by
    rw [subAt]
    exact subAt_c m (i + 1) _ _ _ (by omega) ((Nat.div_lt_iff_lt_mul BB_pos).2 (by have := hb i; omega)) hb
theorem addAt_spec {v : List Nat} {lo : Nat} (hv : Wd v) : ∀ (m i : Nat) (U : List Nat) (c : Nat), lo + i + m ≤ U.length → v.length ≤ i + m → Wd U → c ≤ 1 →
    (addAt v lo m i U c).1.length = U.length ∧ Wd (addAt v lo m i U c).1 ∧ (addAt v lo m i U c).2 ≤ 1 ∧ (∀ j, lo + i + m ≤ j → (addAt v lo m i U c).1.getD j 0 = U.getD j 0) ∧
    val (addAt v lo m i U c).1 + BB ^ (lo + i + m) * (addAt v lo m i U c).2 = val U + BB ^ (lo + i) * (val (v.drop i) + c)
  | 0, i, U, c, h1, h2, hw, hc => by
    refine ⟨rfl, hw, hc, fun _ _ => rfl, ?_⟩
    simp only [addAt, Nat.add_zero]
    rw [List.drop_of_length_le (by omega)]
    simp [val]
  | m + 1, i, U, c, h1, h2, hw, hc => by
    have hx := hw.getD (lo + i)
    have hy := hv.getD i
    simp only [addAt]
    have hs := val_set (l := U) (i := lo + i) (w := (U.getD (lo + i) 0 + v.getD i 0 + c) % BB) (by omega)
    generalize hY : v.getD i 0 = y at *
    generalize hX : U.getD (lo + i) 0 = x at *
    have ht := Nat.div_add_mod (x + y + c) BB
    have htm := Nat.mod_lt (x + y + c) BB_pos
    have hdv : (x + y + c) / BB ≤ 1 := by
      have : (x + y + c) / BB < 2 := (Nat.div_lt_iff_lt_mul BB_pos).2 (by omega)
      omega
    generalize hm : (x + y + c) % BB = w at *
    generalize he : (x + y + c) / BB = e at *
    obtain ⟨g1, g2, g3, g4, g5⟩ := addAt_spec (lo := lo) hv m (i + 1) (U.set (lo + i) w) e (by rw [List.length_set]; omega) (by omega) (hw.set htm) hdv
    refine ⟨by rw [g1]; simp, g2, g3, fun j hj => ?_, ?_⟩
    · rw [g4 j (by omega), getD_set_ne (by omega)]
    · have e1 : lo + (i + 1) + m = lo + i + (m + 1) := by omega
      have e2 : lo + (i + 1) = lo + i + 1 := by omega
      rw [e1, e2, Nat.pow_succ] at g5
      rw [val_drop_all v i, hY]
      generalize BB ^ (lo + i) = G at g5 hs ⊢
      generalize val (v.drop (i + 1)) = D at g5 ⊢
      generalize BB ^ (lo + i + (m + 1)) * (addAt v lo m (i + 1) (U.set (lo + i) w) e).2 = E at g5 ⊢
      have f1 : G * (y + BB * D + c) = G * y + G * (BB * D) + G * c := by rw [Nat.mul_add, Nat.mul_add]
      have f2 : G * BB * (D + e) = G * (BB * D) + G * (BB * e) := by rw [Nat.mul_assoc, Nat.mul_add, Nat.mul_add]
      have f3 : G * (BB * e) + G * w = G * x + G * y + G * c := by rw [← Nat.mul_add, ht, Nat.mul_add, Nat.mul_add]
      rw [f1]
      rw [f2] at g5
      omega
theorem val_zero_of : ∀ {l : List Nat}, (∀ j, l.getD j 0 = 0) → val l = 0
  | [], _ => rfl
  | w :: l, h => by
    have h0 : w = 0 := by simpa using h 0
    have ih := val_zero_of (l := l) (fun j => by simpa using h (j + 1))
    rw [val, h0, ih]
    rfl
theorem getD_drop (l : List Nat) (k j : Nat) : (l.drop k).getD j 0 = l.getD (k + j) 0 := by simp [List.getD_eq_getElem?_getD]
theorem val_split (l : List Nat) {k : Nat} (hk : k ≤ l.length) : val l = val (l.take k) + BB ^ k * val (l.drop k) := by
  have h := val_append (l.take k) (l.drop k)
  rw [List.take_append_drop] at h
  have e : (l.take k).length = k := by simp; omega
  rw [e] at h
  exact h
theorem val_lt_of {l : List Nat} (hw : Wd l) {k : Nat} (hk : k ≤ l.length) (h : ∀ j, k ≤ j → l.getD j 0 = 0) : val l < BB ^ k := by
  have h1 := val_split l hk
  have h2 : val (l.drop k) = 0 := val_zero_of (fun j => by rw [getD_drop]; exact h _ (by omega))
  rw [h2, Nat.mul_zero, Nat.add_zero] at h1
  rw [h1]
  exact val_take_lt hw hk
structure StepOK (v U : List Nat) (lo digit : Nat) (U' : List Nat) : Prop where
  len : U'.length = U.length
  wd : Wd U'
  zero : ∀ j, lo + (v.length + 1) ≤ j → U'.getD j 0 = 0
  dig : digit < BB
  eq : val U' + BB ^ lo * (digit * val v) = val U
  lt : val U' < BB ^ lo * val v
theorem guessW_spec {v U : List Nat} {lo : Nat} (hv : Wd v) (hn : 2 ≤ v.length) (hnorm : BB ≤ 2 * v.getD (v.length - 1) 0) (hw : Wd U) (hU : lo + (v.length + 1) ≤ U.length) (hz : ∀ j, lo + (v.length + 1) ≤ j → U.getD j 0 = 0) (hlt : val (U.drop lo) < BB * val v) :
    val (U.drop lo) < (guessW v U lo + 1) * val v ∧ guessW v U lo * val v ≤ val (U.drop lo) + val v ∧ guessW v U lo < BB := by
  obtain ⟨n, hn'⟩ : ∃ n, v.length = n + 2 := ⟨v.length - 2, by omega⟩
  have hV : val v = (v.getD (n + 1) 0 * BB + v.getD n 0) * BB ^ n + val (v.take n) := by
    rw [val_split v (show n ≤ v.length by omega), val_drop_all v n, val_drop_all v (n + 1), List.drop_of_length_le (show v.length ≤ n + 1 + 1 by omega)]
    simp only [val, Nat.mul_zero, Nat.add_zero]
    rw [Nat.add_comm, Nat.mul_comm (BB ^ n), Nat.mul_comm BB, Nat.add_comm (v.getD n 0)]
  have hW : val (U.drop lo) = ((U.getD (lo + (n + 2)) 0 * BB + U.getD (lo + (n + 1)) 0) * BB + U.getD (lo + n) 0) * BB ^ n + val ((U.drop lo).take n) := by
    have hl : n ≤ (U.drop lo).length := by simp; omega
    have h0 : val (U.drop (lo + n + 1 + 1 + 1)) = 0 := val_zero_of (fun j => by rw [getD_drop]; exact hz _ (by omega))
    rw [val_split (U.drop lo) hl, List.drop_drop, val_drop_all U (lo + n), val_drop_all U (lo + n + 1), val_drop_all U (lo + n + 1 + 1), h0]
    simp only [Nat.mul_zero, Nat.add_zero]
    have e1 : lo + n + 1 + 1 = lo + (n + 2) := by omega
    have e2 : lo + n + 1 = lo + (n + 1) := by omega
    rw [e1, e2, Nat.add_comm, Nat.mul_comm (BB ^ n)]
    congr 2
    rw [Nat.add_comm, Nat.mul_comm BB]
    congr 2
    rw [Nat.add_comm, Nat.mul_comm BB]
  have hB : BB = 4294967296 := rfl
  have b1 := hv.getD n
  have b2 := hv.getD (n + 1)
  have hv0 : val (v.take n) < BB ^ n := val_take_lt hv (by omega)
  have hw0 : val ((U.drop lo).take n) < BB ^ n := val_take_lt (hw.drop lo) (by simp; omega)
  have bu := hw.getD (lo + n)
  have i1 : v.length - 1 = n + 1 := by omega
  have i2 : v.length - 2 = n := by omega
  rw [i1] at hnorm
  unfold guessW
  rw [i1, i2, hn']
  rw [hV, hW] at hlt ⊢
  generalize hP : BB ^ n = P at *
  generalize v.getD (n + 1) 0 = v1 at *
  generalize v.getD n 0 = v2 at *
  generalize val (v.take n) = v0 at *
  generalize val ((U.drop lo).take n) = w0 at *
  generalize U.getD (lo + n) 0 = u0 at *
  generalize U.getD (lo + (n + 2)) 0 * BB + U.getD (lo + (n + 1)) 0 = t at *
  have hv1 : 1 ≤ v1 := by omega
  have hVle : (v1 * BB + v2) * P + v0 ≤ (v1 + 1) * BB * P := by
    have h1 : v1 * BB + v2 + 1 ≤ (v1 + 1) * BB := by rw [Nat.add_mul]; omega
    have h2 := Nat.mul_le_mul_right P h1
    rw [Nat.add_mul _ 1 P, Nat.one_mul] at h2
    omega
  have ht : t < (v1 + 1) * BB := by
    have h1 : t * BB * P ≤ (t * BB + u0) * P := Nat.mul_le_mul_right _ (by omega)
    have h2 : t * (BB * P) < (v1 + 1) * BB * (BB * P) := by
      rw [← Nat.mul_assoc]
      refine Nat.lt_of_le_of_lt (Nat.le_trans h1 (Nat.le_add_right _ w0)) (Nat.lt_of_lt_of_le hlt ?_)
      refine Nat.le_trans (Nat.mul_le_mul_left BB hVle) (Nat.le_of_eq ?_)
      rw [Nat.mul_left_comm]
    exact Nat.lt_of_mul_lt_mul_right h2
  have hq : t / v1 ≤ BB + 1 := by
    have : t / v1 < BB + 2 := (Nat.div_lt_iff_lt_mul hv1).2 (by
      have : (BB + 2) * v1 = v1 * BB + 2 * v1 := by rw [Nat.add_mul, Nat.mul_comm BB]
      rw [this]
      rw [Nat.add_mul] at ht
      omega)
    omega
  have hdm := Nat.div_add_mod t v1
  have hml := Nat.mod_lt t hv1
  refine gLoop_spec hv0 hw0 b1 hv1 hlt BB (t / v1) (t % v1) (by rw [Nat.mul_comm]; exact hdm) hq (by omega) (by omega) ?_
  have h1 : t + 1 ≤ (t / v1 + 1) * v1 := by rw [Nat.add_mul, Nat.one_mul, Nat.mul_comm (t / v1)]; omega
  have h2 : (t + 1) * (BB * P) ≤ (t / v1 + 1) * v1 * (BB * P) := Nat.mul_le_mul_right _ h1
  have h3 : (t / v1 + 1) * v1 * (BB * P) ≤ (t / v1 + 1) * ((v1 * BB + v2) * P + v0) := by
    rw [Nat.mul_assoc]
    refine Nat.mul_le_mul_left _ ?_
    have h4 : v1 * BB * P ≤ (v1 * BB + v2) * P := Nat.mul_le_mul_right _ (by omega)
    rw [Nat.mul_assoc] at h4
    omega
  have h5 : (t * BB + u0) * P + w0 < (t + 1) * (BB * P) := by
    have h6 : t * BB + u0 + 1 ≤ (t + 1) * BB := by rw [Nat.add_mul]; omega
    have h7 := Nat.mul_le_mul_right P h6
    rw [Nat.add_mul _ 1 P, Nat.one_mul, Nat.mul_assoc (t + 1)] at h7
    omega
  omega
theorem step_spec {v U : List Nat} {lo : Nat} (hv : Wd v) (hn : 2 ≤ v.length) (hnorm : BB ≤ 2 * v.getD (v.length - 1) 0) (hw : Wd U) (hU : lo + (v.length + 1) ≤ U.length) (hz : ∀ j, lo + (v.length + 1) ≤ j → U.getD j 0 = 0) (hlt : val U < BB ^ lo * (BB * val v)) :
    let S := subAt v (guessW v U lo) lo (v.length + 1) 0 U 0 0
    (S.b = 1 → 1 ≤ guessW v U lo ∧ StepOK v U lo (guessW v U lo - 1) (addAt v lo (v.length + 1) 0 S.u 0).1) ∧ (S.b ≠ 1 → StepOK v U lo (guessW v U lo) S.u) ∧ Wd S.u ∧ S.u.length = U.length ∧ guessW v U lo < BB := by
  intro S
  have hsp := val_split U (show lo ≤ U.length by omega)
  have htl := val_take_lt hw (show lo ≤ U.length by omega)
  have hG : 0 < BB ^ lo := Nat.pow_pos BB_pos
  have hW : val (U.drop lo) < BB * val v := by
    have : BB ^ lo * val (U.drop lo) < BB ^ lo * (BB * val v) := by omega
    exact Nat.lt_of_mul_lt_mul_left this
  obtain ⟨g1, g2, g3⟩ := guessW_spec hv hn hnorm hw hU hz hW
  obtain ⟨s1, s2, s3, s4, s5⟩ := subAt_spec (lo := lo) hv g3 (v.length + 1) 0 U 0 0 (by omega) (by omega) hw BB_pos (by omega)
  have sc : S.c = 0 := subAt_c v.length 0 U 0 0 (by omega) BB_pos (fun i => by
    have h1 := hv.getD i
    have h2 : guessW v U lo * v.getD i 0 ≤ (BB - 1) * (BB - 1) := Nat.mul_le_mul (by omega) (by omega)
    have e : (BB - 1) * (BB - 1) + BB ≤ BB * BB := by decide
    omega)
  simp only [Nat.add_zero, List.drop_zero] at s4 s5
  change S.u.length = _ at s1
  change Wd S.u at s2
  change S.b ≤ 1 at s3
  change ∀ j, _ → S.u.getD j 0 = _ at s4
  change val S.u + _ = val U + _ * (S.c + S.b) at s5
  have hzS : ∀ j, lo + (v.length + 1) ≤ j → S.u.getD j 0 = 0 := fun j hj => by rw [s4 j hj, hz j hj]
  have hvlt := val_lt hv
  rw [sc, Nat.zero_add] at s5
  have hSE := val_lt_of s2 (show lo + (v.length + 1) ≤ S.u.length by omega) hzS
  have hE : BB ^ lo * val v < BB ^ (lo + (v.length + 1)) := by
    rw [Nat.pow_add]
    refine Nat.mul_lt_mul_of_pos_left ?_ hG
    refine Nat.lt_trans hvlt ?_
    exact Nat.pow_lt_pow_right (by decide) (by omega)
  have hUlt : val U < BB ^ lo * ((guessW v U lo + 1) * val v) := by
    have h1 : BB ^ lo * (val (U.drop lo) + 1) ≤ BB ^ lo * ((guessW v U lo + 1) * val v) := Nat.mul_le_mul_left _ g1
    rw [Nat.mul_add, Nat.mul_one] at h1
    omega
  rw [Nat.add_mul, Nat.one_mul, Nat.mul_add] at hUlt
  refine ⟨fun hb => ?_, fun hb => ?_, s2, s1, g3⟩
  · rw [hb, Nat.mul_one] at s5
    have hpos : 1 ≤ guessW v U lo := by
      rcases Nat.eq_zero_or_pos (guessW v U lo) with h | h
      · rw [h, Nat.zero_mul, Nat.mul_zero] at s5; omega
      · exact h
    refine ⟨hpos, ?_⟩
    obtain ⟨a1, a2, a3, a4, a5⟩ := addAt_spec (lo := lo) hv (v.length + 1) 0 S.u 0 (by omega) (by omega) s2 (by omega)
    simp only [Nat.add_zero, List.drop_zero] at a4 a5
    have hzA : ∀ j, lo + (v.length + 1) ≤ j → (addAt v lo (v.length + 1) 0 S.u 0).1.getD j 0 = 0 := fun j hj => by rw [a4 j hj, hzS j hj]
    have hAE := val_lt_of a2 (show lo + (v.length + 1) ≤ (addAt v lo (v.length + 1) 0 S.u 0).1.length by omega) hzA
    have hgm : guessW v U lo * val v = (guessW v U lo - 1) * val v + val v := by
      have : guessW v U lo = guessW v U lo - 1 + 1 := by omega
      conv => lhs; rw [this, Nat.add_mul, Nat.one_mul]
    rw [hgm, Nat.mul_add] at s5 hUlt
    rw [hgm] at g2
    have hle : BB ^ lo * ((guessW v U lo - 1) * val v) ≤ BB ^ lo * val (U.drop lo) := Nat.mul_le_mul_left _ (by omega)
    generalize hX : BB ^ lo * ((guessW v U lo - 1) * val v) = X at *
    generalize hE2 : BB ^ (lo + (v.length + 1)) = E at *
    have ha : (addAt v lo (v.length + 1) 0 S.u 0).2 = 1 := by
      rcases (show (addAt v lo (v.length + 1) 0 S.u 0).2 = 0 ∨ (addAt v lo (v.length + 1) 0 S.u 0).2 = 1 by omega) with h | h
      · rw [h, Nat.mul_zero] at a5; omega
      · exact h
    rw [ha, Nat.mul_one] at a5
    refine ⟨by omega, a2, hzA, by omega, ?_, by omega⟩
    rw [hX]
    omega
  · have hb0 : S.b = 0 := by omega
    rw [hb0, Nat.mul_zero, Nat.add_zero] at s5
    exact ⟨s1, s2, hzS, g3, s5, by omega⟩
theorem callRO_one {P : Program} {fr : Nat} {f : FuncId} {args : List D} {dst : Option Nat} {st : St} {K : St → Prop} {key : Key} {z : Nat} {old new : Obj} {d : D} (h : FnR P f args [⟨key, z, old, new⟩] d) (hl : st.look fr key = some (z, old)) (hg : old ≠ .gone) (hk : K ((st.set fr key (some (z, new))).put dst d)) : @callRO P fr f args dst st ⟨K⟩ := by
  refine ⟨[⟨key, z, old, new⟩], d, h, fun u hu => ?_, by simp, hk⟩
  rw [List.mem_singleton.1 hu]
  exact ⟨hl, hg⟩
theorem getD_zero_of_lt {l : List Nat} {k j : Nat} (h : val l < BB ^ k) (hj : k ≤ j) : l.getD j 0 = 0 := by
  by_cases hl : j < l.length
  · have hs := val_set (l := l) (i := j) (w := 0) hl
    rw [Nat.mul_zero, Nat.add_zero] at hs
    rcases Nat.eq_zero_or_pos (l.getD j 0) with h0 | h0
    · exact h0
    · have h1 : BB ^ j * 1 ≤ BB ^ j * l.getD j 0 := Nat.mul_le_mul_left _ h0
      have h2 : BB ^ k ≤ BB ^ j := Nat.pow_le_pow_right BB_pos hj
      omega
  · rw [List.getD_eq_getElem?_getD, List.getElem?_eq_none (by omega)]; rfl
theorem loop168 (v : List Nat) (g : Bool) (hv : Wd v) (hn : 2 ≤ v.length) (hnorm : BB ≤ 2 * v.getD (v.length - 1) 0) (d0 : D) (lq : Nat) (hlq : lq + v.length ≤ 17592186044416) (F : Nat) (out : Sto) (Q : Ex → St → Prop) (z z' : Nat) : ∀ (m : Nat) (U qs : List Nat) (nx : Nat), m + qs.length = lq → U.length = lq + v.length → Wd U → Wd qs → (∀ j, m + v.length ≤ j → U.getD j 0 = 0) → val U < BB ^ m * val v →
    (∀ (U' qs' : List Nat) (nx : Nat), qs'.length = lq → U'.length = lq + v.length → Wd U' → Wd qs' → val U' < val v → val U' + val qs' * val v = val U + BB ^ m * val qs * val v →
      Q (.exit 0) { r := (upd (upd (upd (upd (upd (upd (upd (fun _ => .u) 73 (.b false)) 13 (.i .i64 (-1))) 12 (.w (F, 67) z' 1 0 lq)) 11 (.w (F, 55) z 1 0 (lq + v.length))) 10 (.sl 1 g (eW v))) 9 (d0)) 8 (.i .i64 v.length)), own := upd (upd (fun _ => none) 67 (some (z', .row 1 (eW qs')))) 55 (some (z, .row 1 (eW U'))), out := out, nx := nx }) →
    Loop Go.Proofs.Tryz.prog F [8, 9, 10, 11, 12, 13] [55, 67] b168_0 { r := (upd (upd (upd (upd (upd (upd (fun _ => .u) 13 (.i .i64 ((m : Int) - 1))) 12 (.w (F, 67) z' 1 0 lq)) 11 (.w (F, 55) z 1 0 (lq + v.length))) 10 (.sl 1 g (eW v))) 9 (d0)) 8 (.i .i64 v.length)), own := upd (upd (fun _ => none) 67 (some (z', .row 1 (eW (List.replicate m 0 ++ qs))))) 55 (some (z, .row 1 (eW U))), out := out, nx := nx } Q := by
  intro m
  induction m with
  | zero =>
    intro U qs nx hm hU hw hwq hz hlt hQ
    refine Loop.stepW ?_
    have c1 : decide ((((0 : Nat) : Int) - 1) ≥ 0) = false := by decide
    simp only [go_sem, sB, reduceCtorEq, sL, sA, sE, sN, wb168_0, c1, List.replicate_zero]
    exact hQ U qs _ (by omega) hU hw hwq (by simpa using hlt) (by simp)
  | succ m ih =>
    intro U qs nx hm hU hw hwq hz hlt hQ
    refine Loop.stepW ?_
    have e0 : (((m + 1 : Nat) : Int) - 1) = (m : Int) := by omega
    have c1 : decide (((m : Nat) : Int) ≥ 0) = true := by simp
    have e1 : IntKind.wrap .i64 (((m : Nat) : Int) + ((v.length : Nat) : Int)) = ((m + v.length : Nat) : Int) := by rw [IntWalk.i64_in _ (by omega)]; omega
    have e2 : IntKind.wrap .i64 (((m + v.length : Nat) : Int) + 1) = ((m + v.length + 1 : Nat) : Int) := by rw [IntWalk.i64_in _ (by omega)]; omega
    have e3 : m + v.length + 1 - m = v.length + 1 := by omega
    have e4 : IntKind.wrap .i64 (((m : Nat) : Int) - 1) = ((m : Nat) : Int) - 1 := IntWalk.i64_in _ (by omega)
    have hs := slcO_w (sz := 1) (key := (F, 55)) (z := z) (lo := 0) (len := lq + v.length) (k := .i64) (k' := .i64) (a := m) (b := m + v.length + 1) (by omega) (by omega) (.inr (by omega))
    obtain ⟨s1, s2, s3, s4, s5⟩ := step_spec (lo := m) hv hn hnorm hw (by omega) (fun j hj => hz j (by omega)) (by rw [Nat.pow_succ] at hlt; rw [← Nat.mul_assoc]; exact hlt)
    have hv10 : 0 < v.getD (v.length - 1) 0 := by have := BB_pos; omega
    have hB : BB = 4294967296 := rfl
    simp only [go_sem, sB, reduceCtorEq, sL, sA, sE, sN, wb168_0, e0, c1, e1, e2, hs, e3]
    refine callRO_one (w195 v g hv hn (by omega) hv10 (F, 55) z m U (by omega) hw) (by simp only [go_sem, sB, reduceCtorEq, sL, sA, sE, sN]) (by simp) ?_
    simp only [go_sem, sB, reduceCtorEq, sL, sA, sE, sN]
    refine callRO_one (w196 v g hv (guessW v U m) s5 (F, 55) z m (v.length + 1) (by omega) U (by omega) hw) (by simp only [go_sem, sB, reduceCtorEq, sL, sA, sE, sN]) (by simp) ?_
    simp only [go_sem, sB, reduceCtorEq, sL, sA, sE, sN]
    have fin : ∀ (digit : Nat) (U' : List Nat), StepOK v U m digit U' → ∀ nx, Loop Go.Proofs.Tryz.prog F [8, 9, 10, 11, 12, 13] [55, 67] b168_0 { r := (upd (upd (upd (upd (upd (upd (fun _ => .u) 13 (.i .i64 ((m : Int) - 1))) 12 (.w (F, 67) z' 1 0 lq)) 11 (.w (F, 55) z 1 0 (lq + v.length))) 10 (.sl 1 g (eW v))) 9 (d0)) 8 (.i .i64 v.length)), own := upd (upd (fun _ => none) 67 (some (z', .row 1 (eW (List.replicate m 0 ++ digit :: qs))))) 55 (some (z, .row 1 (eW U'))), out := out, nx := nx } Q := by
      intro digit U' hok nx
      refine ih U' (digit :: qs) nx (by simp; omega) (by rw [hok.len]; exact hU) hok.wd (.cons hok.dig hwq) (fun j hj => ?_) hok.lt (fun U2 qs2 nx h1 h2 h3 h4 h5 h6 => hQ U2 qs2 nx h1 h2 h3 h4 h5 ?_)
      · have hvl := val_lt hv
        have h1 : BB ^ m * val v < BB ^ (m + v.length) := by
          rw [Nat.pow_add]
          exact Nat.mul_lt_mul_of_pos_left hvl (Nat.pow_pos BB_pos)
        exact getD_zero_of_lt (Nat.lt_trans hok.lt h1) hj
      · rw [h6, ← hok.eq, Nat.pow_succ, val, Nat.mul_add, Nat.add_mul, Nat.mul_assoc (BB ^ m) digit, ← Nat.mul_assoc (BB ^ m) BB]
        omega
    have hd : ∀ digit, digit < BB → IntKind.wrap .u32 ((digit : Nat) : Int) = ((digit : Nat) : Int) := fun digit h => w32 _ (by rw [hB] at h; exact h)
    have hmq : m < lq := by omega
    have hat := eW_at (show m < (List.replicate (m + 1) 0 ++ qs).length by simp; omega)
    by_cases hb : (subAt v (guessW v U m) m (v.length + 1) 0 U 0 0).b = 1
    · obtain ⟨p1, p2⟩ := s1 hb
      have e5 : IntKind.wrap .u64 (((guessW v U m : Nat) : Int) - 1) = ((guessW v U m - 1 : Nat) : Int) := by rw [hB] at s5; rw [IntWalk.u64_in _ (by omega)]; omega
      simp only [go_sem, sB, reduceCtorEq, sL, sA, sE, sN, decide_eq_true hb, e5]
      refine callRO_one (w197 v g hv (F, 55) z m (v.length + 1) (by omega) _ (by rw [s4]; omega) s3) (by simp only [go_sem, sB, reduceCtorEq, sL, sA, sE, sN]) (by simp) ?_
      simp only [go_sem, sB, reduceCtorEq, sL, sA, sE, sN, hd _ p2.dig, ixsO_w _ _ _ _ _ _ _ hmq, hat, set_rep, e4]
      exact fin _ _ p2 _
    · have p2 := s2 hb
      simp only [go_sem, sB, reduceCtorEq, sL, sA, sE, sN, decide_eq_false hb, hd _ p2.dig, ixsO_w _ _ _ _ _ _ _ hmq, hat, set_rep, e4]
      exact fin _ _ p2 _
theorem toW_len {x k : Nat} (h1 : BB ^ k ≤ x) (h2 : x < BB ^ (k + 1)) : (toW x).length = k + 1 := by
  have hlt := val_lt (Wd_toW x)
  rw [val_toW] at hlt
  have hne : toW x ≠ [] := by
    intro h
    have := val_toW x
    rw [h] at this
    simp only [val] at this
    have := Nat.pow_pos (n := k) BB_pos
    omega
  have hge := (Canon_toW x).ge hne
  rw [val_toW] at hge
  have a1 : k < (toW x).length := by
    apply Classical.byContradiction
    intro h
    have := Nat.pow_le_pow_right BB_pos (show (toW x).length ≤ k by omega)
    omega
  have a2 : (toW x).length - 1 < k + 1 := by
    apply Classical.byContradiction
    intro h
    have := Nat.pow_le_pow_right BB_pos (show k + 1 ≤ (toW x).length - 1 by omega)
    omega
  omega
theorem top_bounds {l : List Nat} (hw : Wd l) {k : Nat} (hk : l.length = k + 1) : BB ^ k * l.getD k 0 ≤ val l ∧ val l < BB ^ k * (l.getD k 0 + 1) := by
  have h1 := val_split l (show k ≤ l.length by omega)
  have h2 := val_take_lt hw (show k ≤ l.length by omega)
  rw [val_drop_all, List.drop_of_length_le (by omega)] at h1
  simp only [val, Nat.mul_zero, Nat.add_zero] at h1
  rw [Nat.mul_add, Nat.mul_one]
  omega
theorem norm_facts {b : List Nat} (hw : Wd b) {k : Nat} (hk : b.length = k + 1) (hb : 0 < b.getD k 0) :
    0 < BB / (b.getD k 0 + 1) ∧ BB / (b.getD k 0 + 1) < BB ∧ (toW (val b * (BB / (b.getD k 0 + 1)))).length = k + 1 ∧ BB ≤ 2 * (toW (val b * (BB / (b.getD k 0 + 1)))).getD k 0 := by
  obtain ⟨t1, t2⟩ := top_bounds hw hk
  have hbt := hw.getD k
  generalize b.getD k 0 = x at *
  have hB : BB = 4294967296 := rfl
  have hdm := Nat.div_add_mod BB (x + 1)
  have hml := Nat.mod_lt BB (show 0 < x + 1 by omega)
  have hd0 : 0 < BB / (x + 1) := Nat.div_pos (by omega) (by omega)
  have hd1 : BB / (x + 1) < BB := Nat.div_lt_self BB_pos (by omega)
  generalize hd : BB / (x + 1) = d at *
  generalize hV : val b = V at *
  have hG : 0 < BB ^ k := Nat.pow_pos BB_pos
  -- upper bound
  have u1 : V * d < BB ^ (k + 1) := by
    have h1 : V * d < BB ^ k * (x + 1) * d := Nat.mul_lt_mul_of_pos_right t2 hd0
    have h2 : BB ^ k * ((x + 1) * d) ≤ BB ^ k * BB := Nat.mul_le_mul_left _ (by omega)
    rw [Nat.mul_assoc] at h1
    rw [Nat.pow_succ]
    omega
  have half : BB ≤ 2 * (x * d) := by
    have e : (x + 1) * d = x * d + d := by rw [Nat.add_mul, Nat.one_mul]
    rw [e] at hdm
    have f2 : x ≤ x * d := Nat.le_mul_of_pos_right x hd0
    rcases Nat.lt_or_ge 2147483648 x with h | h
    · omega
    · apply Classical.byContradiction
      intro hc
      obtain ⟨c, hcc⟩ : ∃ c, x + c = 2147483648 := ⟨2147483648 - x, by omega⟩
      have hdc : c + 1 ≤ d := by omega
      have h1 : x * (c + 1) ≤ x * d := Nat.mul_le_mul_left _ hdc
      obtain ⟨a, ha⟩ : ∃ a, x = a + 1 := ⟨x - 1, by omega⟩
      have h2 : x * (c + 1) = a * c + a + c + 1 := by rw [ha, Nat.add_mul, Nat.mul_add, Nat.one_mul]; omega
      omega
  have l1 : BB ^ k * (x * d) ≤ V * d := by rw [← Nat.mul_assoc]; exact Nat.mul_le_mul_right _ t1
  have l2 : BB ^ k * 1 ≤ BB ^ k * (x * d) := Nat.mul_le_mul_left _ (by omega)
  have hlen := toW_len (x := V * d) (k := k) (by omega) u1
  refine ⟨hd0, hd1, hlen, ?_⟩
  obtain ⟨b1, b2⟩ := top_bounds (Wd_toW (V * d)) hlen
  rw [val_toW] at b1 b2
  have h3 : BB ^ k * (x * d) < BB ^ k * ((toW (V * d)).getD k 0 + 1) := by omega
  have h4 := Nat.lt_of_mul_lt_mul_left h3
  omega
theorem ixsO_sl0 (f : Bool) (es : List (List D)) (k : IntKind) (e : List D) (h : es[0]? = some e) : ixsO 1 (.sl 1 f es) (.i k 0) = some (.q e) := by simp [ixsO, h]
theorem w168a (a b : List Nat) (f g : Bool) (ha : Wd a) (hb : Wd b) (ca : Canon a) (cb : Canon b) (hb0 : b ≠ []) (hl : a.length + b.length ≤ 8796093022208) (hgen : ¬ val a < val b → b.length ≠ 1 → ∀ F out, Start F [] out → ∃ st0 : St, True) : b.length = 1 ∨ val a < val b → FnR Go.Proofs.Tryz.prog 168 [.sl 1 f (eW a), .sl 1 g (eW b)] [] (.t [eN (toW (val a / val b)), eN (toW (val a % val b))]) := by
  intro hcase
  refine fnr168 (by simp) (by simp [D.nr, nrL, eN, nrLL_eW]) (by simp) List.nodup_nil fun F out hS => ?_
  unfold ir168
  simp only [go_sem, sB, reduceCtorEq, sL, sA, sE, sN]
  refine callO_intro (w142 a b f g ha hb ca cb (by omega) (by omega)) ?_
  simp only [go_sem, sB, reduceCtorEq, sL, sA, sE, sN]
  refine condO_d (fun h => ?_) (fun h => ?_)
  · have hlt : val a < val b := by
      unfold cmpN at h
      split at h
      · assumption
      · split at h <;> omega
    have e1 : toW (val a / val b) = [] := by rw [Nat.div_eq_of_lt hlt, toW_zero]
    have e2 : toW (val a % val b) = a := by rw [Nat.mod_eq_of_lt hlt, toW_val ha ca]
    simp only [go_sem, sB, reduceCtorEq, sL, sA, sE, sN, rv168, fin_t2, e1, e2]
    exact .t (.cons (.slf _ _ _) (.cons (.slf _ _ _) .nil))
  · have hge : ¬ val a < val b := by
      intro hlt
      apply h
      unfold cmpN
      rw [if_pos hlt]
      decide
    have hb1 : b.length = 1 := by
      rcases hcase with h1 | h1
      · exact h1
      · exact absurd h1 hge
    obtain ⟨x, rfl⟩ : ∃ x, b = [x] := by
      cases b with
      | nil => exact absurd rfl hb0
      | cons x b => cases b with
        | nil => exact ⟨x, rfl⟩
        | cons _ _ => simp at hb1
    have c1 : ((((1 : Nat)) : Int) == 1) = true := by decide
    have hx0 : 0 < x := Nat.pos_of_ne_zero cb
    have hx1 : x < 4294967296 := hb.head
    have hvx : val [x] = x := by simp [val]
    rw [hvx] at *
    have hat : (eW [x])[0]? = some [.i .u32 (x : Int)] := rfl
    simp only [go_sem, sB, reduceCtorEq, sL, sA, sE, sN, c1, ixsO_sl0 _ _ _ _ hat, w64 x (by omega)]
    refine callO_intro (w194 a f x hx0 hx1 ha (by omega)) ?_
    simp only [go_sem, sB, reduceCtorEq, sL, sA, sE, sN]
    have hm := Nat.mod_lt (val a) hx0
    refine callO_intro (w139 (val a % x) (by omega)) ?_
    simp only [go_sem, sB, reduceCtorEq, sL, sA, sE, sN, rv168, fin_t2]
    exact .refl _
theorem Canon.top : ∀ {l : List Nat}, Canon l → l ≠ [] → 0 < l.getD (l.length - 1) 0
  | [], _, h => absurd rfl h
  | [w], h, _ => by simp only [Canon] at h; simpa using Nat.pos_of_ne_zero h
  | w :: x :: l, h, _ => by
    have ih := Canon.top (l := x :: l) h (by simp)
    simpa using ih
theorem elemsOf_sl (L : Sto) (sz : Nat) (f : Bool) (es : List (List D)) : elemsOf L sz (.sl sz f es) = some es := by simp [elemsOf]
theorem cpyO_w {fr sz : Nat} {dst : Option Nat} {st : St} {K : St → Prop} {key : Key} {z len : Nat} {es ys : List (List D)} (h : st.look fr key = some (z, .row sz es)) (h2 : len = es.length) (h3 : ys.length ≤ len) (hk : K ((st.set fr key (some (z, .row sz (ys ++ es.drop ys.length)))).put dst (.i .i64 (ys.length : Nat)))) : @cpyO fr sz dst st (.w key z sz 0 len) (some ys) ⟨K⟩ := by
  have e1 : min ys.length len = ys.length := Nat.min_eq_left h3
  have e2 : ys.take len = ys := List.take_of_length_le h3
  simp only [cpyO, h, e1, e2, List.take_zero, List.nil_append, Nat.zero_add]
  exact ⟨trivial, trivial, trivial, by omega, hk⟩
theorem tdivL (x : Nat) : (4294967296 : Int).tdiv ((x : Nat) : Int) = ((4294967296 / x : Nat) : Int) := (rfl)
theorem toW_le {x k : Nat} (h : x < BB ^ k) : (toW x).length ≤ k := by
  by_cases h0 : toW x = []
  · rw [h0]; simp
  · have hge := (Canon_toW x).ge h0
    rw [val_toW] at hge
    apply Classical.byContradiction
    intro hn
    have := Nat.pow_le_pow_right BB_pos (show k ≤ (toW x).length - 1 by omega)
    omega
theorem w168 (a b : List Nat) (f g : Bool) (ha : Wd a) (hb : Wd b) (ca : Canon a) (cb : Canon b) (hb0 : b ≠ []) (hl : a.length + b.length ≤ 8796093022208) : FnR Go.Proofs.Tryz.prog 168 [.sl 1 f (eW a), .sl 1 g (eW b)] [] (.t [eN (toW (val a / val b)), eN (toW (val a % val b))]) := by
  by_cases hcase : b.length = 1 ∨ val a < val b
  · exact w168a a b f g ha hb ca cb hb0 hl (fun _ _ _ _ _ => ⟨⟨fun _ => .u, fun _ => none, fun _ => none, 0⟩, trivial⟩) hcase
  have hb1 : b.length ≠ 1 := fun h => hcase (.inl h)
  have hge : ¬ val a < val b := fun h => hcase (.inr h)
  refine fnr168 (by simp) (by simp [D.nr, nrL, eN, nrLL_eW]) (by simp) List.nodup_nil fun F out hS => ?_
  unfold ir168
  simp only [go_sem, sB, reduceCtorEq, sL, sA, sE, sN]
  refine callO_intro (w142 a b f g ha hb ca cb (by omega) (by omega)) ?_
  have hc1 : ¬ cmpN (val a) (val b) < 0 := by
    unfold cmpN
    rw [if_neg hge]
    split <;> decide
  have hc2 : (((b.length : Nat) : Int) == 1) = false := by rw [beq_eq_false_iff_ne]; omega
  have hlen0 : 0 < b.length := List.length_pos_iff.2 hb0
  obtain ⟨k, hk⟩ : ∃ k, b.length = k + 1 := ⟨b.length - 1, by omega⟩
  have htop := Canon.top cb hb0
  have hlen1 : b.length - 1 = k := by omega
  rw [hlen1] at htop
  obtain ⟨n1, n2, n3, n4⟩ := norm_facts hb hk htop
  have e1 : IntKind.wrap .i64 (((b.length : Nat) : Int) - 1) = ((k : Nat) : Int) := by rw [IntWalk.i64_in _ (by omega)]; omega
  have hat := eW_at (show k < b.length by omega)
  have hxb := hb.getD k
  have hB : BB = 4294967296 := rfl
  generalize hx : b.getD k 0 = x at *
  have e2 : IntKind.wrap .u64 (((x : Nat) : Int) + 1) = ((x + 1 : Nat) : Int) := by rw [IntWalk.u64_in _ (by omega)]; omega
  have hx1 : ((x + 1 : Nat) : Int) ≠ 0 := by omega
  rw [hB] at n1 n2 n3 n4
  simp only [go_sem, sB, reduceCtorEq, sL, sA, sE, sN, decide_eq_false hc1, hc2, e1, ixsO_sl _ _ _ _ _ _ hat, w64 x (by omega), e2, e_quo _ _ _ hx1, tdivL, w64 (4294967296 / (x + 1)) (by omega)]
  refine callO_intro (w139 (4294967296 / (x + 1)) (by omega)) ?_
  generalize hd : 4294967296 / (x + 1) = d at *
  have hdl : (toW d).length ≤ 1 := by
    rw [toW_pos (by omega), Nat.div_eq_of_lt (by rw [hB]; exact n2), toW_zero]
    simp
  simp only [go_sem, sB, reduceCtorEq, sL, sA, sE, sN]
  refine callO_intro (w148 b (toW d) g false hb (Wd_toW d) (by omega)) ?_
  rw [val_toW]
  have e3 : IntKind.wrap .i64 (((a.length : Nat) : Int) + 1) = ((a.length + 1 : Nat) : Int) := by rw [IntWalk.i64_in _ (by omega)]; omega
  simp only [go_sem, sB, reduceCtorEq, sL, sA, sE, sN, e3]
  refine mkO_intro (Nat.le_refl _) (by omega) (by omega) ?_
  simp only [go_sem, sB, reduceCtorEq, sL, sA, sE, sN]
  refine callO_intro (w139 d (by omega)) ?_
  simp only [go_sem, sB, reduceCtorEq, sL, sA, sE, sN]
  refine callO_intro (w148 a (toW d) f false ha (Wd_toW d) (by omega)) ?_
  rw [val_toW]
  simp only [go_sem, sB, reduceCtorEq, sL, sA, sE, sN, eN, elemsOf_sl]
  have hXl : (toW (val a * d)).length ≤ a.length + 1 := toW_le (by
    rw [Nat.pow_succ]
    exact Nat.lt_of_lt_of_le (Nat.mul_lt_mul_of_pos_right (val_lt ha) n1) (Nat.mul_le_mul_left _ (by rw [hB]; omega)))
  refine cpyO_w (es := eW (List.replicate (a.length + 1) 0)) (by simp only [go_sem, sB, reduceCtorEq, sL, sA, sE, sN]) (by rw [eW_length]; simp) (by rw [eW_length]; exact hXl) ?_
  have hab : b.length ≤ a.length := by
    apply Classical.byContradiction
    intro hn
    exact hge (len_lt ha cb (by omega))
  have e4 : IntKind.wrap .i64 (((a.length : Nat) : Int) - ((b.length : Nat) : Int)) = ((a.length - b.length : Nat) : Int) := by rw [IntWalk.i64_in _ (by omega)]; omega
  have e5 : IntKind.wrap .i64 (((a.length - b.length : Nat) : Int) + 1) = ((a.length - b.length + 1 : Nat) : Int) := by rw [IntWalk.i64_in _ (by omega)]; omega
  simp only [go_sem, sB, reduceCtorEq, sL, sA, sE, sN, e4, e5, eW_append]
  refine mkO_intro (Nat.le_refl _) (by omega) (by omega) ?_
  simp only [go_sem, sB, reduceCtorEq, sL, sA, sE, sN, e4, e5, eW_append]
  generalize hU0 : toW (val a * d) ++ List.drop (toW (val a * d)).length (List.replicate (a.length + 1) 0) = U0
  have hU0l : U0.length = a.length + 1 := by rw [← hU0]; simp; omega
  have hdr : List.drop (toW (val a * d)).length (List.replicate (a.length + 1) 0) = List.replicate (a.length + 1 - (toW (val a * d)).length) 0 := by simp
  have hU0w : Wd U0 := by rw [← hU0, hdr]; exact (Wd_toW _).append (Wd_rep _)
  have hU0v : val U0 = val a * d := by rw [← hU0, hdr, val_append, val_toW, val_zeros, Nat.mul_zero, Nat.add_zero]
  have hvl : (toW (val b * d)).length = b.length := by rw [n3, hk]
  have hlp := loop168 (toW (val b * d)) false (Wd_toW _) (by omega) (by rw [hvl, hlen1, hB]; exact n4) (.i .u64 d) (a.length - b.length + 1) (by omega) F out
  have hq0 := fun Q z z' nx => hlp Q z z' (a.length - b.length + 1) U0 [] nx (by simp) (by omega) hU0w .nil
  simp only [List.append_nil, hvl] at hq0
  have hz0 : (((a.length - b.length + 1 : Nat) : Int) - 1) = ((a.length - b.length : Nat) : Int) := by omega
  have hs0 : a.length - b.length + 1 + b.length = a.length + 1 := by omega
  simp only [hz0, hs0] at hq0
  refine hq0 _ _ _ _ (fun j hj => ?_) ?_ (fun U' qs' nx h1 h2 h3 h4 h5 h6 => ?_)
  · rw [List.getD_eq_getElem?_getD, List.getElem?_eq_none (by omega)]; rfl
  · rw [val_toW, hU0v, ← Nat.mul_assoc]
    refine Nat.mul_lt_mul_of_pos_right ?_ n1
    have g1 := val_lt ha
    have g2 := cb.ge hb0
    have g3 : BB ^ (a.length - b.length + 1) * BB ^ (b.length - 1) ≤ BB ^ (a.length - b.length + 1) * val b := Nat.mul_le_mul_left _ g2
    rw [← Nat.pow_add] at g3
    have g4 : a.length - b.length + 1 + (b.length - 1) = a.length := by omega
    rw [g4] at g3
    omega
  · rw [val_toW] at h5 h6
    simp only [val, Nat.mul_zero, Nat.zero_mul, Nat.add_zero, hU0v] at h6
    have hle1 : 0 + (a.length + 1) ≤ (eW U').length := by rw [eW_length]; omega
    have hle2 : 0 + (a.length - b.length + 1) ≤ (eW qs').length := by rw [eW_length]; omega
    have ht1 : U'.take (a.length + 1) = U' := List.take_of_length_le (by omega)
    have ht2 : qs'.take (a.length - b.length + 1) = qs' := List.take_of_length_le (by omega)
    have hQle : val qs' * val b ≤ val a := by
      have : val qs' * val b * d ≤ val a * d := by rw [Nat.mul_assoc]; omega
      exact Nat.le_of_mul_le_mul_right this n1
    have hUv : val U' = (val a - val qs' * val b) * d := by
      rw [Nat.sub_mul, Nat.mul_assoc]
      omega
    have hRlt : val a - val qs' * val b < val b := by
      rw [hUv] at h5
      exact Nat.lt_of_mul_lt_mul_right h5
    have hdm := Nat.div_add_mod (val a) (val b)
    have hbp : 0 < val b := by omega
    have hqv : val a / val b = val qs' := by
      have e : val a = val b * val qs' + (val a - val qs' * val b) := by rw [Nat.mul_comm (val b)]; omega
      rw [e, Nat.mul_add_div hbp, Nat.div_eq_of_lt hRlt, Nat.add_zero]
    have hrv : val a % val b = val U' / d := by
      rw [hUv, Nat.mul_div_cancel _ n1]
      rw [hqv, Nat.mul_comm (val b)] at hdm
      omega
    have hUl := toW_le (val_lt h3)
    simp only [go_sem, sB, reduceCtorEq, sL, sA, sE, sN, frzR_s _ _ _ _ _ _ _ _ hle1, ht1]
    refine callO_intro (w165 U' false h3 (by omega)) ?_
    simp only [go_sem, sB, reduceCtorEq, sL, sA, sE, sN]
    refine callO_intro (w194 (toW (val U')) false d n1 n2 (Wd_toW _) (by omega)) ?_
    rw [val_toW]
    simp only [go_sem, sB, reduceCtorEq, sL, sA, sE, sN, frzR_s _ _ _ _ _ _ _ _ hle2, ht2]
    refine callO_intro (w165 qs' false h4 (by omega)) ?_
    simp only [go_sem, sB, reduceCtorEq, sL, sA, sE, sN, rv168, fin_t2, hqv, hrv]
    exact .refl _
theorem loop143 (L : Nat) (hL : L ≤ 4398046511104) (F : Nat) (out : Sto) (Q : Ex → St → Prop) : ∀ (M : Nat) (a b : List Nat) (f g : Bool) (nx : Nat), val b ≤ M → Wd a → Wd b → Canon a → Canon b → a.length ≤ L → b.length ≤ L →
    (∀ f g nx, Q (.exit 0) { r := (upd (upd (upd (fun _ => .u) 9 (.b false)) 1 (.sl 1 g (eW []))) 0 (.sl 1 f (eW (toW (Nat.gcd (val a) (val b)))))), own := fun _ => none, out := out, nx := nx }) →
    (∀ nx, Q .ret { r := (upd (fun _ => .u) 4 (eN (toW (Nat.gcd (val a) (val b))))), own := fun _ => none, out := out, nx := nx }) →
    Loop Go.Proofs.Tryz.prog F [0, 1] [] b143_0 { r := (upd (upd (fun _ => .u) 1 (.sl 1 g (eW b))) 0 (.sl 1 f (eW a))), own := fun _ => none, out := out, nx := nx } Q := by
  intro M
  induction M with
  | zero =>
    intro a b f g nx hM ha hb ca cb hla hlb h0 h1
    refine Loop.stepW ?_
    have hbn : b = [] := by
      cases b with
      | nil => rfl
      | cons w b => have := Canon.val_pos cb; omega
    subst hbn
    have c1 : decide (((([] : List Nat).length : Nat) : Int) > 0) = false := by decide
    have hg : Nat.gcd (val a) (val []) = val a := by simp [val]
    rw [hg, toW_val ha ca] at h0
    have c2 : decide (((0 : Nat) : Int) > 0) = false := by decide
    simp only [go_sem, sB, reduceCtorEq, sL, sA, sE, sN, wb143_0, c1, c2]
    exact h0 _ _ _
  | succ M ih =>
    intro a b f g nx hM ha hb ca cb hla hlb h0 h1
    refine Loop.stepW ?_
    by_cases hbn : b = []
    · subst hbn
      have hg : Nat.gcd (val a) (val []) = val a := by simp [val]
      rw [hg, toW_val ha ca] at h0
      have c2 : decide (((0 : Nat) : Int) > 0) = false := by decide
      simp only [go_sem, sB, reduceCtorEq, sL, sA, sE, sN, wb143_0, c2]
      exact h0 _ _ _
    · have hl0 : 0 < b.length := List.length_pos_iff.2 hbn
      have c1 : decide (((b.length : Nat) : Int) > 0) = true := by simp; omega
      have hbp : 0 < val b := by
        cases b with
        | nil => exact absurd rfl hbn
        | cons w b => exact Canon.val_pos cb
      have rest : ∀ nx, Loop Go.Proofs.Tryz.prog F [0, 1] [] b143_0 { r := (upd (upd (fun _ => .u) 1 (.sl 1 false (eW (toW (val a % val b))))) 0 (.sl 1 g (eW b))), own := fun _ => none, out := out, nx := nx } Q := by
        intro nx
        have hm := Nat.mod_lt (val a) hbp
        have hgr : Nat.gcd (val b) (val (toW (val a % val b))) = Nat.gcd (val a) (val b) := by
          rw [val_toW, Nat.gcd_comm, ← Nat.gcd_rec, Nat.gcd_comm]
        refine ih b (toW (val a % val b)) g false nx (by rw [val_toW]; omega) hb (Wd_toW _) cb (Canon_toW _) hlb (Nat.le_trans (toW_le (Nat.lt_trans hm (val_lt hb))) hlb) ?_ ?_
        · rw [hgr]; exact h0
        · rw [hgr]; exact h1
      simp only [go_sem, sB, reduceCtorEq, sL, sA, sE, sN, wb143_0, c1]
      by_cases ha2 : a.length ≤ 2
      · have c3 : decide (((a.length : Nat) : Int) ≤ 2) = true := by simp; omega
        by_cases hb2 : b.length ≤ 2
        · have c4 : decide (((b.length : Nat) : Int) ≤ 2) = true := by simp; omega
          have e64 : ∀ l : List Nat, Wd l → l.length ≤ 2 → val l < 18446744073709551616 := by
            intro l hl h2
            have h3 := val_lt hl
            have h4 := Nat.pow_le_pow_right BB_pos h2
            have h5 : BB ^ 2 = 18446744073709551616 := by decide
            omega
          simp only [go_sem, sB, reduceCtorEq, sL, sA, sE, sN, c3, c4]
          refine callO_intro (w167 a f ha ha2) ?_
          simp only [go_sem, sB, reduceCtorEq, sL, sA, sE, sN]
          refine callO_intro (w167 b g hb hb2) ?_
          simp only [go_sem, sB, reduceCtorEq, sL, sA, sE, sN]
          refine callO_intro (w166 (val a) (val b) (e64 a ha ha2) (e64 b hb hb2)) ?_
          simp only [go_sem, sB, reduceCtorEq, sL, sA, sE, sN]
          have hgb : Nat.gcd (val a) (val b) < 18446744073709551616 := Nat.lt_of_le_of_lt (Nat.gcd_le_right _ hbp) (e64 b hb hb2)
          refine callO_intro (w139 (Nat.gcd (val a) (val b)) hgb) ?_
          simp only [go_sem, sB, reduceCtorEq, sL, sA, sE, sN]
          exact h1 _
        · have c4 : decide (((b.length : Nat) : Int) ≤ 2) = false := by simp; omega
          simp only [go_sem, sB, reduceCtorEq, sL, sA, sE, sN, c3, c4]
          refine callO_intro (w168 a b f g ha hb ca cb hbn (by omega)) ?_
          simp only [go_sem, sB, reduceCtorEq, sL, sA, sE, sN]
          exact rest _
      · have c3 : decide (((a.length : Nat) : Int) ≤ 2) = false := by simp; omega
        simp only [go_sem, sB, reduceCtorEq, sL, sA, sE, sN, c3]
        refine callO_intro (w168 a b f g ha hb ca cb hbn (by omega)) ?_
        simp only [go_sem, sB, reduceCtorEq, sL, sA, sE, sN]
        exact rest _
theorem w143 (a b : List Nat) (f g : Bool) (ha : Wd a) (hb : Wd b) (ca : Canon a) (cb : Canon b) (hla : a.length ≤ 4398046511104) (hlb : b.length ≤ 4398046511104) : FnR Go.Proofs.Tryz.prog 143 [.sl 1 f (eW a), .sl 1 g (eW b)] [] (eN (toW (Nat.gcd (val a) (val b)))) := by
  refine fnr143 (by simp) (nr_eW _ _) (by simp) List.nodup_nil fun F out hS => ?_
  unfold ir143
  simp only [go_sem, sB, reduceCtorEq, sL, sA, sE, sN]
  refine loop143 4398046511104 (Nat.le_refl _) F out _ (val b) a b f g _ (Nat.le_refl _) ha hb ca cb hla hlb (fun f g nx => ?_) (fun nx => ?_)
  · simp only [go_sem, sB, reduceCtorEq, sL, sA, sE, sN, rv143, fin_t]
    exact .slf _ _ _
  · simp only [go_sem, sB, reduceCtorEq, sL, sA, sE, sN, rv143, fin_t]
    exact .refl _
theorem w91 (v v' : Bool) (a b : List Nat) (f g : Bool) (ha : Wd a) (hb : Wd b) (ca : Canon a) (cb : Canon b) (hla : a.length ≤ 4398046511104) (hlb : b.length ≤ 4398046511104) : FnR Go.Proofs.Tryz.prog 91 [.a [.b v, .sl 1 f (eW a)], .a [.b v', .sl 1 g (eW b)]] [] (.a [.b false, eN (toW (Nat.gcd (val a) (val b)))]) := by
  refine fnr91 (by simp) (nr_I _ _) (by simp) List.nodup_nil fun F out hS => ?_
  unfold ir91
  simp only [go_sem, sB, reduceCtorEq, sL, sA, sE, sN]
  refine callO_intro (w143 a b f g ha hb ca cb hla hlb) ?_
  simp only [go_sem, sB, reduceCtorEq, sL, sA, sE, sN]
  have hlen : (toW (Nat.gcd (val a) (val b))).length ≤ 140737488355328 := by
    by_cases h0 : val b = 0
    · rw [h0, Nat.gcd_zero_right]
      exact Nat.le_trans (toW_le (val_lt ha)) (by omega)
    · exact Nat.le_trans (toW_le (Nat.lt_of_le_of_lt (Nat.gcd_le_right _ (Nat.pos_of_ne_zero h0)) (val_lt hb))) (by omega)
  refine callO_intro (w138 false (toW (Nat.gcd (val a) (val b))) false (Wd_toW _) hlen) ?_
  rw [val_toW]
  simp only [go_sem, sB, reduceCtorEq, sL, sA, sE, sN, rv91, fin_c, Bool.false_and]
  exact ⟨_, rfl, .refl _⟩
theorem w84 (n : Nat) (hn : n < 9223372036854775808) : FnR Go.Proofs.Tryz.prog 84 [.i .i64 n] [] (.a [.b false, eN (toW n)]) := by
  refine fnr84 (by simp) (nr_I _ _) (by simp) List.nodup_nil fun F out hS => ?_
  unfold ir84
  have c1 : decide (((n : Nat) : Int) < 0) = false := decide_eq_false (by omega)
  simp only [go_sem, sB, reduceCtorEq, sL, sA, sE, sN, c1, w64 n (by omega)]
  refine callO_intro (w139 n (by omega)) ?_
  simp only [go_sem, sB, reduceCtorEq, sL, sA, sE, sN]
  have hlen : (toW n).length ≤ 2 := toW_le (by have : BB ^ 2 = 18446744073709551616 := by decide
                                               omega)
  refine callO_intro (w138 false (toW n) false (Wd_toW _) (by omega)) ?_
  rw [val_toW]
  simp only [go_sem, sB, reduceCtorEq, sL, sA, sE, sN, rv84, fin_c, Bool.false_and]
  exact ⟨_, rfl, .refl _⟩
def validI (v : Bool) (l : List Nat) : Bool := if l.length = 0 then !v else decide (l.getD (l.length - 1) 0 ≠ 0)
theorem canon_of_top : ∀ {l : List Nat}, l.getD (l.length - 1) 0 ≠ 0 → Canon l
  | [], _ => trivial
  | [w], h => by simpa [Canon] using h
  | w :: x :: l, h => by
    have : (x :: l).getD ((x :: l).length - 1) 0 ≠ 0 := by simpa using h
    exact canon_of_top (l := x :: l) this
theorem validI_canon {v : Bool} {l : List Nat} (h : validI v l = true) : Canon l := by
  unfold validI at h
  split at h
  · rename_i h0
    have : l = [] := List.eq_nil_of_length_eq_zero h0
    subst this
    trivial
  · exact canon_of_top (by simpa using h)
def validQ (v : Bool) (a : List Nat) (v' : Bool) (b : List Nat) : Bool :=
  validI v a && (validI v' b && (decide (v' = false ∧ b.length ≠ 0) && decide (Nat.gcd (val a) (val b) = 1)))
def eM (m : List Int) : List D := m.map (.i .i64)
theorem ixaO_p (len sz : Nat) (k : Key) (z o n : Nat) (k' : IntKind) (h : n < len) : ixaO len sz (.p k z o) (.i k' n) = some (.p k z (o + n * sz)) := by simp [ixaO, h]
theorem eM_cell {m : List Int} {n : Nat} (h : n < m.length) : ((eM m).drop n).take 1 = [.i .i64 (m.getD n 0)] := by
  have h' : n < (eM m).length := by simpa [eM] using h
  rw [List.drop_eq_getElem_cons h', List.take_succ_cons, List.take_zero]
  simp [eM, List.getD_eq_getElem?_getD, List.getElem?_eq_getElem h]
def okE (x : Int) : Bool := decide (0 ≤ x ∧ x ≤ 65535)
theorem loop72 (m : List Int) (hm : m.length = 8) (F : Nat) (out : Sto) (Q : Ex → St → Prop) (z : Nat) : ∀ (k i : Nat) (nx : Nat), i + k = 8 →
    ((m.drop i).all okE = true → ∀ nx, Q (.exit 0) { r := (upd (upd (upd (fun _ => .u) 5 (.b false)) 3 (.i .i64 8)) 1 (.p (F, 1) z 0)), own := upd (fun _ => none) 1 (some (z, .box (eM m))), out := out, nx := nx }) →
    ((m.drop i).all okE = false → ∀ nx, Q .ret { r := (upd (fun _ => .u) 2 (.b false)), own := fun _ => none, out := out, nx := nx }) →
    Loop Go.Proofs.Tryz.prog F [1, 3] [1] b72_0 { r := (upd (upd (fun _ => .u) 3 (.i .i64 i)) 1 (.p (F, 1) z 0)), own := upd (fun _ => none) 1 (some (z, .box (eM m))), out := out, nx := nx } Q := by
  intro k
  induction k with
  | zero =>
    intro i nx hi h0 h1
    refine Loop.stepW ?_
    have : i = 8 := by omega
    subst this
    have c1 : decide (((8 : Nat) : Int) < 8) = false := by decide
    have hd : m.drop 8 = [] := by rw [List.drop_eq_nil_iff]; omega
    rw [hd] at h0
    simp only [go_sem, sB, reduceCtorEq, sL, sA, sE, sN, wb72_0, c1]
    exact h0 rfl _
  | succ k ih =>
    intro i nx hi h0 h1
    refine Loop.stepW ?_
    have c1 : decide (((i : Nat) : Int) < 8) = true := decide_eq_true (by omega)
    have hil : i < m.length := by omega
    have hsz : 0 + i * 1 + 1 ≤ (eM m).length := by simp [eM]; omega
    have hdr : m.drop i = m.getD i 0 :: m.drop (i + 1) := by
      rw [List.drop_eq_getElem_cons hil]
      simp [List.getD_eq_getElem?_getD, List.getElem?_eq_getElem hil]
    rw [hdr] at h0 h1
    have hi1 : 0 + i * 1 = i := by omega
    have e2 : IntKind.wrap .i64 (((i : Nat) : Int) + 1) = ((i + 1 : Nat) : Int) := by rw [IntWalk.i64_in _ (by omega)]; omega
    have hbx : boxC (some (z, .box (eM m))) z i 1 = some [.i .i64 (m.getD i 0)] := by rw [boxC_s _ _ _ _ (by omega), eM_cell hil]
    generalize m.getD i 0 = x at *
    by_cases hx : x < 0
    · have hk : okE x = false := by simp [okE]; omega
      simp only [go_sem, sB, reduceCtorEq, sL, sA, sE, sN, wb72_0, c1, ixaO_p _ _ _ _ _ _ _ (show i < 8 by omega), Nat.mul_one, hbx, decide_eq_true hx]
      exact h1 (by simp [hk]) _
    · by_cases hy : x > 65535
      · have hk : okE x = false := by simp [okE]; omega
        simp only [go_sem, sB, reduceCtorEq, sL, sA, sE, sN, wb72_0, c1, ixaO_p _ _ _ _ _ _ _ (show i < 8 by omega), Nat.mul_one, hbx, decide_eq_false hx, decide_eq_true hy]
        exact h1 (by simp [hk]) _
      · have hk : okE x = true := by simp [okE]; omega
        simp only [go_sem, sB, reduceCtorEq, sL, sA, sE, sN, wb72_0, c1, ixaO_p _ _ _ _ _ _ _ (show i < 8 by omega), Nat.mul_one, hbx, decide_eq_false hx, decide_eq_false hy, e2]
        simp only [List.all_cons, hk, Bool.true_and] at h0 h1
        exact ih (i + 1) _ (by omega) h0 h1
theorem w72 (m : List Int) (hm : m.length = 8) : FnR Go.Proofs.Tryz.prog 72 [.a (eM m)] [] (.b (m.all okE)) := by
  refine fnr72 (by simp) rfl (by simp) List.nodup_nil fun F out hS => ?_
  unfold ir72
  simp only [go_sem, sB, reduceCtorEq, sL, sA, sE, sN]
  refine loop72 m hm F out _ _ 8 0 _ (by omega) (fun h nx => ?_) (fun h nx => ?_)
  · rw [List.drop_zero] at h
    simp only [go_sem, sB, reduceCtorEq, sL, sA, sE, sN, rv72, fin_t, h]
    exact .refl _
  · rw [List.drop_zero] at h
    simp only [go_sem, sB, reduceCtorEq, sL, sA, sE, sN, rv72, fin_t, h]
    exact .refl _
def cmpL : List Int → List Int → Int
  | x :: xs, y :: ys => if x < y then -1 else if y < x then 1 else cmpL xs ys
  | _, _ => 0
theorem loop73 (a b : List Int) (ha : a.length = 8) (hb : b.length = 8) (F : Nat) (out : Sto) (Q : Ex → St → Prop) (z z' : Nat) : ∀ (k i : Nat) (nx : Nat), i + k = 8 →
    (cmpL (a.drop i) (b.drop i) = 0 → ∀ nx, Q (.exit 0) { r := (upd (upd (upd (upd (fun _ => .u) 7 (.b false)) 5 (.i .i64 8)) 3 (.p (F, 3) z' 0)) 2 (.p (F, 2) z 0)), own := upd (upd (fun _ => none) 3 (some (z', .box (eM b)))) 2 (some (z, .box (eM a))), out := out, nx := nx }) →
    (cmpL (a.drop i) (b.drop i) ≠ 0 → ∀ nx, Q .ret { r := (upd (fun _ => .u) 4 (.i .i64 (cmpL (a.drop i) (b.drop i)))), own := fun _ => none, out := out, nx := nx }) →
    Loop Go.Proofs.Tryz.prog F [2, 3, 5] [2, 3] b73_0 { r := (upd (upd (upd (fun _ => .u) 5 (.i .i64 i)) 3 (.p (F, 3) z' 0)) 2 (.p (F, 2) z 0)), own := upd (upd (fun _ => none) 3 (some (z', .box (eM b)))) 2 (some (z, .box (eM a))), out := out, nx := nx } Q := by
  intro k
  induction k with
  | zero =>
    intro i nx hi h0 h1
    refine Loop.stepW ?_
    have : i = 8 := by omega
    subst this
    have c1 : decide (((8 : Nat) : Int) < 8) = false := by decide
    have hd : a.drop 8 = [] := by rw [List.drop_eq_nil_iff]; omega
    rw [hd] at h0
    simp only [go_sem, sB, reduceCtorEq, sL, sA, sE, sN, wb73_0, c1]
    exact h0 rfl _
  | succ k ih =>
    intro i nx hi h0 h1
    refine Loop.stepW ?_
    have c1 : decide (((i : Nat) : Int) < 8) = true := decide_eq_true (by omega)
    have hia : i < a.length := by omega
    have hib : i < b.length := by omega
    have dra : a.drop i = a.getD i 0 :: a.drop (i + 1) := by
      rw [List.drop_eq_getElem_cons hia]; simp [List.getD_eq_getElem?_getD, List.getElem?_eq_getElem hia]
    have drb : b.drop i = b.getD i 0 :: b.drop (i + 1) := by
      rw [List.drop_eq_getElem_cons hib]; simp [List.getD_eq_getElem?_getD, List.getElem?_eq_getElem hib]
    rw [dra, drb] at h0 h1
    have e2 : IntKind.wrap .i64 (((i : Nat) : Int) + 1) = ((i + 1 : Nat) : Int) := by rw [IntWalk.i64_in _ (by omega)]; omega
    have hxa : boxC (some (z, .box (eM a))) z i 1 = some [.i .i64 (a.getD i 0)] := by rw [boxC_s _ _ _ _ (by simp [eM]; omega), eM_cell hia]
    have hxb : boxC (some (z', .box (eM b))) z' i 1 = some [.i .i64 (b.getD i 0)] := by rw [boxC_s _ _ _ _ (by simp [eM]; omega), eM_cell hib]
    generalize a.getD i 0 = x at *
    generalize b.getD i 0 = y at *
    have hi8 : i < 8 := by omega
    by_cases h2 : x < y
    · simp only [go_sem, sB, reduceCtorEq, sL, sA, sE, sN, wb73_0, c1, ixaO_p _ _ _ _ _ _ _ hi8, Nat.mul_one, hxa, hxb, decide_eq_true h2]
      simp only [cmpL, h2, if_true] at h1
      exact h1 (by decide) _
    · by_cases h3 : x > y
      · simp only [go_sem, sB, reduceCtorEq, sL, sA, sE, sN, wb73_0, c1, ixaO_p _ _ _ _ _ _ _ hi8, Nat.mul_one, hxa, hxb, decide_eq_false h2, decide_eq_true h3]
        have h3' : y < x := h3
        simp only [cmpL, h2, h3', if_true, if_false] at h1
        exact h1 (by decide) _
      · simp only [go_sem, sB, reduceCtorEq, sL, sA, sE, sN, wb73_0, c1, ixaO_p _ _ _ _ _ _ _ hi8, Nat.mul_one, hxa, hxb, decide_eq_false h2, decide_eq_false h3, e2]
        have h3' : ¬ y < x := h3
        simp only [cmpL, h2, h3', if_false] at h0 h1
        exact ih (i + 1) _ (by omega) h0 h1
theorem w73 (a b : List Int) (ha : a.length = 8) (hb : b.length = 8) : FnR Go.Proofs.Tryz.prog 73 [.a (eM a), .a (eM b)] [] (.i .i64 (cmpL a b)) := by
  refine fnr73 (by simp) rfl (by simp) List.nodup_nil fun F out hS => ?_
  unfold ir73
  simp only [go_sem, sB, reduceCtorEq, sL, sA, sE, sN]
  refine loop73 a b ha hb F out _ _ _ 8 0 _ (by omega) (fun h nx => ?_) (fun h nx => ?_)
  · rw [List.drop_zero, List.drop_zero] at h
    simp only [go_sem, sB, reduceCtorEq, sL, sA, sE, sN, rv73, fin_t, h]
    exact .refl _
  · simp only [go_sem, sB, reduceCtorEq, sL, sA, sE, sN, rv73, fin_t, List.drop_zero]
    exact .refl _
theorem loop174 (l : List Nat) (f : Bool) (F : Nat) (out : Sto) (Q : Ex → St → Prop) : ∀ (n : Nat) (nx : Nat), n ≤ l.length → l.length ≤ 140737488355328 →
    (∀ nx, Q (.exit 0) { r := upd (upd (upd (fun _ => .u) 15 (.b false)) 3 (.i .i64 (trimN l n))) 0 (.sl 1 f (eW l)), own := fun _ => none, out := out, nx := nx }) →
    Loop Go.Proofs.Tryz.prog F [0, 3] [] b174_0 { r := upd (upd (fun _ => .u) 3 (.i .i64 n)) 0 (.sl 1 f (eW l)), own := fun _ => none, out := out, nx := nx } Q := by
  intro n
  induction n with
  | zero =>
    intro nx hn hl hQ
    refine Loop.stepW ?_
    have c1 : decide (((0 : Nat) : Int) > 0) = false := by decide
    simp only [go_sem, sB, reduceCtorEq, sL, sA, sE, sN, wb174_0, c1]
    exact hQ _
  | succ n ih =>
    intro nx hn hl hQ
    refine Loop.stepW ?_
    have c1 : decide (((n + 1 : Nat) : Int) > 0) = true := by simp
    have c2 : IntKind.wrap .i64 (((n + 1 : Nat) : Int) - 1) = (n : Int) := by rw [IntWalk.i64_in _ (by omega)]; omega
    have c3 := eW_at (show n < l.length by omega)
    by_cases hz : l.getD n 0 = 0
    · have c4 : (((l.getD n 0 : Nat) : Int) == 0) = true := by rw [hz]; rfl
      simp only [go_sem, sB, reduceCtorEq, sL, sA, sE, sN, wb174_0, c1, c2, ixsO_sl _ _ _ _ _ _ c3, c4]
      refine ih _ (by omega) hl ?_
      simp only [trimN, hz, if_true] at hQ
      exact hQ
    · have c4 : (((l.getD n 0 : Nat) : Int) == 0) = false := by rw [beq_eq_false_iff_ne]; omega
      simp only [go_sem, sB, reduceCtorEq, sL, sA, sE, sN, wb174_0, c1, c2, ixsO_sl _ _ _ _ _ _ c3, c4]
      simp only [trimN, hz, if_false] at hQ
      exact hQ _
theorem w174 (l : List Nat) (f : Bool) (hl : l.length ≤ 140737488355328) : FnR Go.Proofs.Tryz.prog 174 [.sl 1 f (eW l)] [] (.sl 1 false (eW (trimW l))) := by
  refine fnr174 (by simp) (nr_eW _ _) (by simp) List.nodup_nil fun F out hS => ?_
  unfold ir174
  simp only [go_sem, sB, reduceCtorEq, sL, sA, sE, sN]
  refine loop174 l f F out _ l.length _ (Nat.le_refl _) hl fun nx => ?_
  have ht := trimN_le l l.length
  simp only [go_sem, sB, reduceCtorEq, sL, sA, sE, sN, slcO_hm (show trimN l l.length ≤ (eW l).length by rw [eW_length]; exact ht), rv174, fin_t, eW_take, trimW]
  exact .slf _ _ _
theorem val_take_s : ∀ (l : List Nat) (i : Nat), val (l.take (i + 1)) = val (l.take i) + BB ^ i * l.getD i 0
  | [], i => by simp [val]
  | w :: l, 0 => by simp [val]
  | w :: l, i + 1 => by
    simp only [List.take_succ_cons, val, List.getD_cons_succ]
    rw [val_take_s l i, Nat.pow_succ, Nat.mul_add]
    have : BB * (BB ^ i * l.getD i 0) = BB ^ i * BB * l.getD i 0 := by rw [Nat.mul_comm (BB ^ i) BB, Nat.mul_assoc]
    omega
theorem take_set_same (l : List Nat) (i w : Nat) : (l.set i w).take i = l.take i := by
  rw [List.take_set, List.set_eq_of_length_le (by simp; omega)]
theorem val_set_take {l : List Nat} {i w : Nat} (h : i < l.length) : val ((l.set i w).take (i + 1)) = val (l.take i) + BB ^ i * w := by
  rw [val_take_s, take_set_same, getD_set_eq h]
theorem loop146 (a b : List Nat) (f g : Bool) (ha : Wd a) (hb : Wd b) (n : Nat) (hn : n ≤ 35184372088832) (F : Nat) (out : Sto) (Q : Ex → St → Prop) (z : Nat) : ∀ (m i : Nat) (O : List Nat) (c : Nat) (nx : Nat), i + m = n → O.length = n → Wd O → c ≤ 1 →
    val (O.take i) + BB ^ i * c = val (a.take i) + val (b.take i) →
    (∀ (O' : List Nat) (c' : Nat) (nx : Nat), O'.length = n → Wd O' → c' ≤ 1 → val (O'.take n) + BB ^ n * c' = val (a.take n) + val (b.take n) →
      Q (.exit 0) { r := (upd (upd (upd (upd (upd (upd (upd (fun _ => .u) 20 (.b false)) 8 (.i .i64 n)) 7 (.i .u64 c')) 6 (.w (F, 17) z 1 0 n)) 5 (.i .i64 n)) 1 (.sl 1 g (eW b))) 0 (.sl 1 f (eW a))), own := upd (fun _ => none) 17 (some (z, .row 1 (eW O'))), out := out, nx := nx }) →
    Loop Go.Proofs.Tryz.prog F [0, 1, 5, 6, 7, 8] [17] b146_0 { r := (upd (upd (upd (upd (upd (upd (fun _ => .u) 8 (.i .i64 i)) 7 (.i .u64 c)) 6 (.w (F, 17) z 1 0 n)) 5 (.i .i64 n)) 1 (.sl 1 g (eW b))) 0 (.sl 1 f (eW a))), own := upd (fun _ => none) 17 (some (z, .row 1 (eW O))), out := out, nx := nx } Q := by
  intro m
  induction m with
  | zero =>
    intro i O c nx hi hO hw hc hv hQ
    refine Loop.stepW ?_
    have hi' : i = n := by omega
    subst hi'
    have c1 : decide (((i : Nat) : Int) < ((i : Nat) : Int)) = false := by simp
    simp only [go_sem, sB, reduceCtorEq, sL, sA, sE, sN, wb146_0, c1]
    exact hQ O c _ hO hw hc hv
  | succ m ih =>
    intro i O c nx hi hO hw hc hv hQ
    refine Loop.stepW ?_
    have hin : i < n := by omega
    have c1 : decide (((i : Nat) : Int) < ((n : Nat) : Int)) = true := by simp; omega
    simp only [go_sem, sB, reduceCtorEq, sL, sA, sE, sN, wb146_0, c1]
    refine callO_intro (w170 a f i ha) ?_
    simp only [go_sem, sB, reduceCtorEq, sL, sA, sE, sN]
    refine callO_intro (w170 b g i hb) ?_
    have hB : BB = 4294967296 := rfl
    have hx := ha.getD i
    have hy := hb.getD i
    have sa := val_take_s a i
    have sb := val_take_s b i
    generalize a.getD i 0 = x at *
    generalize b.getD i 0 = y at *
    have e1 : IntKind.wrap .u64 (((x : Nat) : Int) + ((y : Nat) : Int)) = ((x + y : Nat) : Int) := by
      rw [← Int.natCast_add]; exact w64 _ (by omega)
    have e2 : IntKind.wrap .u64 (((x + y : Nat) : Int) + ((c : Nat) : Int)) = ((x + y + c : Nat) : Int) := by
      rw [← Int.natCast_add]; exact w64 _ (by omega)
    have e3 : IntKind.wrap .u32 (((x + y + c) % 4294967296 : Nat) : Int) = (((x + y + c) % 4294967296 : Nat) : Int) := w32 _ (by omega)
    have e4 : IntKind.wrap .u64 (((x + y + c) / 4294967296 : Nat) : Int) = (((x + y + c) / 4294967296 : Nat) : Int) := w64 _ (by omega)
    have e5 : IntKind.wrap .i64 (((i : Nat) : Int) + 1) = ((i + 1 : Nat) : Int) := by rw [IntWalk.i64_in _ (by omega)]; omega
    have hOt := eW_at (show i < O.length by omega)
    simp only [go_sem, sB, reduceCtorEq, sL, sA, sE, sN, e1, e2, e3, e4, e5, ixsO_w _ _ _ _ _ _ _ hin, hOt]
    refine ih (i + 1) (O.set i ((x + y + c) % 4294967296)) ((x + y + c) / 4294967296) _ (by omega) (by simpa using hO) (hw.set (by rw [hB]; omega)) (by omega) ?_ hQ
    rw [val_set_take (by omega), sa, sb, Nat.pow_succ]
    have hd := Nat.div_add_mod (x + y + c) 4294967296
    generalize (x + y + c) / 4294967296 = q at hd ⊢
    generalize (x + y + c) % 4294967296 = r at hd ⊢
    rw [hB] at hv ⊢
    generalize 4294967296 ^ i = G at hv ⊢
    have g1 : G * (x + y + c) = G * x + G * y + G * c := by rw [Nat.mul_add, Nat.mul_add]
    have g2 : G * (4294967296 * q + r) = G * 4294967296 * q + G * r := by rw [Nat.mul_add, Nat.mul_assoc]
    rw [hd] at g2
    omega
theorem w146 (a b : List Nat) (f g : Bool) (ha : Wd a) (hb : Wd b) (hla : a.length ≤ 17592186044416) (hlb : b.length ≤ 17592186044416) : FnR Go.Proofs.Tryz.prog 146 [.sl 1 f (eW a), .sl 1 g (eW b)] [] (eN (toW (val a + val b))) := by
  refine fnr146 (by simp) (nr_eW _ _) (by simp) List.nodup_nil fun F out hS => ?_
  unfold ir146
  have em : (if (b.length : Int) > (a.length : Int) then (b.length : Int) else (a.length : Int)) = ((max a.length b.length : Nat) : Int) := by split <;> omega
  have e1 : IntKind.wrap .i64 (((max a.length b.length : Nat) : Int) + 1) = ((max a.length b.length + 1 : Nat) : Int) := by rw [IntWalk.i64_in _ (by omega)]; omega
  simp only [go_sem, sB, reduceCtorEq, sL, sA, sE, sN, em, e1]
  refine mkO_intro (Nat.le_refl _) (by omega) (by omega) ?_
  simp only [go_sem, sB, reduceCtorEq, sL, sA, sE, sN]
  refine loop146 a b f g ha hb _ (by omega) F out _ _ (max a.length b.length + 1) 0 (List.replicate (max a.length b.length + 1) 0) 0 _ (by omega) (by simp) (fun w hw => by rw [List.eq_of_mem_replicate hw]; exact BB_pos) (by omega) (by simp [val]) (fun O' c' nx h1 h2 h3 h4 => ?_)
  have hle : 0 + (max a.length b.length + 1) ≤ (eW O').length := by rw [eW_length]; omega
  simp only [go_sem, sB, reduceCtorEq, sL, sA, sE, sN, frzR_s _ _ _ _ _ _ _ _ hle]
  have htk : O'.take (max a.length b.length + 1) = O' := List.take_of_length_le (by omega)
  have hva : a.take (max a.length b.length + 1) = a := List.take_of_length_le (by omega)
  have hvb : b.take (max a.length b.length + 1) = b := List.take_of_length_le (by omega)
  rw [htk, hva, hvb] at h4
  have hlt : val a + val b < BB ^ (max a.length b.length + 1) := by
    have h5 := val_lt ha
    have h6 := val_lt hb
    have h7 : BB ^ a.length ≤ BB ^ (max a.length b.length) := Nat.pow_le_pow_right BB_pos (by omega)
    have h8 : BB ^ b.length ≤ BB ^ (max a.length b.length) := Nat.pow_le_pow_right BB_pos (by omega)
    have h9 : BB ^ (max a.length b.length) * 2 ≤ BB ^ (max a.length b.length) * BB := Nat.mul_le_mul_left _ (by decide)
    rw [Nat.pow_succ]
    omega
  have hc0 : c' = 0 := by
    rcases Nat.eq_zero_or_pos c' with h | h
    · exact h
    · have : BB ^ (max a.length b.length + 1) * 1 ≤ BB ^ (max a.length b.length + 1) * c' := Nat.mul_le_mul_left _ h
      omega
  subst hc0
  rw [Nat.mul_zero, Nat.add_zero] at h4
  refine callO_intro (d := eN (toW (val a + val b))) ?_ ?_
  · rw [htk, ← h4]
    exact w165 _ _ h2 (by omega)
  · simp only [go_sem, sB, reduceCtorEq, sL, sA, sE, sN, rv146, fin_t]
    exact .refl _
theorem loop147 (a b : List Nat) (f g : Bool) (ha : Wd a) (hb : Wd b) (hn : a.length ≤ 35184372088832) (F : Nat) (out : Sto) (Q : Ex → St → Prop) (z : Nat) : ∀ (m i : Nat) (O : List Nat) (c : Nat) (nx : Nat), i + m = a.length → O.length = a.length → Wd O → c ≤ 1 →
    val (O.take i) + val (b.take i) = val (a.take i) + BB ^ i * c →
    (∀ (O' : List Nat) (c' : Nat) (nx : Nat), O'.length = a.length → Wd O' → c' ≤ 1 → val (O'.take a.length) + val (b.take a.length) = val (a.take a.length) + BB ^ a.length * c' →
      Q (.exit 0) { r := (upd (upd (upd (upd (upd (upd (fun _ => .u) 15 (.b false)) 7 (.i .i64 a.length)) 6 (.i .u64 c')) 5 (.w (F, 11) z 1 0 a.length)) 1 (.sl 1 g (eW b))) 0 (.sl 1 f (eW a))), own := upd (fun _ => none) 11 (some (z, .row 1 (eW O'))), out := out, nx := nx }) →
    Loop Go.Proofs.Tryz.prog F [0, 1, 5, 6, 7] [11] b147_0 { r := (upd (upd (upd (upd (upd (fun _ => .u) 7 (.i .i64 i)) 6 (.i .u64 c)) 5 (.w (F, 11) z 1 0 a.length)) 1 (.sl 1 g (eW b))) 0 (.sl 1 f (eW a))), own := upd (fun _ => none) 11 (some (z, .row 1 (eW O))), out := out, nx := nx } Q := by
  intro m
  induction m with
  | zero =>
    intro i O c nx hi hO hw hc hv hQ
    refine Loop.stepW ?_
    have hi' : i = a.length := by omega
    subst hi'
    have c1 : decide (((a.length : Nat) : Int) < ((a.length : Nat) : Int)) = false := by simp
    simp only [go_sem, sB, reduceCtorEq, sL, sA, sE, sN, wb147_0, c1]
    exact hQ O c _ hO hw hc hv
  | succ m ih =>
    intro i O c nx hi hO hw hc hv hQ
    refine Loop.stepW ?_
    have hin : i < a.length := by omega
    have c1 : decide (((i : Nat) : Int) < ((a.length : Nat) : Int)) = true := by simp; omega
    have hB : BB = 4294967296 := rfl
    have hx := ha.getD i
    have hat := eW_at hin
    have sa := val_take_s a i
    have sb := val_take_s b i
    generalize a.getD i 0 = x at *
    have e0 : IntKind.wrap .u64 ((x : Nat) : Int) = ((x : Nat) : Int) := w64 _ (by omega)
    have e1 : IntKind.wrap .u64 (4294967296 + ((x : Nat) : Int)) = ((4294967296 + x : Nat) : Int) := by rw [IntWalk.u64_in _ (by omega)]; omega
    simp only [go_sem, sB, reduceCtorEq, sL, sA, sE, sN, wb147_0, c1, ixsO_sl _ _ _ _ _ _ hat, e0, e1]
    refine callO_intro (w170 b g i hb) ?_
    have hy := hb.getD i
    generalize b.getD i 0 = y at *
    have e2 : IntKind.wrap .u64 (((4294967296 + x : Nat) : Int) - ((y : Nat) : Int)) = ((4294967296 + x - y : Nat) : Int) := by rw [IntWalk.u64_in _ (by omega)]; omega
    have e3 : IntKind.wrap .u64 (((4294967296 + x - y : Nat) : Int) - ((c : Nat) : Int)) = ((4294967296 + x - y - c : Nat) : Int) := by rw [IntWalk.u64_in _ (by omega)]; omega
    obtain ⟨t, ht⟩ : ∃ t, 4294967296 + x - y - c = t := ⟨_, rfl⟩
    have e4 : IntKind.wrap .u32 ((t % 4294967296 : Nat) : Int) = ((t % 4294967296 : Nat) : Int) := w32 _ (by omega)
    have e5 : IntKind.wrap .u64 ((t / 4294967296 : Nat) : Int) = ((t / 4294967296 : Nat) : Int) := w64 _ (by omega)
    have e6 : IntKind.wrap .u64 (1 - ((t / 4294967296 : Nat) : Int)) = ((1 - t / 4294967296 : Nat) : Int) := by rw [IntWalk.u64_in _ (by omega)]; omega
    have e7 : IntKind.wrap .i64 (((i : Nat) : Int) + 1) = ((i + 1 : Nat) : Int) := by rw [IntWalk.i64_in _ (by omega)]; omega
    have hOt := eW_at (show i < O.length by omega)
    rw [ht] at e3
    simp only [go_sem, sB, reduceCtorEq, sL, sA, sE, sN, e2, e3, e4, e5, e6, e7, ixsO_w _ _ _ _ _ _ _ hin, hOt]
    refine ih (i + 1) (O.set i (t % 4294967296)) (1 - t / 4294967296) _ (by omega) (by simpa using hO) (hw.set (by rw [hB]; omega)) (by omega) ?_ hQ
    rw [val_set_take (by omega), sa, sb, Nat.pow_succ]
    have hd := Nat.div_add_mod t 4294967296
    have hq : t / 4294967296 ≤ 1 := by omega
    have hs : t % 4294967296 + y + c = x + 4294967296 * (1 - t / 4294967296) := by omega
    generalize 1 - t / 4294967296 = q at hs ⊢
    generalize t % 4294967296 = r at hs ⊢
    rw [hB] at hv ⊢
    generalize 4294967296 ^ i = G at hv ⊢
    have g1 : G * (r + y + c) = G * r + G * y + G * c := by rw [Nat.mul_add, Nat.mul_add]
    have g2 : G * (x + 4294967296 * q) = G * x + G * 4294967296 * q := by rw [Nat.mul_add, Nat.mul_assoc]
    rw [hs] at g1
    omega
theorem w147 (a b : List Nat) (f g : Bool) (ha : Wd a) (hb : Wd b) (hl : b.length ≤ a.length) (hv : val b ≤ val a) (hla : a.length ≤ 17592186044416) : FnR Go.Proofs.Tryz.prog 147 [.sl 1 f (eW a), .sl 1 g (eW b)] [] (eN (toW (val a - val b))) := by
  refine fnr147 (by simp) (nr_eW _ _) (by simp) List.nodup_nil fun F out hS => ?_
  unfold ir147
  simp only [go_sem, sB, reduceCtorEq, sL, sA, sE, sN]
  refine mkO_intro (Nat.le_refl _) (by omega) (by omega) ?_
  simp only [go_sem, sB, reduceCtorEq, sL, sA, sE, sN]
  refine loop147 a b f g ha hb (by omega) F out _ _ a.length 0 (List.replicate a.length 0) 0 _ (by omega) (by simp) (fun w hw => by rw [List.eq_of_mem_replicate hw]; exact BB_pos) (by omega) (by simp [val]) (fun O' c' nx h1 h2 h3 h4 => ?_)
  have hle : 0 + a.length ≤ (eW O').length := by rw [eW_length]; omega
  simp only [go_sem, sB, reduceCtorEq, sL, sA, sE, sN, frzR_s _ _ _ _ _ _ _ _ hle]
  have htk : O'.take a.length = O' := List.take_of_length_le (by omega)
  have hva : a.take a.length = a := List.take_of_length_le (by omega)
  have hvb : b.take a.length = b := List.take_of_length_le (by omega)
  rw [htk, hva, hvb] at h4
  have hlt := val_lt h2
  rw [h1] at hlt
  have hc0 : c' = 0 := by
    rcases Nat.eq_zero_or_pos c' with h | h
    · exact h
    · have : BB ^ a.length * 1 ≤ BB ^ a.length * c' := Nat.mul_le_mul_left _ h
      omega
  subst hc0
  rw [Nat.mul_zero, Nat.add_zero] at h4
  have h5 : val O' = val a - val b := by omega
  refine callO_intro (d := eN (toW (val a - val b))) ?_ ?_
  · rw [htk, ← h5]
    exact w165 _ _ h2 (by omega)
  · simp only [go_sem, sB, reduceCtorEq, sL, sA, sE, sN, rv147, fin_t]
    exact .refl _
def nW (n : Nat) : D := eN (toW n)
def L (n : Nat) : Nat := (toW n).length
def zW (z : Int) : D := .a [.b (decide (z < 0)), nW z.natAbs]
def LZ (z : Int) : Nat := L z.natAbs
theorem lt_pow_L (n : Nat) : n < BB ^ L n := by
  have := val_lt (Wd_toW n)
  rwa [val_toW] at this
theorem L_le {n k : Nat} (h : n < BB ^ k) : L n ≤ k := toW_le h
theorem L_mono {a b : Nat} (h : a ≤ b) : L a ≤ L b := L_le (Nat.lt_of_le_of_lt h (lt_pow_L b))
theorem L_mul (a b : Nat) : L (a * b) ≤ L a + L b := by
  apply L_le
  rw [Nat.pow_add]
  exact Nat.mul_lt_mul_of_lt_of_lt (lt_pow_L a) (lt_pow_L b)
theorem L_add (a b : Nat) : L (a + b) ≤ max (L a) (L b) + 1 := by
  apply L_le
  have h5 := lt_pow_L a
  have h6 := lt_pow_L b
  have h7 : BB ^ L a ≤ BB ^ (max (L a) (L b)) := Nat.pow_le_pow_right BB_pos (by omega)
  have h8 : BB ^ L b ≤ BB ^ (max (L a) (L b)) := Nat.pow_le_pow_right BB_pos (by omega)
  have h9 : BB ^ (max (L a) (L b)) * 2 ≤ BB ^ (max (L a) (L b)) * BB := Nat.mul_le_mul_left _ (by decide)
  rw [Nat.pow_succ]
  omega
theorem L_one : L 1 = 1 := by unfold L; rw [toW_pos (by decide)]; have : 1 / BB = 0 := by decide
                              rw [this, toW_zero]; rfl
theorem L_pos {n : Nat} (h : n ≠ 0) : 0 < L n := by unfold L; rw [toW_pos h]; simp
theorem LZ_neg (z : Int) : LZ (-z) = LZ z := by unfold LZ; rw [Int.natAbs_neg]
theorem LZ_mul (a b : Int) : LZ (a * b) ≤ LZ a + LZ b := by unfold LZ; rw [Int.natAbs_mul]; exact L_mul _ _
theorem LZ_add (a b : Int) : LZ (a + b) ≤ max (LZ a) (LZ b) + 1 := Nat.le_trans (L_mono (Int.natAbs_add_le a b)) (L_add _ _)
theorem nr_zW (z : Int) : (zW z).nr = true := nr_I _ _
theorem zW_made {v : Bool} {n : Nat} {z : Int} (h1 : z.natAbs = n) (h2 : (v && decide (n ≠ 0)) = decide (z < 0)) : (.a [.b (v && decide (n ≠ 0)), eN (toW n)] : D) = zW z := by
  unfold zW nW
  rw [h1, h2]
theorem n138 (v : Bool) (n : Nat) (hl : L n ≤ 140737488355328) : FnR Go.Proofs.Tryz.prog 138 [.b v, nW n] [] (.a [.b (v && decide (n ≠ 0)), nW n]) := by
  have := w138 v (toW n) false (Wd_toW n) hl
  rw [val_toW] at this
  exact this
theorem z144 (a : Int) (hl : LZ a ≤ 140737488355328) : FnR Go.Proofs.Tryz.prog 144 [zW a] [] (zW (-a)) := by
  refine fnr144 (by simp) (nr_zW _) (by simp) List.nodup_nil fun F out hS => ?_
  unfold ir144 zW
  simp only [go_sem, sB, reduceCtorEq, sL, sA, sE, sN]
  refine callO_intro (n138 _ _ hl) ?_
  simp only [go_sem, sB, reduceCtorEq, sL, sA, sE, sN, rv144, fin_c]
  refine ⟨_, rfl, ?_⟩
  have : (!decide (a < 0) && decide (a.natAbs ≠ 0)) = decide (-a < 0) := by
    by_cases h1 : a < 0 <;> by_cases h2 : a = 0 <;> simp [h1, h2] <;> omega
  simp only [ne_eq] at this
  rw [this, Int.natAbs_neg]
  exact .refl _
theorem z95 (a b : Int) (hla : LZ a ≤ 4398046511104) (hlb : LZ b ≤ 4398046511104) : FnR Go.Proofs.Tryz.prog 95 [zW a, zW b] [] (zW (a + b)) := by
  refine fnr95 (by simp) (nr_zW _) (by simp) List.nodup_nil fun F out hS => ?_
  unfold LZ L at hla hlb
  have cA := Canon_toW a.natAbs
  have cB := Canon_toW b.natAbs
  unfold ir95 zW nW eN
  by_cases hs : decide (a < 0) = decide (b < 0)
  · have e : (decide (a < 0) == decide (b < 0)) = true := by simp [hs]
    simp only [go_sem, sB, reduceCtorEq, sL, sA, sE, sN, e]
    have hc := w146 (toW a.natAbs) (toW b.natAbs) false false (Wd_toW _) (Wd_toW _) (by omega) (by omega)
    rw [val_toW, val_toW] at hc
    refine callO_intro hc ?_
    simp only [go_sem, sB, reduceCtorEq, sL, sA, sE, sN]
    have hL := L_add a.natAbs b.natAbs
    unfold L at hL
    refine callO_intro (n138 _ _ (by unfold L; omega)) ?_
    simp only [go_sem, sB, reduceCtorEq, sL, sA, sE, sN, rv95, fin_c]
    refine ⟨_, rfl, ?_⟩
    have h1 : (a + b).natAbs = a.natAbs + b.natAbs := by
      by_cases h1 : a < 0 <;> by_cases h2 : b < 0 <;> simp [h1, h2] at hs <;> omega
    have := zW_made (v := decide (a < 0)) (n := a.natAbs + b.natAbs) (z := a + b) h1 (by
        rw [Bool.eq_iff_iff]
        simp only [decide_eq_decide] at hs
        simp only [Bool.and_eq_true, decide_eq_true_eq]
        omega)
    unfold zW nW eN at this
    simp only [ne_eq, nW, eN] at this ⊢
    rw [this]
    exact .refl _
  · have e : (decide (a < 0) == decide (b < 0)) = false := by simpa using hs
    simp only [go_sem, sB, reduceCtorEq, sL, sA, sE, sN, e]
    have hc := w142 (toW a.natAbs) (toW b.natAbs) false false (Wd_toW _) (Wd_toW _) cA cB (by omega) (by omega)
    rw [val_toW, val_toW] at hc
    refine callO_intro hc ?_
    by_cases hlt : a.natAbs < b.natAbs
    · have hcm : decide (cmpN a.natAbs b.natAbs < 0) = true := by simp [cmpN, hlt]
      simp only [go_sem, sB, reduceCtorEq, sL, sA, sE, sN, hcm]
      have hll : (toW a.natAbs).length ≤ (toW b.natAbs).length := L_mono (Nat.le_of_lt hlt)
      have hc := w147 (toW b.natAbs) (toW a.natAbs) false false (Wd_toW _) (Wd_toW _) hll (by rw [val_toW, val_toW]; omega) (by omega)
      rw [val_toW, val_toW] at hc
      refine callO_intro hc ?_
      simp only [go_sem, sB, reduceCtorEq, sL, sA, sE, sN]
      have hL := L_mono (show b.natAbs - a.natAbs ≤ b.natAbs by omega)
      unfold L at hL
      refine callO_intro (n138 _ _ (by unfold L; omega)) ?_
      simp only [go_sem, sB, reduceCtorEq, sL, sA, sE, sN, rv95, fin_c]
      refine ⟨_, rfl, ?_⟩
      have h1 : (a + b).natAbs = b.natAbs - a.natAbs := by
        by_cases h1 : a < 0 <;> by_cases h2 : b < 0 <;> simp [h1, h2] at hs <;> omega
      have := zW_made (v := decide (b < 0)) (n := b.natAbs - a.natAbs) (z := a + b) h1 (by
        rw [Bool.eq_iff_iff]
        simp only [decide_eq_decide] at hs
        simp only [Bool.and_eq_true, decide_eq_true_eq]
        omega)
      unfold zW nW eN at this
      simp only [ne_eq, nW, eN] at this ⊢
      rw [this]
      exact .refl _
    · have hcm : decide (cmpN a.natAbs b.natAbs < 0) = false := by
        unfold cmpN
        rw [if_neg hlt]
        split <;> decide
      simp only [go_sem, sB, reduceCtorEq, sL, sA, sE, sN, hcm]
      have hll : (toW b.natAbs).length ≤ (toW a.natAbs).length := L_mono (by omega)
      have hc := w147 (toW a.natAbs) (toW b.natAbs) false false (Wd_toW _) (Wd_toW _) hll (by rw [val_toW, val_toW]; omega) (by omega)
      rw [val_toW, val_toW] at hc
      refine callO_intro hc ?_
      simp only [go_sem, sB, reduceCtorEq, sL, sA, sE, sN]
      have hL := L_mono (show a.natAbs - b.natAbs ≤ a.natAbs by omega)
      unfold L at hL
      refine callO_intro (n138 _ _ (by unfold L; omega)) ?_
      simp only [go_sem, sB, reduceCtorEq, sL, sA, sE, sN, rv95, fin_c]
      refine ⟨_, rfl, ?_⟩
      have h1 : (a + b).natAbs = a.natAbs - b.natAbs := by
        by_cases h1 : a < 0 <;> by_cases h2 : b < 0 <;> simp [h1, h2] at hs <;> omega
      have := zW_made (v := decide (a < 0)) (n := a.natAbs - b.natAbs) (z := a + b) h1 (by
        rw [Bool.eq_iff_iff]
        simp only [decide_eq_decide] at hs
        simp only [Bool.and_eq_true, decide_eq_true_eq]
        omega)
      unfold zW nW eN at this
      simp only [ne_eq, nW, eN] at this ⊢
      rw [this]
      exact .refl _
theorem z96 (a b : Int) (hla : LZ a ≤ 4398046511104) (hlb : LZ b ≤ 4398046511104) : FnR Go.Proofs.Tryz.prog 96 [zW a, zW b] [] (zW (a * b)) := by
  refine fnr96 (by simp) (nr_zW _) (by simp) List.nodup_nil fun F out hS => ?_
  unfold LZ L at hla hlb
  unfold ir96 zW nW eN
  simp only [go_sem, sB, reduceCtorEq, sL, sA, sE, sN]
  have hc := w148 (toW a.natAbs) (toW b.natAbs) false false (Wd_toW _) (Wd_toW _) (by omega)
  rw [val_toW, val_toW] at hc
  refine callO_intro hc ?_
  simp only [go_sem, sB, reduceCtorEq, sL, sA, sE, sN]
  have hL := L_mul a.natAbs b.natAbs
  unfold L at hL
  refine callO_intro (n138 _ _ (by unfold L; omega)) ?_
  simp only [go_sem, sB, reduceCtorEq, sL, sA, sE, sN, rv96, fin_c]
  refine ⟨_, rfl, ?_⟩
  have := zW_made (v := !(decide (a < 0) == decide (b < 0))) (n := a.natAbs * b.natAbs) (z := a * b) (Int.natAbs_mul a b) (by
    rw [← Int.natAbs_mul]
    have hz : (a * b).natAbs ≠ 0 ↔ a ≠ 0 ∧ b ≠ 0 := by rw [Int.natAbs_ne_zero, Int.mul_ne_zero_iff]
    by_cases h1 : a < 0 <;> by_cases h2 : b < 0
    · have := Int.mul_pos_of_neg_of_neg h1 h2
      simp [h1, h2]; omega
    · rcases Int.lt_or_eq_of_le (show 0 ≤ b by omega) with h3 | h3
      · have := Int.mul_neg_of_neg_of_pos h1 h3
        simp [h1, h2, this]; omega
      · subst h3; simp [h1]
    · rcases Int.lt_or_eq_of_le (show 0 ≤ a by omega) with h3 | h3
      · have := Int.mul_neg_of_pos_of_neg h3 h2
        simp [h1, h2, this]; omega
      · subst h3; simp [h2]
    · have := Int.mul_nonneg (show 0 ≤ a by omega) (show 0 ≤ b by omega)
      simp [h1, h2]; omega)
  unfold zW nW eN at this
  simp only [ne_eq, nW, eN] at this ⊢
  rw [this]
  exact .refl _
theorem fin_g {F : Nat} {out : Sto} {ys : List RVar} {d : D} {st : St} : Fin F [] out ys d .ret st = ((∃ d', resAll (st.look F) st.r ys = some d' ∧ Weak d d') ∧ st.out = out) := by
  simp [Fin, outOf_nil]
theorem ediv_uniq {a b q r : Int} (h : a = b * q + r) (h0 : 0 ≤ r) (h1 : r < b.natAbs) : a / b = q ∧ a % b = r := by
  have key : ∀ b : Int, 0 < b → ∀ q, a = b * q + r → r < b → a / b = q ∧ a % b = r := by
    intro b hb q h h1
    exact (Int.ediv_emod_unique hb).2 ⟨by omega, h0, h1⟩
  by_cases hb : 0 < b
  · exact key b hb q h (by omega)
  · have := key (-b) (by omega) (-q) (by rw [Int.neg_mul_neg]; exact h) (by omega)
    rw [Int.ediv_neg, Int.emod_neg] at this
    exact ⟨by omega, this.2⟩
theorem z169 (a b : Int) (hb : b ≠ 0) (hla : LZ a ≤ 2199023255552) (hlb : LZ b ≤ 2199023255552) : FnR Go.Proofs.Tryz.prog 169 [zW a, zW b] [] (.t [zW (a / b), zW (a % b), .i .i64 0]) := by
  refine fnr169 (by simp) (by simp [D.nr, nrL, nr_zW]) (by simp) List.nodup_nil fun F out hS => ?_
  unfold LZ L at hla hlb
  have hbn : b.natAbs ≠ 0 := by omega
  have hb0 : (toW b.natAbs).length ≠ 0 := by have := L_pos hbn; unfold L at this; omega
  have h1 : (((toW b.natAbs).length : Int) == 0) = false := by rw [beq_eq_false_iff_ne]; omega
  unfold ir169 zW nW eN
  simp only [go_sem, sB, reduceCtorEq, sL, sA, sE, sN, h1]
  have hc := w168 (toW a.natAbs) (toW b.natAbs) false false (Wd_toW _) (Wd_toW _) (Canon_toW _) (Canon_toW _) (fun e => hb0 (by rw [e]; rfl)) (by omega)
  rw [val_toW, val_toW] at hc
  refine callO_intro hc ?_
  have hdm := Nat.div_add_mod a.natAbs b.natAbs
  have hml := Nat.mod_lt a.natAbs (Nat.pos_of_ne_zero hbn)
  have hq1 : L (a.natAbs / b.natAbs) ≤ L a.natAbs := L_mono (Nat.div_le_self _ _)
  have hr1 : L (a.natAbs % b.natAbs) ≤ L b.natAbs := L_mono (Nat.le_of_lt hml)
  unfold L at hq1 hr1
  have hdi : ((a.natAbs : Int)) = (b.natAbs : Int) * ((a.natAbs / b.natAbs : Nat) : Int) + ((a.natAbs % b.natAbs : Nat) : Int) := by
    rw [← Int.natCast_mul]; omega
  generalize hQ : a.natAbs / b.natAbs = q at *
  generalize hR : a.natAbs % b.natAbs = r at *
  have fin : ∀ (v : Bool) (q' r' : Nat), (v && decide (q' ≠ 0)) = decide (a / b < 0) → (a / b).natAbs = q' → (a % b) = (r' : Int) → (.t [.a [.b (v && decide (q' ≠ 0)), nW q'], .a [.b (false && decide (r' ≠ 0)), nW r'], .i .i64 0] : D) = .t [zW (a / b), zW (a % b), .i .i64 0] := by
    intro v q' r' h1 h2 h3
    rw [h1]
    unfold zW
    rw [h2, h3]
    simp
  have hsgn : ∀ q' : Nat, (a / b).natAbs = q' → ((a / b < 0) ↔ (q' ≠ 0 ∧ ¬ ((a < 0) ↔ (b < 0)))) → ((!(decide (a < 0) == decide (b < 0))) && decide (q' ≠ 0)) = decide (a / b < 0) := by
    intro q' h1 h2
    rw [Bool.eq_iff_iff]
    simp only [Bool.and_eq_true, Bool.not_eq_true', beq_eq_false_iff_ne, ne_eq, decide_eq_decide, decide_eq_true_eq]
    rw [h2]
    exact And.comm
  by_cases ha : a < 0
  · by_cases hr0 : r = 0
    · have c1 : decide (((toW r).length : Int) > 0) = false := by rw [hr0, toW_zero]; decide
      simp only [go_sem, sB, reduceCtorEq, sL, sA, sE, sN, eN, decide_eq_true ha, c1]
      have hu : a / b = (if b < 0 then (q : Int) else -(q : Int)) ∧ a % b = ((0 : Nat) : Int) := by
        have e : a = b * (if b < 0 then (q : Int) else -(q : Int)) + ((0 : Nat) : Int) := by
          split
          · have : (b.natAbs : Int) = -b := by omega
            rw [this, Int.neg_mul] at hdi
            omega
          · have : (b.natAbs : Int) = b := by omega
            rw [this] at hdi
            rw [Int.mul_neg]; omega
        exact ediv_uniq e (by omega) (by omega)
      refine callO_intro (n138 (!(true == decide (b < 0))) q (by unfold L; omega)) ?_
      simp only [go_sem, sB, reduceCtorEq, sL, sA, sE, sN]
      refine callO_intro (n138 false r (by unfold L; omega)) ?_
      simp only [go_sem, sB, reduceCtorEq, sL, sA, sE, sN, rv169, fin_g, resAll, resL, resD, mkV]
      refine ⟨_, rfl, ?_⟩
      have := fin (!(true == decide (b < 0))) q r (by have := hsgn q (by rw [hu.1]; split <;> omega) (by rw [hu.1]; split <;> omega); rw [decide_eq_true ha] at this; exact this) (by rw [hu.1]; split <;> omega) (by rw [hu.2, hr0])
      exact Eq.mp (congrArg (fun x => Weak x _) this) (Weak.refl _)
    · have hrp := L_pos hr0
      unfold L at hrp
      have c1 : decide (((toW r).length : Int) > 0) = true := decide_eq_true (by omega)
      simp only [go_sem, sB, reduceCtorEq, sL, sA, sE, sN, eN, decide_eq_true ha, c1]
      have h11 : eW [1] = [[D.i .u32 1]] := rfl
      have hc := w146 (toW q) [1] false true (Wd_toW _) (by intro w hw; simp at hw; rw [hw]; decide) (by omega) (by simp)
      rw [val_toW, h11] at hc
      have h1v : val [1] = 1 := by decide
      rw [h1v] at hc
      refine callO_intro hc ?_
      simp only [go_sem, sB, reduceCtorEq, sL, sA, sE, sN]
      have hc2 := w147 (toW b.natAbs) (toW r) false false (Wd_toW _) (Wd_toW _) (L_mono (Nat.le_of_lt hml)) (by rw [val_toW, val_toW]; omega) (by omega)
      rw [val_toW, val_toW] at hc2
      refine callO_intro hc2 ?_
      simp only [go_sem, sB, reduceCtorEq, sL, sA, sE, sN, eN]
      have hu : a / b = (if b < 0 then ((q + 1 : Nat) : Int) else -((q + 1 : Nat) : Int)) ∧ a % b = ((b.natAbs - r : Nat) : Int) := by
        have e : a = b * (if b < 0 then ((q + 1 : Nat) : Int) else -((q + 1 : Nat) : Int)) + ((b.natAbs - r : Nat) : Int) := by
          split
          · have e1 : (b.natAbs : Int) = -b := by omega
            rw [e1, Int.neg_mul] at hdi
            rw [Int.natCast_add, Int.mul_add]
            omega
          · have e1 : (b.natAbs : Int) = b := by omega
            rw [e1] at hdi
            rw [Int.mul_neg, Int.natCast_add, Int.mul_add]; omega
        exact ediv_uniq e (by omega) (by omega)
      have hl1 := L_add q 1
      have hl2 : L (b.natAbs - r) ≤ L b.natAbs := L_mono (by omega)
      rw [L_one] at hl1
      unfold L at hl1 hl2
      refine callO_intro (n138 (!(true == decide (b < 0))) (q + 1) (by unfold L; omega)) ?_
      simp only [go_sem, sB, reduceCtorEq, sL, sA, sE, sN]
      refine callO_intro (n138 false (b.natAbs - r) (by unfold L; omega)) ?_
      simp only [go_sem, sB, reduceCtorEq, sL, sA, sE, sN, rv169, fin_g, resAll, resL, resD, mkV]
      refine ⟨_, rfl, ?_⟩
      have := fin (!(true == decide (b < 0))) (q + 1) (b.natAbs - r) (by have := hsgn (q + 1) (by rw [hu.1]; split <;> omega) (by rw [hu.1]; split <;> omega); rw [decide_eq_true ha] at this; exact this) (by rw [hu.1]; split <;> omega) hu.2
      exact Eq.mp (congrArg (fun x => Weak x _) this) (Weak.refl _)
  · have hu : a / b = (if b < 0 then -(q : Int) else (q : Int)) ∧ a % b = (r : Int) := by
      have e : a = b * (if b < 0 then -(q : Int) else (q : Int)) + (r : Int) := by
        split
        · have : (b.natAbs : Int) = -b := by omega
          rw [this, Int.neg_mul] at hdi
          rw [Int.mul_neg]; omega
        · have : (b.natAbs : Int) = b := by omega
          rw [this] at hdi
          omega
      exact ediv_uniq e (by omega) (by omega)
    simp only [go_sem, sB, reduceCtorEq, sL, sA, sE, sN, eN, decide_eq_false ha]
    refine callO_intro (n138 (!(false == decide (b < 0))) q (by unfold L; omega)) ?_
    simp only [go_sem, sB, reduceCtorEq, sL, sA, sE, sN]
    refine callO_intro (n138 false r (by unfold L; omega)) ?_
    simp only [go_sem, sB, reduceCtorEq, sL, sA, sE, sN, rv169, fin_g, resAll, resL, resD, mkV]
    refine ⟨_, rfl, ?_⟩
    have := fin (!(false == decide (b < 0))) q r (by have := hsgn q (by rw [hu.1]; split <;> omega) (by rw [hu.1]; split <;> omega); rw [decide_eq_false ha] at this; exact this) (by rw [hu.1]; split <;> omega) hu.2
    exact Eq.mp (congrArg (fun x => Weak x _) this) (Weak.refl _)
theorem z145 (a b : Int) (hb : b ≠ 0) (hla : LZ a ≤ 2199023255552) (hlb : LZ b ≤ 2199023255552) : FnR Go.Proofs.Tryz.prog 145 [zW a, zW b] [] (zW (a / b)) := by
  refine fnr145 (by simp) (nr_zW _) (by simp) List.nodup_nil fun F out hS => ?_
  unfold ir145
  have hc := z169 a b hb hla hlb
  unfold zW at hc
  unfold zW
  simp only [go_sem, sB, reduceCtorEq, sL, sA, sE, sN]
  refine callO_intro hc ?_
  simp only [go_sem, sB, reduceCtorEq, sL, sA, sE, sN, rv145, fin_c]
  exact ⟨_, rfl, .refl _⟩
theorem z91 (a b : Int) (hla : LZ a ≤ 2199023255552) (hlb : LZ b ≤ 2199023255552) : FnR Go.Proofs.Tryz.prog 91 [zW a, zW b] [] (zW ((Nat.gcd a.natAbs b.natAbs : Nat) : Int)) := by
  have := w91 (decide (a < 0)) (decide (b < 0)) (toW a.natAbs) (toW b.natAbs) false false (Wd_toW _) (Wd_toW _) (Canon_toW _) (Canon_toW _) (by unfold LZ L at hla; omega) (by unfold LZ L at hlb; omega)
  rw [val_toW, val_toW] at this
  unfold zW nW eN
  rw [show decide (((Nat.gcd a.natAbs b.natAbs : Nat) : Int) < 0) = false from decide_eq_false (by omega), Int.natAbs_natCast]
  exact this
theorem z89 (a : Int) : FnR Go.Proofs.Tryz.prog 89 [zW a] [] (.i .i64 (a.sign)) := by
  have := w89 (decide (a < 0)) (toW a.natAbs) false
  have e : (if decide (a < 0) = true then (-1 : Int) else if (toW a.natAbs).length = 0 then 0 else 1) = a.sign := by
    by_cases h : a < 0
    · simp [h, Int.sign_eq_neg_one_of_neg h]
    · by_cases h0 : a = 0
      · subst h0; simp [toW_zero]
      · have hp := L_pos (show a.natAbs ≠ 0 by omega)
        unfold L at hp
        simp only [decide_eq_true_eq, h, if_false]
        rw [if_neg (by omega), Int.sign_eq_one_of_pos (by omega)]
  rw [e] at this
  exact this
theorem z90 (a b : Int) (hla : LZ a ≤ 35184372088832) (hlb : LZ b ≤ 35184372088832) : FnR Go.Proofs.Tryz.prog 90 [zW a, zW b] [] (.i .i64 (if a < b then -1 else if a = b then 0 else 1)) := by
  have := w90 (decide (a < 0)) (decide (b < 0)) (toW a.natAbs) (toW b.natAbs) false false (Wd_toW _) (Wd_toW _) (Canon_toW _) (Canon_toW _) (by unfold LZ L at hla; omega) (by unfold LZ L at hlb; omega)
  rw [val_toW, val_toW] at this
  unfold zW nW eN
  have e : ((if (decide (a < 0) && !decide (b < 0)) = true then -1 else if (!decide (a < 0) && decide (b < 0)) = true then 1 else if decide (a < 0) = true then cmpN b.natAbs a.natAbs else cmpN a.natAbs b.natAbs) : Int) = (if a < b then -1 else if a = b then 0 else 1) := by
    unfold cmpN
    by_cases h1 : a < 0 <;> by_cases h2 : b < 0 <;> simp only [h1, h2, decide_true, decide_false, Bool.not_true, Bool.not_false, Bool.and_true, Bool.and_false, Bool.false_eq_true, if_true, if_false] <;> (repeat' split) <;> omega
  rw [e] at this
  exact this
theorem z84 (n : Int) (h1 : -9223372036854775808 ≤ n) (h2 : n < 9223372036854775808) : FnR Go.Proofs.Tryz.prog 84 [.i .i64 n] [] (zW n) := by
  by_cases hn : n < 0
  · refine fnr84 (by simp) (nr_zW _) (by simp) List.nodup_nil fun F out hS => ?_
    unfold ir84
    have e1 : IntKind.wrap .i64 (n + 1) = n + 1 := IntWalk.i64_in _ (by omega)
    have e2 : IntKind.wrap .i64 (0 - (n + 1)) = ((n.natAbs - 1 : Nat) : Int) := by rw [IntWalk.i64_in _ (by omega)]; omega
    have e3 := w64 (n.natAbs - 1) (by omega)
    have e4 : IntKind.wrap .u64 (((n.natAbs - 1 : Nat) : Int) + 1) = ((n.natAbs : Nat) : Int) := by rw [IntWalk.u64_in _ (by omega)]; omega
    simp only [go_sem, sB, reduceCtorEq, sL, sA, sE, sN, decide_eq_true hn, e1, e2, e3, e4]
    refine callO_intro (w139 n.natAbs (by omega)) ?_
    simp only [go_sem, sB, reduceCtorEq, sL, sA, sE, sN]
    have hlen : L n.natAbs ≤ 2 := L_le (by have : BB ^ 2 = 18446744073709551616 := by decide
                                           omega)
    refine callO_intro (n138 true n.natAbs (by omega)) ?_
    simp only [go_sem, sB, reduceCtorEq, sL, sA, sE, sN, rv84, fin_c]
    refine ⟨_, rfl, ?_⟩
    have : decide (¬ n.natAbs = 0) = true := decide_eq_true (by omega)
    rw [this]
    unfold zW
    rw [decide_eq_true hn]
    exact .refl _
  · have := w84 n.natAbs (by omega)
    unfold zW nW
    rw [decide_eq_false hn]
    have e : ((n.natAbs : Nat) : Int) = n := by omega
    rw [e] at this
    exact this
def rW (q : Rat) : D := .a [.b (decide (q.num < 0)), nW q.num.natAbs, .b false, nW q.den]
theorem nr_rW (q : Rat) : (rW q).nr = true := by simp [rW, D.nr, nrL, nW, eN, nrLL_eW]
theorem zW_nat (n : Nat) : zW (n : Int) = .a [.b false, nW n] := by
  unfold zW
  rw [show decide ((n : Int) < 0) = false from decide_eq_false (by omega), Int.natAbs_natCast]
theorem lowest_num (n d : Int) (hd : d ≠ 0) : (Rat.divInt n d).num = n / (if d < 0 then -((Nat.gcd n.natAbs d.natAbs : Nat) : Int) else ((Nat.gcd n.natAbs d.natAbs : Nat) : Int)) := by
  rw [Rat.num_divInt]
  have hg : (d.gcd n) = Nat.gcd n.natAbs d.natAbs := by rw [Int.gcd_eq_natAbs_gcd_natAbs, Nat.gcd_comm]
  rw [hg]
  have hdv : ((Nat.gcd n.natAbs d.natAbs : Nat) : Int) ∣ n := Int.ofNat_dvd_left.2 (Nat.gcd_dvd_left _ _)
  by_cases h : d < 0
  · rw [if_pos h, Int.sign_eq_neg_one_of_neg h, Int.ediv_neg, ← Int.neg_ediv_of_dvd hdv]
    congr 1
    omega
  · rw [if_neg h, Int.sign_eq_one_of_pos (by omega), Int.one_mul]
theorem lowest_den (n d : Int) (hd : d ≠ 0) : (((Rat.divInt n d).den : Nat) : Int) = d / (if d < 0 then -((Nat.gcd n.natAbs d.natAbs : Nat) : Int) else ((Nat.gcd n.natAbs d.natAbs : Nat) : Int)) := by
  rw [Rat.den_divInt, if_neg hd]
  have hg : (d.gcd n) = Nat.gcd n.natAbs d.natAbs := by rw [Int.gcd_eq_natAbs_gcd_natAbs, Nat.gcd_comm]
  rw [hg, Int.natCast_ediv]
  have hdv : ((Nat.gcd n.natAbs d.natAbs : Nat) : Int) ∣ d := Int.ofNat_dvd_left.2 (Nat.gcd_dvd_right _ _)
  by_cases h : d < 0
  · rw [if_pos h, Int.ediv_neg, ← Int.neg_ediv_of_dvd hdv]
    congr 1
    omega
  · rw [if_neg h]
    congr 1
    omega
theorem LQ_num (n d : Int) (hd : d ≠ 0) : LZ (Rat.divInt n d).num ≤ LZ n := by
  unfold LZ
  rw [lowest_num n d hd]
  apply L_mono
  split
  · rw [Int.ediv_neg, Int.natAbs_neg]; exact Int.natAbs_ediv_le_natAbs _ _
  · exact Int.natAbs_ediv_le_natAbs _ _
theorem LQ_den (n d : Int) (hd : d ≠ 0) : L (Rat.divInt n d).den ≤ LZ d := by
  unfold LZ
  apply L_mono
  rw [Rat.den_divInt, if_neg hd]
  exact Nat.div_le_self _ _
theorem z94 (n d : Int) (hd : d ≠ 0) (hln : LZ n ≤ 2199023255552) (hld : LZ d ≤ 2199023255552) : FnR Go.Proofs.Tryz.prog 94 [zW n, zW d] [] (rW (Rat.divInt n d)) := by
  refine fnr94 (by simp) (nr_rW _) (by simp) List.nodup_nil fun F out hS => ?_
  have hg0 : Nat.gcd n.natAbs d.natAbs ≠ 0 := by
    intro h
    have := (Nat.gcd_eq_zero_iff.1 h).2
    omega
  have hlg : LZ ((Nat.gcd n.natAbs d.natAbs : Nat) : Int) ≤ LZ d := by
    unfold LZ
    apply L_mono
    rw [Int.natAbs_natCast]
    exact Nat.gcd_le_right _ (by omega)
  have hnum := lowest_num n d hd
  have hden := lowest_den n d hd
  generalize hG : ((Nat.gcd n.natAbs d.natAbs : Nat) : Int) = g at *
  have hgi : g ≠ 0 := by omega
  have fin : (.a [.b (decide ((n / (if d < 0 then -g else g)) < 0)), nW (n / (if d < 0 then -g else g)).natAbs, .b (decide ((d / (if d < 0 then -g else g)) < 0)), nW (d / (if d < 0 then -g else g)).natAbs] : D) = rW (Rat.divInt n d) := by
    unfold rW
    rw [hnum, ← hden]
    rw [show decide ((((Rat.divInt n d).den : Nat) : Int) < 0) = false from decide_eq_false (by omega), Int.natAbs_natCast]
  have c1 := z91 n d hln hld
  have c2 := z89 d
  rw [hG] at c1
  have c3 := z144 g (by omega)
  unfold ir94
  unfold zW at c1 c2 c3
  by_cases h : d < 0
  · rw [if_pos h] at fin
    have c4 := z145 n (-g) (by omega) hln (by rw [LZ_neg]; omega)
    have c5 := z145 d (-g) (by omega) hld (by rw [LZ_neg]; omega)
    unfold zW at c4 c5 ⊢
    simp only [go_sem, sB, reduceCtorEq, sL, sA, sE, sN]
    refine callO_intro c1 ?_
    simp only [go_sem, sB, reduceCtorEq, sL, sA, sE, sN]
    refine callO_intro c2 ?_
    have e : decide (d.sign < 0) = true := by rw [Int.sign_eq_neg_one_of_neg h]; decide
    simp only [go_sem, sB, reduceCtorEq, sL, sA, sE, sN, e]
    refine callO_intro c3 ?_
    simp only [go_sem, sB, reduceCtorEq, sL, sA, sE, sN]
    refine callO_intro c4 ?_
    simp only [go_sem, sB, reduceCtorEq, sL, sA, sE, sN]
    refine callO_intro c5 ?_
    simp only [go_sem, sB, reduceCtorEq, sL, sA, sE, sN, rv94, fin_c]
    refine ⟨_, rfl, ?_⟩
    rw [fin]
    exact .refl _
  · rw [if_neg h] at fin
    have c4 := z145 n g (by omega) hln (by omega)
    have c5 := z145 d g (by omega) hld (by omega)
    unfold zW at c4 c5 ⊢
    simp only [go_sem, sB, reduceCtorEq, sL, sA, sE, sN]
    refine callO_intro c1 ?_
    simp only [go_sem, sB, reduceCtorEq, sL, sA, sE, sN]
    refine callO_intro c2 ?_
    have e : decide (d.sign < 0) = false := by rw [Int.sign_eq_one_of_pos (by omega)]; decide
    simp only [go_sem, sB, reduceCtorEq, sL, sA, sE, sN, e]
    refine callO_intro c4 ?_
    simp only [go_sem, sB, reduceCtorEq, sL, sA, sE, sN]
    refine callO_intro c5 ?_
    simp only [go_sem, sB, reduceCtorEq, sL, sA, sE, sN, rv94, fin_c]
    refine ⟨_, rfl, ?_⟩
    rw [fin]
    exact .refl _
theorem loop92 (v v' : Bool) (a b : List Nat) (f g : Bool) (hab : a.length = b.length) (hl : a.length ≤ 140737488355328) (F : Nat) (out : Sto) (Q : Ex → St → Prop) (z z' : Nat) : ∀ (k i : Nat) (nx : Nat), i + k = a.length →
    (a.drop i = b.drop i → ∀ nx, Q (.exit 0) { r := (upd (upd (upd (upd (fun _ => .u) 24 (.b false)) 5 (.i .i64 a.length)) 3 (.p (F, 3) z' 0)) 2 (.p (F, 2) z 0)), own := upd (upd (fun _ => none) 3 (some (z', .box [.b v', .sl 1 g (eW b)]))) 2 (some (z, .box [.b v, .sl 1 f (eW a)])), out := out, nx := nx }) →
    (a.drop i ≠ b.drop i → ∀ nx, Q .ret { r := (upd (fun _ => .u) 4 (.b false)), own := fun _ => none, out := out, nx := nx }) →
    Loop Go.Proofs.Tryz.prog F [2, 3, 5] [2, 3] b92_0 { r := (upd (upd (upd (fun _ => .u) 5 (.i .i64 i)) 3 (.p (F, 3) z' 0)) 2 (.p (F, 2) z 0)), own := upd (upd (fun _ => none) 3 (some (z', .box [.b v', .sl 1 g (eW b)]))) 2 (some (z, .box [.b v, .sl 1 f (eW a)])), out := out, nx := nx } Q := by
  intro k
  induction k with
  | zero =>
    intro i nx hi h0 h1
    refine Loop.stepW ?_
    have hi' : i = a.length := by omega
    subst hi'
    have c1 : decide (((a.length : Nat) : Int) < ((a.length : Nat) : Int)) = false := by simp
    simp only [go_sem, sB, reduceCtorEq, sL, sA, sE, sN, wb92_0, c1]
    exact h0 (by rw [List.drop_eq_nil_of_le (Nat.le_refl _), List.drop_eq_nil_of_le (by omega)]) _
  | succ k ih =>
    intro i nx hi h0 h1
    refine Loop.stepW ?_
    have hia : i < a.length := by omega
    have hib : i < b.length := by omega
    have c1 : decide (((i : Nat) : Int) < ((a.length : Nat) : Int)) = true := by simp; omega
    have dra : a.drop i = a.getD i 0 :: a.drop (i + 1) := by
      rw [List.drop_eq_getElem_cons hia]; simp [List.getD_eq_getElem?_getD, List.getElem?_eq_getElem hia]
    have drb : b.drop i = b.getD i 0 :: b.drop (i + 1) := by
      rw [List.drop_eq_getElem_cons hib]; simp [List.getD_eq_getElem?_getD, List.getElem?_eq_getElem hib]
    have hA := eW_at hia
    have hB := eW_at hib
    have e5 : IntKind.wrap .i64 (((i : Nat) : Int) + 1) = ((i + 1 : Nat) : Int) := by rw [IntWalk.i64_in _ (by omega)]; omega
    rw [dra, drb] at h0 h1
    generalize a.getD i 0 = x at *
    generalize b.getD i 0 = y at *
    by_cases hxy : x = y
    · have e : (((x : Nat) : Int) != ((y : Nat) : Int)) = false := by rw [hxy]; simp
      simp only [go_sem, sB, reduceCtorEq, sL, sA, sE, sN, wb92_0, c1, ixsO_sl _ _ _ _ _ _ hA, ixsO_sl _ _ _ _ _ _ hB, e, e5]
      refine ih (i + 1) _ (by omega) (fun h => h0 (by rw [hxy, h])) (fun h => h1 (fun e => h (by injection e)))
    · have e : (((x : Nat) : Int) != ((y : Nat) : Int)) = true := by rw [bne_iff_ne]; omega
      simp only [go_sem, sB, reduceCtorEq, sL, sA, sE, sN, wb92_0, c1, ixsO_sl _ _ _ _ _ _ hA, ixsO_sl _ _ _ _ _ _ hB, e, e5]
      exact h1 (fun e => hxy (by injection e)) _
theorem w92 (v v' : Bool) (a b : List Nat) (f g : Bool) (hl : a.length ≤ 140737488355328) : FnR Go.Proofs.Tryz.prog 92 [.a [.b v, .sl 1 f (eW a)], .a [.b v', .sl 1 g (eW b)]] [] (.b (decide (v = v' ∧ a = b))) := by
  refine fnr92 (by simp) rfl (by simp) List.nodup_nil fun F out hS => ?_
  unfold ir92
  by_cases hv : v = v'
  · have e : (v == v') = true := by simp [hv]
    by_cases hab : a.length = b.length
    · have e2 : (((a.length : Nat) : Int) != ((b.length : Nat) : Int)) = false := by rw [hab]; simp
      simp only [go_sem, sB, reduceCtorEq, sL, sA, sE, sN, e, e2]
      refine loop92 v v' a b f g hab hl F out _ _ _ a.length 0 _ (by omega) (fun h nx => ?_) (fun h nx => ?_)
      · simp only [go_sem, sB, reduceCtorEq, sL, sA, sE, sN, rv92, fin_t]
        rw [decide_eq_true (⟨hv, by simpa using h⟩ : v = v' ∧ a = b)]
        exact .refl _
      · simp only [go_sem, sB, reduceCtorEq, sL, sA, sE, sN, rv92, fin_t]
        rw [decide_eq_false (fun (hh : v = v' ∧ a = b) => h (by simp [hh.2]))]
        exact .refl _
    · have e2 : (((a.length : Nat) : Int) != ((b.length : Nat) : Int)) = true := by rw [bne_iff_ne]; omega
      simp only [go_sem, sB, reduceCtorEq, sL, sA, sE, sN, e, e2, rv92, fin_t]
      rw [decide_eq_false (fun (hh : v = v' ∧ a = b) => hab (by rw [hh.2]))]
      exact .refl _
  · have e : (v == v') = false := by simp [hv]
    simp only [go_sem, sB, reduceCtorEq, sL, sA, sE, sN, e, rv92, fin_t]
    rw [decide_eq_false (fun (hh : v = v' ∧ a = b) => hv hh.1)]
    exact .refl _
theorem toW_inj {a b : Nat} (h : toW a = toW b) : a = b := by rw [← val_toW a, ← val_toW b, h]
theorem z92 (a b : Int) (hl : LZ a ≤ 140737488355328) : FnR Go.Proofs.Tryz.prog 92 [zW a, zW b] [] (.b (decide (a = b))) := by
  have := w92 (decide (a < 0)) (decide (b < 0)) (toW a.natAbs) (toW b.natAbs) false false hl
  have e : decide (decide (a < 0) = decide (b < 0) ∧ toW a.natAbs = toW b.natAbs) = decide (a = b) := by
    rw [decide_eq_decide, decide_eq_decide]
    constructor
    · rintro ⟨h1, h2⟩
      have := toW_inj h2
      omega
    · rintro rfl; exact ⟨Iff.rfl, rfl⟩
  rw [e] at this
  exact this
def LQ (q : Rat) : Nat := max (LZ q.num) (L q.den)
theorem q29 (a b : Rat) (hl : LQ a ≤ 140737488355328) : FnR Go.Proofs.Tryz.prog 29 [rW a, rW b] [] (.b (decide (a = b))) := by
  refine fnr29 (by simp) rfl (by simp) List.nodup_nil fun F out hS => ?_
  unfold LQ at hl
  have c1 := z92 a.num b.num (by omega)
  have c2 := z92 (a.den : Int) (b.den : Int) (by unfold LZ; rw [Int.natAbs_natCast]; omega)
  rw [zW_nat, zW_nat] at c2
  unfold zW at c1
  unfold ir29 rW
  simp only [go_sem, sB, reduceCtorEq, sL, sA, sE, sN]
  refine callO_intro c1 ?_
  have e : (a = b) ↔ a.num = b.num ∧ (a.den : Int) = (b.den : Int) := ⟨fun h => by rw [h]; exact ⟨rfl, rfl⟩, fun h => Rat.ext h.1 (by omega)⟩
  by_cases h : a.num = b.num
  · simp only [go_sem, sB, reduceCtorEq, sL, sA, sE, sN, decide_eq_true h]
    refine callO_intro c2 ?_
    simp only [go_sem, sB, reduceCtorEq, sL, sA, sE, sN, rv29, fin_t]
    rw [show decide (a = b) = decide ((a.den : Int) = (b.den : Int)) from by rw [decide_eq_decide, e]; exact ⟨fun h => h.2, fun k => ⟨h, k⟩⟩]
    exact .refl _
  · simp only [go_sem, sB, reduceCtorEq, sL, sA, sE, sN, decide_eq_false h, rv29, fin_t]
    rw [decide_eq_false (fun k => h (e.1 k).1)]
    exact .refl _
theorem q23 (n : Int) (h1 : -9223372036854775808 ≤ n) (h2 : n < 9223372036854775808) : FnR Go.Proofs.Tryz.prog 23 [.i .i64 n] [] (rW (n : Rat)) := by
  refine fnr23 (by simp) (nr_rW _) (by simp) List.nodup_nil fun F out hS => ?_
  have c1 := z84 n h1 h2
  have c2 := z84 1 (by omega) (by omega)
  unfold zW at c1 c2
  unfold ir23
  simp only [go_sem, sB, reduceCtorEq, sL, sA, sE, sN]
  refine callO_intro c1 ?_
  simp only [go_sem, sB, reduceCtorEq, sL, sA, sE, sN]
  refine callO_intro c2 ?_
  simp only [go_sem, sB, reduceCtorEq, sL, sA, sE, sN, rv23, fin_c]
  exact ⟨_, rfl, .refl _⟩
theorem q71 (a : Rat) : FnR Go.Proofs.Tryz.prog 71 [rW a] [] (.i .i64 a.num.sign) := by
  refine fnr71 (by simp) rfl (by simp) List.nodup_nil fun F out hS => ?_
  have c1 := z89 a.num
  unfold zW at c1
  unfold ir71 rW
  simp only [go_sem, sB, reduceCtorEq, sL, sA, sE, sN]
  refine callO_intro c1 ?_
  simp only [go_sem, sB, reduceCtorEq, sL, sA, sE, sN, rv71, fin_t]
  exact .refl _
theorem LZ_nat (n : Nat) : LZ (n : Int) = L n := by unfold LZ; rw [Int.natAbs_natCast]
theorem add_eq (a b : Rat) : a + b = Rat.divInt (a.num * (b.den : Int) + b.num * (a.den : Int)) ((a.den : Int) * (b.den : Int)) := by
  rw [← Int.natCast_mul, Rat.divInt_ofNat, Rat.add_def']
theorem mul_eq (a b : Rat) : a * b = Rat.divInt (a.num * b.num) ((a.den : Int) * (b.den : Int)) := by
  rw [← Int.natCast_mul, Rat.divInt_ofNat, Rat.mul_def']
theorem den_ne (a : Rat) : (a.den : Int) ≠ 0 := by have := a.den_nz; omega
theorem den2_ne (a b : Rat) : (a.den : Int) * (b.den : Int) ≠ 0 := Int.mul_ne_zero (den_ne a) (den_ne b)
theorem LQ_add (a b : Rat) : LQ (a + b) ≤ LQ a + LQ b + 1 := by
  have h1 := LQ_num (a.num * (b.den : Int) + b.num * (a.den : Int)) _ (den2_ne a b)
  have h2 := LQ_den (a.num * (b.den : Int) + b.num * (a.den : Int)) _ (den2_ne a b)
  rw [← add_eq] at h1 h2
  have h3 := LZ_add (a.num * (b.den : Int)) (b.num * (a.den : Int))
  have h4 := LZ_mul a.num (b.den : Int)
  have h5 := LZ_mul b.num (a.den : Int)
  have h6 := LZ_mul (a.den : Int) (b.den : Int)
  rw [LZ_nat] at h4 h5
  rw [LZ_nat, LZ_nat] at h6
  unfold LQ
  omega
theorem LQ_mul (a b : Rat) : LQ (a * b) ≤ LQ a + LQ b := by
  have h1 := LQ_num (a.num * b.num) _ (den2_ne a b)
  have h2 := LQ_den (a.num * b.num) _ (den2_ne a b)
  rw [← mul_eq] at h1 h2
  have h4 := LZ_mul a.num b.num
  have h6 := LZ_mul (a.den : Int) (b.den : Int)
  rw [LZ_nat, LZ_nat] at h6
  unfold LQ
  omega
theorem q31 (a b : Rat) (ha : LQ a ≤ 549755813888) (hb : LQ b ≤ 549755813888) : FnR Go.Proofs.Tryz.prog 31 [rW a, rW b] [] (rW (a + b)) := by
  refine fnr31 (by simp) (nr_rW _) (by simp) List.nodup_nil fun F out hS => ?_
  unfold LQ at ha hb
  have n1 := LZ_nat a.den
  have n2 := LZ_nat b.den
  have c1 := z96 a.num (b.den : Int) (by omega) (by omega)
  have c2 := z96 b.num (a.den : Int) (by omega) (by omega)
  have h4 := LZ_mul a.num (b.den : Int)
  have h5 := LZ_mul b.num (a.den : Int)
  have h6 := LZ_mul (a.den : Int) (b.den : Int)
  have h7 := LZ_add (a.num * (b.den : Int)) (b.num * (a.den : Int))
  have c3 := z95 (a.num * (b.den : Int)) (b.num * (a.den : Int)) (by omega) (by omega)
  have c4 := z96 (a.den : Int) (b.den : Int) (by omega) (by omega)
  have c5 := z94 (a.num * (b.den : Int) + b.num * (a.den : Int)) ((a.den : Int) * (b.den : Int)) (den2_ne a b) (by omega) (by omega)
  rw [← add_eq] at c5
  rw [zW_nat] at c1 c2
  rw [zW_nat, zW_nat] at c4
  unfold zW at c1 c2
  unfold ir31 rW
  simp only [go_sem, sB, reduceCtorEq, sL, sA, sE, sN]
  refine callO_intro c1 ?_
  simp only [go_sem, sB, reduceCtorEq, sL, sA, sE, sN]
  refine callO_intro c2 ?_
  simp only [go_sem, sB, reduceCtorEq, sL, sA, sE, sN]
  refine callO_intro c3 ?_
  simp only [go_sem, sB, reduceCtorEq, sL, sA, sE, sN]
  refine callO_intro c4 ?_
  simp only [go_sem, sB, reduceCtorEq, sL, sA, sE, sN]
  refine callO_intro c5 ?_
  simp only [go_sem, sB, reduceCtorEq, sL, sA, sE, sN, rW, rv31, fin_c]
  exact ⟨_, rfl, .refl _⟩
theorem q32 (a b : Rat) (ha : LQ a ≤ 549755813888) (hb : LQ b ≤ 549755813888) : FnR Go.Proofs.Tryz.prog 32 [rW a, rW b] [] (rW (a * b)) := by
  refine fnr32 (by simp) (nr_rW _) (by simp) List.nodup_nil fun F out hS => ?_
  unfold LQ at ha hb
  have n1 := LZ_nat a.den
  have n2 := LZ_nat b.den
  have c1 := z96 a.num b.num (by omega) (by omega)
  have h4 := LZ_mul a.num b.num
  have h6 := LZ_mul (a.den : Int) (b.den : Int)
  have c4 := z96 (a.den : Int) (b.den : Int) (by omega) (by omega)
  have c5 := z94 (a.num * b.num) ((a.den : Int) * (b.den : Int)) (den2_ne a b) (by omega) (by omega)
  rw [← mul_eq] at c5
  rw [zW_nat, zW_nat] at c4
  unfold zW at c1
  unfold ir32 rW
  simp only [go_sem, sB, reduceCtorEq, sL, sA, sE, sN]
  refine callO_intro c1 ?_
  simp only [go_sem, sB, reduceCtorEq, sL, sA, sE, sN]
  refine callO_intro c4 ?_
  simp only [go_sem, sB, reduceCtorEq, sL, sA, sE, sN]
  refine callO_intro c5 ?_
  simp only [go_sem, sB, reduceCtorEq, sL, sA, sE, sN, rW, rv32, fin_c]
  exact ⟨_, rfl, .refl _⟩
theorem q141 (n d : Int) (hd : d ≠ 0) (hln : LZ n ≤ 2199023255552) (hld : LZ d ≤ 2199023255552) : FnR Go.Proofs.Tryz.prog 141 [zW n, zW d] [] (.t [rW (Rat.divInt n d), .i .i64 0]) := by
  refine fnr141 (by simp) (by simp [D.nr, nrL, nr_rW]) (by simp) List.nodup_nil fun F out hS => ?_
  have c1 := z89 d
  have c2 := z94 n d hd hln hld
  have e : (d.sign == 0) = false := by rw [beq_eq_false_iff_ne]; exact fun h => hd (Int.sign_eq_zero_iff_zero.1 h)
  unfold zW at c1 c2
  unfold ir141 zW
  simp only [go_sem, sB, reduceCtorEq, sL, sA, sE, sN]
  refine callO_intro c1 ?_
  simp only [go_sem, sB, reduceCtorEq, sL, sA, sE, sN, e]
  refine callO_intro c2 ?_
  simp only [go_sem, sB, reduceCtorEq, sL, sA, sE, sN, rW, rv141, fin_g, resAll, resL, resD, mkV]
  exact ⟨_, rfl, .refl _⟩
theorem q120 (a : Rat) (h0 : a ≠ 0) (ha : LQ a ≤ 2199023255552) : FnR Go.Proofs.Tryz.prog 120 [rW a] [] (.t [rW a⁻¹, .i .i64 0]) := by
  refine fnr120 (by simp) (by simp [D.nr, nrL, nr_rW]) (by simp) List.nodup_nil fun F out hS => ?_
  unfold LQ at ha
  have n1 := LZ_nat a.den
  have c1 := q141 (a.den : Int) a.num (fun h => h0 (Rat.num_eq_zero.1 h)) (by omega) (by omega)
  rw [← Rat.inv_def, zW_nat] at c1
  unfold zW at c1
  unfold ir120 rW
  simp only [go_sem, sB, reduceCtorEq, sL, sA, sE, sN]
  refine callO_intro c1 ?_
  simp only [go_sem, sB, reduceCtorEq, sL, sA, sE, sN, rW, rv120, fin_g, resAll, resL, resD, mkV]
  exact ⟨_, rfl, .refl _⟩
def cmpQ (a b : Rat) : Int := if a < b then -1 else if a = b then 0 else 1
theorem q118 (a b : Rat) (ha : LQ a ≤ 549755813888) (hb : LQ b ≤ 549755813888) : FnR Go.Proofs.Tryz.prog 118 [rW a, rW b] [] (.i .i64 (cmpQ a b)) := by
  refine fnr118 (by simp) rfl (by simp) List.nodup_nil fun F out hS => ?_
  unfold LQ at ha hb
  have n1 := LZ_nat a.den
  have n2 := LZ_nat b.den
  have c1 := z96 a.num (b.den : Int) (by omega) (by omega)
  have c2 := z96 b.num (a.den : Int) (by omega) (by omega)
  have h4 := LZ_mul a.num (b.den : Int)
  have h5 := LZ_mul b.num (a.den : Int)
  have c5 := z90 (a.num * (b.den : Int)) (b.num * (a.den : Int)) (by omega) (by omega)
  have e : (if a.num * (b.den : Int) < b.num * (a.den : Int) then (-1 : Int) else if a.num * (b.den : Int) = b.num * (a.den : Int) then 0 else 1) = cmpQ a b := by
    unfold cmpQ
    simp only [Rat.lt_iff, Rat.eq_iff_mul_eq_mul]
  rw [e] at c5
  rw [zW_nat] at c1 c2
  unfold zW at c1 c2
  unfold ir118 rW
  simp only [go_sem, sB, reduceCtorEq, sL, sA, sE, sN]
  refine callO_intro c1 ?_
  simp only [go_sem, sB, reduceCtorEq, sL, sA, sE, sN]
  refine callO_intro c2 ?_
  simp only [go_sem, sB, reduceCtorEq, sL, sA, sE, sN]
  refine callO_intro c5 ?_
  simp only [go_sem, sB, reduceCtorEq, sL, sA, sE, sN, rv118, fin_t]
  exact .refl _
theorem fdivN (a k : Nat) : ((a : Nat) : Int).fdiv (2 ^ k) = ((a / 2 ^ k : Nat) : Int) := by
  rw [Int.fdiv_eq_ediv_of_nonneg _ (Int.le_of_lt (Int.pow_pos (by decide))), Int.natCast_ediv, Int.natCast_pow]
  rfl
theorem wu32 (n : Nat) : IntKind.wrap .u32 (n : Int) = ((n % 4294967296 : Nat) : Int) := by
  rw [IntKind.wrap_u32']; omega
theorem or_disj64 {x y k : Nat} (hy : y < 2 ^ k) (hs : x * 2 ^ k + y < 18446744073709551616) : bits .or .u64 ((x * 2 ^ k : Nat) : Int) (y : Int) = ((x * 2 ^ k + y : Nat) : Int) := by
  rw [u64_or_nat _ _ (by omega) (by omega)]
  congr 1
  rw [Nat.mul_comm, ← Nat.two_pow_add_eq_or_of_lt hy]
theorem or_disj32 {x y k : Nat} (hy : y < 2 ^ k) (hs : x * 2 ^ k + y < 4294967296) : bits .or .u32 (y : Int) ((x * 2 ^ k : Nat) : Int) = ((x * 2 ^ k + y : Nat) : Int) := by
  rw [u32_or_nat _ _ (by omega) (by omega)]
  congr 1
  rw [Nat.or_comm, Nat.mul_comm, ← Nat.two_pow_add_eq_or_of_lt hy]
theorem n174 (l : List Nat) (f : Bool) (hw : Wd l) (hl : l.length ≤ 140737488355328) : FnR Go.Proofs.Tryz.prog 174 [.sl 1 f (eW l)] [] (nW (val l)) := by
  have := w174 l f hl
  rw [trimW_eq hw] at this
  exact this
theorem n158 (n : Nat) (hn : n < 18446744073709551616) : FnR Go.Proofs.Tryz.prog 158 [.i .u64 n] [] (nW n) := by
  refine fnr158 (by simp) (nr_eW _ _) (by simp) List.nodup_nil fun F out hS => ?_
  unfold ir158
  have e1 := wu32 n
  have e2 : evBin .shr (.i .u64 (n : Int)) (.i .u64 32) = some (.i .u64 ((n / 4294967296 : Nat) : Int)) := by
    rw [e_shr _ _ _ _ (by decide)]
    have := fdivN n 32
    exact congrArg (fun x => some (D.i .u64 x)) this
  have e3 := w32 (n / 4294967296) (by omega)
  simp only [go_sem, sB, reduceCtorEq, sL, sA, sE, sN, e1, e2, e3]
  have hw : Wd [n % 4294967296, n / 4294967296] := by
    refine .cons (Nat.mod_lt _ (by decide)) (.cons ?_ .nil)
    show n / 4294967296 < 4294967296
    omega
  have hc := n174 [n % 4294967296, n / 4294967296] true hw (by simp)
  have hv : val [n % 4294967296, n / 4294967296] = n := by
    have hB : BB = 4294967296 := rfl
    simp only [val, hB]; omega
  rw [hv] at hc
  refine callO_intro hc ?_
  simp only [go_sem, sB, reduceCtorEq, sL, sA, sE, sN, rv158, fin_t]
  exact .refl _
theorem appO_sl {P : Program} {fr sz bytes s : Nat} {st : St} {xs ys : List (List D)} {K : St → Prop} (h1 : ys ≠ []) (hb : (xs.length + ys.length) * bytes ≤ 140737488355328) (hl : xs.length + ys.length ≤ 140737488355328) (ho : st.own s = none)
    (hK : K (st.newObj fr s (.row sz (xs ++ ys)) (.w (fr, s) st.nx sz 0 (xs.length + ys.length)))) : @appO fr sz bytes s st (.sl sz true xs) (some ys) ⟨K⟩ := by
  cases ys with
  | nil => exact absurd rfl h1
  | cons y ys =>
    simp only [appO]
    refine ⟨trivial, trivial, hb, hl, ?_, hK⟩
    unfold slotOk
    rw [ho]
    trivial
theorem appO_nil {fr sz bytes s : Nat} {st : St} {f : Bool} {xs : List (List D)} {K : St → Prop} (hK : K (st.put (some s) (.sl sz f xs))) : @appO fr sz bytes s st (.sl sz f xs) (some []) ⟨K⟩ := by
  simp only [appO]
  exact ⟨trivial, hK⟩
theorem nilO_nil (neg : Bool) (sz : Nat) (f : Bool) : nilO neg (.sl sz f []) = some .ub := (rfl)
theorem nilO_cons (neg : Bool) (sz : Nat) (f : Bool) (e : List D) (es : List (List D)) : nilO neg (.sl sz f (e :: es)) = some (.b neg) := (rfl)
theorem w179 (l : List Nat) (f : Bool) (hl : l.length ≤ 17592186044416) : FnR Go.Proofs.Tryz.prog 179 [.sl 1 f (eW l)] [] (eN l) := by
  refine fnr179 (by simp) (nr_eW _ _) (by simp) List.nodup_nil fun F out hS => ?_
  unfold ir179
  cases l with
  | nil =>
    simp only [go_sem, sB, reduceCtorEq, sL, sA, sE, sN, eW_nil, nilO_nil, elemsOf_sl]
    refine ⟨?_, ?_⟩
    · simp only [go_sem, sB, reduceCtorEq, sL, sA, sE, sN, rv179, fin_t]
      exact .slf _ _ _
    · refine appO_nil ?_
      simp only [go_sem, sB, reduceCtorEq, sL, sA, sE, sN, rv179, fin_t]
      exact .slf _ _ _
  | cons w l =>
    simp only [go_sem, sB, reduceCtorEq, sL, sA, sE, sN, eW_cons, nilO_cons, elemsOf_sl]
    refine appO_sl (P := Go.Proofs.Tryz.prog) (by simp) (by simp [eW_length]; simp at hl; omega) (by simp [eW_length]; simp at hl; omega) (by simp only [go_sem, sB, reduceCtorEq, sL, sA, sE, sN]) ?_
    have hle : 0 + (0 + (eW l).length + 1) ≤ ([] ++ wD w :: eW l).length := by simp
    simp only [go_sem, sB, reduceCtorEq, sL, sA, sE, sN]
    rw [frzR_s _ _ _ _ _ _ _ _ (by simp [eW_length])]
    simp only [go_sem, sB, reduceCtorEq, sL, sA, sE, sN, rv179, fin_t]
    have ht : (wD w :: eW l).take (0 + (l.length + 1)) = wD w :: eW l := List.take_of_length_le (by simp [eW_length])
    simp only [Nat.zero_add] at ht
    rw [List.take_of_length_le (by simp [eW_length])]
    exact .refl _
theorem z157 (l : List Nat) (f v : Bool) (hw : Wd l) (hl : l.length ≤ 17592186044416) : FnR Go.Proofs.Tryz.prog 157 [.sl 1 f (eW l), .b v] [] (.a [.b (v && decide (val l ≠ 0)), nW (val l)]) := by
  refine fnr157 (by simp) (nr_I _ _) (by simp) List.nodup_nil fun F out hS => ?_
  unfold ir157
  have hL : L (val l) ≤ l.length := L_le (val_lt hw)
  simp only [go_sem, sB, reduceCtorEq, sL, sA, sE, sN]
  refine callO_intro (n174 l f hw (by omega)) ?_
  have hc := w179 (toW (val l)) false (by unfold L at hL; omega)
  have e0 : decide (((toW (val l)).length : Int) > 0) = decide ¬ val l = 0 := by
    by_cases h : val l = 0
    · simp [h, toW_zero]
    · rw [toW_pos h]; simp [h]
  cases v
  · simp only [go_sem, sB, reduceCtorEq, sL, sA, sE, sN, nW, eN, e0]
    refine callO_intro hc ?_
    simp only [go_sem, sB, reduceCtorEq, sL, sA, sE, sN, eN, rv157, fin_c]
    exact ⟨_, rfl, .refl _⟩
  · simp only [go_sem, sB, reduceCtorEq, sL, sA, sE, sN, nW, eN, e0]
    refine callO_intro hc ?_
    simp only [go_sem, sB, reduceCtorEq, sL, sA, sE, sN, eN, rv157, fin_c]
    exact ⟨_, rfl, .refl _⟩
theorem w192 (l : List Nat) (f : Bool) (i : Nat) (hw : Wd l) : FnR Go.Proofs.Tryz.prog 192 [.sl 1 f (eW l), .i .i64 i] [] (.i .u32 (l.getD i 0)) := by
  refine fnr192 (by simp) rfl (by simp) List.nodup_nil fun F out hS => ?_
  unfold ir192
  by_cases h : i < l.length
  · have c1 : decide (((i : Nat) : Int) < ((l.length : Nat) : Int)) = true := by simp; omega
    simp only [go_sem, sB, reduceCtorEq, sL, sA, sE, sN, c1, ixsO_sl _ _ _ _ _ _ (eW_at h), rv192, fin_t]
    exact .refl _
  · have c1 : decide (((i : Nat) : Int) < ((l.length : Nat) : Int)) = false := by simp; omega
    have e : l.getD i 0 = 0 := by rw [List.getD_eq_getElem?_getD, List.getElem?_eq_none (by omega)]; rfl
    simp only [go_sem, sB, reduceCtorEq, sL, sA, sE, sN, c1, rv192, fin_t, e]
    exact .refl _
def cmpI (a b : Int) : Int := if a < b then -1 else if b < a then 1 else 0
theorem w171 (a : Int) : FnR Go.Proofs.Tryz.prog 171 [.i .i64 a] [] (.b false) := by
  refine fnr171 (by simp) rfl (by simp) List.nodup_nil fun F out hS => ?_
  unfold ir171
  have e : (a != a) = false := by simp
  simp only [go_sem, sB, reduceCtorEq, sL, sA, sE, sN, e, rv171, fin_t]
  exact .refl _
theorem w198 (a : Int) : FnR Go.Proofs.Tryz.prog 198 [.i .u32 a] [] (.b false) := by
  refine fnr198 (by simp) rfl (by simp) List.nodup_nil fun F out hS => ?_
  unfold ir198
  have e : (a != a) = false := by simp
  simp only [go_sem, sB, reduceCtorEq, sL, sA, sE, sN, e, rv198, fin_t]
  exact .refl _
theorem w154 (a b : Int) : FnR Go.Proofs.Tryz.prog 154 [.i .i64 a, .i .i64 b] [] (.i .i64 (cmpI a b)) := by
  refine fnr154 (by simp) rfl (by simp) List.nodup_nil fun F out hS => ?_
  unfold ir154
  simp only [go_sem, sB, reduceCtorEq, sL, sA, sE, sN]
  refine callO_intro (w171 a) ?_
  simp only [go_sem, sB, reduceCtorEq, sL, sA, sE, sN]
  refine callO_intro (w171 b) ?_
  by_cases h1 : a < b
  · have hc : cmpI a b = -1 := by simp [cmpI, h1]
    simp only [go_sem, sB, reduceCtorEq, sL, sA, sE, sN, decide_eq_true h1, rv154, fin_t, hc]
    exact .refl _
  · by_cases h2 : a > b
    · have h2' : b < a := h2
      have hc : cmpI a b = 1 := by simp [cmpI, h1, h2']
      simp only [go_sem, sB, reduceCtorEq, sL, sA, sE, sN, decide_eq_false h1, decide_eq_true h2, rv154, fin_t, hc]
      exact .refl _
    · have h2' : ¬ b < a := h2
      have hc : cmpI a b = 0 := by simp [cmpI, h1, h2']
      simp only [go_sem, sB, reduceCtorEq, sL, sA, sE, sN, decide_eq_false h1, decide_eq_false h2, rv154, fin_t, hc]
      exact .refl _
theorem w172 (a b : Int) : FnR Go.Proofs.Tryz.prog 172 [.i .u32 a, .i .u32 b] [] (.i .i64 (cmpI a b)) := by
  refine fnr172 (by simp) rfl (by simp) List.nodup_nil fun F out hS => ?_
  unfold ir172
  simp only [go_sem, sB, reduceCtorEq, sL, sA, sE, sN]
  refine callO_intro (w198 a) ?_
  simp only [go_sem, sB, reduceCtorEq, sL, sA, sE, sN]
  refine callO_intro (w198 b) ?_
  by_cases h1 : a < b
  · have hc : cmpI a b = -1 := by simp [cmpI, h1]
    simp only [go_sem, sB, reduceCtorEq, sL, sA, sE, sN, decide_eq_true h1, rv172, fin_t, hc]
    exact .refl _
  · by_cases h2 : a > b
    · have h2' : b < a := h2
      have hc : cmpI a b = 1 := by simp [cmpI, h1, h2']
      simp only [go_sem, sB, reduceCtorEq, sL, sA, sE, sN, decide_eq_false h1, decide_eq_true h2, rv172, fin_t, hc]
      exact .refl _
    · have h2' : ¬ b < a := h2
      have hc : cmpI a b = 0 := by simp [cmpI, h1, h2']
      simp only [go_sem, sB, reduceCtorEq, sL, sA, sE, sN, decide_eq_false h1, decide_eq_false h2, rv172, fin_t, hc]
      exact .refl _
theorem loop155 (a b : List Nat) (f g : Bool) (hl : a.length ≤ 35184372088832) (hab : a.length = b.length) (F : Nat) (out : Sto) (Q : Ex → St → Prop) : ∀ (n i : Nat) (nx : Nat), i + n = a.length →
    (cmpT a b n = 0 → ∀ nx, Q (.exit 0) { r := (upd (upd (upd (upd (upd (fun _ => .u) 20 (.b false)) 19 (.i .i64 a.length)) 18 (.i .i64 a.length)) 1 (.sl 1 g (eW b))) 0 (.sl 1 f (eW a))), own := fun _ => none, out := out, nx := nx }) →
    (cmpT a b n ≠ 0 → ∀ nx, Q .ret { r := (upd (fun _ => .u) 4 (.i .i64 (cmpT a b n))), own := fun _ => none, out := out, nx := nx }) →
    Loop Go.Proofs.Tryz.prog F [0, 1, 18, 19] [] b155_0 { r := (upd (upd (upd (upd (fun _ => .u) 19 (.i .i64 i)) 18 (.i .i64 a.length)) 1 (.sl 1 g (eW b))) 0 (.sl 1 f (eW a))), own := fun _ => none, out := out, nx := nx } Q := by
  intro n
  induction n with
  | zero =>
    intro i nx hi h0 h1
    refine Loop.stepW ?_
    have hi' : i = a.length := by omega
    subst hi'
    have c1 : decide (((a.length : Nat) : Int) < ((a.length : Nat) : Int)) = false := by simp
    simp only [go_sem, sB, reduceCtorEq, sL, sA, sE, sN, wb155_0, c1]
    exact h0 rfl _
  | succ n ih =>
    intro i nx hi h0 h1
    refine Loop.stepW ?_
    have c1 : decide (((i : Nat) : Int) < ((a.length : Nat) : Int)) = true := by simp; omega
    have e1 : IntKind.wrap .i64 (((a.length : Nat) : Int) - 1) = ((a.length - 1 : Nat) : Int) := by rw [IntWalk.i64_in _ (by omega)]; omega
    have e2 : IntKind.wrap .i64 (((a.length - 1 : Nat) : Int) - ((i : Nat) : Int)) = ((n : Nat) : Int) := by rw [IntWalk.i64_in _ (by omega)]; omega
    have e5 : IntKind.wrap .i64 (((i : Nat) : Int) + 1) = ((i + 1 : Nat) : Int) := by rw [IntWalk.i64_in _ (by omega)]; omega
    have hA := eW_at (show n < a.length by omega)
    have hB := eW_at (show n < b.length by omega)
    simp only [cmpT] at h0 h1
    generalize a.getD n 0 = x at *
    generalize b.getD n 0 = y at *
    by_cases hxy : x = y
    · have e : (((x : Nat) : Int) != ((y : Nat) : Int)) = false := by rw [hxy]; simp
      simp only [go_sem, sB, reduceCtorEq, sL, sA, sE, sN, wb155_0, c1, e1, e2, ixsO_sl _ _ _ _ _ _ hA, ixsO_sl _ _ _ _ _ _ hB, e, e5]
      rw [if_neg (by omega), if_neg (by omega)] at h0 h1
      exact ih (i + 1) _ (by omega) h0 h1
    · have e : (((x : Nat) : Int) != ((y : Nat) : Int)) = true := by rw [bne_iff_ne]; omega
      simp only [go_sem, sB, reduceCtorEq, sL, sA, sE, sN, wb155_0, c1, e1, e2, ixsO_sl _ _ _ _ _ _ hA, ixsO_sl _ _ _ _ _ _ hB, e]
      refine callO_intro (w172 x y) ?_
      simp only [go_sem, sB, reduceCtorEq, sL, sA, sE, sN]
      have ec : (if x < y then (-1 : Int) else if y < x then 1 else cmpT a b n) = cmpI x y := by
        unfold cmpI
        by_cases h : x < y
        · rw [if_pos h, if_pos (by omega)]
        · rw [if_neg h, if_pos (by omega), if_neg (by omega), if_pos (by omega)]
      rw [ec] at h1
      exact h1 (by unfold cmpI; split <;> (try split) <;> omega) _
theorem w155 (a b : List Nat) (f g : Bool) (ha : Wd a) (hb : Wd b) (ca : Canon a) (cb : Canon b) (hl : a.length ≤ 35184372088832) (hl' : b.length ≤ 35184372088832) : FnR Go.Proofs.Tryz.prog 155 [.sl 1 f (eW a), .sl 1 g (eW b)] [] (.i .i64 (cmpN (val a) (val b))) := by
  refine fnr155 (by simp) rfl (by simp) List.nodup_nil fun F out hS => ?_
  unfold ir155
  have hc := cmp_lens ha hb ca cb
  by_cases hab : a.length = b.length
  · have e : (((a.length : Nat) : Int) != ((b.length : Nat) : Int)) = false := by rw [hab]; simp
    simp only [go_sem, sB, reduceCtorEq, sL, sA, sE, sN, e]
    rw [if_neg (by omega), if_neg (by omega)] at hc
    refine loop155 a b f g hl hab F out _ a.length 0 _ (by omega) (fun h nx => ?_) (fun h nx => ?_)
    · rw [h] at hc
      simp only [go_sem, sB, reduceCtorEq, sL, sA, sE, sN, rv155, fin_t, hc]
      exact .refl _
    · rw [← hc]
      simp only [go_sem, sB, reduceCtorEq, sL, sA, sE, sN, rv155, fin_t]
      exact .refl _
  · have e : (((a.length : Nat) : Int) != ((b.length : Nat) : Int)) = true := by rw [bne_iff_ne]; omega
    simp only [go_sem, sB, reduceCtorEq, sL, sA, sE, sN, e]
    refine callO_intro (w154 a.length b.length) ?_
    have e2 : cmpI (a.length : Int) (b.length : Int) = cmpN (val a) (val b) := by
      rw [hc]
      unfold cmpI
      by_cases h : a.length < b.length
      · rw [if_pos h, if_pos (by omega)]
      · rw [if_neg h, if_pos (show b.length < a.length by omega), if_neg (by omega), if_pos (by omega)]
    simp only [go_sem, sB, reduceCtorEq, sL, sA, sE, sN, rv155, fin_t, e2]
    exact .refl _
theorem w199 (hi lo y : Nat) (hhi : hi < y) (hlo : lo < 4294967296) (hy : y < 4294967296) : FnR Go.Proofs.Tryz.prog 199 [.i .u32 hi, .i .u32 lo, .i .u32 y] [] (.t [.i .u32 ((hi * 4294967296 + lo) / y : Nat), .i .u32 ((hi * 4294967296 + lo) % y : Nat)]) := by
  refine fnr199 (by simp) (by simp [D.nr, nrL]) (by simp) List.nodup_nil fun F out hS => ?_
  unfold ir199
  have c1 : (((y : Nat) : Int) != 0) = true := by rw [bne_iff_ne]; omega
  have c2 : decide (((y : Nat) : Int) ≤ ((hi : Nat) : Int)) = false := by simp; omega
  have e1 := w64 hi (by omega)
  have e2 := w64 lo (by omega)
  have e3 := w64 y (by omega)
  have es : evBin .shl (.i .u64 (hi : Int)) (.i .u64 32) = some (.i .u64 ((hi * 4294967296 : Nat) : Int)) := by
    rw [e_shl _ _ _ _ (by decide)]
    have : ((hi : Nat) : Int) * 2 ^ (min (32 : Int).toNat IntKind.u64.bits) = ((hi * 4294967296 : Nat) : Int) := by
      have : (2 : Int) ^ (min (32 : Int).toNat IntKind.u64.bits) = 4294967296 := by decide
      rw [this]; omega
    rw [this, w64 _ (by omega)]
  have eo : bits .or .u64 ((hi * 4294967296 : Nat) : Int) (lo : Int) = ((hi * 4294967296 + lo : Nat) : Int) := or_disj64 (k := 32) hlo (by omega)
  have hyi : ((y : Nat) : Int) ≠ 0 := by omega
  have hq : (hi * 4294967296 + lo) / y < 4294967296 := by
    rw [Nat.div_lt_iff_lt_mul (by omega)]
    have : (hi + 1) * 4294967296 ≤ y * 4294967296 := Nat.mul_le_mul_right _ hhi
    rw [Nat.mul_comm 4294967296 y]
    omega
  have hr := Nat.mod_lt (hi * 4294967296 + lo) (show 0 < y by omega)
  have e4 := w32 _ hq
  have e5 := w32 ((hi * 4294967296 + lo) % y) (by omega)
  have e6 := w64 ((hi * 4294967296 + lo) / y) (by omega)
  simp only [go_sem, sB, reduceCtorEq, sL, sA, sE, sN, c1, c2, e1, e2, e3, es, eo, e_quo _ _ _ hyi, e_rem _ _ _ hyi, e4, e5, e6, rv199, fin_t2]
  exact .refl _
theorem w191 (x y c : Nat) (hx : x < 4294967296) (hy : y < 4294967296) (hc : c ≤ 1) : FnR Go.Proofs.Tryz.prog 191 [.i .u32 x, .i .u32 y, .i .u32 c] [] (.t [.i .u32 ((x + y + c) % 4294967296 : Nat), .i .u32 ((x + y + c) / 4294967296 : Nat)]) := by
  refine fnr191 (by simp) (by simp [D.nr, nrL]) (by simp) List.nodup_nil fun F out hS => ?_
  unfold ir191
  have e1 := w64 x (by omega)
  have e2 := w64 y (by omega)
  have e3 := w64 c (by omega)
  have e4 : IntKind.wrap .u64 (((x : Nat) : Int) + ((y : Nat) : Int)) = ((x + y : Nat) : Int) := by rw [← Int.natCast_add]; exact w64 _ (by omega)
  have e5 : IntKind.wrap .u64 (((x + y : Nat) : Int) + ((c : Nat) : Int)) = ((x + y + c : Nat) : Int) := by rw [← Int.natCast_add]; exact w64 _ (by omega)
  have e6 := wu32 (x + y + c)
  have e7 : evBin .shr (.i .u64 ((x + y + c : Nat) : Int)) (.i .u64 32) = some (.i .u64 (((x + y + c) / 4294967296 : Nat) : Int)) := by
    rw [e_shr _ _ _ _ (by decide)]
    have := fdivN (x + y + c) 32
    exact congrArg (fun x => some (D.i .u64 x)) this
  have e8 := w32 ((x + y + c) / 4294967296) (by omega)
  simp only [go_sem, sB, reduceCtorEq, sL, sA, sE, sN, e1, e2, e3, e4, e5, e6, e7, e8, rv191, fin_t2]
  exact .refl _
theorem borrow_bit (x y b : Nat) (hx : x < 4294967296) (hy : y < 4294967296) (hb : b ≤ 1) :
    (((4294967295 ^^^ x) &&& y) ||| ((4294967295 ^^^ (x ^^^ y)) &&& ((4294967296 + x - y - b) % 4294967296))) / 2 ^ 31 = 1 - (4294967296 + x - y - b) / 4294967296 := by
  generalize hd : (4294967296 + x - y - b) % 4294967296 = d
  have hdl : d < 4294967296 := by rw [← hd]; exact Nat.mod_lt _ (by decide)
  have hE : (((4294967295 ^^^ x) &&& y) ||| ((4294967295 ^^^ (x ^^^ y)) &&& d)) < 2 ^ 32 := Nat.or_lt_two_pow (Nat.and_lt_two_pow _ (by omega)) (Nat.and_lt_two_pow _ (by omega))
  have hbit : ∀ n : Nat, n < 2 ^ 32 → n / 2 ^ 31 = (n.testBit 31).toNat := by
    intro n hn
    rw [Nat.testBit_eq_decide_div_mod_eq]
    have : n / 2 ^ 31 < 2 := by omega
    rcases (show n / 2 ^ 31 = 0 ∨ n / 2 ^ 31 = 1 by omega) with h | h <;> rw [h] <;> decide
  have hm : ∀ n : Nat, n < 2 ^ 32 → n.testBit 31 = decide (2147483648 ≤ n) := by
    intro n hn
    rw [Nat.testBit_eq_decide_div_mod_eq, decide_eq_decide]
    omega
  rw [hbit _ hE, Nat.testBit_or, Nat.testBit_and, Nat.testBit_and, Nat.testBit_xor, Nat.testBit_xor, Nat.testBit_xor, hm x (by omega), hm y (by omega), hm d (by omega), show Nat.testBit 4294967295 31 = true from by decide]
  by_cases h1 : 2147483648 ≤ x <;> by_cases h2 : 2147483648 ≤ y <;> by_cases h3 : 2147483648 ≤ d <;> simp only [h1, h2, h3, decide_true, decide_false] <;> simp <;> omega
theorem xor32 (x : Nat) (hx : x < 4294967296) : evUn .xor (.i .u32 (x : Int)) = some (.i .u32 ((4294967295 ^^^ x : Nat) : Int)) := by
  have : bits .xor .u32 ((4294967295 : Nat) : Int) (x : Int) = ((4294967295 ^^^ x : Nat) : Int) := u32_xor_nat _ _ (by decide) hx
  exact congrArg (fun z => some (D.i .u32 z)) this
theorem w193 (x y b : Nat) (hx : x < 4294967296) (hy : y < 4294967296) (hb : b ≤ 1) : FnR Go.Proofs.Tryz.prog 193 [.i .u32 x, .i .u32 y, .i .u32 b] [] (.t [.i .u32 ((4294967296 + x - y - b) % 4294967296 : Nat), .i .u32 (1 - (4294967296 + x - y - b) / 4294967296 : Nat)]) := by
  refine fnr193 (by simp) (by simp [D.nr, nrL]) (by simp) List.nodup_nil fun F out hS => ?_
  unfold ir193
  have hbb := borrow_bit x y b hx hy hb
  have e2 : IntKind.wrap .u32 (IntKind.wrap .u32 (((x : Nat) : Int) - ((y : Nat) : Int)) - ((b : Nat) : Int)) = (((4294967296 + x - y - b) % 4294967296 : Nat) : Int) := by
    rw [IntKind.wrap_u32', IntKind.wrap_u32']; omega
  generalize hd : (4294967296 + x - y - b) % 4294967296 = d at *
  have hdl : d < 4294967296 := by rw [← hd]; exact Nat.mod_lt _ (by decide)
  have hxy : x ^^^ y < 2 ^ 32 := Nat.xor_lt_two_pow (by omega) (by omega)
  have hnx : 4294967295 ^^^ x < 2 ^ 32 := Nat.xor_lt_two_pow (by omega) (by omega)
  have hnxy : 4294967295 ^^^ (x ^^^ y) < 2 ^ 32 := Nat.xor_lt_two_pow (by omega) (by omega)
  have h1 : (4294967295 ^^^ x) &&& y < 2 ^ 32 := Nat.and_lt_two_pow _ (by omega)
  have h2 : (4294967295 ^^^ (x ^^^ y)) &&& d < 2 ^ 32 := Nat.and_lt_two_pow _ (by omega)
  have e3 := xor32 x hx
  have e4 : bits .and .u32 ((4294967295 ^^^ x : Nat) : Int) (y : Int) = (((4294967295 ^^^ x) &&& y : Nat) : Int) := u32_and_nat _ _ (by omega) hy
  have e5 : bits .xor .u32 (x : Int) (y : Int) = ((x ^^^ y : Nat) : Int) := u32_xor_nat _ _ hx hy
  have e6 := xor32 (x ^^^ y) (by omega)
  have e7 : bits .and .u32 ((4294967295 ^^^ (x ^^^ y) : Nat) : Int) (d : Int) = (((4294967295 ^^^ (x ^^^ y)) &&& d : Nat) : Int) := u32_and_nat _ _ (by omega) hdl
  have e8 : bits .or .u32 (((4294967295 ^^^ x) &&& y : Nat) : Int) (((4294967295 ^^^ (x ^^^ y)) &&& d : Nat) : Int) = ((((4294967295 ^^^ x) &&& y) ||| ((4294967295 ^^^ (x ^^^ y)) &&& d) : Nat) : Int) := u32_or_nat _ _ (by omega) (by omega)
  have e9 : evBin .shr (.i .u32 ((((4294967295 ^^^ x) &&& y) ||| ((4294967295 ^^^ (x ^^^ y)) &&& d) : Nat) : Int)) (.i .u64 31) = some (.i .u32 ((1 - (4294967296 + x - y - b) / 4294967296 : Nat) : Int)) := by
    rw [e_shr _ _ _ _ (by decide), ← hbb]
    have := fdivN (((4294967295 ^^^ x) &&& y) ||| ((4294967295 ^^^ (x ^^^ y)) &&& d)) 31
    exact congrArg (fun x => some (D.i .u32 x)) this
  simp only [go_sem, sB, reduceCtorEq, sL, sA, sE, sN, e2, e3, e4, e5, e6, e7, e8, e9, rv193, fin_t2]
  exact .refl _
def blen (x : Nat) : Nat := if x = 0 then 0 else Nat.log2 x + 1
theorem blen_spec {x : Nat} (h : x ≠ 0) : 1 ≤ blen x ∧ 2 ^ (blen x - 1) ≤ x ∧ x < 2 ^ blen x := by
  unfold blen
  rw [if_neg h]
  exact ⟨by omega, by simpa using Nat.log2_self_le h, Nat.lt_log2_self⟩
theorem blen_eq {x k : Nat} (h1 : 2 ^ k ≤ x) (h2 : x < 2 ^ (k + 1)) : blen x = k + 1 := by
  have h0 : x ≠ 0 := by have := Nat.two_pow_pos k; omega
  obtain ⟨g1, g2, g3⟩ := blen_spec h0
  have a1 : k < blen x := by
    apply Classical.byContradiction
    intro hn
    have := Nat.pow_le_pow_right (show 0 < 2 by decide) (show blen x ≤ k by omega)
    omega
  have a2 : blen x - 1 < k + 1 := by
    apply Classical.byContradiction
    intro hn
    have := Nat.pow_le_pow_right (show 0 < 2 by decide) (show k + 1 ≤ blen x - 1 by omega)
    omega
  omega
theorem blen_div {x j : Nat} (h : 2 ^ j ≤ x) : blen x = j + blen (x / 2 ^ j) := by
  have hp := Nat.two_pow_pos j
  have hy : x / 2 ^ j ≠ 0 := by
    have := Nat.div_pos h hp
    omega
  obtain ⟨g1, g2, g3⟩ := blen_spec hy
  have a1 : 2 ^ (j + (blen (x / 2 ^ j) - 1)) ≤ x := by
    rw [Nat.pow_add, Nat.mul_comm]
    exact (Nat.le_div_iff_mul_le hp).1 g2
  have a2 : x < 2 ^ (j + (blen (x / 2 ^ j) - 1) + 1) := by
    have e : j + (blen (x / 2 ^ j) - 1) + 1 = blen (x / 2 ^ j) + j := by omega
    rw [e, Nat.pow_add]
    exact (Nat.div_lt_iff_lt_mul hp).1 g3
  rw [blen_eq a1 a2]
  omega
theorem tab_len (l : List Nat) (h : (List.range 256).all (fun m => l[m]? == some (blen m)) = true) {m : Nat} (hm : m < 256) : tabO l (.i .u8 (m : Int)) = some (.i .u8 (blen m : Int)) := by
  have := (List.all_eq_true.1 h) m (List.mem_range.2 hm)
  have h2 : l[m]? = some (blen m) := by simpa using this
  simp [tabO, h2]
theorem shr_c (k k' : IntKind) (a b : Nat) (c : Int) (hc : c = (b : Int)) (h : b ≤ k.bits) : evBin .shr (.i k (a : Int)) (.i k' c) = some (.i k ((a / 2 ^ b : Nat) : Int)) := by
  subst hc
  rw [e_shr _ _ _ _ (by omega), Int.toNat_natCast, Nat.min_eq_left h, fdivN]
theorem w189 (x : Nat) (hx : x < 4294967296) : FnR Go.Proofs.Tryz.prog 189 [.i .u32 x] [] (.i .i64 (blen x : Nat)) := by
  refine fnr189 (by simp) rfl (by simp) List.nodup_nil fun F out hS => ?_
  unfold ir189
  have u8 : ∀ m : Nat, m < 256 → IntKind.wrap .u8 (m : Int) = (m : Int) := fun m hm => by rw [IntKind.wrap_u8']; omega
  have bl : ∀ m : Nat, m < 256 → blen m ≤ 8 := by
    intro m hm
    by_cases h : m = 0
    · rw [h]; decide
    · obtain ⟨g1, g2, g3⟩ := blen_spec h
      apply Classical.byContradiction
      intro hn
      have := Nat.pow_le_pow_right (show 0 < 2 by decide) (show 8 ≤ blen m - 1 by omega)
      omega
  have i64 : ∀ m : Nat, m ≤ 64 → IntKind.wrap .i64 (m : Int) = (m : Int) := fun m hm => IntWalk.i64_in _ (by omega)
  have ad : ∀ a b : Nat, a + b ≤ 64 → IntKind.wrap .i64 ((a : Int) + (b : Int)) = ((a + b : Nat) : Int) := fun a b h => by rw [← Int.natCast_add]; exact i64 _ h
  by_cases h1 : 65536 ≤ x
  · have c1 : decide (((x : Nat) : Int) ≥ 65536) = true := decide_eq_true (by omega)
    have s1 := shr_c .u32 .u64 x 16 16 rfl (by decide)
    have d1 : blen x = 16 + blen (x / 2 ^ 16) := blen_div (j := 16) (by omega)
    have hy : x / 2 ^ 16 < 65536 := by omega
    generalize x / 2 ^ 16 = y at *
    by_cases h2 : 256 ≤ y
    · have c2 : decide (((y : Nat) : Int) ≥ 256) = true := decide_eq_true (by omega)
      have s2 := shr_c .u32 .u64 y 8 8 rfl (by decide)
      have d2 : blen y = 8 + blen (y / 2 ^ 8) := blen_div (j := 8) (by omega)
      have hw : y / 2 ^ 8 < 256 := by omega
      generalize y / 2 ^ 8 = w at *
      have b1 := bl w hw
      have a1 : IntKind.wrap .i64 ((16 : Int) + 8) = ((24 : Nat) : Int) := by decide
      simp only [go_sem, sB, reduceCtorEq, sL, sA, sE, sN, c1, s1, c2, s2, u8 w hw]
      rw [tab_len _ (by decide +kernel) hw]
      simp only [go_sem, sB, reduceCtorEq, sL, sA, sE, sN, i64 (blen w) (by omega), a1, ad 24 (blen w) (by omega), rv189, fin_t]
      rw [d1, d2, ← Nat.add_assoc]
      exact .refl _
    · have c2 : decide (((y : Nat) : Int) ≥ 256) = false := decide_eq_false (by omega)
      have b1 := bl y (by omega)
      have a2 : IntKind.wrap .i64 ((16 : Int) + (blen y : Int)) = ((16 + blen y : Nat) : Int) := ad 16 (blen y) (by omega)
      simp only [go_sem, sB, reduceCtorEq, sL, sA, sE, sN, c1, s1, c2, u8 y (by omega)]
      rw [tab_len _ (by decide +kernel) (show y < 256 by omega)]
      simp only [go_sem, sB, reduceCtorEq, sL, sA, sE, sN, i64 (blen y) (by omega), a2, rv189, fin_t]
      rw [d1]
      exact .refl _
  · have c1 : decide (((x : Nat) : Int) ≥ 65536) = false := decide_eq_false (by omega)
    by_cases h2 : 256 ≤ x
    · have c2 : decide (((x : Nat) : Int) ≥ 256) = true := decide_eq_true (by omega)
      have s2 := shr_c .u32 .u64 x 8 8 rfl (by decide)
      have d2 : blen x = 8 + blen (x / 2 ^ 8) := blen_div (j := 8) (by omega)
      have hw : x / 2 ^ 8 < 256 := by omega
      generalize x / 2 ^ 8 = w at *
      have b1 := bl w hw
      have a1 : IntKind.wrap .i64 ((0 : Int) + 8) = ((8 : Nat) : Int) := by decide
      simp only [go_sem, sB, reduceCtorEq, sL, sA, sE, sN, c1, c2, s2, u8 w hw]
      rw [tab_len _ (by decide +kernel) hw]
      simp only [go_sem, sB, reduceCtorEq, sL, sA, sE, sN, i64 (blen w) (by omega), a1, ad 8 (blen w) (by omega), rv189, fin_t]
      rw [d2]
      exact .refl _
    · have c2 : decide (((x : Nat) : Int) ≥ 256) = false := decide_eq_false (by omega)
      have b1 := bl x (by omega)
      have a2 : IntKind.wrap .i64 ((0 : Int) + (blen x : Int)) = ((blen x : Nat) : Int) := by rw [Int.zero_add]; exact i64 _ (by omega)
      simp only [go_sem, sB, reduceCtorEq, sL, sA, sE, sN, c1, c2, u8 x (by omega)]
      rw [tab_len _ (by decide +kernel) (show x < 256 by omega)]
      simp only [go_sem, sB, reduceCtorEq, sL, sA, sE, sN, i64 (blen x) (by omega), a2, rv189, fin_t]
      exact .refl _
theorem blen_le32 {x : Nat} (hx : x < 4294967296) : blen x ≤ 32 := by
  by_cases h : x = 0
  · rw [h]; decide
  · obtain ⟨g1, g2, g3⟩ := blen_spec h
    apply Classical.byContradiction
    intro hn
    have := Nat.pow_le_pow_right (show 0 < 2 by decide) (show 32 ≤ blen x - 1 by omega)
    omega
theorem w175 (x : Nat) (hx : x < 4294967296) : FnR Go.Proofs.Tryz.prog 175 [.i .u32 x] [] (.i .i64 (32 - blen x : Nat)) := by
  refine fnr175 (by simp) rfl (by simp) List.nodup_nil fun F out hS => ?_
  unfold ir175
  have hb := blen_le32 hx
  have e1 : IntKind.wrap .i64 ((32 : Int) - (blen x : Int)) = ((32 - blen x : Nat) : Int) := by rw [IntWalk.i64_in _ (by omega)]; omega
  simp only [go_sem, sB, reduceCtorEq, sL, sA, sE, sN]
  refine callO_intro (w189 x hx) ?_
  simp only [go_sem, sB, reduceCtorEq, sL, sA, sE, sN, e1, rv175, fin_t]
  exact .refl _
def pad : Nat → Nat → List Nat
  | 0, _ => []
  | n + 1, x => x % BB :: pad n (x / BB)
theorem pad_len : ∀ n x, (pad n x).length = n
  | 0, _ => rfl
  | n + 1, x => by simp [pad, pad_len n]
theorem pad_wd : ∀ n x, Wd (pad n x)
  | 0, _ => .nil
  | n + 1, x => .cons (Nat.mod_lt _ BB_pos) (pad_wd n _)
theorem pad_val : ∀ {l : List Nat}, Wd l → pad l.length (val l) = l
  | [], _ => rfl
  | w :: l, h => by
    have h1 := h.head
    have e1 : (w + BB * val l) % BB = w := by rw [Nat.add_mul_mod_self_left]; exact Nat.mod_eq_of_lt h1
    have e2 : (w + BB * val l) / BB = val l := by rw [Nat.add_mul_div_left _ _ BB_pos, Nat.div_eq_of_lt h1, Nat.zero_add]
    simp only [List.length_cons, pad, val]
    rw [e1, e2, pad_val h.tail]
theorem val_pad : ∀ {n x : Nat}, x < BB ^ n → val (pad n x) = x
  | 0, x, h => by simp at h; subst h; rfl
  | n + 1, x, h => by
    have h1 : x / BB < BB ^ n := by rw [Nat.div_lt_iff_lt_mul BB_pos, ← Nat.pow_succ]; exact h
    simp only [pad, val]
    rw [val_pad h1]
    exact Nat.mod_add_div x BB
theorem loop176 (l : List Nat) (f : Bool) (s : Nat) (hs : s < 32) (hw : Wd l) (hl : l.length ≤ 35184372088832) (F : Nat) (out : Sto) (Q : Ex → St → Prop) (z : Nat) : ∀ (m i : Nat) (O : List Nat) (nx : Nat), i + m = l.length → O.length = l.length + 1 → Wd O → (∀ j, i + 1 ≤ j → O.getD j 0 = 0) →
    O.getD i 0 < 2 ^ s → val (O.take (i + 1)) = val (l.take i) * 2 ^ s →
    (∀ (O' : List Nat) (nx : Nat), O'.length = l.length + 1 → Wd O' → val (O'.take (l.length + 1)) = val (l.take l.length) * 2 ^ s →
      Q (.exit 0) { r := (upd (upd (upd (upd (upd (upd (fun _ => .u) 16 (.b false)) 15 (.i .i64 l.length)) 14 (.i .i64 l.length)) 13 (.sl 1 f (eW l))) 5 (.w (F, 12) z 1 0 (l.length + 1))) 1 (.i .i64 s)), own := upd (fun _ => none) 12 (some (z, .row 1 (eW O'))), out := out, nx := nx }) →
    Loop Go.Proofs.Tryz.prog F [1, 5, 13, 14, 15] [12] b176_0 { r := (upd (upd (upd (upd (upd (fun _ => .u) 15 (.i .i64 i)) 14 (.i .i64 l.length)) 13 (.sl 1 f (eW l))) 5 (.w (F, 12) z 1 0 (l.length + 1))) 1 (.i .i64 s)), own := upd (fun _ => none) 12 (some (z, .row 1 (eW O))), out := out, nx := nx } Q := by
  have hB : BB = 4294967296 := rfl
  have hBs : 2 ^ s * 2 ^ (32 - s) = 4294967296 := by rw [← Nat.pow_add, show s + (32 - s) = 32 by omega]
  have hsp := Nat.two_pow_pos s
  have hsp2 := Nat.two_pow_pos (32 - s)
  have hsl : 2 ^ s < 4294967296 := by
    have : 2 ^ s < 2 ^ 32 := Nat.pow_lt_pow_right (by decide) hs
    omega
  intro m
  induction m with
  | zero =>
    intro i O nx hi hO hwO hz hh hv hQ
    refine Loop.stepW ?_
    have hi' : i = l.length := by omega
    subst hi'
    have c1 : decide (((l.length : Nat) : Int) < ((l.length : Nat) : Int)) = false := by simp
    simp only [go_sem, sB, reduceCtorEq, sL, sA, sE, sN, wb176_0, c1]
    exact hQ O _ hO hwO hv
  | succ m ih =>
    intro i O nx hi hO hwO hz hh hv hQ
    refine Loop.stepW ?_
    have hin : i < l.length := by omega
    have c1 : decide (((i : Nat) : Int) < ((l.length : Nat) : Int)) = true := by simp; omega
    have hw0 := hw.getD i
    have hat := eW_at hin
    have sl := val_take_s l i
    have h0 := hz (i + 1) (by omega)
    have hOi := eW_at (show i < O.length by omega)
    have so := val_take_s O i
    generalize l.getD i 0 = w at *
    generalize hhd : O.getD i 0 = h at *
    have e0 := w64 w (by omega)
    have hwide : w * 2 ^ s < 18446744073709551616 := by
      have : w * 2 ^ s ≤ 4294967296 * 2 ^ s := Nat.mul_le_mul_right _ (by omega)
      omega
    have es : evBin .shl (.i .u64 (w : Int)) (.i .i64 (s : Int)) = some (.i .u64 ((w * 2 ^ s : Nat) : Int)) := by
      rw [e_shl _ _ _ _ (by omega), Int.toNat_natCast, Nat.min_eq_left (show s ≤ IntKind.u64.bits by show s ≤ 64; omega)]
      have : ((w : Nat) : Int) * 2 ^ s = ((w * 2 ^ s : Nat) : Int) := by rw [Int.natCast_mul, Int.natCast_pow]; rfl
      rw [this, w64 _ hwide]
    have e1 := wu32 (w * 2 ^ s)
    have hlo : w * 2 ^ s % 4294967296 = (w % 2 ^ (32 - s)) * 2 ^ s := by
      rw [← hBs, Nat.mul_comm (2 ^ s), Nat.mul_mod_mul_right]
    have hlt : (w % 2 ^ (32 - s)) * 2 ^ s + h < 4294967296 := by
      have h1 : (w % 2 ^ (32 - s) + 1) * 2 ^ s ≤ 2 ^ (32 - s) * 2 ^ s := Nat.mul_le_mul_right _ (Nat.mod_lt _ hsp2)
      rw [Nat.add_mul, Nat.one_mul, Nat.mul_comm (2 ^ (32 - s))] at h1
      omega
    have eo := or_disj32 (x := w % 2 ^ (32 - s)) (k := s) hh hlt
    rw [← hlo] at eo hlt
    have e2 : IntKind.wrap .i64 (((i : Nat) : Int) + 1) = ((i + 1 : Nat) : Int) := by rw [IntWalk.i64_in _ (by omega)]; omega
    have s2 := shr_c .u64 .u64 (w * 2 ^ s) 32 32 rfl (by decide)
    have hhi : w * 2 ^ s / 2 ^ 32 < 2 ^ s := by
      rw [Nat.div_lt_iff_lt_mul (by decide), Nat.mul_comm]
      exact Nat.mul_lt_mul_of_pos_left (by omega) hsp
    have e3 := w32 (w * 2 ^ s / 2 ^ 32) (by omega)
    have hin1 : i < l.length + 1 := by omega
    have hin2 : i + 1 < l.length + 1 := by omega
    have hO2 := eW_at (show i + 1 < (O.set i (w * 2 ^ s % 4294967296 + h)).length by simp; omega)
    simp only [go_sem, sB, reduceCtorEq, sL, sA, sE, sN, wb176_0, c1, ixsO_sl _ _ _ _ _ _ hat, e0, es, e1, eo, e2, s2, e3, ixsO_w _ _ _ _ _ _ _ hin1, ixsO_w _ _ _ _ _ _ _ hin2, hOi, hO2]
    refine ih (i + 1) ((O.set i (w * 2 ^ s % 4294967296 + h)).set (i + 1) (w * 2 ^ s / 2 ^ 32)) _ (by omega) (by simp [hO]) ((hwO.set (by rw [hB]; omega)).set (by rw [hB]; omega)) (fun j hj => ?_) ?_ ?_ hQ
    · rw [getD_set_ne (by omega), getD_set_ne (by omega)]; exact hz j (by omega)
    · rw [getD_set_eq (by simp; omega)]; exact hhi
    · rw [val_set_take (by simp; omega), val_set_take (by omega), sl, Nat.pow_succ]
      rw [so] at hv
      have hd := Nat.div_add_mod (w * 2 ^ s) 4294967296
      rw [show (2 : Nat) ^ 32 = 4294967296 from rfl]
      rw [hB] at hv ⊢
      generalize w * 2 ^ s / 4294967296 = q at hd ⊢
      generalize w * 2 ^ s % 4294967296 = r at hd ⊢
      generalize 4294967296 ^ i = G at hv ⊢
      rw [Nat.add_mul, Nat.mul_assoc G w, ← hd, Nat.mul_add, Nat.mul_add, Nat.mul_assoc G 4294967296 q]
      omega
theorem n176 (l : List Nat) (f : Bool) (s : Nat) (hs : s < 32) (hw : Wd l) (hl : l.length ≤ 17592186044416) : FnN Go.Proofs.Tryz.prog 176 [.sl 1 f (eW l), .i .i64 s] 1 (eW (pad (l.length + 1) (val l * 2 ^ s))) := by
  refine fnn176 (by simp) (nrLL_eW _) fun F out => ?_
  unfold ir176
  have e1 : IntKind.wrap .i64 (((l.length : Nat) : Int) + 1) = ((l.length + 1 : Nat) : Int) := by rw [IntWalk.i64_in _ (by omega)]; omega
  simp only [go_sem, sB, reduceCtorEq, sL, sA, sE, sN, e1]
  refine mkO_intro (Nat.le_refl _) (by omega) (by omega) ?_
  simp only [go_sem, sB, reduceCtorEq, sL, sA, sE, sN]
  refine loop176 l f s hs hw (by omega) F out _ _ l.length 0 (List.replicate (l.length + 1) 0) _ (by omega) (by simp) (Wd_rep _) (fun j _ => getD_rep _ _) (by rw [getD_rep]; exact Nat.two_pow_pos s) (by simp [val]) (fun O' nx h1 h2 h3 => ?_)
  simp only [go_sem, sB, reduceCtorEq, sL, sA, sE, sN, rv176]
  rw [List.take_of_length_le (by omega), List.take_of_length_le (Nat.le_refl _)] at h3
  have : pad (l.length + 1) (val l * 2 ^ s) = O' := by rw [← h3, ← h1]; exact pad_val h2
  rw [this]
  simp only [h1]
  refine ⟨_, rfl, 12, _, rfl, ?_⟩
  simp only [go_sem, sB, reduceCtorEq, sL, sA, sE, sN]
theorem step_gen {v U : List Nat} {lo gd : Nat} (hv : Wd v) (hn : 2 ≤ v.length) (hnorm : BB ≤ 2 * v.getD (v.length - 1) 0) (hw : Wd U) (hU : lo + (v.length + 1) ≤ U.length) (hz : ∀ j, lo + (v.length + 1) ≤ j → U.getD j 0 = 0) (g1 : val (U.drop lo) < (gd + 1) * val v) (g2 : gd * val v ≤ val (U.drop lo) + val v) (g3 : gd < BB) :
    let S := subAt v (gd) lo (v.length + 1) 0 U 0 0
    (S.b = 1 → 1 ≤ gd ∧ StepOK v U lo (gd - 1) (addAt v lo (v.length + 1) 0 S.u 0).1 ∧ (addAt v lo (v.length + 1) 0 S.u 0).2 = 1) ∧ (S.b ≠ 1 → StepOK v U lo (gd) S.u) ∧ Wd S.u ∧ S.u.length = U.length ∧ gd < BB := by
  intro S
  have hsp := val_split U (show lo ≤ U.length by omega)
  have htl := val_take_lt hw (show lo ≤ U.length by omega)
  have hG : 0 < BB ^ lo := Nat.pow_pos BB_pos
  obtain ⟨s1, s2, s3, s4, s5⟩ := subAt_spec (lo := lo) hv g3 (v.length + 1) 0 U 0 0 (by omega) (by omega) hw BB_pos (by omega)
  have sc : S.c = 0 := subAt_c v.length 0 U 0 0 (by omega) BB_pos (fun i => by
    have h1 := hv.getD i
    have h2 : gd * v.getD i 0 ≤ (BB - 1) * (BB - 1) := Nat.mul_le_mul (by omega) (by omega)
    have e : (BB - 1) * (BB - 1) + BB ≤ BB * BB := by decide
    omega)
  simp only [Nat.add_zero, List.drop_zero] at s4 s5
  change S.u.length = _ at s1
  change Wd S.u at s2
  change S.b ≤ 1 at s3
  change ∀ j, _ → S.u.getD j 0 = _ at s4
  change val S.u + _ = val U + _ * (S.c + S.b) at s5
  have hzS : ∀ j, lo + (v.length + 1) ≤ j → S.u.getD j 0 = 0 := fun j hj => by rw [s4 j hj, hz j hj]
  have hvlt := val_lt hv
  rw [sc, Nat.zero_add] at s5
  have hSE := val_lt_of s2 (show lo + (v.length + 1) ≤ S.u.length by omega) hzS
  have hE : BB ^ lo * val v < BB ^ (lo + (v.length + 1)) := by
    rw [Nat.pow_add]
    refine Nat.mul_lt_mul_of_pos_left ?_ hG
    refine Nat.lt_trans hvlt ?_
    exact Nat.pow_lt_pow_right (by decide) (by omega)
  have hUlt : val U < BB ^ lo * ((gd + 1) * val v) := by
    have h1 : BB ^ lo * (val (U.drop lo) + 1) ≤ BB ^ lo * ((gd + 1) * val v) := Nat.mul_le_mul_left _ g1
    rw [Nat.mul_add, Nat.mul_one] at h1
    omega
  rw [Nat.add_mul, Nat.one_mul, Nat.mul_add] at hUlt
  refine ⟨fun hb => ?_, fun hb => ?_, s2, s1, g3⟩
  · rw [hb, Nat.mul_one] at s5
    have hpos : 1 ≤ gd := by
      rcases Nat.eq_zero_or_pos (gd) with h | h
      · rw [h, Nat.zero_mul, Nat.mul_zero] at s5; omega
      · exact h
    refine ⟨hpos, ?_⟩
    obtain ⟨a1, a2, a3, a4, a5⟩ := addAt_spec (lo := lo) hv (v.length + 1) 0 S.u 0 (by omega) (by omega) s2 (by omega)
    simp only [Nat.add_zero, List.drop_zero] at a4 a5
    have hzA : ∀ j, lo + (v.length + 1) ≤ j → (addAt v lo (v.length + 1) 0 S.u 0).1.getD j 0 = 0 := fun j hj => by rw [a4 j hj, hzS j hj]
    have hAE := val_lt_of a2 (show lo + (v.length + 1) ≤ (addAt v lo (v.length + 1) 0 S.u 0).1.length by omega) hzA
    have hgm : gd * val v = (gd - 1) * val v + val v := by
      have : gd = gd - 1 + 1 := by omega
      conv => lhs; rw [this, Nat.add_mul, Nat.one_mul]
    rw [hgm, Nat.mul_add] at s5 hUlt
    rw [hgm] at g2
    have hle : BB ^ lo * ((gd - 1) * val v) ≤ BB ^ lo * val (U.drop lo) := Nat.mul_le_mul_left _ (by omega)
    generalize hX : BB ^ lo * ((gd - 1) * val v) = X at *
    generalize hE2 : BB ^ (lo + (v.length + 1)) = E at *
    have ha : (addAt v lo (v.length + 1) 0 S.u 0).2 = 1 := by
      rcases (show (addAt v lo (v.length + 1) 0 S.u 0).2 = 0 ∨ (addAt v lo (v.length + 1) 0 S.u 0).2 = 1 by omega) with h | h
      · rw [h, Nat.mul_zero] at a5; omega
      · exact h
    rw [ha, Nat.mul_one] at a5
    refine ⟨⟨by omega, a2, hzA, by omega, ?_, by omega⟩, ha⟩
    rw [hX]
    omega
  · have hb0 : S.b = 0 := by omega
    rw [hb0, Nat.mul_zero, Nat.add_zero] at s5
    exact ⟨s1, s2, hzS, g3, s5, by omega⟩
theorem guess_top {v U : List Nat} {lo : Nat} (hv : Wd v) (hn : 2 ≤ v.length) (hnorm : BB ≤ 2 * v.getD (v.length - 1) 0) (hw : Wd U) (hU : lo + (v.length + 1) ≤ U.length) (hz : ∀ j, lo + (v.length + 1) ≤ j → U.getD j 0 = 0) (hlt : val (U.drop lo) < BB * val v) (htop : v.getD (v.length - 1) 0 ≤ U.getD (lo + v.length) 0) :
    val (U.drop lo) < (BB - 1 + 1) * val v ∧ (BB - 1) * val v ≤ val (U.drop lo) + val v := by
  obtain ⟨n, hn'⟩ : ∃ n, v.length = n + 2 := ⟨v.length - 2, by omega⟩
  have hV : val v = (v.getD (n + 1) 0 * BB + v.getD n 0) * BB ^ n + val (v.take n) := by
    rw [val_split v (show n ≤ v.length by omega), val_drop_all v n, val_drop_all v (n + 1), List.drop_of_length_le (show v.length ≤ n + 1 + 1 by omega)]
    simp only [val, Nat.mul_zero, Nat.add_zero]
    rw [Nat.add_comm, Nat.mul_comm (BB ^ n), Nat.mul_comm BB, Nat.add_comm (v.getD n 0)]
  have hW : val (U.drop lo) = ((U.getD (lo + (n + 2)) 0 * BB + U.getD (lo + (n + 1)) 0) * BB + U.getD (lo + n) 0) * BB ^ n + val ((U.drop lo).take n) := by
    have hl : n ≤ (U.drop lo).length := by simp; omega
    have h0 : val (U.drop (lo + n + 1 + 1 + 1)) = 0 := val_zero_of (fun j => by rw [getD_drop]; exact hz _ (by omega))
    rw [val_split (U.drop lo) hl, List.drop_drop, val_drop_all U (lo + n), val_drop_all U (lo + n + 1), val_drop_all U (lo + n + 1 + 1), h0]
    simp only [Nat.mul_zero, Nat.add_zero]
    have e1 : lo + n + 1 + 1 = lo + (n + 2) := by omega
    have e2 : lo + n + 1 = lo + (n + 1) := by omega
    rw [e1, e2, Nat.add_comm, Nat.mul_comm (BB ^ n)]
    congr 2
    rw [Nat.add_comm, Nat.mul_comm BB]
    congr 2
    rw [Nat.add_comm, Nat.mul_comm BB]
  have hB : BB = 4294967296 := rfl
  have b1 := hv.getD n
  have hv0 : val (v.take n) < BB ^ n := val_take_lt hv (by omega)
  have i1 : v.length - 1 = n + 1 := by omega
  rw [i1] at hnorm htop
  rw [hn'] at htop
  refine ⟨by rw [show BB - 1 + 1 = BB by rw [hB]]; exact hlt, ?_⟩
  have hsplit : (BB - 1) * val v = (BB - 2) * val v + val v := by
    rw [show BB - 1 = BB - 2 + 1 by rw [hB], Nat.add_mul, Nat.one_mul]
  rw [hsplit]
  refine Nat.add_le_add_right ?_ _
  generalize hP : BB ^ n = P at *
  generalize v.getD (n + 1) 0 = v1 at *
  generalize v.getD n 0 = v2 at *
  generalize val (v.take n) = v0 at *
  have hVle : val v ≤ (v1 + 1) * BB * P := by
    have h1 : v1 * BB + v2 + 1 ≤ (v1 + 1) * BB := by rw [Nat.add_mul]; omega
    have h2 := Nat.mul_le_mul_right P h1
    rw [Nat.add_mul _ 1 P, Nat.one_mul] at h2
    omega
  have hWge : v1 * BB * (BB * P) ≤ val (U.drop lo) := by
    rw [hW]
    have h1 : v1 * BB * BB * P ≤ ((U.getD (lo + (n + 2)) 0 * BB + U.getD (lo + (n + 1)) 0) * BB + U.getD (lo + n) 0) * P := by
      refine Nat.mul_le_mul_right _ ?_
      have h2 : v1 * BB ≤ U.getD (lo + (n + 2)) 0 * BB + U.getD (lo + (n + 1)) 0 := Nat.le_trans (Nat.mul_le_mul_right _ htop) (Nat.le_add_right _ _)
      exact Nat.le_trans (Nat.mul_le_mul_right _ h2) (Nat.le_add_right _ _)
    rw [← Nat.mul_assoc]
    omega
  have hc : (BB - 2) * (v1 + 1) ≤ v1 * BB := by
    have : (BB - 2) * (v1 + 1) = (BB - 2) * v1 + (BB - 2) := by rw [Nat.mul_add, Nat.mul_one]
    rw [this, hB]
    rw [hB] at hnorm
    omega
  refine Nat.le_trans (Nat.mul_le_mul_left _ hVle) (Nat.le_trans ?_ hWge)
  rw [Nat.mul_assoc (v1 + 1), ← Nat.mul_assoc]
  exact Nat.mul_le_mul_right _ hc
def guessP (v U : List Nat) (lo : Nat) : Nat := if U.getD (lo + v.length) 0 < v.getD (v.length - 1) 0 then guessW v U lo else BB - 1
theorem guessP_spec {v U : List Nat} {lo : Nat} (hv : Wd v) (hn : 2 ≤ v.length) (hnorm : BB ≤ 2 * v.getD (v.length - 1) 0) (hw : Wd U) (hU : lo + (v.length + 1) ≤ U.length) (hz : ∀ j, lo + (v.length + 1) ≤ j → U.getD j 0 = 0) (hlt : val (U.drop lo) < BB * val v) :
    val (U.drop lo) < (guessP v U lo + 1) * val v ∧ guessP v U lo * val v ≤ val (U.drop lo) + val v ∧ guessP v U lo < BB := by
  unfold guessP
  split
  · exact guessW_spec hv hn hnorm hw hU hz hlt
  · rename_i h
    obtain ⟨g1, g2⟩ := guess_top hv hn hnorm hw hU hz hlt (by omega)
    exact ⟨g1, g2, by decide⟩
def subP (v U : List Nat) (lo : Nat) : SubR := subAt v (guessP v U lo) lo (v.length + 1) 0 U 0 0
def digP (v U : List Nat) (lo : Nat) : Nat := if (subP v U lo).b = 1 then guessP v U lo - 1 else guessP v U lo
def rowP (v U : List Nat) (lo : Nat) : List Nat := if (subP v U lo).b = 1 then (addAt v lo (v.length + 1) 0 (subP v U lo).u 0).1 else (subP v U lo).u
theorem stepP {v U : List Nat} {lo : Nat} (hv : Wd v) (hn : 2 ≤ v.length) (hnorm : BB ≤ 2 * v.getD (v.length - 1) 0) (hw : Wd U) (hU : lo + (v.length + 1) ≤ U.length) (hz : ∀ j, lo + (v.length + 1) ≤ j → U.getD j 0 = 0) (hlt : val U < BB ^ lo * (BB * val v)) :
    StepOK v U lo (digP v U lo) (rowP v U lo) ∧ guessP v U lo < BB ∧ Wd (subP v U lo).u ∧ (subP v U lo).u.length = U.length ∧ (subP v U lo).b ≤ 1 ∧ ((subP v U lo).b = 1 → 1 ≤ guessP v U lo ∧ (addAt v lo (v.length + 1) 0 (subP v U lo).u 0).2 = 1) := by
  have hsp := val_split U (show lo ≤ U.length by omega)
  have hG : 0 < BB ^ lo := Nat.pow_pos BB_pos
  have hW : val (U.drop lo) < BB * val v := by
    have : BB ^ lo * val (U.drop lo) < BB ^ lo * (BB * val v) := by omega
    exact Nat.lt_of_mul_lt_mul_left this
  obtain ⟨g1, g2, g3⟩ := guessP_spec hv hn hnorm hw hU hz hW
  obtain ⟨s1, s2, s3, s4, s5⟩ := step_gen (lo := lo) hv hn hnorm hw hU hz g1 g2 g3
  obtain ⟨_, _, t3, _, _⟩ := subAt_spec (lo := lo) hv g3 (v.length + 1) 0 U 0 0 (by omega) (by omega) hw BB_pos (by omega)
  refine ⟨?_, g3, s3, s4, t3, fun h => ⟨(s1 h).1, (s1 h).2.2⟩⟩
  unfold digP rowP
  by_cases h : (subP v U lo).b = 1
  · rw [if_pos h, if_pos h]; exact (s1 h).2.1
  · rw [if_neg h, if_neg h]; exact s2 h
theorem loop177_1 (v : List Nat) (g : Bool) (hv : Wd v) (q : Nat) (hq : q < BB) (key : Key) (z lo len : Nat) (hlen : len ≤ 17592186044416) (F : Nat) (hF : key.1 ≠ F) (Q : Ex → St → Prop) : ∀ (m i : Nat) (U : List Nat) (c b : Nat) (o : Sto) (nx : Nat), i + m = len → lo + len ≤ U.length → Wd U → c < BB → b ≤ 1 → o key = some (z, .row 1 (eW U)) →
    (∀ nx, Q (.exit 2) { r := (upd (upd (upd (upd (upd (upd (upd (upd (fun _ => .u) 84 (.b false)) 83 (.i .i64 len)) 82 (.i .i64 len)) 11 (.i .u32 (subAt v q lo m i U c b).b)) 10 (.i .u64 (subAt v q lo m i U c b).c)) 6 (.i .u64 q)) 1 (.sl 1 g (eW v))) 0 (.w key z 1 lo len)), own := fun _ => none, out := updK o key (some (z, .row 1 (eW (subAt v q lo m i U c b).u))), nx := nx }) →
    Loop Go.Proofs.Tryz.prog F [0, 1, 6, 10, 11, 82, 83] [] b177_1 { r := (upd (upd (upd (upd (upd (upd (upd (fun _ => .u) 83 (.i .i64 i)) 82 (.i .i64 len)) 11 (.i .u32 b)) 10 (.i .u64 c)) 6 (.i .u64 q)) 1 (.sl 1 g (eW v))) 0 (.w key z 1 lo len)), own := fun _ => none, out := o, nx := nx } Q := by
  intro m
  induction m with
  | zero =>
    intro i U c b o nx hi hU hw hc hb ho hQ
    refine Loop.stepW ?_
    have hi' : i = len := by omega
    subst hi'
    have c1 : decide (((i : Nat) : Int) < ((i : Nat) : Int)) = false := by simp
    simp only [go_sem, sB, reduceCtorEq, sL, sA, sE, sN, wb177_1, c1]
    simp only [subAt, updK_self ho] at hQ
    exact hQ _
  | succ m ih =>
    intro i U c b o nx hi hU hw hc hb ho hQ
    refine Loop.stepW ?_
    have c1 : decide (((i : Nat) : Int) < ((len : Nat) : Int)) = true := by simp; omega
    have hil : i < len := by omega
    have hiU : lo + i < U.length := by omega
    have h1 : U.getD (lo + i) 0 < 4294967296 := hw.getD _
    have hB : BB = 4294967296 := rfl
    obtain ⟨t1, t2⟩ := mul_step hq (hv.getD i) hc BB_pos
    simp only [Nat.add_zero] at t1 t2
    have hat := eW_at hiU
    have hvi := hv.getD i
    have e10 : IntKind.wrap .i64 (((i : Nat) : Int) + 1) = ((i + 1 : Nat) : Int) := by rw [IntWalk.i64_in _ (by omega)]; omega
    simp only [go_sem, sB, reduceCtorEq, sL, sA, sE, sN, wb177_1, c1]
    refine callO_intro (w192 v g i hv) ?_
    generalize hP : q * v.getD i 0 = p at *
    have e0 := w64 (v.getD i 0) (by omega)
    have e1 : IntKind.wrap .u64 (((q : Nat) : Int) * ((v.getD i 0 : Nat) : Int)) = ((p : Nat) : Int) := by
      rw [← Int.natCast_mul, hP]; exact w64 _ (by rw [hB] at t1; omega)
    have e2 : IntKind.wrap .u64 (((c : Nat) : Int) + ((p : Nat) : Int)) = ((p + c : Nat) : Int) := by
      rw [← Int.natCast_add, Nat.add_comm]; exact w64 _ (by rw [hB] at t1; omega)
    generalize hs : p + c = s at *
    generalize hU0 : U.getD (lo + i) 0 = x at *
    have e3 := wu32 s
    simp only [go_sem, sB, reduceCtorEq, sL, sA, sE, sN, e0, e1, e2, e3, ixsO_w _ _ _ _ _ _ _ hil, look_out hF, ho, hat]
    refine callO_intro (w193 x (s % 4294967296) b (by omega) (Nat.mod_lt _ (by decide)) hb) ?_
    have e4 := shr_c .u64 .u64 s 32 32 rfl (by decide)
    simp only [go_sem, sB, reduceCtorEq, sL, sA, sE, sN, e4, e10, ixsO_w _ _ _ _ _ _ _ hil, look_out hF, ho, hat, set_out hF]
    generalize ht : 4294967296 + x - s % 4294967296 - b = t at *
    refine ih (i + 1) (U.set (lo + i) (t % 4294967296)) (s / 4294967296) (1 - t / 4294967296) _ _ (by omega) (by simpa using hU) (hw.set (by rw [hB]; omega)) (by rw [hB] at t2 ⊢; exact t2) (by omega) (updK_eq _ _ _) (fun nx => ?_)
    rw [updK_twice]
    simp only [subAt, hP, hs, hU0, BB, ht] at hQ
    exact hQ nx
theorem loop177_2 (v : List Nat) (g : Bool) (hv : Wd v) (q b : Nat) (key : Key) (z lo len : Nat) (hlen : len ≤ 17592186044416) (F : Nat) (hF : key.1 ≠ F) (Q : Ex → St → Prop) : ∀ (m i : Nat) (U : List Nat) (c : Nat) (o : Sto) (nx : Nat), i + m = len → lo + len ≤ U.length → Wd U → c ≤ 1 → o key = some (z, .row 1 (eW U)) →
    (∀ nx, Q (.exit 6) { r := (upd (upd (upd (upd (upd (upd (upd (upd (fun _ => .u) 118 (.b false)) 117 (.i .i64 len)) 116 (.i .i64 len)) 13 (.i .u32 (addAt v lo m i U c).2)) 11 (.i .u32 b)) 6 (.i .u64 q)) 1 (.sl 1 g (eW v))) 0 (.w key z 1 lo len)), own := fun _ => none, out := updK o key (some (z, .row 1 (eW (addAt v lo m i U c).1))), nx := nx }) →
    Loop Go.Proofs.Tryz.prog F [0, 1, 6, 11, 13, 116, 117] [] b177_2 { r := (upd (upd (upd (upd (upd (upd (upd (fun _ => .u) 117 (.i .i64 i)) 116 (.i .i64 len)) 13 (.i .u32 c)) 11 (.i .u32 b)) 6 (.i .u64 q)) 1 (.sl 1 g (eW v))) 0 (.w key z 1 lo len)), own := fun _ => none, out := o, nx := nx } Q := by
  intro m
  induction m with
  | zero =>
    intro i U c o nx hi hU hw hc ho hQ
    refine Loop.stepW ?_
    have hi' : i = len := by omega
    subst hi'
    have c1 : decide (((i : Nat) : Int) < ((i : Nat) : Int)) = false := by simp
    simp only [go_sem, sB, reduceCtorEq, sL, sA, sE, sN, wb177_2, c1]
    simp only [addAt, updK_self ho] at hQ
    exact hQ _
  | succ m ih =>
    intro i U c o nx hi hU hw hc ho hQ
    refine Loop.stepW ?_
    have c1 : decide (((i : Nat) : Int) < ((len : Nat) : Int)) = true := by simp; omega
    have hil : i < len := by omega
    have hiU : lo + i < U.length := by omega
    have h1 : U.getD (lo + i) 0 < 4294967296 := hw.getD _
    have h2 : v.getD i 0 < 4294967296 := hv.getD _
    have hat := eW_at hiU
    have e3 : IntKind.wrap .i64 (((i : Nat) : Int) + 1) = ((i + 1 : Nat) : Int) := by rw [IntWalk.i64_in _ (by omega)]; omega
    simp only [go_sem, sB, reduceCtorEq, sL, sA, sE, sN, wb177_2, c1, ixsO_w _ _ _ _ _ _ _ hil, look_out hF, ho, hat]
    refine callO_intro (w192 v g i hv) ?_
    simp only [go_sem, sB, reduceCtorEq, sL, sA, sE, sN]
    refine callO_intro (w191 (U.getD (lo + i) 0) (v.getD i 0) c h1 h2 hc) ?_
    simp only [go_sem, sB, reduceCtorEq, sL, sA, sE, sN, e3, ixsO_w _ _ _ _ _ _ _ hil, look_out hF, ho, hat, set_out hF]
    generalize ht : U.getD (lo + i) 0 + v.getD i 0 + c = t at *
    refine ih (i + 1) (U.set (lo + i) (t % 4294967296)) (t / 4294967296) _ _ (by omega) (by simpa using hU) (hw.set (by unfold BB; omega)) (by omega) (updK_eq _ _ _) (fun nx => ?_)
    rw [updK_twice]
    simp only [addAt, ht, BB] at hQ
    exact hQ nx
def gL (v1 v2 u0 k q r : Nat) : Nat := if BB ≤ r then q else gLoop v1 v2 u0 k q r
theorem loop177_0 (v : List Nat) (g : Bool) (hv : Wd v) (n : Nat) (hn : n = v.length) (h2 : 2 ≤ n) (hn2 : n ≤ 17592186044416) (v1 : Nat) (hv1 : v.getD (n - 1) 0 = v1) (hv10 : 0 < v1) (v2 : Nat) (hv2 : v.getD (n - 2) 0 = v2) (key : Key) (z lo : Nat) (U : List Nat) (hU : lo + (n + 1) ≤ U.length) (hw : Wd U) (u0 : Nat) (hu0 : U.getD (lo + (n - 2)) 0 = u0) (F : Nat) (hF : key.1 ≠ F) (o : Sto) (ho : o key = some (z, .row 1 (eW U))) (Q : Ex → St → Prop) : ∀ (k q r : Nat) (nx : Nat), BB ≤ r + k → r < 2 * BB → q < BB →
    (∀ r' nx, Q (.exit 0) { r := (upd (upd (upd (upd (upd (upd (fun _ => .u) 70 (.b false)) 9 (.i .u64 r')) 6 (.i .u64 (gL v1 v2 u0 k q r))) 5 (.i .i64 n)) 1 (.sl 1 g (eW v))) 0 (.w key z 1 lo (n + 1))), own := fun _ => none, out := o, nx := nx }) →
    Loop Go.Proofs.Tryz.prog F [0, 1, 5, 6, 9] [] b177_0 { r := (upd (upd (upd (upd (upd (fun _ => .u) 9 (.i .u64 r)) 6 (.i .u64 q)) 5 (.i .i64 n)) 1 (.sl 1 g (eW v))) 0 (.w key z 1 lo (n + 1))), own := fun _ => none, out := o, nx := nx } Q := by
  have hB : BB = 4294967296 := rfl
  have hbv1 : v1 < 4294967296 := by rw [← hv1]; exact hv.getD _
  have hbv2 : v2 < 4294967296 := by rw [← hv2]; exact hv.getD _
  have hbu0 : u0 < 4294967296 := by rw [← hu0]; exact hw.getD _
  have i1 : IntKind.wrap .i64 (((n : Nat) : Int) - 1) = ((n - 1 : Nat) : Int) := by rw [IntWalk.i64_in _ (by omega)]; omega
  have i2 : IntKind.wrap .i64 (((n : Nat) : Int) - 2) = ((n - 2 : Nat) : Int) := by rw [IntWalk.i64_in _ (by omega)]; omega
  have a1 := eW_at (show n - 1 < v.length by omega)
  have a2 := eW_at (show n - 2 < v.length by omega)
  have a3 := eW_at (show lo + (n - 2) < U.length by omega)
  rw [hv1] at a1
  rw [hv2] at a2
  rw [hu0] at a3
  have hl : n - 2 < n + 1 := by omega
  have stop : ∀ (k q r nx : Nat), BB ≤ r → (∀ r' nx, Q (.exit 0) { r := (upd (upd (upd (upd (upd (upd (fun _ => .u) 70 (.b false)) 9 (.i .u64 r')) 6 (.i .u64 (gL v1 v2 u0 k q r))) 5 (.i .i64 n)) 1 (.sl 1 g (eW v))) 0 (.w key z 1 lo (n + 1))), own := fun _ => none, out := o, nx := nx }) →
      Loop Go.Proofs.Tryz.prog F [0, 1, 5, 6, 9] [] b177_0 { r := (upd (upd (upd (upd (upd (fun _ => .u) 9 (.i .u64 r)) 6 (.i .u64 q)) 5 (.i .i64 n)) 1 (.sl 1 g (eW v))) 0 (.w key z 1 lo (n + 1))), own := fun _ => none, out := o, nx := nx } Q := by
    intro k q r nx hr hQ
    refine Loop.stepW ?_
    have c1 : decide (((r : Nat) : Int) ≤ 4294967295) = false := decide_eq_false (by omega)
    simp only [go_sem, sB, reduceCtorEq, sL, sA, sE, sN, wb177_0, c1]
    have e : gL v1 v2 u0 k q r = q := by unfold gL; rw [if_pos hr]
    rw [e] at hQ
    exact hQ _ _
  intro k
  induction k with
  | zero =>
    intro q r nx hk hr hq hQ
    exact stop 0 q r nx (by omega) hQ
  | succ k ih =>
    intro q r nx hk hr hq hQ
    by_cases hrB : BB ≤ r
    · exact stop (k + 1) q r nx hrB hQ
    refine Loop.stepW ?_
    have c1 : decide (((r : Nat) : Int) ≤ 4294967295) = true := decide_eq_true (by omega)
    have t1 : q * v2 ≤ 4294967295 * 4294967295 := Nat.mul_le_mul (by omega) (by omega)
    have e1 : IntKind.wrap .u64 (((q : Nat) : Int) * ((v2 : Nat) : Int)) = ((q * v2 : Nat) : Int) := by rw [← Int.natCast_mul]; exact w64 _ (by omega)
    have es : evBin .shl (.i .u64 (r : Int)) (.i .u64 32) = some (.i .u64 ((r * 4294967296 : Nat) : Int)) := by
      rw [e_shl _ _ _ _ (by decide)]
      have : ((r : Nat) : Int) * 2 ^ (min (32 : Int).toNat IntKind.u64.bits) = ((r * 4294967296 : Nat) : Int) := by
        have : (2 : Int) ^ (min (32 : Int).toNat IntKind.u64.bits) = 4294967296 := by decide
        rw [this]; omega
      rw [this, w64 _ (by omega)]
    have eo : bits .or .u64 ((r * 4294967296 : Nat) : Int) (u0 : Int) = ((r * 4294967296 + u0 : Nat) : Int) := or_disj64 (k := 32) hbu0 (by omega)
    simp only [go_sem, sB, reduceCtorEq, sL, sA, sE, sN, wb177_0, c1, i2, ixsO_sl _ _ _ _ _ _ a2, w64 v2 (by omega), e1, es, ixsO_w _ _ _ _ _ _ _ hl, look_out hF, ho, a3, w64 u0 (by omega), eo]
    refine condO_d (fun h => ?_) (fun h => ?_)
    · have hgt : r * 4294967296 + u0 < q * v2 := by omega
      have hq0 : 0 < q := by
        rcases Nat.eq_zero_or_pos q with h0 | h0
        · subst h0; simp at hgt
        · exact h0
      have e5 : IntKind.wrap .u64 (((q : Nat) : Int) - 1) = ((q - 1 : Nat) : Int) := by rw [IntWalk.u64_in _ (by omega)]; omega
      have e6 : IntKind.wrap .u64 (((r : Nat) : Int) + ((v1 : Nat) : Int)) = ((r + v1 : Nat) : Int) := by rw [← Int.natCast_add]; exact w64 _ (by omega)
      simp only [go_sem, sB, reduceCtorEq, sL, sA, sE, sN, e5, e6, i1, ixsO_sl _ _ _ _ _ _ a1, w64 v1 (by omega)]
      refine ih (q - 1) (r + v1) _ (by omega) (by omega) (by omega) (fun r' nx => ?_)
      have e : gL v1 v2 u0 (k + 1) q r = gL v1 v2 u0 k (q - 1) (r + v1) := by
        unfold gL
        rw [if_neg hrB]
        simp only [gLoop]
        rw [if_pos (.inr (by rw [hB]; exact hgt))]
      rw [e] at hQ
      exact hQ r' nx
    · have hle : ¬ r * 4294967296 + u0 < q * v2 := by omega
      simp only [go_sem, sB, reduceCtorEq, sL, sA, sE, sN]
      have e : gL v1 v2 u0 (k + 1) q r = q := by
        unfold gL
        rw [if_neg hrB]
        simp only [gLoop]
        rw [if_neg (by rw [hB]; omega)]
      rw [e] at hQ
      rw [decide_eq_false h]
      exact hQ _ _
theorem loop177_3 (v : List Nat) (g : Bool) (hv : Wd v) (q b : Nat) (hq : q < BB) (hb : b ≤ 1) (key : Key) (z lo len : Nat) (hlen : len ≤ 17592186044416) (F : Nat) (hF : key.1 ≠ F) (Q : Ex → St → Prop) (U : List Nat) (hU : lo + len ≤ U.length) (hw : Wd U) (o : Sto) (nx : Nat) (ho : o key = some (z, .row 1 (eW U))) (h1 : b = 1 → 1 ≤ q ∧ (addAt v lo len 0 U 0).2 = 1)
    (hQ : ∀ nx, Q (.exit 4) { r := (upd (upd (upd (upd (upd (fun _ => .u) 112 (.b false)) 11 (.i .u32 0)) 6 (.i .u64 (if b = 1 then q - 1 else q : Nat))) 1 (.sl 1 g (eW v))) 0 (.w key z 1 lo len)), own := fun _ => none, out := updK o key (some (z, .row 1 (eW (if b = 1 then (addAt v lo len 0 U 0).1 else U)))), nx := nx }) :
    Loop Go.Proofs.Tryz.prog F [0, 1, 6, 11] [] b177_3 { r := (upd (upd (upd (upd (fun _ => .u) 11 (.i .u32 b)) 6 (.i .u64 q)) 1 (.sl 1 g (eW v))) 0 (.w key z 1 lo len)), own := fun _ => none, out := o, nx := nx } Q := by
  have hB : BB = 4294967296 := rfl
  refine Loop.stepW ?_
  rcases (show b = 0 ∨ b = 1 by omega) with h0 | h0
  · subst h0
    have c1 : decide ((((0 : Nat) : Int)) > 0) = false := by decide
    simp only [go_sem, sB, reduceCtorEq, sL, sA, sE, sN, wb177_3, c1]
    rw [if_neg (by decide), if_neg (by decide), updK_self ho] at hQ
    exact hQ _
  · subst h0
    obtain ⟨p1, p2⟩ := h1 rfl
    have c1 : decide ((((1 : Nat) : Int)) > 0) = true := by decide
    have e1 : IntKind.wrap .u64 (((q : Nat) : Int) - 1) = ((q - 1 : Nat) : Int) := by rw [IntWalk.u64_in _ (by omega)]; omega
    simp only [go_sem, sB, reduceCtorEq, sL, sA, sE, sN, wb177_3, c1, e1]
    refine loop177_2 v g hv (q - 1) 1 key z lo len hlen F hF _ len 0 U 0 o _ (by omega) hU hw (by omega) ho (fun nx => ?_)
    have e2 : IntKind.wrap .u32 (((1 : Nat) : Int) - ((1 : Nat) : Int)) = 0 := by decide
    simp only [go_sem, sB, reduceCtorEq, sL, sA, sE, sN, p2, e2]
    refine Loop.stepW ?_
    have c2 : decide ((0 : Int) > 0) = false := by decide
    simp only [go_sem, sB, reduceCtorEq, sL, sA, sE, sN, wb177_3, c2]
    rw [if_pos rfl, if_pos rfl] at hQ
    exact hQ _
theorem w177 (v : List Nat) (g : Bool) (hv : Wd v) (hn : 2 ≤ v.length) (hn2 : v.length ≤ 8796093022208) (hnorm : BB ≤ 2 * v.getD (v.length - 1) 0) (key : Key) (z lo : Nat) (U : List Nat) (hw : Wd U) (hU : lo + (v.length + 1) ≤ U.length) (hz : ∀ j, lo + (v.length + 1) ≤ j → U.getD j 0 = 0) (hlt : val U < BB ^ lo * (BB * val v)) :
    FnR Go.Proofs.Tryz.prog 177 [.w key z 1 lo (v.length + 1), .sl 1 g (eW v)] [⟨key, z, .row 1 (eW U), .row 1 (eW (rowP v U lo))⟩] (.i .u32 (digP v U lo : Nat)) := by
  refine fnr177 (by simp) rfl (by simp [Obj.nr, nrLL_eW]) (by simp) fun F out hS => ?_
  have hF : key.1 ≠ F := by have := hS.low _ (List.mem_singleton.2 rfl); simp only at this; omega
  have ho := hS.old _ (List.mem_singleton.2 rfl)
  simp only at ho
  obtain ⟨hok, hg, hSw, hSl, hSb, hS1⟩ := stepP hv hn hnorm hw hU hz hlt
  have hB : BB = 4294967296 := rfl
  have hdig := hok.dig
  -- behind the guess
  have rest : ∀ nx, wp Go.Proofs.Tryz.prog F
      (.seq (.reg [oD 10 (.mv (.k (.i .u64 0))) 0] [] [0, 1, 6, 10] []) (.seq (.reg [oD 11 (.mv (.k (.i .u32 0))) 0] [] [0, 1, 6, 10, 11] [])
        (.seq (.seq (.reg [oD 81 (.mv (.t 0)) 0, oD 82 (.len (.t 81)) 1, oD 83 (.mv (.k (.i .i64 0))) 2] [] [0, 1, 6, 10, 11, 82, 83] []) (.block 2 (.loop [0, 1, 6, 10, 11, 82, 83] [] b177_1)))
          (.seq (.block 4 (.loop [0, 1, 6, 11] [] b177_3)) (.seq (.reg [oD 139 (.mv (.t 6)) 0, oD 140 (.conv .u32 (.t 139)) 1, oD 4 (.mv (.t 140)) 2] [] [4] []) .ret)))))
      { r := (upd (upd (upd (upd (fun _ => .u) 6 (.i .u64 (guessP v U lo : Nat))) 5 (.i .i64 v.length)) 1 (.sl 1 g (eW v))) 0 (.w key z 1 lo (v.length + 1))), own := fun _ => none, out := out, nx := nx }
      (Fin F [⟨key, z, .row 1 (eW U), .row 1 (eW (rowP v U lo))⟩] out rv177 (.i .u32 (digP v U lo : Nat))) := by
    intro nx
    simp only [go_sem, sB, reduceCtorEq, sL, sA, sE, sN]
    refine loop177_1 v g hv (guessP v U lo) hg key z lo (v.length + 1) (by omega) F hF _ (v.length + 1) 0 U 0 0 out _ (by omega) hU hw BB_pos (by omega) ho (fun nx => ?_)
    simp only [go_sem, sB, reduceCtorEq, sL, sA, sE, sN]
    refine loop177_3 v g hv (guessP v U lo) (subP v U lo).b hg hSb key z lo (v.length + 1) (by omega) F hF _ (subP v U lo).u (by rw [hSl]; exact hU) hSw _ _ (updK_eq _ _ _) hS1 (fun nx => ?_)
    have e1 : IntKind.wrap .u32 ((digP v U lo : Nat) : Int) = ((digP v U lo : Nat) : Int) := w32 _ (by omega)
    unfold digP at e1
    simp only [go_sem, sB, reduceCtorEq, sL, sA, sE, sN, e1, rv177, fin_tu, updK_twice]
    unfold rowP digP
    exact ⟨.refl _, rfl⟩
  have i1 : IntKind.wrap .i64 (((v.length : Nat) : Int) - 1) = ((v.length - 1 : Nat) : Int) := by rw [IntWalk.i64_in _ (by omega)]; omega
  have a1 := eW_at (show v.length - 1 < v.length by omega)
  have u1 := eW_at (show lo + v.length < U.length by omega)
  have u2 := eW_at (show lo + (v.length - 1) < U.length by omega)
  have l1 : v.length < v.length + 1 := by omega
  have l2 : v.length - 1 < v.length + 1 := by omega
  have b1 := hv.getD (v.length - 1)
  have bu1 := hw.getD (lo + v.length)
  have bu2 := hw.getD (lo + (v.length - 1))
  unfold ir177
  simp only [go_sem, sB, reduceCtorEq, sL, sA, sE, sN, i1, ixsO_sl _ _ _ _ _ _ a1, ixsO_w _ _ _ _ _ _ _ l1, look_out hF, ho, u1]
  refine condO_d (fun h => ?_) (fun h => ?_)
  · have hlt1 : U.getD (lo + v.length) 0 < v.getD (v.length - 1) 0 := by omega
    simp only [go_sem, sB, reduceCtorEq, sL, sA, sE, sN, i1, ixsO_sl _ _ _ _ _ _ a1, ixsO_w _ _ _ _ _ _ _ l1, ixsO_w _ _ _ _ _ _ _ l2, look_out hF, ho, u1, u2]
    refine callO_intro (w199 (U.getD (lo + v.length) 0) (U.getD (lo + (v.length - 1)) 0) (v.getD (v.length - 1) 0) hlt1 (by omega) (by omega)) ?_
    have hr := Nat.mod_lt (U.getD (lo + v.length) 0 * 4294967296 + U.getD (lo + (v.length - 1)) 0) (show 0 < v.getD (v.length - 1) 0 by omega)
    have hq : (U.getD (lo + v.length) 0 * 4294967296 + U.getD (lo + (v.length - 1)) 0) / v.getD (v.length - 1) 0 < 4294967296 := by
      rw [Nat.div_lt_iff_lt_mul (by omega)]
      have : (U.getD (lo + v.length) 0 + 1) * 4294967296 ≤ v.getD (v.length - 1) 0 * 4294967296 := Nat.mul_le_mul_right _ hlt1
      rw [Nat.mul_comm 4294967296 (v.getD (v.length - 1) 0)]
      omega
    have hgq : gL (v.getD (v.length - 1) 0) (v.getD (v.length - 2) 0) (U.getD (lo + (v.length - 2)) 0) BB ((U.getD (lo + v.length) 0 * 4294967296 + U.getD (lo + (v.length - 1)) 0) / v.getD (v.length - 1) 0) ((U.getD (lo + v.length) 0 * 4294967296 + U.getD (lo + (v.length - 1)) 0) % v.getD (v.length - 1) 0) = guessP v U lo := by
      unfold guessP gL guessW
      rw [if_neg (by omega), if_pos hlt1]
      rfl
    generalize (U.getD (lo + v.length) 0 * 4294967296 + U.getD (lo + (v.length - 1)) 0) / v.getD (v.length - 1) 0 = q at *
    generalize (U.getD (lo + v.length) 0 * 4294967296 + U.getD (lo + (v.length - 1)) 0) % v.getD (v.length - 1) 0 = r at *
    simp only [go_sem, sB, reduceCtorEq, sL, sA, sE, sN, w64 q (by omega), w64 r (by omega)]
    refine loop177_0 v g hv v.length rfl hn (by omega) _ rfl (by omega) _ rfl key z lo U hU hw _ rfl F hF out ho _ BB q r _ (by omega) (by omega) (by rw [hB]; exact hq) (fun r' nx => ?_)
    rw [hgq]
    have := rest nx
    simp only [W_in] at this
    simp only [go_sem, sB, reduceCtorEq, sL, sA, sE, sN]
    simp only [go_sem, sB, reduceCtorEq, sL, sA, sE, sN] at this
    exact this
  · have hge : ¬ U.getD (lo + v.length) 0 < v.getD (v.length - 1) 0 := by omega
    have hgq : (4294967295 : Int) = ((guessP v U lo : Nat) : Int) := by
      unfold guessP
      rw [if_neg hge]
      rfl
    have := rest 4
    rw [hgq]
    simp only [go_sem, sB, reduceCtorEq, sL, sA, sE, sN]
    simp only [go_sem, sB, reduceCtorEq, sL, sA, sE, sN] at this
    exact this
theorem callNO_intro {P : Program} {fr : Nat} {f : FuncId} {args : List D} {s sz : Nat} {st : St} {K : St → Prop} {es : List (List D)} (h : FnN P f args sz es) (ho : st.own s = none) (hk : K (st.newObj fr s (.row sz es) (.w (fr, s) st.nx sz 0 es.length))) : @callNO P fr f args (some s) st ⟨K⟩ := by
  refine ⟨sz, es, h, ?_, hk⟩
  unfold slotOk
  rw [ho]
  trivial
theorem shr_dig {l : List Nat} (hw : Wd l) {s : Nat} (hs : s < 32) {i : Nat} (hi : i ≤ l.length) : (l.getD (i + 1) 0 * 4294967296 + l.getD i 0) / 2 ^ s % 4294967296 = val l / 2 ^ s / BB ^ i % BB := by
  have hB : BB = 4294967296 := rfl
  have hG : 0 < BB ^ i := Nat.pow_pos BB_pos
  have h1 := val_split l hi
  have h2 := val_take_lt hw hi
  have h3 : val l / BB ^ i = val (l.drop i) := by
    rw [h1, Nat.add_mul_div_left _ _ hG, Nat.div_eq_of_lt h2, Nat.zero_add]
  rw [Nat.div_div_eq_div_mul, Nat.mul_comm (2 ^ s), ← Nat.div_div_eq_div_mul, h3, val_drop_all l i, val_drop_all l (i + 1)]
  generalize l.getD i 0 = x0
  generalize l.getD (i + 1) 0 = x1
  generalize val (l.drop (i + 1 + 1)) = r
  have hBs : 2 ^ s * 2 ^ (32 - s) = 4294967296 := by rw [← Nat.pow_add, show s + (32 - s) = 32 by omega]
  have e : x0 + BB * (x1 + BB * r) = (x1 * 4294967296 + x0) + 2 ^ s * (BB * (2 ^ (32 - s) * r)) := by
    rw [Nat.mul_left_comm (2 ^ s), ← Nat.mul_assoc (2 ^ s), hBs, Nat.mul_add, hB]
    omega
  rw [e, Nat.add_mul_div_left _ _ (Nat.two_pow_pos s), Nat.add_mul_mod_self_left, hB]
theorem loop178 (l : List Nat) (f : Bool) (s : Nat) (hs : s < 32) (hw : Wd l) (hl : l.length ≤ 35184372088832) (F : Nat) (out : Sto) (Q : Ex → St → Prop) (z : Nat) : ∀ (m i : Nat) (O : List Nat) (nx : Nat), i + m = l.length → O.length = l.length → Wd O → val (O.take i) = val l / 2 ^ s % BB ^ i →
    (∀ (O' : List Nat) (nx : Nat), O'.length = l.length → Wd O' → val (O'.take l.length) = val l / 2 ^ s % BB ^ l.length →
      Q (.exit 0) { r := (upd (upd (upd (upd (upd (upd (fun _ => .u) 13 (.b false)) 12 (.i .i64 l.length)) 11 (.i .i64 l.length)) 5 (.w (F, 9) z 1 0 l.length)) 1 (.i .i64 s)) 0 (.sl 1 f (eW l))), own := upd (fun _ => none) 9 (some (z, .row 1 (eW O'))), out := out, nx := nx }) →
    Loop Go.Proofs.Tryz.prog F [0, 1, 5, 11, 12] [9] b178_0 { r := (upd (upd (upd (upd (upd (fun _ => .u) 12 (.i .i64 i)) 11 (.i .i64 l.length)) 5 (.w (F, 9) z 1 0 l.length)) 1 (.i .i64 s)) 0 (.sl 1 f (eW l))), own := upd (fun _ => none) 9 (some (z, .row 1 (eW O))), out := out, nx := nx } Q := by
  have hB : BB = 4294967296 := rfl
  intro m
  induction m with
  | zero =>
    intro i O nx hi hO hwO hv hQ
    refine Loop.stepW ?_
    have hi' : i = l.length := by omega
    subst hi'
    have c1 : decide (((l.length : Nat) : Int) < ((l.length : Nat) : Int)) = false := by simp
    simp only [go_sem, sB, reduceCtorEq, sL, sA, sE, sN, wb178_0, c1]
    exact hQ O _ hO hwO hv
  | succ m ih =>
    intro i O nx hi hO hwO hv hQ
    refine Loop.stepW ?_
    have hin : i < l.length := by omega
    have c1 : decide (((i : Nat) : Int) < ((l.length : Nat) : Int)) = true := by simp; omega
    have e2 : IntKind.wrap .i64 (((i : Nat) : Int) + 1) = ((i + 1 : Nat) : Int) := by rw [IntWalk.i64_in _ (by omega)]; omega
    simp only [go_sem, sB, reduceCtorEq, sL, sA, sE, sN, wb178_0, c1, e2]
    refine callO_intro (w192 l f (i + 1) hw) ?_
    have hd := shr_dig hw hs (show i ≤ l.length by omega)
    have hx1 := hw.getD (i + 1)
    have hx0 := hw.getD i
    have hat := eW_at hin
    generalize l.getD (i + 1) 0 = x1 at *
    generalize l.getD i 0 = x0 at *
    have es : evBin .shl (.i .u64 (x1 : Int)) (.i .u64 32) = some (.i .u64 ((x1 * 4294967296 : Nat) : Int)) := by
      rw [e_shl _ _ _ _ (by decide)]
      have : ((x1 : Nat) : Int) * 2 ^ (min (32 : Int).toNat IntKind.u64.bits) = ((x1 * 4294967296 : Nat) : Int) := by
        have : (2 : Int) ^ (min (32 : Int).toNat IntKind.u64.bits) = 4294967296 := by decide
        rw [this]; omega
      rw [this, w64 _ (by omega)]
    have eo : bits .or .u64 ((x1 * 4294967296 : Nat) : Int) (x0 : Int) = ((x1 * 4294967296 + x0 : Nat) : Int) := or_disj64 (k := 32) hx0 (by omega)
    have e4 := shr_c .u64 .i64 (x1 * 4294967296 + x0) s (s : Int) rfl (by show s ≤ 64; omega)
    have e5 := wu32 ((x1 * 4294967296 + x0) / 2 ^ s)
    have hOt := eW_at (show i < O.length by omega)
    simp only [go_sem, sB, reduceCtorEq, sL, sA, sE, sN, e2, w64 x1 (by omega), w64 x0 (by omega), es, eo, e4, e5, ixsO_sl _ _ _ _ _ _ hat, ixsO_w _ _ _ _ _ _ _ hin, hOt]
    refine ih (i + 1) (O.set i ((x1 * 4294967296 + x0) / 2 ^ s % 4294967296)) _ (by omega) (by simpa using hO) (hwO.set (by rw [hB]; exact Nat.mod_lt _ (by decide))) ?_ hQ
    rw [val_set_take (by omega), hd, hv, Nat.mod_pow_succ]
theorem w178 (l : List Nat) (f : Bool) (s : Nat) (hs : s < 32) (hw : Wd l) (hl : l.length ≤ 17592186044416) : FnR Go.Proofs.Tryz.prog 178 [.sl 1 f (eW l), .i .i64 s] [] (nW (val l / 2 ^ s)) := by
  refine fnr178 (by simp) (nr_eW _ _) (by simp) List.nodup_nil fun F out hS => ?_
  unfold ir178
  simp only [go_sem, sB, reduceCtorEq, sL, sA, sE, sN]
  refine mkO_intro (Nat.le_refl _) (by omega) (by omega) ?_
  simp only [go_sem, sB, reduceCtorEq, sL, sA, sE, sN]
  refine loop178 l f s hs hw (by omega) F out _ _ l.length 0 (List.replicate l.length 0) _ (by omega) (by simp) (Wd_rep _) (by simp [val, Nat.mod_one]) (fun O' nx h1 h2 h3 => ?_)
  have hle : 0 + l.length ≤ (eW O').length := by rw [eW_length]; omega
  simp only [go_sem, sB, reduceCtorEq, sL, sA, sE, sN, frzR_s _ _ _ _ _ _ _ _ hle]
  have htk : O'.take l.length = O' := List.take_of_length_le (by omega)
  have hlt : val l / 2 ^ s < BB ^ l.length := Nat.lt_of_le_of_lt (Nat.div_le_self _ _) (val_lt hw)
  rw [htk, Nat.mod_eq_of_lt hlt] at h3
  have hc := n174 O' false h2 (by omega)
  rw [h3] at hc
  rw [htk]
  refine callO_intro hc ?_
  simp only [go_sem, sB, reduceCtorEq, sL, sA, sE, sN, rv178, fin_t]
  exact .refl _
theorem loop173 (l : List Nat) (f : Bool) (d : Nat) (hd : 0 < d) (hd2 : d < 4294967296) (hw : Wd l) (hl : l.length ≤ 140737488355328) (F : Nat) (out : Sto) (Q : Ex → St → Prop) (z : Nat) : ∀ (n i : Nat) (nx : Nat), i + n = l.length →
    (∀ nx, Q (.exit 0) { r := (upd (upd (upd (upd (upd (upd (upd (fun _ => .u) 16 (.b false)) 15 (.i .i64 l.length)) 14 (.i .i64 l.length)) 7 (.i .u32 (shq d l).2)) 6 (.w (F, 12) z 1 0 l.length)) 1 (.i .u32 d)) 0 (.sl 1 f (eW l))), own := upd (fun _ => none) 12 (some (z, .row 1 (eW (shq d l).1))), out := out, nx := nx }) →
    Loop Go.Proofs.Tryz.prog F [0, 1, 6, 7, 14, 15] [12] b173_0 { r := (upd (upd (upd (upd (upd (upd (fun _ => .u) 15 (.i .i64 i)) 14 (.i .i64 l.length)) 7 (.i .u32 (shq d (l.drop n)).2)) 6 (.w (F, 12) z 1 0 l.length)) 1 (.i .u32 d)) 0 (.sl 1 f (eW l))), own := upd (fun _ => none) 12 (some (z, .row 1 (eW (List.replicate n 0 ++ (shq d (l.drop n)).1)))), out := out, nx := nx } Q := by
  intro n
  induction n with
  | zero =>
    intro i nx hn hQ
    refine Loop.stepW ?_
    have hi' : i = l.length := by omega
    subst hi'
    have c1 : decide (((l.length : Nat) : Int) < ((l.length : Nat) : Int)) = false := by simp
    simp only [go_sem, sB, reduceCtorEq, sL, sA, sE, sN, wb173_0, c1]
    exact hQ _
  | succ n ih =>
    intro i nx hn hQ
    refine Loop.stepW ?_
    have c1 : decide (((i : Nat) : Int) < ((l.length : Nat) : Int)) = true := by simp; omega
    have e1 : IntKind.wrap .i64 (((l.length : Nat) : Int) - 1) = ((l.length - 1 : Nat) : Int) := by rw [IntWalk.i64_in _ (by omega)]; omega
    have e2 : IntKind.wrap .i64 (((l.length - 1 : Nat) : Int) - ((i : Nat) : Int)) = ((n : Nat) : Int) := by rw [IntWalk.i64_in _ (by omega)]; omega
    have e5 : IntKind.wrap .i64 (((i : Nat) : Int) + 1) = ((i + 1 : Nat) : Int) := by rw [IntWalk.i64_in _ (by omega)]; omega
    have hlt : n < l.length := by omega
    have hr := shq_lt hd (l.drop (n + 1))
    have hwn : l.getD n 0 < 4294967296 := hw.getD n
    have hsplit : l.drop n = l.getD n 0 :: l.drop (n + 1) := by
      rw [List.drop_eq_getElem_cons hlt]
      simp [List.getD_eq_getElem?_getD, List.getElem?_eq_getElem hlt]
    have hlen := shq_len d (l.drop (n + 1))
    generalize hR : shq d (l.drop (n + 1)) = R at hr hlen
    obtain ⟨q, r⟩ := R
    simp only [List.length_drop] at hlen hr
    have hat : (eW (List.replicate (n + 1) 0 ++ q))[n]? = some [.i .u32 ((List.replicate (n + 1) 0 ++ q).getD n 0)] := eW_at (by simp; omega)
    simp only [go_sem, sB, reduceCtorEq, sL, sA, sE, sN, wb173_0, c1, e1, e2, ixsO_sl _ _ _ _ _ _ (eW_at hlt)]
    refine callO_intro (w199 r (l.getD n 0) d hr hwn hd2) ?_
    simp only [go_sem, sB, reduceCtorEq, sL, sA, sE, sN, ixsO_w _ _ _ _ _ _ _ hlt, hat, set_rep, e5]
    have h := fun nx => ih (i + 1) nx (by omega) hQ
    simp only [hsplit, shq, hR, BB] at h
    exact h _
theorem w173 (l : List Nat) (f : Bool) (d : Nat) (hd : 0 < d) (hd2 : d < 4294967296) (hw : Wd l) (hl : l.length ≤ 35184372088832) : FnR Go.Proofs.Tryz.prog 173 [.sl 1 f (eW l), .i .u32 d] [] (.t [nW (val l / d), .i .u32 (val l % d : Nat)]) := by
  refine fnr173 (by simp) (by simp [D.nr, nrL, nW, eN, nrLL_eW]) (by simp) List.nodup_nil fun F out hS => ?_
  unfold ir173
  simp only [go_sem, sB, reduceCtorEq, sL, sA, sE, sN]
  refine mkO_intro (Nat.le_refl _) (by omega) (by omega) ?_
  simp only [go_sem, sB, reduceCtorEq, sL, sA, sE, sN]
  have hlp := loop173 l f d hd hd2 hw (by omega) F out
  have hdrop : l.drop l.length = [] := by simp
  have hb := fun Q z nx => hlp Q z l.length 0 nx (by omega)
  simp only [hdrop, shq, List.append_nil] at hb
  refine hb _ _ _ fun nx => ?_
  have hv := shq_val hd l
  have hlt := shq_lt hd l
  have hdiv : val l / d = val (shq d l).1 := by
    rw [hv, Nat.mul_add_div hd, Nat.div_eq_of_lt hlt, Nat.add_zero]
  have hmod : val l % d = (shq d l).2 := by
    rw [hv, Nat.mul_add_mod, Nat.mod_eq_of_lt hlt]
  have hlen := shq_len d l
  have hle : 0 + l.length ≤ (eW (shq d l).1).length := by rw [eW_length, hlen]; omega
  simp only [go_sem, sB, reduceCtorEq, sL, sA, sE, sN, frzR_s _ _ _ _ _ _ _ _ hle]
  have htk : (shq d l).1.take l.length = (shq d l).1 := List.take_of_length_le (by omega)
  have hc := n174 (shq d l).1 false (shq_wd hd hw) (by omega)
  rw [htk]
  refine callO_intro hc ?_
  simp only [go_sem, sB, reduceCtorEq, sL, sA, sE, sN, rv173, fin_t2, hdiv, hmod]
  exact .refl _
theorem w176 (l : List Nat) (f : Bool) (s : Nat) (hs : s < 32) (hw : Wd l) (hl : l.length ≤ 17592186044416) : FnR Go.Proofs.Tryz.prog 176 [.sl 1 f (eW l), .i .i64 s] [] (eN (pad (l.length + 1) (val l * 2 ^ s))) := by
  refine fnr176f (by simp) (nr_eW _ _) (by simp) List.nodup_nil fun F out hS => ?_
  unfold ir176f
  have e1 : IntKind.wrap .i64 (((l.length : Nat) : Int) + 1) = ((l.length + 1 : Nat) : Int) := by rw [IntWalk.i64_in _ (by omega)]; omega
  simp only [go_sem, sB, reduceCtorEq, sL, sA, sE, sN, e1]
  refine mkO_intro (Nat.le_refl _) (by omega) (by omega) ?_
  simp only [go_sem, sB, reduceCtorEq, sL, sA, sE, sN]
  refine loop176 l f s hs hw (by omega) F out _ _ l.length 0 (List.replicate (l.length + 1) 0) _ (by omega) (by simp) (Wd_rep _) (fun j _ => getD_rep _ _) (by rw [getD_rep]; exact Nat.two_pow_pos s) (by simp [val]) (fun O' nx h1 h2 h3 => ?_)
  have hle : 0 + (l.length + 1) ≤ (eW O').length := by rw [eW_length]; omega
  simp only [go_sem, sB, reduceCtorEq, sL, sA, sE, sN, frzR_s _ _ _ _ _ _ _ _ hle]
  have htk : O'.take (l.length + 1) = O' := List.take_of_length_le (by omega)
  simp only [go_sem, sB, reduceCtorEq, sL, sA, sE, sN, rv176, fin_t]
  rw [htk, List.take_of_length_le (Nat.le_refl _)] at h3
  have : pad (l.length + 1) (val l * 2 ^ s) = O' := by rw [← h3, ← h1]; exact pad_val h2
  rw [this, htk]
  exact .refl _
theorem shl_facts {b : List Nat} (hw : Wd b) {k : Nat} (hk : b.length = k + 1) (hb : 0 < b.getD k 0) :
    32 - blen (b.getD k 0) < 32 ∧ val b * 2 ^ (32 - blen (b.getD k 0)) < BB ^ (k + 1) ∧ (toW (val b * 2 ^ (32 - blen (b.getD k 0)))).length = k + 1 ∧ BB ≤ 2 * (toW (val b * 2 ^ (32 - blen (b.getD k 0)))).getD k 0 := by
  obtain ⟨t1, t2⟩ := top_bounds hw hk
  have hbt := hw.getD k
  generalize b.getD k 0 = x at *
  have hB : BB = 4294967296 := rfl
  obtain ⟨g1, g2, g3⟩ := blen_spec (show x ≠ 0 by omega)
  have g4 := blen_le32 (x := x) (by omega)
  have u0 : (x + 1) * 2 ^ (32 - blen x) ≤ BB := by
    have h1 : (x + 1) * 2 ^ (32 - blen x) ≤ 2 ^ blen x * 2 ^ (32 - blen x) := Nat.mul_le_mul_right _ g3
    rw [← Nat.pow_add, show blen x + (32 - blen x) = 32 by omega] at h1
    exact h1
  have l0 : 2147483648 ≤ x * 2 ^ (32 - blen x) := by
    have h1 : 2 ^ (blen x - 1) * 2 ^ (32 - blen x) ≤ x * 2 ^ (32 - blen x) := Nat.mul_le_mul_right _ g2
    rw [← Nat.pow_add, show blen x - 1 + (32 - blen x) = 31 by omega] at h1
    exact h1
  have hd0 := Nat.two_pow_pos (32 - blen x)
  generalize 2 ^ (32 - blen x) = d at *
  generalize hV : val b = V at *
  have hG : 0 < BB ^ k := Nat.pow_pos BB_pos
  have u1 : V * d < BB ^ (k + 1) := by
    have h1 : V * d < BB ^ k * (x + 1) * d := Nat.mul_lt_mul_of_pos_right t2 hd0
    have h2 : BB ^ k * ((x + 1) * d) ≤ BB ^ k * BB := Nat.mul_le_mul_left _ u0
    rw [Nat.mul_assoc] at h1
    rw [Nat.pow_succ]
    omega
  have l1 : BB ^ k * (x * d) ≤ V * d := by rw [← Nat.mul_assoc]; exact Nat.mul_le_mul_right _ t1
  have l2 : BB ^ k * 1 ≤ BB ^ k * (x * d) := Nat.mul_le_mul_left _ (by omega)
  have hlen := toW_len (x := V * d) (k := k) (by omega) u1
  refine ⟨by omega, u1, hlen, ?_⟩
  obtain ⟨b1, b2⟩ := top_bounds (Wd_toW (V * d)) hlen
  rw [val_toW] at b1 b2
  have h3 : BB ^ k * (x * d) < BB ^ k * ((toW (V * d)).getD k 0 + 1) := by omega
  have h4 := Nat.lt_of_mul_lt_mul_left h3
  omega
theorem loop156 (v : List Nat) (g : Bool) (hv : Wd v) (hn : 2 ≤ v.length) (hnorm : BB ≤ 2 * v.getD (v.length - 1) 0) (d0 : D) (lq : Nat) (hlq : lq + v.length ≤ 8796093022208) (F : Nat) (out : Sto) (Q : Ex → St → Prop) (z z' : Nat) : ∀ (m i : Nat) (U qs : List Nat) (nx : Nat), i + m = lq → m + qs.length = lq → U.length = lq + v.length → Wd U → Wd qs → (∀ j, m + v.length ≤ j → U.getD j 0 = 0) → val U < BB ^ m * val v →
    (∀ (U' qs' : List Nat) (nx : Nat), qs'.length = lq → U'.length = lq + v.length → Wd U' → Wd qs' → val U' < val v → val U' + val qs' * val v = val U + BB ^ m * val qs * val v →
      Q (.exit 0) { r := (upd (upd (upd (upd (upd (upd (upd (fun _ => .u) 57 (.b false)) 56 (.i .i64 lq)) 55 (.i .i64 lq)) 11 (.w (F, 53) z' 1 0 lq)) 10 (.sl 1 g (eW v))) 9 (.w (F, 43) z 1 0 (lq + v.length))) 8 (d0)), own := upd (upd (fun _ => none) 53 (some (z', .row 1 (eW qs')))) 43 (some (z, .row 1 (eW U'))), out := out, nx := nx }) →
    Loop Go.Proofs.Tryz.prog F [8, 9, 10, 11, 55, 56] [43, 53] b156_0 { r := (upd (upd (upd (upd (upd (upd (fun _ => .u) 56 (.i .i64 i)) 55 (.i .i64 lq)) 11 (.w (F, 53) z' 1 0 lq)) 10 (.sl 1 g (eW v))) 9 (.w (F, 43) z 1 0 (lq + v.length))) 8 (d0)), own := upd (upd (fun _ => none) 53 (some (z', .row 1 (eW (List.replicate m 0 ++ qs))))) 43 (some (z, .row 1 (eW U))), out := out, nx := nx } Q := by
  intro m
  induction m with
  | zero =>
    intro i U qs nx him hm hU hw hwq hz hlt hQ
    refine Loop.stepW ?_
    have hi' : i = lq := by omega
    subst hi'
    have c1 : decide (((i : Nat) : Int) < ((i : Nat) : Int)) = false := by simp
    simp only [go_sem, sB, reduceCtorEq, sL, sA, sE, sN, wb156_0, c1, List.replicate_zero]
    exact hQ U qs _ (by omega) hU hw hwq (by simpa using hlt) (by simp)
  | succ m ih =>
    intro i U qs nx him hm hU hw hwq hz hlt hQ
    refine Loop.stepW ?_
    have c1 : decide (((i : Nat) : Int) < ((lq : Nat) : Int)) = true := by simp; omega
    have f1 : IntKind.wrap .i64 (((lq : Nat) : Int) - 1) = ((lq - 1 : Nat) : Int) := by rw [IntWalk.i64_in _ (by omega)]; omega
    have f2 : IntKind.wrap .i64 (((lq - 1 : Nat) : Int) - ((i : Nat) : Int)) = ((m : Nat) : Int) := by rw [IntWalk.i64_in _ (by omega)]; omega
    have f3 : IntKind.wrap .i64 (((i : Nat) : Int) + 1) = ((i + 1 : Nat) : Int) := by rw [IntWalk.i64_in _ (by omega)]; omega
    have e1 : IntKind.wrap .i64 (((m : Nat) : Int) + ((v.length : Nat) : Int)) = ((m + v.length : Nat) : Int) := by rw [IntWalk.i64_in _ (by omega)]; omega
    have e2 : IntKind.wrap .i64 (((m + v.length : Nat) : Int) + 1) = ((m + v.length + 1 : Nat) : Int) := by rw [IntWalk.i64_in _ (by omega)]; omega
    have e3 : m + v.length + 1 - m = v.length + 1 := by omega
    have hs := slcO_w (sz := 1) (key := (F, 43)) (z := z) (lo := 0) (len := lq + v.length) (k := .i64) (k' := .i64) (a := m) (b := m + v.length + 1) (by omega) (by omega) (.inr (by omega))
    have hlt' : val U < BB ^ m * (BB * val v) := by rw [Nat.pow_succ] at hlt; rw [← Nat.mul_assoc]; exact hlt
    obtain ⟨hok, hg, hSw, hSl, hSb, hS1⟩ := stepP (lo := m) hv hn hnorm hw (by omega) (fun j hj => hz j (by omega)) hlt'
    have hmq : m < lq := by omega
    have hat := eW_at (show m < (List.replicate (m + 1) 0 ++ qs).length by simp; omega)
    simp only [go_sem, sB, reduceCtorEq, sL, sA, sE, sN, wb156_0, c1, f1, f2, e1, e2, hs, e3]
    refine callRO_one (w177 v g hv hn (by omega) hnorm (F, 43) z m U hw (by omega) (fun j hj => hz j (by omega)) hlt') (by simp only [go_sem, sB, reduceCtorEq, sL, sA, sE, sN]) (by simp) ?_
    simp only [go_sem, sB, reduceCtorEq, sL, sA, sE, sN, ixsO_w _ _ _ _ _ _ _ hmq, hat, set_rep, f3]
    refine ih (i + 1) (rowP v U m) (digP v U m :: qs) _ (by omega) (by simp; omega) (by rw [hok.len]; exact hU) hok.wd (.cons hok.dig hwq) (fun j hj => ?_) hok.lt (fun U2 qs2 nx h1 h2 h3 h4 h5 h6 => hQ U2 qs2 nx h1 h2 h3 h4 h5 ?_)
    · have hvl := val_lt hv
      have h1 : BB ^ m * val v < BB ^ (m + v.length) := by
        rw [Nat.pow_add]
        exact Nat.mul_lt_mul_of_pos_left hvl (Nat.pow_pos BB_pos)
      exact getD_zero_of_lt (Nat.lt_trans hok.lt h1) hj
    · rw [h6, ← hok.eq, Nat.pow_succ, val, Nat.mul_add, Nat.add_mul, Nat.mul_assoc (BB ^ m) (digP v U m), ← Nat.mul_assoc (BB ^ m) BB]
      omega
theorem w156 (a b : List Nat) (f g : Bool) (ha : Wd a) (hb : Wd b) (ca : Canon a) (cb : Canon b) (hb0 : b ≠ []) (hl : a.length + b.length ≤ 4398046511104) : FnR Go.Proofs.Tryz.prog 156 [.sl 1 f (eW a), .sl 1 g (eW b)] [] (.t [nW (val a / val b), nW (val a % val b)]) := by
  refine fnr156 (by simp) (by simp [D.nr, nrL, nW, eN, nrLL_eW]) (by simp) List.nodup_nil fun F out hS => ?_
  unfold ir156
  simp only [go_sem, sB, reduceCtorEq, sL, sA, sE, sN]
  refine callO_intro (w155 a b f g ha hb ca cb (by omega) (by omega)) ?_
  simp only [go_sem, sB, reduceCtorEq, sL, sA, sE, sN]
  refine condO_d (fun h => ?_) (fun h => ?_)
  · have hlt : val a < val b := by
      unfold cmpN at h
      split at h
      · assumption
      · split at h <;> omega
    have e1 : toW (val a / val b) = [] := by rw [Nat.div_eq_of_lt hlt, toW_zero]
    have e2 : toW (val a % val b) = a := by rw [Nat.mod_eq_of_lt hlt, toW_val ha ca]
    simp only [go_sem, sB, reduceCtorEq, sL, sA, sE, sN, rv156, fin_t2, nW, eN, e1, e2]
    exact .t (.cons (.slf _ _ _) (.cons (.slf _ _ _) .nil))
  have hge : ¬ val a < val b := by
    intro hlt
    apply h
    unfold cmpN
    rw [if_pos hlt]
    decide
  by_cases hb1 : b.length = 1
  · obtain ⟨x, rfl⟩ : ∃ x, b = [x] := by
      cases b with
      | nil => exact absurd rfl hb0
      | cons x b => cases b with
        | nil => exact ⟨x, rfl⟩
        | cons _ _ => simp at hb1
    have c1 : ((((1 : Nat)) : Int) == 1) = true := by decide
    have hx0 : 0 < x := Nat.pos_of_ne_zero cb
    have hx1 : x < 4294967296 := hb.head
    have hvx : val [x] = x := by simp [val]
    rw [hvx] at *
    have hat : (eW [x])[0]? = some [.i .u32 (x : Int)] := rfl
    simp only [go_sem, sB, reduceCtorEq, sL, sA, sE, sN, c1, ixsO_sl0 _ _ _ _ hat]
    refine callO_intro (w173 a f x hx0 hx1 ha (by omega)) ?_
    have hm := Nat.mod_lt (val a) hx0
    have hc := n174 [val a % x] true (.cons (show val a % x < 4294967296 by omega) .nil) (by simp)
    have hv1 : val [val a % x] = val a % x := by simp [val]
    rw [hv1] at hc
    simp only [go_sem, sB, reduceCtorEq, sL, sA, sE, sN]
    refine callO_intro hc ?_
    simp only [go_sem, sB, reduceCtorEq, sL, sA, sE, sN, rv156, fin_t2]
    exact .refl _
  have hc2 : (((b.length : Nat) : Int) == 1) = false := by rw [beq_eq_false_iff_ne]; omega
  have hlen0 : 0 < b.length := List.length_pos_iff.2 hb0
  obtain ⟨k, hk⟩ : ∃ k, b.length = k + 1 := ⟨b.length - 1, by omega⟩
  have htop := Canon.top cb hb0
  have hlen1 : b.length - 1 = k := by omega
  rw [hlen1] at htop
  obtain ⟨n1, n2, n3, n4⟩ := shl_facts hb hk htop
  have e1 : IntKind.wrap .i64 (((b.length : Nat) : Int) - 1) = ((k : Nat) : Int) := by rw [IntWalk.i64_in _ (by omega)]; omega
  have hat := eW_at (show k < b.length by omega)
  have hxb := hb.getD k
  have hB : BB = 4294967296 := rfl
  generalize hx : b.getD k 0 = x at *
  simp only [go_sem, sB, reduceCtorEq, sL, sA, sE, sN, hc2, e1, ixsO_sl _ _ _ _ _ _ hat]
  refine callO_intro (w175 x (by omega)) ?_
  generalize 32 - blen x = s at *
  have hs0 := Nat.two_pow_pos s
  simp only [go_sem, sB, reduceCtorEq, sL, sA, sE, sN]
  refine callNO_intro (n176 a f s n1 ha (by omega)) (by simp only [go_sem, sB, reduceCtorEq, sL, sA, sE, sN]) ?_
  simp only [go_sem, sB, reduceCtorEq, sL, sA, sE, sN]
  refine callO_intro (w176 b g s n1 hb (by omega)) ?_
  have hc := n174 (pad (b.length + 1) (val b * 2 ^ s)) false (pad_wd _ _) (by rw [pad_len]; omega)
  have hvb : val (pad (b.length + 1) (val b * 2 ^ s)) = val b * 2 ^ s := val_pad (Nat.lt_trans n2 (Nat.pow_lt_pow_right (by decide) (by omega)))
  rw [hvb] at hc
  simp only [go_sem, sB, reduceCtorEq, sL, sA, sE, sN, eN]
  refine callO_intro hc ?_
  have hva : val (pad (a.length + 1) (val a * 2 ^ s)) = val a * 2 ^ s := val_pad (by
    rw [Nat.pow_succ]
    refine Nat.lt_of_lt_of_le (Nat.mul_lt_mul_of_pos_right (val_lt ha) hs0) (Nat.mul_le_mul_left _ ?_)
    have : 2 ^ s ≤ 2 ^ 32 := Nat.pow_le_pow_right (by decide) (by omega)
    exact this)
  have hU0l := pad_len (a.length + 1) (val a * 2 ^ s)
  have hU0w := pad_wd (a.length + 1) (val a * 2 ^ s)
  generalize pad (a.length + 1) (val a * 2 ^ s) = U0 at *
  have hvl : (toW (val b * 2 ^ s)).length = b.length := by rw [n3, hk]
  have hab : b.length ≤ a.length := by
    apply Classical.byContradiction
    intro hn
    exact hge (len_lt ha cb (by omega))
  have e4 : IntKind.wrap .i64 (((a.length + 1 : Nat) : Int) - ((b.length : Nat) : Int)) = ((a.length + 1 - b.length : Nat) : Int) := by rw [IntWalk.i64_in _ (by omega)]; omega
  simp only [go_sem, sB, reduceCtorEq, sL, sA, sE, sN, nW, eN, hvl, hU0l, e4]
  refine mkO_intro (Nat.le_refl _) (by omega) (by omega) ?_
  have hlp := loop156 (toW (val b * 2 ^ s)) false (Wd_toW _) (by omega) (by rw [hvl, hlen1]; exact n4) (.i .i64 (s : Nat)) (a.length + 1 - b.length) (by omega) F out
  have hq0 := fun Q z z' nx => hlp Q z z' (a.length + 1 - b.length) 0 U0 [] nx (by omega) (by simp) (by omega) hU0w .nil
  have hs1 : a.length + 1 - b.length + b.length = a.length + 1 := by omega
  simp only [List.append_nil, hvl, hs1] at hq0
  simp only [go_sem, sB, reduceCtorEq, sL, sA, sE, sN, nW, eN, hvl, hU0l, e4]
  refine hq0 _ _ _ _ (fun j hj => ?_) ?_ (fun U' qs' nx h1 h2 h3 h4 h5 h6 => ?_)
  · rw [List.getD_eq_getElem?_getD, List.getElem?_eq_none (by omega)]; rfl
  · rw [val_toW, hva, ← Nat.mul_assoc]
    refine Nat.mul_lt_mul_of_pos_right ?_ hs0
    have g1 := val_lt ha
    have g2 := cb.ge hb0
    have g3 : BB ^ (a.length + 1 - b.length) * BB ^ (b.length - 1) ≤ BB ^ (a.length + 1 - b.length) * val b := Nat.mul_le_mul_left _ g2
    rw [← Nat.pow_add] at g3
    have g4 : a.length + 1 - b.length + (b.length - 1) = a.length := by omega
    rw [g4] at g3
    omega
  · rw [val_toW] at h5 h6
    simp only [val, Nat.mul_zero, Nat.zero_mul, Nat.add_zero, hva] at h6
    have hle1 : 0 + (a.length + 1) ≤ (eW U').length := by rw [eW_length]; omega
    have hle2 : 0 + (a.length + 1 - b.length) ≤ (eW qs').length := by rw [eW_length]; omega
    have ht1 : U'.take (a.length + 1) = U' := List.take_of_length_le (by omega)
    have ht2 : qs'.take (a.length + 1 - b.length) = qs' := List.take_of_length_le (by omega)
    have hQle : val qs' * val b ≤ val a := by
      have : val qs' * val b * 2 ^ s ≤ val a * 2 ^ s := by rw [Nat.mul_assoc]; omega
      exact Nat.le_of_mul_le_mul_right this hs0
    have hUv : val U' = (val a - val qs' * val b) * 2 ^ s := by
      rw [Nat.sub_mul, Nat.mul_assoc]
      omega
    have hRlt : val a - val qs' * val b < val b := by
      rw [hUv] at h5
      exact Nat.lt_of_mul_lt_mul_right h5
    have hdm := Nat.div_add_mod (val a) (val b)
    have hbp : 0 < val b := by omega
    have hqv : val a / val b = val qs' := by
      have e : val a = val b * val qs' + (val a - val qs' * val b) := by rw [Nat.mul_comm (val b)]; omega
      rw [e, Nat.mul_add_div hbp, Nat.div_eq_of_lt hRlt, Nat.add_zero]
    have hrv : val a % val b = val U' / 2 ^ s := by
      rw [hUv, Nat.mul_div_cancel _ hs0]
      rw [hqv, Nat.mul_comm (val b)] at hdm
      omega
    have hUl := toW_le (val_lt h3)
    simp only [go_sem, sB, reduceCtorEq, sL, sA, sE, sN, frzR_s _ _ _ _ _ _ _ _ hle1, frzR_s _ _ _ _ _ _ _ _ hle2, ht1, ht2]
    refine callO_intro (n174 qs' false h4 (by omega)) ?_
    simp only [go_sem, sB, reduceCtorEq, sL, sA, sE, sN]
    refine callO_intro (n174 U' false h3 (by omega)) ?_
    have hcs := w178 (toW (val U')) false s n1 (Wd_toW _) (by omega)
    rw [val_toW] at hcs
    simp only [go_sem, sB, reduceCtorEq, sL, sA, sE, sN, nW, eN]
    refine callO_intro hcs ?_
    simp only [go_sem, sB, reduceCtorEq, sL, sA, sE, sN, rv156, fin_t2, hqv, hrv, nW, eN]
    exact .refl _
theorem toW_inj0 {b : Nat} (h : toW b = []) : b = 0 := by rw [← val_toW b, h]; rfl
theorem n156 (a b : Nat) (hb0 : b ≠ 0) (hl : L a + L b ≤ 4398046511104) : FnR Go.Proofs.Tryz.prog 156 [nW a, nW b] [] (.t [nW (a / b), nW (a % b)]) := by
  have := w156 (toW a) (toW b) false false (Wd_toW _) (Wd_toW _) (Canon_toW _) (Canon_toW _) (fun h => hb0 (by have := toW_inj0 h; exact this)) hl
  rw [val_toW, val_toW] at this
  exact this
theorem n155 (a b : Nat) (ha : L a ≤ 35184372088832) (hb : L b ≤ 35184372088832) : FnR Go.Proofs.Tryz.prog 155 [nW a, nW b] [] (.i .i64 (cmpN a b)) := by
  have := w155 (toW a) (toW b) false false (Wd_toW _) (Wd_toW _) (Canon_toW _) (Canon_toW _) ha hb
  rw [val_toW, val_toW] at this
  exact this
theorem n157 (n : Nat) (v : Bool) (hl : L n ≤ 17592186044416) : FnR Go.Proofs.Tryz.prog 157 [nW n, .b v] [] (.a [.b (v && decide (n ≠ 0)), nW n]) := by
  have := z157 (toW n) false v (Wd_toW _) hl
  rw [val_toW] at this
  exact this
theorem loop126 (B : Nat) (hB : B ≤ 2199023255552) (F : Nat) (out : Sto) (Q : Ex → St → Prop) (z : Nat) (ob : Obj) : ∀ (M a b : Nat) (nx : Nat), b ≤ M → L a ≤ B → L b ≤ B →
    (∀ nx, Q (.exit 0) { r := (upd (upd (upd (upd (fun _ => .u) 15 (.b false)) 6 (nW 0)) 5 (nW (Nat.gcd a b))) 4 (.p (F, 4) z 0)), own := upd (fun _ => none) 4 (some (z, ob)), out := out, nx := nx }) →
    Loop Go.Proofs.Tryz.prog F [4, 5, 6] [4] b126_0 { r := (upd (upd (upd (fun _ => .u) 6 (nW b)) 5 (nW a)) 4 (.p (F, 4) z 0)), own := upd (fun _ => none) 4 (some (z, ob)), out := out, nx := nx } Q := by
  intro M
  induction M with
  | zero =>
    intro a b nx hb hla hlb hQ
    refine Loop.stepW ?_
    have h0 : b = 0 := by omega
    subst h0
    rw [Nat.gcd_zero_right] at hQ
    have c1 : decide (((toW 0).length : Int) > 0) = false := by rw [toW_zero]; decide
    simp only [go_sem, sB, reduceCtorEq, sL, sA, sE, sN, wb126_0, nW, eN, c1]
    exact hQ _
  | succ M ih =>
    intro a b nx hb hla hlb hQ
    refine Loop.stepW ?_
    by_cases h0 : b = 0
    · subst h0
      rw [Nat.gcd_zero_right] at hQ
      have c1 : decide (((toW 0).length : Int) > 0) = false := by rw [toW_zero]; decide
      simp only [go_sem, sB, reduceCtorEq, sL, sA, sE, sN, wb126_0, nW, eN, c1]
      exact hQ _
    · have hp := L_pos h0
      have c1 : decide (((toW b).length : Int) > 0) = true := by unfold L at hp; exact decide_eq_true (by omega)
      have hm := Nat.mod_lt a (Nat.pos_of_ne_zero h0)
      have hlm : L (a % b) ≤ L b := L_mono (Nat.le_of_lt hm)
      have hc := n156 a b h0 (by omega)
      unfold nW eN at hc
      simp only [go_sem, sB, reduceCtorEq, sL, sA, sE, sN, wb126_0, nW, eN, c1]
      refine callO_intro hc ?_
      simp only [go_sem, sB, reduceCtorEq, sL, sA, sE, sN]
      refine ih b (a % b) _ (by omega) hlb (by omega) (fun nx => ?_)
      have e : Nat.gcd b (a % b) = Nat.gcd a b := by rw [Nat.gcd_comm b, ← Nat.gcd_rec, Nat.gcd_comm]
      rw [e]
      exact hQ nx
theorem z126 (a b : Int) (hla : LZ a ≤ 2199023255552) (hlb : LZ b ≤ 2199023255552) : FnR Go.Proofs.Tryz.prog 126 [zW a, zW b] [] (zW ((Nat.gcd a.natAbs b.natAbs : Nat) : Int)) := by
  refine fnr126 (by simp) (nr_zW _) (by simp) List.nodup_nil fun F out hS => ?_
  unfold LZ at hla hlb
  have hLg : L (Nat.gcd a.natAbs b.natAbs) ≤ 2199023255552 := by
    by_cases h : b.natAbs = 0
    · rw [h, Nat.gcd_zero_right]; exact hla
    · exact Nat.le_trans (L_mono (Nat.gcd_le_right _ (Nat.pos_of_ne_zero h))) hlb
  have hc := n157 (Nat.gcd a.natAbs b.natAbs) false (by omega)
  rw [zW_nat]
  unfold ir126 zW nW eN
  simp only [go_sem, sB, reduceCtorEq, sL, sA, sE, sN]
  refine loop126 2199023255552 (by omega) F out _ _ _ b.natAbs a.natAbs b.natAbs _ (Nat.le_refl _) (by omega) (by omega) (fun nx => ?_)
  unfold nW eN at hc ⊢
  simp only [go_sem, sB, reduceCtorEq, sL, sA, sE, sN]
  refine callO_intro hc ?_
  simp only [go_sem, sB, reduceCtorEq, sL, sA, sE, sN, Bool.false_and, rv126, fin_c]
  exact ⟨_, rfl, .refl _⟩
theorem loop163 (a b : List Nat) (f g : Bool) (ha : Wd a) (hb : Wd b) (n : Nat) (hn : n ≤ 35184372088832) (F : Nat) (out : Sto) (Q : Ex → St → Prop) (z : Nat) : ∀ (m i : Nat) (O : List Nat) (c : Nat) (nx : Nat), i + m = n → O.length = n + 1 → Wd O → c ≤ 1 →
    val (O.take i) + BB ^ i * c = val (a.take i) + val (b.take i) →
    (∀ (O' : List Nat) (c' : Nat) (nx : Nat), O'.length = n + 1 → Wd O' → c' ≤ 1 → val (O'.take n) + BB ^ n * c' = val (a.take n) + val (b.take n) →
      Q (.exit 0) { r := (upd (upd (upd (upd (upd (upd (upd (upd (fun _ => .u) 19 (.b false)) 18 (.i .i64 n)) 17 (.i .i64 n)) 7 (.i .u32 c')) 6 (.w (F, 16) z 1 0 (n + 1))) 5 (.i .i64 n)) 1 (.sl 1 g (eW b))) 0 (.sl 1 f (eW a))), own := upd (fun _ => none) 16 (some (z, .row 1 (eW O'))), out := out, nx := nx }) →
    Loop Go.Proofs.Tryz.prog F [0, 1, 5, 6, 7, 17, 18] [16] b163_0 { r := (upd (upd (upd (upd (upd (upd (upd (fun _ => .u) 18 (.i .i64 i)) 17 (.i .i64 n)) 7 (.i .u32 c)) 6 (.w (F, 16) z 1 0 (n + 1))) 5 (.i .i64 n)) 1 (.sl 1 g (eW b))) 0 (.sl 1 f (eW a))), own := upd (fun _ => none) 16 (some (z, .row 1 (eW O))), out := out, nx := nx } Q := by
  have hB : BB = 4294967296 := rfl
  intro m
  induction m with
  | zero =>
    intro i O c nx hi hO hw hc hv hQ
    refine Loop.stepW ?_
    have hi' : i = n := by omega
    subst hi'
    have c1 : decide (((i : Nat) : Int) < ((i : Nat) : Int)) = false := by simp
    simp only [go_sem, sB, reduceCtorEq, sL, sA, sE, sN, wb163_0, c1]
    exact hQ O c _ hO hw hc hv
  | succ m ih =>
    intro i O c nx hi hO hw hc hv hQ
    refine Loop.stepW ?_
    have hin : i < n + 1 := by omega
    have c1 : decide (((i : Nat) : Int) < ((n : Nat) : Int)) = true := by simp; omega
    have e5 : IntKind.wrap .i64 (((i : Nat) : Int) + 1) = ((i + 1 : Nat) : Int) := by rw [IntWalk.i64_in _ (by omega)]; omega
    simp only [go_sem, sB, reduceCtorEq, sL, sA, sE, sN, wb163_0, c1]
    refine callO_intro (w192 a f i ha) ?_
    simp only [go_sem, sB, reduceCtorEq, sL, sA, sE, sN]
    refine callO_intro (w192 b g i hb) ?_
    have hx := ha.getD i
    have hy := hb.getD i
    have sa := val_take_s a i
    have sb := val_take_s b i
    generalize a.getD i 0 = x at *
    generalize b.getD i 0 = y at *
    simp only [go_sem, sB, reduceCtorEq, sL, sA, sE, sN]
    refine callO_intro (w191 x y c hx hy hc) ?_
    have hOt := eW_at (show i < O.length by omega)
    simp only [go_sem, sB, reduceCtorEq, sL, sA, sE, sN, e5, ixsO_w _ _ _ _ _ _ _ hin, hOt]
    refine ih (i + 1) (O.set i ((x + y + c) % 4294967296)) ((x + y + c) / 4294967296) _ (by omega) (by simpa using hO) (hw.set (by rw [hB]; omega)) (by omega) ?_ hQ
    rw [val_set_take (by omega), sa, sb, Nat.pow_succ]
    have hd := Nat.div_add_mod (x + y + c) 4294967296
    generalize (x + y + c) / 4294967296 = q at hd ⊢
    generalize (x + y + c) % 4294967296 = r at hd ⊢
    rw [hB] at hv ⊢
    generalize 4294967296 ^ i = G at hv ⊢
    have g1 : G * (x + y + c) = G * x + G * y + G * c := by rw [Nat.mul_add, Nat.mul_add]
    have g2 : G * (4294967296 * q + r) = G * 4294967296 * q + G * r := by rw [Nat.mul_add, Nat.mul_assoc]
    rw [hd] at g2
    omega
theorem n163 (x y : Nat) (hla : L x ≤ 17592186044416) (hlb : L y ≤ 17592186044416) : FnR Go.Proofs.Tryz.prog 163 [nW x, nW y] [] (nW (x + y)) := by
  refine fnr163 (by simp) (nr_eW _ _) (by simp) List.nodup_nil fun F out hS => ?_
  unfold ir163
  unfold L at hla hlb
  have ha := Wd_toW x
  have hb := Wd_toW y
  have vx := val_toW x
  have vy := val_toW y
  unfold nW eN
  generalize toW x = a at *
  generalize toW y = b at *
  have em : (if (b.length : Int) > (a.length : Int) then (b.length : Int) else (a.length : Int)) = ((max a.length b.length : Nat) : Int) := by split <;> omega
  have e1 : IntKind.wrap .i64 (((max a.length b.length : Nat) : Int) + 1) = ((max a.length b.length + 1 : Nat) : Int) := by rw [IntWalk.i64_in _ (by omega)]; omega
  generalize hn : max a.length b.length = n at *
  simp only [go_sem, sB, reduceCtorEq, sL, sA, sE, sN, em, e1]
  refine mkO_intro (Nat.le_refl _) (by omega) (by omega) ?_
  simp only [go_sem, sB, reduceCtorEq, sL, sA, sE, sN]
  refine loop163 a b false false ha hb n (by omega) F out _ _ n 0 (List.replicate (n + 1) 0) 0 _ (by omega) (by simp) (Wd_rep _) (by omega) (by simp [val]) (fun O' c' nx h1 h2 h3 h4 => ?_)
  have hnn : n < n + 1 := by omega
  have hOt := eW_at (show n < O'.length by omega)
  have hle : 0 + (n + 1) ≤ (eW (O'.set n c')).length := by rw [eW_length]; simp; omega
  simp only [go_sem, sB, reduceCtorEq, sL, sA, sE, sN, ixsO_w _ _ _ _ _ _ _ hnn, hOt]
  rw [frzR_s _ _ _ _ _ _ _ _ hle]
  have hva : a.take n = a := List.take_of_length_le (by omega)
  have hvb : b.take n = b := List.take_of_length_le (by omega)
  rw [hva, hvb, vx, vy] at h4
  have htk : (O'.set n c').take (n + 1) = O'.set n c' := List.take_of_length_le (by simp; omega)
  have hv2 : val (O'.set n c') = x + y := by
    rw [← h4, ← htk, val_set_take (by omega)]
  have hc := n174 (O'.set n c') false (h2.set (Nat.lt_of_le_of_lt h3 (by decide))) (by simp; omega)
  rw [hv2] at hc
  unfold nW eN at hc
  simp only [go_sem, sB, reduceCtorEq, sL, sA, sE, sN, htk]
  refine callO_intro hc ?_
  simp only [go_sem, sB, reduceCtorEq, sL, sA, sE, sN, rv163, fin_t]
  exact .refl _
theorem loop164 (a b : List Nat) (f g : Bool) (ha : Wd a) (hb : Wd b) (hn : a.length ≤ 35184372088832) (F : Nat) (out : Sto) (Q : Ex → St → Prop) (z : Nat) : ∀ (m i : Nat) (O : List Nat) (c : Nat) (nx : Nat), i + m = a.length → O.length = a.length → Wd O → c ≤ 1 →
    val (O.take i) + val (b.take i) = val (a.take i) + BB ^ i * c →
    (∀ (O' : List Nat) (c' : Nat) (nx : Nat), O'.length = a.length → Wd O' → c' ≤ 1 → val (O'.take a.length) + val (b.take a.length) = val (a.take a.length) + BB ^ a.length * c' →
      Q (.exit 0) { r := (upd (upd (upd (upd (upd (upd (upd (fun _ => .u) 14 (.b false)) 13 (.i .i64 a.length)) 12 (.i .i64 a.length)) 6 (.i .u32 c')) 5 (.w (F, 10) z 1 0 a.length)) 1 (.sl 1 g (eW b))) 0 (.sl 1 f (eW a))), own := upd (fun _ => none) 10 (some (z, .row 1 (eW O'))), out := out, nx := nx }) →
    Loop Go.Proofs.Tryz.prog F [0, 1, 5, 6, 12, 13] [10] b164_0 { r := (upd (upd (upd (upd (upd (upd (fun _ => .u) 13 (.i .i64 i)) 12 (.i .i64 a.length)) 6 (.i .u32 c)) 5 (.w (F, 10) z 1 0 a.length)) 1 (.sl 1 g (eW b))) 0 (.sl 1 f (eW a))), own := upd (fun _ => none) 10 (some (z, .row 1 (eW O))), out := out, nx := nx } Q := by
  have hB : BB = 4294967296 := rfl
  intro m
  induction m with
  | zero =>
    intro i O c nx hi hO hw hc hv hQ
    refine Loop.stepW ?_
    have hi' : i = a.length := by omega
    subst hi'
    have c1 : decide (((a.length : Nat) : Int) < ((a.length : Nat) : Int)) = false := by simp
    simp only [go_sem, sB, reduceCtorEq, sL, sA, sE, sN, wb164_0, c1]
    exact hQ O c _ hO hw hc hv
  | succ m ih =>
    intro i O c nx hi hO hw hc hv hQ
    refine Loop.stepW ?_
    have hin : i < a.length := by omega
    have c1 : decide (((i : Nat) : Int) < ((a.length : Nat) : Int)) = true := by simp; omega
    have e5 : IntKind.wrap .i64 (((i : Nat) : Int) + 1) = ((i + 1 : Nat) : Int) := by rw [IntWalk.i64_in _ (by omega)]; omega
    have hx := ha.getD i
    have hat := eW_at hin
    have sa := val_take_s a i
    have sb := val_take_s b i
    generalize a.getD i 0 = x at *
    simp only [go_sem, sB, reduceCtorEq, sL, sA, sE, sN, wb164_0, c1, ixsO_sl _ _ _ _ _ _ hat]
    refine callO_intro (w192 b g i hb) ?_
    have hy := hb.getD i
    generalize b.getD i 0 = y at *
    simp only [go_sem, sB, reduceCtorEq, sL, sA, sE, sN]
    refine callO_intro (w193 x y c hx hy hc) ?_
    have hOt := eW_at (show i < O.length by omega)
    obtain ⟨t, ht⟩ : ∃ t, 4294967296 + x - y - c = t := ⟨_, rfl⟩
    simp only [go_sem, sB, reduceCtorEq, sL, sA, sE, sN, e5, ixsO_w _ _ _ _ _ _ _ hin, hOt, ht]
    refine ih (i + 1) (O.set i (t % 4294967296)) (1 - t / 4294967296) _ (by omega) (by simpa using hO) (hw.set (by rw [hB]; omega)) (by omega) ?_ hQ
    rw [val_set_take (by omega), sa, sb, Nat.pow_succ]
    have hs : t % 4294967296 + y + c = x + 4294967296 * (1 - t / 4294967296) := by omega
    generalize 1 - t / 4294967296 = q at hs ⊢
    generalize t % 4294967296 = r at hs ⊢
    rw [hB] at hv ⊢
    generalize 4294967296 ^ i = G at hv ⊢
    have g1 : G * (r + y + c) = G * r + G * y + G * c := by rw [Nat.mul_add, Nat.mul_add]
    have g2 : G * (x + 4294967296 * q) = G * x + G * 4294967296 * q := by rw [Nat.mul_add, Nat.mul_assoc]
    rw [hs] at g1
    omega
theorem n164 (x y : Nat) (hv : y ≤ x) (hla : L x ≤ 17592186044416) : FnR Go.Proofs.Tryz.prog 164 [nW x, nW y] [] (nW (x - y)) := by
  refine fnr164 (by simp) (nr_eW _ _) (by simp) List.nodup_nil fun F out hS => ?_
  unfold ir164
  have hl := L_mono hv
  unfold L at hla hl
  have ha := Wd_toW x
  have hb := Wd_toW y
  have vx := val_toW x
  have vy := val_toW y
  unfold nW eN
  generalize toW x = a at *
  generalize toW y = b at *
  simp only [go_sem, sB, reduceCtorEq, sL, sA, sE, sN]
  refine mkO_intro (Nat.le_refl _) (by omega) (by omega) ?_
  simp only [go_sem, sB, reduceCtorEq, sL, sA, sE, sN]
  refine loop164 a b false false ha hb (by omega) F out _ _ a.length 0 (List.replicate a.length 0) 0 _ (by omega) (by simp) (Wd_rep _) (by omega) (by simp [val]) (fun O' c' nx h1 h2 h3 h4 => ?_)
  have hle : 0 + a.length ≤ (eW O').length := by rw [eW_length]; omega
  simp only [go_sem, sB, reduceCtorEq, sL, sA, sE, sN, frzR_s _ _ _ _ _ _ _ _ hle]
  have htk : O'.take a.length = O' := List.take_of_length_le (by omega)
  have hva : a.take a.length = a := List.take_of_length_le (by omega)
  have hvb : b.take a.length = b := List.take_of_length_le (by omega)
  rw [htk, hva, hvb, vx, vy] at h4
  have hlt := val_lt h2
  rw [h1] at hlt
  have hc0 : c' = 0 := by
    rcases Nat.eq_zero_or_pos c' with h | h
    · exact h
    · have : BB ^ a.length * 1 ≤ BB ^ a.length * c' := Nat.mul_le_mul_left _ h
      omega
  subst hc0
  rw [Nat.mul_zero, Nat.add_zero] at h4
  have h5 : val O' = x - y := by omega
  have hc := n174 O' false h2 (by omega)
  rw [h5] at hc
  unfold nW eN at hc
  rw [htk]
  refine callO_intro hc ?_
  simp only [go_sem, sB, reduceCtorEq, sL, sA, sE, sN, rv164, fin_t]
  exact .refl _
theorem loop180_0 (b : List Nat) (fa : Bool) (a : List Nat) (g : Bool) (x : Nat) (hx : x < BB) (hb : Wd b) (hla : a.length ≤ 17592186044416) (hlb : b.length ≤ 17592186044416) (F : Nat) (out : Sto) (Q : Ex → St → Prop) (z i : Nat) (hi : i < a.length) : ∀ (m k : Nat) (O : List Nat) (c : Nat) (nx : Nat), k + m = b.length → O.length = a.length + b.length → Wd O → c < BB →
    (∀ (O' : List Nat) (c' : Nat) (nx : Nat), O'.length = a.length + b.length → Wd O' → c' < BB → (∀ j, i + b.length ≤ j → O'.getD j 0 = O.getD j 0) → val O' + BB ^ (i + b.length) * c' = val O + BB ^ (i + k) * (x * val (b.drop k) + c) →
      Q (.exit 2) { r := (upd (upd (upd (upd (upd (upd (upd (upd (upd (upd (upd (upd (fun _ => .u) 27 (.b false)) 26 (.i .i64 b.length)) 25 (.i .i64 b.length)) 24 (.sl 1 g (eW b))) 19 (.i .i64 i)) 18 (.i .i64 a.length)) 17 (.sl 1 fa (eW a))) 8 (.i .u64 c')) 7 (.i .u32 x)) 6 (.i .i64 i)) 5 (.w (F, 16) z 1 0 (a.length + b.length))) 1 (.sl 1 g (eW b))), own := upd (fun _ => none) 16 (some (z, .row 1 (eW O'))), out := out, nx := nx }) →
    Loop Go.Proofs.Tryz.prog F [1, 5, 6, 7, 8, 17, 18, 19, 24, 25, 26] [16] b180_0 { r := (upd (upd (upd (upd (upd (upd (upd (upd (upd (upd (upd (fun _ => .u) 26 (.i .i64 k)) 25 (.i .i64 b.length)) 24 (.sl 1 g (eW b))) 19 (.i .i64 i)) 18 (.i .i64 a.length)) 17 (.sl 1 fa (eW a))) 8 (.i .u64 c)) 7 (.i .u32 x)) 6 (.i .i64 i)) 5 (.w (F, 16) z 1 0 (a.length + b.length))) 1 (.sl 1 g (eW b))), own := upd (fun _ => none) 16 (some (z, .row 1 (eW O))), out := out, nx := nx } Q := by
  have hB : BB = 4294967296 := rfl
  intro m
  induction m with
  | zero =>
    intro k O c nx hk hO hw hc hQ
    refine Loop.stepW ?_
    have hk' : k = b.length := by omega
    subst hk'
    have c1 : decide (((b.length : Nat) : Int) < ((b.length : Nat) : Int)) = false := by simp
    simp only [go_sem, sB, reduceCtorEq, sL, sA, sE, sN, wb180_0, c1]
    exact hQ O c _ hO hw hc (fun _ _ => rfl) (by simp [val])
  | succ m ih =>
    intro k O c nx hk hO hw hc hQ
    refine Loop.stepW ?_
    have hkb : k < b.length := by omega
    have hiO : i + k < O.length := by omega
    have hiO' : i + k < a.length + b.length := by omega
    have c1 : decide (((k : Nat) : Int) < ((b.length : Nat) : Int)) = true := by simp; omega
    obtain ⟨t1, t2⟩ := mul_step hx (hb.getD k) (hw.getD (i + k)) hc
    have hbk := hb.getD k
    have ho := hw.getD (i + k)
    have hp : x * b.getD k 0 ≤ x * b.getD k 0 + O.getD (i + k) 0 + c := by omega
    have hBt := eW_at hkb
    have hOt := eW_at hiO
    generalize hY : b.getD k 0 = y at *
    generalize hZ : O.getD (i + k) 0 = o at *
    generalize hP : x * y = p at *
    have e1 : IntKind.wrap .u64 (((x : Nat) : Int) * ((y : Nat) : Int)) = ((p : Nat) : Int) := by
      rw [← Int.natCast_mul, hP]; exact w64 _ (by rw [hB] at t1; omega)
    have e2 : IntKind.wrap .u64 (((p : Nat) : Int) + ((o : Nat) : Int)) = ((p + o : Nat) : Int) := by
      rw [← Int.natCast_add]; exact w64 _ (by rw [hB] at t1; omega)
    have e3 : IntKind.wrap .u64 (((c : Nat) : Int) + ((p + o : Nat) : Int)) = ((p + o + c : Nat) : Int) := by
      rw [← Int.natCast_add, Nat.add_comm c]; exact w64 _ (by rw [hB] at t1; omega)
    have e4 : IntKind.wrap .i64 (((i : Nat) : Int) + ((k : Nat) : Int)) = ((i + k : Nat) : Int) := by
      rw [IntWalk.i64_in _ (by omega)]; omega
    have e5 : IntKind.wrap .i64 (((k : Nat) : Int) + 1) = ((k + 1 : Nat) : Int) := by
      rw [IntWalk.i64_in _ (by omega)]; omega
    have e6 := wu32 (p + o + c)
    have e7 := shr_c .u64 .u64 (p + o + c) 32 32 rfl (by decide)
    simp only [go_sem, sB, reduceCtorEq, sL, sA, sE, sN, wb180_0, c1, ixsO_sl _ _ _ _ _ _ hBt, w64 x (by omega), w64 y (by omega), w64 o (by omega), e1, e2, e3, e4, e5, e6, e7, ixsO_w _ _ _ _ _ _ _ hiO', hOt]
    refine ih (k + 1) (O.set (i + k) ((p + o + c) % 4294967296)) ((p + o + c) / 4294967296) _ (by omega) (by simpa using hO) (hw.set (by rw [hB]; omega)) (by rw [hB] at t2 ⊢; exact t2) (fun O' c' nx h1 h2 h3 h4 h5 => ?_)
    refine hQ O' c' nx h1 h2 h3 (fun j hj => ?_) ?_
    · rw [h4 j hj, getD_set_ne (by omega)]
    · have hs := val_set (l := O) (i := i + k) (w := (p + o + c) % 4294967296) hiO
      rw [hZ] at hs
      rw [val_drop_succ hkb, hY, h5]
      have hd := Nat.div_add_mod (p + o + c) 4294967296
      have e8 : i + (k + 1) = i + k + 1 := by omega
      rw [e8, Nat.pow_succ, hB]
      rw [hB] at hs
      generalize hG : 4294967296 ^ (i + k) = G at hs ⊢
      generalize hq : (p + o + c) / 4294967296 = q at hd ⊢
      generalize hm : (p + o + c) % 4294967296 = r at hd hs ⊢
      generalize hv : val (b.drop (k + 1)) = v
      have hxy : x * (y + 4294967296 * v) = p + 4294967296 * (x * v) := by rw [Nat.mul_add, hP, Nat.mul_left_comm]
      rw [hxy]
      have g1 : G * 4294967296 * (x * v + q) = G * (4294967296 * (x * v)) + G * (4294967296 * q) := by rw [Nat.mul_assoc, Nat.mul_add, Nat.mul_add]
      have g2 : G * (p + 4294967296 * (x * v) + c) = G * p + G * (4294967296 * (x * v)) + G * c := by rw [Nat.mul_add, Nat.mul_add]
      have g3 : G * (p + o + c) = G * p + G * o + G * c := by rw [Nat.mul_add, Nat.mul_add]
      have g4 : G * (4294967296 * q + r) = G * (4294967296 * q) + G * r := by rw [Nat.mul_add]
      rw [hd] at g4
      rw [g1, g2]
      omega
theorem loop180_1 (a b : List Nat) (f g : Bool) (ha : Wd a) (hb : Wd b) (hla : a.length ≤ 17592186044416) (hlb : b.length ≤ 17592186044416) (F : Nat) (out : Sto) (Q : Ex → St → Prop) (z : Nat) : ∀ (m i : Nat) (O : List Nat) (nx : Nat), i + m = a.length → O.length = a.length + b.length → Wd O → val O = val (a.take i) * val b → (∀ j, i + b.length ≤ j → O.getD j 0 = 0) →
    (∀ (O' : List Nat) (nx : Nat), O'.length = a.length + b.length → Wd O' → val O' = val a * val b →
      Q (.exit 0) { r := (upd (upd (upd (upd (upd (upd (fun _ => .u) 20 (.b false)) 19 (.i .i64 a.length)) 18 (.i .i64 a.length)) 17 (.sl 1 f (eW a))) 5 (.w (F, 16) z 1 0 (a.length + b.length))) 1 (.sl 1 g (eW b))), own := upd (fun _ => none) 16 (some (z, .row 1 (eW O'))), out := out, nx := nx }) →
    Loop Go.Proofs.Tryz.prog F [1, 5, 17, 18, 19] [16] b180_1 { r := (upd (upd (upd (upd (upd (fun _ => .u) 19 (.i .i64 i)) 18 (.i .i64 a.length)) 17 (.sl 1 f (eW a))) 5 (.w (F, 16) z 1 0 (a.length + b.length))) 1 (.sl 1 g (eW b))), own := upd (fun _ => none) 16 (some (z, .row 1 (eW O))), out := out, nx := nx } Q := by
  have hB : BB = 4294967296 := rfl
  intro m
  induction m with
  | zero =>
    intro i O nx hk hO hw hv h0 hQ
    refine Loop.stepW ?_
    have hk' : i = a.length := by omega
    subst hk'
    have c1 : decide (((a.length : Nat) : Int) < ((a.length : Nat) : Int)) = false := by simp
    simp only [go_sem, sB, reduceCtorEq, sL, sA, sE, sN, wb180_1, c1]
    refine hQ O _ hO hw ?_
    rw [hv, List.take_of_length_le (Nat.le_refl _)]
  | succ m ih =>
    intro i O nx hk hO hw hv h0 hQ
    refine Loop.stepW ?_
    have hi : i < a.length := by omega
    have c1 : decide (((i : Nat) : Int) < ((a.length : Nat) : Int)) = true := by simp; omega
    have hA := eW_at hi
    simp only [go_sem, sB, reduceCtorEq, sL, sA, sE, sN, wb180_1, c1, ixsO_sl _ _ _ _ _ _ hA]
    refine loop180_0 b f a g (a.getD i 0) (ha.getD i) hb hla hlb F out _ z i hi b.length 0 O 0 _ (by omega) hO hw BB_pos (fun O' c' nx h1 h2 h3 h4 h5 => ?_)
    have e1 : IntKind.wrap .i64 (((i : Nat) : Int) + ((b.length : Nat) : Int)) = ((i + b.length : Nat) : Int) := by
      rw [IntWalk.i64_in _ (by omega)]; omega
    have e2 : IntKind.wrap .i64 (((i : Nat) : Int) + 1) = ((i + 1 : Nat) : Int) := by
      rw [IntWalk.i64_in _ (by omega)]; omega
    have e3 : IntKind.wrap .u32 ((c' : Nat) : Int) = ((c' : Nat) : Int) := w32 _ (by rw [hB] at h3; exact h3)
    have hlt : i + b.length < a.length + b.length := by omega
    have hat := eW_at (show i + b.length < O'.length by omega)
    simp only [go_sem, sB, reduceCtorEq, sL, sA, sE, sN, e1, e2, e3, ixsO_w _ _ _ _ _ _ _ hlt, hat]
    refine ih (i + 1) (O'.set (i + b.length) c') _ (by omega) (by simpa using h1) (h2.set h3) ?_ (fun j hj => ?_) hQ
    · have hs := val_set (l := O') (i := i + b.length) (w := c') (by omega)
      rw [h4 _ (Nat.le_refl _), h0 _ (Nat.le_refl _), Nat.mul_zero, Nat.add_zero] at hs
      rw [hs, h5, hv, val_take_succ hi, Nat.add_mul, Nat.add_zero, Nat.add_zero, List.drop_zero, Nat.mul_assoc]
    · rw [getD_set_ne (by omega), h4 j (by omega), h0 j (by omega)]
theorem n180 (x y : Nat) (hl : L x + L y ≤ 17592186044416) : FnR Go.Proofs.Tryz.prog 180 [nW x, nW y] [] (nW (x * y)) := by
  refine fnr180 (by simp) (nr_eW _ _) (by simp) List.nodup_nil fun F out hS => ?_
  unfold ir180
  unfold L at hl
  have ha := Wd_toW x
  have hb := Wd_toW y
  have vx := val_toW x
  have vy := val_toW y
  unfold nW eN
  generalize toW x = a at *
  generalize toW y = b at *
  have e1 : IntKind.wrap .i64 (((a.length : Nat) : Int) + ((b.length : Nat) : Int)) = ((a.length + b.length : Nat) : Int) := by
    rw [IntWalk.i64_in _ (by omega)]; omega
  simp only [go_sem, sB, reduceCtorEq, sL, sA, sE, sN, e1]
  refine mkO_intro (Nat.le_refl _) (by omega) (by omega) ?_
  simp only [go_sem, sB, reduceCtorEq, sL, sA, sE, sN]
  refine loop180_1 a b false false ha hb (by omega) (by omega) F out _ _ a.length 0 (List.replicate (a.length + b.length) 0) _ (by omega) (by simp) (Wd_rep _) (by simp [val_zeros, val]) (fun j _ => getD_rep _ _) (fun O' nx h1 h2 h3 => ?_)
  have hle : 0 + (a.length + b.length) ≤ (eW O').length := by rw [eW_length]; omega
  simp only [go_sem, sB, reduceCtorEq, sL, sA, sE, sN, frzR_s _ _ _ _ _ _ _ _ hle]
  have htk : O'.take (a.length + b.length) = O' := List.take_of_length_le (by omega)
  have hc := n174 O' false h2 (by omega)
  rw [h3, vx, vy] at hc
  unfold nW eN at hc
  rw [htk]
  refine callO_intro hc ?_
  simp only [go_sem, sB, reduceCtorEq, sL, sA, sE, sN, rv180, fin_t]
  exact .refl _
end Go.Vm.G

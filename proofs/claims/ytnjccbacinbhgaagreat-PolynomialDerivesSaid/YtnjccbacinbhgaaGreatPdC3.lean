/- A part of the proof of: The law PolynomialDerives of eliminantlaw06 returns true for every input, and the input reads behind the call as it read before; there are no conditions. -/
import Derived.Test.YtnjccbacinbhgaaGreatPdC2
set_option linter.unusedSimpArgs false
set_option linter.unusedVariables false
namespace Go.Vm.G
open Go Go.Vm
theorem appO_R0 {F : Nat} {S : List Nat} {s sz bytes : Nat} {st : St} {d : D} {es : List (List D)} {K : St → Prop} (h : RowD F S st.own d sz es) (hK : K (st.put (some s) d)) : @appO F sz bytes s st d (some []) ⟨K⟩ := by
  rcases h with ⟨rfl, rfl⟩ | ⟨s', z, h1, rfl, h3⟩
  · simp only [appO]; exact ⟨trivial, hK⟩
  · have hlk : st.look F (F, s') = some (z, .row sz es) := by simp [St.look, h3]
    simp only [appO, hlk]
    exact ⟨trivial, trivial, trivial, trivial, trivial, hK⟩
theorem slc1 (f : Bool) (e : List D) (es : List (List D)) : slcO 12 (.sl 12 f (e :: es)) (some (.i .i64 1)) none none = some (.sl 12 f es) := by
  have := slcO_l (sz := 12) (f := f) (es := e :: es) (k := .i64) (n := 1) (by simp)
  simpa using this
theorem ix0 (f : Bool) (e : List D) (es : List (List D)) : ixsO 12 (.sl 12 f (e :: es)) (.i .i64 0) = some (.q e) := ixsO_sl 12 f _ .i64 0 _ rfl
theorem gt0 (n : Nat) : decide (((n + 1 : Nat) : Int) > 0) = true := decide_eq_true (by omega)
theorem ngt0 : decide (((0 : Nat) : Int) > 0) = false := by decide
abbrev S79 : List Nat := [19, 58, 71, 90, 95, 111]
theorem loop79a (F1 F2 : Nat) (fb : Rat → Rat → Rat) (fo : Rat → Rat) {A : Nat} (hb : ∀ x y, LQ x ≤ A → LQ y ≤ A → FnR Go.Proofs.Tryz.prog F1 [rW x, rW y] [] (rW (fb x y))) (ho : ∀ y, LQ y ≤ A → FnR Go.Proofs.Tryz.prog F2 [rW y] [] (rW (fo y))) (f g : Bool) (F : Nat) (out : Sto) (Q : Ex → St → Prop) :
    ∀ (n : Nat) (p q res : List Tm) (d : D) (own : Nat → Option (Nat × Obj)) (nx : Nat), p.length + q.length ≤ n → PB A p → PB A q → res.length + p.length + q.length ≤ 1000000000000 → RowD F S79 own d 12 (res.map eT) → OwnB own nx →
    (∀ p' q' res' d own nx x, (p' = [] ∨ q' = []) → res ++ mrg fb fo n p q = res' ++ p' ++ q'.map (fun t => (t.1, fo t.2)) → PB A p' → PB A q' → res'.length + p'.length + q'.length ≤ 1000000000000 → RowD F S79 own d 12 (res'.map eT) → OwnB own nx →
      Q (.exit 0) { r := (upd (upd (upd (upd (upd (upd (fun _ => .u) 27 (x)) 9 (d)) 3 (.f F2 [] [])) 2 (.f F1 [] [])) 1 (eP g q')) 0 (eP f p')), own := own, out := out, nx := nx }) →
    Loop Go.Proofs.Tryz.prog F [0, 1, 2, 3, 9] [19, 58, 71, 90, 95, 111] b79_0 { r := (upd (upd (upd (upd (upd (fun _ => .u) 9 (d)) 3 (.f F2 [] [])) 2 (.f F1 [] [])) 1 (eP g q)) 0 (eP f p)), own := own, out := out, nx := nx } Q := by
  have tail1 : ∀ n (q : List Tm), q.length ≤ n → mrg fb fo n [] q = q.map (fun t => (t.1, fo t.2)) := by
    intro n
    induction n with
    | zero => intro q h; have : q = [] := List.length_eq_zero_iff.1 (by omega); subst this; rfl
    | succ n ih =>
      intro q h
      cases q with
      | nil => rfl
      | cons b q => simp only [mrg, List.map_cons]; rw [ih q (by simp at h; omega)]
  have tail2 : ∀ n (p : List Tm), p.length ≤ n → mrg fb fo n p [] = p := by
    intro n
    induction n with
    | zero => intro q h; have : q = [] := List.length_eq_zero_iff.1 (by omega); subst this; rfl
    | succ n ih =>
      intro q h
      cases q with
      | nil => rfl
      | cons b q => simp only [mrg]; rw [ih q (by simp at h; omega)]
  intro n
  induction n with
  | zero =>
    intro p q res d own nx hn hp hq hl hR hO h0
    have e1 : p = [] := List.length_eq_zero_iff.1 (by omega)
    have e2 : q = [] := List.length_eq_zero_iff.1 (by omega)
    subst e1 e2
    refine Loop.stepW ?_
    simp only [VV, zA, zB, List.append_nil, zF, zG, zH, zI, zJ, zK, zL, zM, zN, zQ, zR, zU, zV, zW', zX, zn, Nat.reduceBEq, reduceCtorEq, Nat.reduceLeDiff, Nat.reduceAdd, Int.reduceEq, Int.reduceNe, wb79_0, eP, ngt0]
    refine h0 [] [] res _ _ _ _ (.inl rfl) (by simp [mrg]) hp hq hl (hR.on (by simp [upd])) ?_
    repeat' first | exact OwnB.none _ | refine OwnB.updn ?_ (by first | omega | (dsimp only; omega)) | refine OwnB.upd0 ?_ | refine OwnB.updv (own := own) ?_ (hO.mono (by first | omega | (dsimp only; omega)))
  | succ n ih =>
    intro p q res d own nx hn hp hq hl hR hO h0
    refine Loop.stepW ?_
    cases p with
    | nil =>
      simp only [VV, zA, zB, List.append_nil, zF, zG, zH, zI, zJ, zK, zL, zM, zN, zQ, zR, zU, zV, zW', zX, zn, Nat.reduceBEq, reduceCtorEq, Nat.reduceLeDiff, Nat.reduceAdd, Int.reduceEq, Int.reduceNe, wb79_0, eP, ngt0]
      refine h0 [] q res _ _ _ _ (.inl rfl) (by rw [tail1 _ _ (by simpa using hn), List.append_nil]) hp hq hl (hR.on (by simp [upd])) ?_
      repeat' first | exact OwnB.none _ | refine OwnB.updn ?_ (by first | omega | (dsimp only; omega)) | refine OwnB.upd0 ?_ | refine OwnB.updv (own := own) ?_ (hO.mono (by first | omega | (dsimp only; omega)))
    | cons t p =>
      cases q with
      | nil =>
        simp only [VV, zA, zB, List.append_nil, zF, zG, zH, zI, zJ, zK, zL, zM, zN, zQ, zR, zU, zV, zW', zX, zn, Nat.reduceBEq, reduceCtorEq, Nat.reduceLeDiff, Nat.reduceAdd, Int.reduceEq, Int.reduceNe, wb79_0, eP, ngt0, gt0]
        refine h0 (t :: p) [] res _ _ _ _ (.inr rfl) (by rw [tail2 _ _ (by simpa using hn), List.map_nil, List.append_nil]) hp hq hl (hR.on (by simp [upd])) ?_
        repeat' first | exact OwnB.none _ | refine OwnB.updn ?_ (by first | omega | (dsimp only; omega)) | refine OwnB.upd0 ?_ | refine OwnB.updv (own := own) ?_ (hO.mono (by first | omega | (dsimp only; omega)))
      | cons u q =>
        have hT := hp.head
        have hU := hq.head
        simp only [List.length_cons] at hn hl
        have hO' : ∀ m, nx ≤ m → OwnB (upd (upd (upd (upd (upd (upd (fun _ => none) 111 (own 111)) 95 (own 95)) 90 (own 90)) 71 (own 71)) 58 (own 58)) 19 (own 19)) m := by
          intro m hm
          repeat' first | exact OwnB.none _ | refine OwnB.updv (own := own) ?_ (hO.mono (by first | omega | (dsimp only; omega)))
        simp only [VV, zA, zB, List.append_nil, zF, zG, zH, zI, zJ, zK, zL, zM, zN, zQ, zR, zU, zV, zW', zX, zn, Nat.reduceBEq, reduceCtorEq, Nat.reduceLeDiff, Nat.reduceAdd, Int.reduceEq, Int.reduceNe, wb79_0, eP, gt0, ix0, dropT, take8 hT.1, take8 hU.1, len8 hT.1, len8 hU.1]
        refine callO_intro (w70 _ _ hT.1 hU.1) ?_
        by_cases g1 : 0 < cmpL t.1 u.1
        · simp only [mrg, if_pos g1] at h0
          simp only [VV, zA, zB, List.append_nil, zF, zG, zH, zI, zJ, zK, zL, zM, zN, zQ, zR, zU, zV, zW', zX, zn, Nat.reduceBEq, reduceCtorEq, Nat.reduceLeDiff, Nat.reduceAdd, Int.reduceEq, Int.reduceNe, decide_eq_true (show cmpL t.1 u.1 > 0 from g1), ix0, takeT hT.1, eT_len hT.1, slc1]
          refine appO_R (S := S79) (es := res.map eT) (hR.on (by simp [upd])) (hO' _ (by dsimp only; omega)) (by simp) (by simp; omega) (by simp; omega) (fun own' hb hoth hs => ?_)
          simp only [VV, zA, zB, List.append_nil, zF, zG, zH, zI, zJ, zK, zL, zM, zN, zQ, zR, zU, zV, zW', zX, zn, Nat.reduceBEq, reduceCtorEq, Nat.reduceLeDiff, Nat.reduceAdd, Int.reduceEq, Int.reduceNe, slc1, map_app1]
          refine ih p (u :: q) (res ++ [t]) _ _ _ (by simp only [List.length_cons]; omega) hp.tail hq (by simp; omega) (by rw [← map_app1]; exact .at (by simp) hs (by simp)) ?_ (fun p' q' res' d own nx x e1 e2 => h0 p' q' res' d own nx x e1 (by rw [← e2, app_assoc1]))
          repeat' first | exact OwnB.none _ | refine OwnB.updv (own := own') ?_ (hb.mono (by first | omega | (dsimp only; omega)))
        · by_cases g2 : cmpL t.1 u.1 < 0
          · simp only [mrg, if_neg g1, if_pos g2] at h0
            have hu2 : (eT (u.1, fo u.2)).length = 12 := eT_len (t := (u.1, fo u.2)) hU.1
            simp only [VV, zA, zB, List.append_nil, zF, zG, zH, zI, zJ, zK, zL, zM, zN, zQ, zR, zU, zV, zW', zX, zn, Nat.reduceBEq, reduceCtorEq, Nat.reduceLeDiff, Nat.reduceAdd, Int.reduceEq, Int.reduceNe, decide_eq_false (show ¬ cmpL t.1 u.1 > 0 from g1), decide_eq_true g2, ix0, takeT4, eT_len hU.1]
            refine callO_intro (ho u.2 hU.2) ?_
            simp only [VV, zA, zB, List.append_nil, zF, zG, zH, zI, zJ, zK, zL, zM, zN, zQ, zR, zU, zV, zW', zX, zn, Nat.reduceBEq, reduceCtorEq, Nat.reduceLeDiff, Nat.reduceAdd, Int.reduceEq, Int.reduceNe, ix0, rW_C, rC_len, dropT, take8 hU.1, len8 hU.1, z8, fillT2 _ _ hU.1, hu2]
            refine appO_R (S := S79) (es := res.map eT) (hR.on (by simp [upd])) (hO' _ (by dsimp only; omega)) (by simp) (by simp; omega) (by simp; omega) (fun own' hb hoth hs => ?_)
            simp only [VV, zA, zB, List.append_nil, zF, zG, zH, zI, zJ, zK, zL, zM, zN, zQ, zR, zU, zV, zW', zX, zn, Nat.reduceBEq, reduceCtorEq, Nat.reduceLeDiff, Nat.reduceAdd, Int.reduceEq, Int.reduceNe, slc1, map_app1]
            refine ih (t :: p) q (res ++ [(u.1, fo u.2)]) _ _ _ (by simp only [List.length_cons]; omega) hp hq.tail (by simp; omega) (by rw [← map_app1]; exact .at (by simp) hs (by simp)) ?_ (fun p' q' res' d own nx x e1 e2 => h0 p' q' res' d own nx x e1 (by rw [← e2, app_assoc1]))
            repeat' first | exact OwnB.none _ | refine OwnB.updv (own := own') ?_ (hb.mono (by first | omega | (dsimp only; omega)))
          · simp only [mrg, if_neg g1, if_neg g2] at h0
            simp only [VV, zA, zB, List.append_nil, zF, zG, zH, zI, zJ, zK, zL, zM, zN, zQ, zR, zU, zV, zW', zX, zn, Nat.reduceBEq, reduceCtorEq, Nat.reduceLeDiff, Nat.reduceAdd, Int.reduceEq, Int.reduceNe, decide_eq_false (show ¬ cmpL t.1 u.1 > 0 from g1), decide_eq_false g2, ix0, takeT4, eT_len hT.1, eT_len hU.1]
            refine callO_intro (hb t.2 u.2 hT.2 hU.2) ?_
            simp only [VV, zA, zB, List.append_nil, zF, zG, zH, zI, zJ, zK, zL, zM, zN, zQ, zR, zU, zV, zW', zX, zn, Nat.reduceBEq, reduceCtorEq, Nat.reduceLeDiff, Nat.reduceAdd, Int.reduceEq, Int.reduceNe, rW_C, rC_len, takeC]
            refine callO_intro (q68 (fb t.2 u.2)) ?_
            by_cases g3 : fb t.2 u.2 = 0
            · simp only [if_pos g3] at h0
              have g4 : ((fb t.2 u.2).num.sign != 0) = false := by rw [bne, sgn0 g3]; rfl
              simp only [VV, zA, zB, List.append_nil, zF, zG, zH, zI, zJ, zK, zL, zM, zN, zQ, zR, zU, zV, zW', zX, zn, Nat.reduceBEq, reduceCtorEq, Nat.reduceLeDiff, Nat.reduceAdd, Int.reduceEq, Int.reduceNe, g4, slc1]
              refine ih p q res _ _ _ (by omega) hp.tail hq.tail (by omega) (hR.on (by simp [upd])) (hO' _ (by omega)) h0
            · simp only [if_neg g3] at h0
              have g4 : ((fb t.2 u.2).num.sign != 0) = true := by rw [bne, sgn1 g3]; rfl
              have hu2 : (eT (t.1, fb t.2 u.2)).length = 12 := eT_len (t := (t.1, fb t.2 u.2)) hT.1
              simp only [VV, zA, zB, List.append_nil, zF, zG, zH, zI, zJ, zK, zL, zM, zN, zQ, zR, zU, zV, zW', zX, zn, Nat.reduceBEq, reduceCtorEq, Nat.reduceLeDiff, Nat.reduceAdd, Int.reduceEq, Int.reduceNe, g4, ix0, dropT, take8 hT.1, len8 hT.1, takeC, rC_len, z8, fillT2 _ _ hT.1, hu2]
              refine appO_R (S := S79) (es := res.map eT) (hR.on (by simp [upd])) (by dsimp only; exact (hO' _ (by omega)).updn (by omega)) (by simp) (by simp; omega) (by simp; omega) (fun own' hb hoth hs => ?_)
              simp only [VV, zA, zB, List.append_nil, zF, zG, zH, zI, zJ, zK, zL, zM, zN, zQ, zR, zU, zV, zW', zX, zn, Nat.reduceBEq, reduceCtorEq, Nat.reduceLeDiff, Nat.reduceAdd, Int.reduceEq, Int.reduceNe, slc1, map_app1]
              refine ih p q (res ++ [(t.1, fb t.2 u.2)]) _ _ _ (by omega) hp.tail hq.tail (by simp; omega) (by rw [← map_app1]; exact .at (by simp) hs (by simp)) ?_ (fun p' q' res' d own nx x e1 e2 => h0 p' q' res' d own nx x e1 (by rw [← e2, app_assoc1]))
              repeat' first | exact OwnB.none _ | refine OwnB.updv (own := own') ?_ (hb.mono (by first | omega | (dsimp only; omega)))
theorem loop79b (F2 : Nat) (fo : Rat → Rat) {A : Nat} (ho : ∀ y, LQ y ≤ A → FnR Go.Proofs.Tryz.prog F2 [rW y] [] (rW (fo y))) (q : List Tm) (g : Bool) (hq : PB A q) (hql : q.length ≤ 1000000000000) (F : Nat) (out : Sto) (Q : Ex → St → Prop) :
    ∀ (l : List Tm) (i : Nat) (res : List Tm) (d : D) (own : Nat → Option (Nat × Obj)) (nx : Nat), q.drop i = l → i + l.length = q.length → res.length + l.length ≤ 1000000000000 → RowD F S79 own d 12 (res.map eT) → OwnB own nx →
    (∀ r d own nx, r 9 = d → RowD F S79 own d 12 ((res ++ l.map (fun t => (t.1, fo t.2))).map eT) → Q (.exit 3) { r := r, own := own, out := out, nx := nx }) →
    Loop Go.Proofs.Tryz.prog F [3, 9, 96, 97, 98] [19, 58, 71, 90, 95, 111] b79_1 { r := (upd (upd (upd (upd (upd (fun _ => .u) 98 (.i .i64 i)) 97 (.i .i64 q.length)) 96 (eP g q)) 9 (d)) 3 (.f F2 [] [])), own := own, out := out, nx := nx } Q := by
  intro l
  induction l with
  | nil =>
    intro i res d own nx hd hi hl hR hO h0
    refine Loop.stepW ?_
    have ei : i = q.length := by simpa using hi
    subst ei
    have c1 : decide (((q.length : Nat) : Int) < ((q.length : Nat) : Int)) = false := by simp
    simp only [VV, zA, zB, List.append_nil, zF, zG, zH, zI, zJ, zK, zL, zM, zN, zQ, zR, zU, zV, zW', zX, zn, Nat.reduceBEq, reduceCtorEq, Nat.reduceLeDiff, Nat.reduceAdd, Int.reduceEq, Int.reduceNe, wb79_1, eP, c1]
    refine h0 _ d _ _ rfl ?_
    rw [List.map_nil, List.append_nil]
    exact hR.on (by simp [upd])
  | cons u l ih =>
    intro i res d own nx hd hi hl hR hO h0
    refine Loop.stepW ?_
    simp only [List.length_cons] at hi
    have hu : q[i]? = some u := by
      have := List.getElem?_drop (xs := q) (i := i) (j := 0)
      rw [hd] at this
      simpa using this.symm
    simp only [List.length_cons] at hl
    have e1 : IntKind.wrap .i64 (((i : Nat) : Int) + 1) = ((i + 1 : Nat) : Int) := by rw [IntWalk.i64_in _ (by omega)]; omega
    have hU := hq.get hu
    have c1 : decide (((i : Nat) : Int) < ((q.length : Nat) : Int)) = true := decide_eq_true (by omega)
    have hxq := ixsO_sl 12 g _ .i64 i _ (eP_at hu)
    have bt : ∀ z, boxC (some (z, .box (eT u))) z 4 8 = some (eM u.1) := fun z => by rw [boxC_s _ _ _ _ (by rw [eT_len hU.1]; decide), dropT, take8 hU.1]
    have bt' : ∀ z, boxC (some (z, .box (eT u))) z 0 4 = some (rC u.2) := fun z => by rw [boxC_s _ _ _ _ (by rw [eT_len hU.1]; decide), List.drop_zero, takeT4]
    have hu2 : (eT (u.1, fo u.2)).length = 12 := eT_len (t := (u.1, fo u.2)) hU.1
    simp only [VV, zA, zB, List.append_nil, zF, zG, zH, zI, zJ, zK, zL, zM, zN, zQ, zR, zU, zV, zW', zX, zn, Nat.reduceBEq, reduceCtorEq, Nat.reduceLeDiff, Nat.reduceAdd, Int.reduceEq, Int.reduceNe, wb79_1, eP_len, eP, c1, hxq, takeT hU.1, eT_len hU.1, bt']
    refine callO_intro (ho u.2 hU.2) ?_
    simp only [VV, zA, zB, List.append_nil, zF, zG, zH, zI, zJ, zK, zL, zM, zN, zQ, zR, zU, zV, zW', zX, zn, Nat.reduceBEq, reduceCtorEq, Nat.reduceLeDiff, Nat.reduceAdd, Int.reduceEq, Int.reduceNe, rW_C, rC_len, bt, len8 hU.1, z8, fillT2 _ _ hU.1, hu2]
    refine appO_R (S := S79) (es := res.map eT) (hR.on (by simp [upd])) ?_ (by simp) (by simp; omega) (by simp; omega) (fun own' hb hoth hs => ?_)
    · dsimp only
      repeat' first | exact OwnB.none _ | refine OwnB.updn ?_ (by first | omega | (dsimp only; omega)) | refine OwnB.updv (own := own) ?_ (hO.mono (by first | omega | (dsimp only; omega)))
    · simp only [VV, zA, zB, List.append_nil, zF, zG, zH, zI, zJ, zK, zL, zM, zN, zQ, zR, zU, zV, zW', zX, zn, Nat.reduceBEq, reduceCtorEq, Nat.reduceLeDiff, Nat.reduceAdd, Int.reduceEq, Int.reduceNe, e1, map_app1]
      refine ih (i + 1) (res ++ [(u.1, fo u.2)]) _ _ _ (by rw [drop_at hu] at hd; injection hd) (by omega) (by simp; omega) (by rw [← map_app1]; exact .at (by simp) hs (by simp)) ?_ (fun r d own nx e1 e2 => h0 r d own nx e1 (by simpa only [List.map_cons, app_assoc1] using e2))
      repeat' first | exact OwnB.none _ | refine OwnB.updv (own := own') ?_ (hb.mono (by first | omega | (dsimp only; omega)))
def mrgP (f : Rat → Rat → Rat) (g : Rat → Rat) (p q : List Tm) : List Tm := mrg f g (p.length + q.length) p q
theorem w79 (F1 F2 : Nat) (fb : Rat → Rat → Rat) (fo : Rat → Rat) {A : Nat} (hb : ∀ x y, LQ x ≤ A → LQ y ≤ A → FnR Go.Proofs.Tryz.prog F1 [rW x, rW y] [] (rW (fb x y))) (ho : ∀ y, LQ y ≤ A → FnR Go.Proofs.Tryz.prog F2 [rW y] [] (rW (fo y)))
    (p q : List Tm) (f g : Bool) (hp : PB A p) (hq : PB A q) (hl : p.length + q.length ≤ 1000000000000) :
    FnR Go.Proofs.Tryz.prog 79 [eP f p, eP g q, .f F1 [] [], .f F2 [] []] [] (eP false (mrgP fb fo p q)) := by
  refine fnr79 (by simp) (nr_eP _ _) (by simp) List.nodup_nil fun F out hS => ?_
  have e1 : IntKind.wrap .i64 (((p.length : Nat) : Int) + ((q.length : Nat) : Int)) = ((p.length + q.length : Nat) : Int) := by rw [IntWalk.i64_in _ (by omega)]; omega
  unfold ir79
  simp only [VV, zA, zB, List.append_nil, zF, zG, zH, zI, zJ, zK, zL, zM, zN, zQ, zR, zU, zV, zW', zX, zn, Nat.reduceBEq, reduceCtorEq, Nat.reduceLeDiff, Nat.reduceAdd, Int.reduceEq, Int.reduceNe, eP, eP_len, e1]
  refine mkO_intro (n := 0) (by omega) (by omega) (by omega) ?_
  simp only [VV, zA, zB, List.append_nil, zF, zG, zH, zI, zJ, zK, zL, zM, zN, zQ, zR, zU, zV, zW', zX, zn, Nat.reduceBEq, reduceCtorEq, Nat.reduceLeDiff, Nat.reduceAdd, Int.reduceEq, Int.reduceNe]
  refine loop79a F1 F2 fb fo hb ho f g F out _ (p.length + q.length) p q [] _ _ _ (Nat.le_refl _) hp hq (by simp; omega) (.at (s := 19) (z := 1) (by simp) rfl rfl) ?_ (fun p' q' res' d own nx x e1 e2 hp' hq' hl' hR hO => ?_)
  · repeat' first | exact OwnB.none _ | refine OwnB.updn ?_ (by omega) | refine OwnB.upd0 ?_
  · have e3 : mrgP fb fo p q = res' ++ p' ++ q'.map (fun t => (t.1, fo t.2)) := by rw [← e2]; rfl
    have fin : ∀ (d : D) (own : Nat → Option (Nat × Obj)) (nx : Nat), RowD F S79 own d 12 ((res' ++ p').map eT) → OwnB own nx →
        Loop Go.Proofs.Tryz.prog F [3, 9, 96, 97, 98] [19, 58, 71, 90, 95, 111] b79_1 { r := (upd (upd (upd (upd (upd (fun _ => .u) 98 (.i .i64 0)) 97 (.i .i64 q'.length)) 96 (eP g q')) 9 (d)) 3 (.f F2 [] [])), own := own, out := out, nx := nx }
          (blockK 3 (seqK Go.Proofs.Tryz.prog F (.seq (.reg [⟨some 113, .mv (.t 9), none, 0⟩, ⟨some 8, .mv (.t 113), none, 1⟩] [] [] [8] [19, 58, 71, 90, 95, 111]) (.frz 8 .ret)) (Fin F [] out rv79 (eP false (mrgP fb fo p q))))) := by
      intro d own nx hR hO
      refine loop79b F2 fo ho q' g hq' (by omega) F out _ q' 0 (res' ++ p') d own nx rfl (by omega) (by simp; omega) hR hO (fun r d own nx hr hR => ?_)
      simp only [VV, zA, zB, List.append_nil, zF, zG, zH, zI, zJ, zK, zL, zM, zN, zQ, zR, zU, zV, zW', zX, zn, Nat.reduceBEq, reduceCtorEq, Nat.reduceLeDiff, Nat.reduceAdd, Int.reduceEq, Int.reduceNe, hr]
      refine frz_R (S := S79) (hR.on (by simp [upd])) rfl (fun f' own' nx' => ?_)
      simp only [VV, zA, zB, List.append_nil, zF, zG, zH, zI, zJ, zK, zL, zM, zN, zQ, zR, zU, zV, zW', zX, zn, Nat.reduceBEq, reduceCtorEq, Nat.reduceLeDiff, Nat.reduceAdd, Int.reduceEq, Int.reduceNe, rv79, fin_t, e3]
      exact weak_full _ _ _
    cases p' with
    | nil =>
      simp only [VV, zA, zB, List.append_nil, zF, zG, zH, zI, zJ, zK, zL, zM, zN, zQ, zR, zU, zV, zW', zX, zn, Nat.reduceBEq, reduceCtorEq, Nat.reduceLeDiff, Nat.reduceAdd, Int.reduceEq, Int.reduceNe, eP, elemsOf_sl]
      refine appO_R0 (S := S79) (es := res'.map eT) (hR.on (by simp [upd])) ?_
      simp only [VV, zA, zB, List.append_nil, zF, zG, zH, zI, zJ, zK, zL, zM, zN, zQ, zR, zU, zV, zW', zX, zn, Nat.reduceBEq, reduceCtorEq, Nat.reduceLeDiff, Nat.reduceAdd, Int.reduceEq, Int.reduceNe, eP, eP_len]
      refine fin _ _ _ ?_ ?_
      · rw [List.append_nil]; exact hR.on (by simp [upd])
      · repeat' first | exact hO | exact hb | exact OwnB.none _ | refine OwnB.updv (own := own) ?_ (hO.mono (by first | omega | (dsimp only; omega)))
    | cons t p' =>
      simp only [VV, zA, zB, List.append_nil, zF, zG, zH, zI, zJ, zK, zL, zM, zN, zQ, zR, zU, zV, zW', zX, zn, Nat.reduceBEq, reduceCtorEq, Nat.reduceLeDiff, Nat.reduceAdd, Int.reduceEq, Int.reduceNe, eP, elemsOf_sl]
      refine appO_R (S := S79) (es := res'.map eT) (hR.on (by simp [upd])) ?_ (by simp) (by simp at hl' ⊢; omega) (by simp at hl' ⊢; omega) (fun own' hb hoth hs => ?_)
      · dsimp only
        repeat' first | exact hO | exact hb | exact OwnB.none _ | refine OwnB.updv (own := own) ?_ (hO.mono (by first | omega | (dsimp only; omega)))
      · simp only [VV, zA, zB, List.append_nil, zF, zG, zH, zI, zJ, zK, zL, zM, zN, zQ, zR, zU, zV, zW', zX, zn, Nat.reduceBEq, reduceCtorEq, Nat.reduceLeDiff, Nat.reduceAdd, Int.reduceEq, Int.reduceNe, eP, eP_len]
        refine fin _ _ _ ?_ ?_
        · rw [List.map_append]; exact .at (by simp) hs (by simp)
        · repeat' first | exact hO | exact hb | exact OwnB.none _ | refine OwnB.updv (own := own') ?_ (hb.mono (by first | omega | (dsimp only; omega)))
theorem w81 (q : Rat) : FnR Go.Proofs.Tryz.prog 81 [rW q] [] (rW q) := by
  refine fnr81 (by simp) (nr_rW _) (by simp) List.nodup_nil fun F out hS => ?_
  unfold ir81
  simp only [VV, zA, zB, List.append_nil, zF, zG, zH, zI, zJ, zK, zL, zM, zN, zQ, zR, zU, zV, zW', zX, zn, Nat.reduceBEq, reduceCtorEq, Nat.reduceLeDiff, Nat.reduceAdd, Int.reduceEq, Int.reduceNe, rW_C, rC_len, takeC, dropC, rv81, fin_c]
  exact ⟨_, rfl, .refl _⟩
theorem w20 (p q : List Tm) (f g : Bool) {A : Nat} (hp : PB A p) (hq : PB A q) (hA : A ≤ 549755813888) (hl : p.length + q.length ≤ 1000000000000) : FnR Go.Proofs.Tryz.prog 20 [eP f p, eP g q] [] (eP false (addP p q)) := by
  refine fnr20 (by simp) (nr_eP _ _) (by simp) List.nodup_nil fun F out hS => ?_
  unfold ir20
  simp only [VV, zA, zB, List.append_nil, zF, zG, zH, zI, zJ, zK, zL, zM, zN, zQ, zR, zU, zV, zW', zX, zn, Nat.reduceBEq, reduceCtorEq, Nat.reduceLeDiff, Nat.reduceAdd, Int.reduceEq, Int.reduceNe]
  refine callO_intro (w79 80 81 (fun x y => x + y) id (A := A) (fun x y hx hy => q80 x y (by omega) (by omega)) (fun y _ => w81 y) p q f g hp hq hl) ?_
  simp only [VV, zA, zB, List.append_nil, zF, zG, zH, zI, zJ, zK, zL, zM, zN, zQ, zR, zU, zV, zW', zX, zn, Nat.reduceBEq, reduceCtorEq, Nat.reduceLeDiff, Nat.reduceAdd, Int.reduceEq, Int.reduceNe, rv20, fin_t]
  exact .refl _
theorem w21 (p q : List Tm) (f g : Bool) {A : Nat} (hp : PB A p) (hq : PB A q) (hA : A ≤ 549755813888) (hl : p.length + q.length ≤ 1000000000000) : FnR Go.Proofs.Tryz.prog 21 [eP f p, eP g q] [] (eP false (difP p q)) := by
  refine fnr21 (by simp) (nr_eP _ _) (by simp) List.nodup_nil fun F out hS => ?_
  unfold ir21
  simp only [VV, zA, zB, List.append_nil, zF, zG, zH, zI, zJ, zK, zL, zM, zN, zQ, zR, zU, zV, zW', zX, zn, Nat.reduceBEq, reduceCtorEq, Nat.reduceLeDiff, Nat.reduceAdd, Int.reduceEq, Int.reduceNe]
  refine callO_intro (w79 82 83 (fun x y => x - y) (fun y => -y) (A := A) (fun x y hx hy => q82 x y (by omega) (by omega)) (fun y hy => q83 y (by omega)) p q f g hp hq hl) ?_
  simp only [VV, zA, zB, List.append_nil, zF, zG, zH, zI, zJ, zK, zL, zM, zN, zQ, zR, zU, zV, zW', zX, zn, Nat.reduceBEq, reduceCtorEq, Nat.reduceLeDiff, Nat.reduceAdd, Int.reduceEq, Int.reduceNe, rv21, fin_t]
  exact .refl _
end Go.Vm.G

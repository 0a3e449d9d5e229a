/- A part of the proof of: Exponents above 65535 are refused, and powers beyond 64 (PolynomialLimits), for every input. -/
import Derived.Test.YtnjccbacinbhgaaGreatPmC2
import Derived.Shelf.SlSortCmp.WholeK
set_option linter.unusedSimpArgs false
set_option linter.unusedVariables false
namespace Go.Proofs
open Go.Shelf Go.RowKit Go.Lib Go.Sort
def Tryz.pdqTm_ren : Go.Shelf.Ren := ⟨fun | 14 => 161 | 20 => 181 | 21 => 182 | 22 => 183 | 23 => 184 | 24 => 185 | 25 => 186 | 26 => 187 | 27 => 188 | 46 => 200 | 47 => 201 | 48 => 202 | 49 => 203 | 50 => 204 | 15 => 162 | 57 => 205 | 28 => 189 | 29 => 190 | n => n, fun | 24 => 33 | 22 => 22 | 3 => 3 | 25 => 115 | 4 => 4 | 0 => 0 | 46 => 178 | 45 => 177 | 50 => 182 | 66 => 194 | 39 => 143 | 55 => 140 | 70 => 198 | 76 => 202 | 77 => 203 | 53 => 144 | 5 => 5 | 9 => 9 | n => n, fun | n => n⟩
theorem Tryz.pdqTm : Go.Proofs.SlLaysF0.n14 Tryz.prog Tryz.pdqTm_ren := {
  mixed := by kernel_rfl
  f14 := ⟨Tryz.f161.name, by decide, Tryz.func161.trans (congrArg some (by kernel_rfl))⟩
  f15 := Tryz.func162.trans (congrArg some (by kernel_rfl))
  f20 := ⟨Tryz.f181.name, by decide, Tryz.func181.trans (congrArg some (by kernel_rfl))⟩
  f21 := ⟨Tryz.f182.name, by decide, Tryz.func182.trans (congrArg some (by kernel_rfl))⟩
  f22 := ⟨Tryz.f183.name, by decide, Tryz.func183.trans (congrArg some (by kernel_rfl))⟩
  f23 := ⟨Tryz.f184.name, by decide, Tryz.func184.trans (congrArg some (by kernel_rfl))⟩
  f24 := ⟨Tryz.f185.name, by decide, Tryz.func185.trans (congrArg some (by kernel_rfl))⟩
  f25 := ⟨Tryz.f186.name, by decide, Tryz.func186.trans (congrArg some (by kernel_rfl))⟩
  f26 := ⟨Tryz.f187.name, by decide, Tryz.func187.trans (congrArg some (by kernel_rfl))⟩
  f27 := ⟨Tryz.f188.name, by decide, Tryz.func188.trans (congrArg some (by kernel_rfl))⟩
  f28 := Tryz.func189.trans (congrArg some (by kernel_rfl))
  f29 := Tryz.func190.trans (congrArg some (by kernel_rfl))
  f46 := ⟨Tryz.f200.name, by decide, Tryz.func200.trans (congrArg some (by kernel_rfl))⟩
  f47 := Tryz.func201.trans (congrArg some (by kernel_rfl))
  f48 := Tryz.func202.trans (congrArg some (by kernel_rfl))
  f49 := ⟨Tryz.f203.name, by decide, Tryz.func203.trans (congrArg some (by kernel_rfl))⟩
  f50 := ⟨Tryz.f204.name, by decide, Tryz.func204.trans (congrArg some (by kernel_rfl))⟩
  f57 := ⟨Tryz.f205.name, by decide, Tryz.func205.trans (congrArg some (by kernel_rfl))⟩
  t0 := Tryz.underlying0
  a0 := Tryz.isAgg0
  z0 := Tryz.sizeOf0
  v0 := Tryz.zeroValue0
  t3 := Tryz.underlying3
  a3 := Tryz.isAgg3
  z3 := Tryz.sizeOf3
  v3 := Tryz.zeroValue3
  t4 := Tryz.underlying4
  a4 := Tryz.isAgg4
  z4 := Tryz.sizeOf4
  v4 := Tryz.zeroValue4
  t5 := Tryz.underlying5
  a5 := Tryz.isAgg5
  z5 := Tryz.sizeOf5
  v5 := Tryz.zeroValue5
  t9 := Tryz.underlying9
  a9 := Tryz.isAgg9
  z9 := Tryz.sizeOf9
  v9 := Tryz.zeroValue9
  t22 := Tryz.underlying22
  a22 := Tryz.isAgg22
  z22 := Tryz.sizeOf22
  v22 := Tryz.zeroValue22
  t25 := Tryz.underlying115
  a25 := Tryz.isAgg115
  z25 := Tryz.sizeOf115
  v25 := Tryz.zeroValue115
  t39 := Tryz.underlying143
  a39 := Tryz.isAgg143
  z39 := Tryz.sizeOf143
  v39 := Tryz.zeroValue143
  t45 := Tryz.underlying177
  a45 := Tryz.isAgg177
  z45 := Tryz.sizeOf177
  v45 := Tryz.zeroValue177
  t46 := Tryz.underlying178
  a46 := Tryz.isAgg178
  z46 := Tryz.sizeOf178
  v46 := Tryz.zeroValue178
  t50 := Tryz.underlying182
  a50 := Tryz.isAgg182
  z50 := Tryz.sizeOf182
  v50 := Tryz.zeroValue182
  t53 := Tryz.underlying144
  a53 := Tryz.isAgg144
  z53 := Tryz.sizeOf144
  v53 := Tryz.zeroValue144
  t55 := Tryz.underlying140
  a55 := Tryz.isAgg140
  z55 := Tryz.sizeOf140
  v55 := Tryz.zeroValue140
  t66 := Tryz.underlying194
  a66 := Tryz.isAgg194
  z66 := Tryz.sizeOf194
  v66 := Tryz.zeroValue194
  t70 := Tryz.underlying198
  a70 := Tryz.isAgg198
  z70 := Tryz.sizeOf198
  v70 := Tryz.zeroValue198
  t76 := Tryz.underlying202
  a76 := Tryz.isAgg202
  z76 := Tryz.sizeOf202
  v76 := Tryz.zeroValue202
  t77 := Tryz.underlying203
  a77 := Tryz.isAgg203
  z77 := Tryz.sizeOf203
  v77 := Tryz.zeroValue203 }
end Go.Proofs
namespace Go.Vm
open Go Go.RowKit Go.Sort Go.Proofs
section
variable {α : Type} [Inhabited α] (enc : α → List Value) (k : Nat) (w : World) (blk m : Nat) (dk : Array α) (os : Array Go.Obj)
theorem sw_heap : (sortWorldK enc k w blk 0 m dk os).heap = w.heap.modify blk (onCells (putCells id 0 (flatK enc k dk))) ++ os := (rfl)
theorem sw_size : w.heap.size ≤ (sortWorldK enc k w blk 0 m dk os).heap.size := by rw [sw_heap, Array.size_append, Array.size_modify]; omega
theorem sw_other {x : Nat} (h : x < w.heap.size) (hx : x ≠ blk) : (sortWorldK enc k w blk 0 m dk os).heap[x]? = w.heap[x]? := by
  rw [sw_heap, Array.getElem?_append_left (by rw [Array.size_modify]; exact h), Array.getElem?_modify, if_neg (Ne.symm hx)]
theorem sw_row {vs : Array Value} {e : TypeId} {fr : Nat × Nat} (h : w.heap[blk]? = some (.cells vs e fr)) : (sortWorldK enc k w blk 0 m dk os).heap[blk]? = some (.cells (putCells id 0 (flatK enc k dk) vs) e fr) := by
  have hlt : blk < w.heap.size := (Array.getElem?_eq_some_iff.1 h).1
  rw [sw_heap, Array.getElem?_append_left (by rw [Array.size_modify]; exact hlt), Array.getElem?_modify, if_pos rfl, h]
  rfl
end
theorem putCells_size (off : Nat) (F vs : Array Value) : (putCells id off F vs).size = vs.size := by simp [putCells]
theorem putCells_get (F vs : Array Value) (t : Nat) (h : t < F.size) (h2 : t < vs.size) : (putCells id 0 F vs)[t]? = some F[t]! := by
  simp [putCells, h, h2]
theorem grown_of {W w' : World} (hos : w'.os = W.os) (ht : w'.tape = W.tape) (hd : W.drawn ≤ w'.drawn) (ho : w'.output = W.output) (hs : W.heap.size ≤ w'.heap.size) (hh : ∀ x, x < W.heap.size → w'.heap[x]? = W.heap[x]?) :
    ∃ q os', w' = Sort.grow (W.drewN q) os' := by
  refine ⟨w'.drawn - W.drawn, w'.heap.extract W.heap.size w'.heap.size, ?_⟩
  have e1 : W.heap ++ w'.heap.extract W.heap.size w'.heap.size = w'.heap := by
    apply Array.ext_getElem?
    intro x
    by_cases hx : x < W.heap.size
    · rw [Array.getElem?_append_left hx, hh x hx]
    · rw [Array.getElem?_append_right (by omega), Array.getElem?_extract]
      by_cases hx2 : x < w'.heap.size
      · rw [if_pos (by omega)]
        congr 1
        omega
      · rw [if_neg (by omega), Array.getElem?_eq_none (by omega)]
  obtain ⟨heap, tape, drawn, os, output⟩ := w'
  simp only [Sort.grow, World.drewN] at *
  subst hos ht ho
  congr 1
  · exact e1.symm
  · omega
end Go.Vm
namespace Go.Vm.G
open Go Go.Vm
open Nat renaming reduceBEq → sB, reduceLeDiff → sL, reduceAdd → sA
open Int renaming reduceEq → sE, reduceNe → sN
theorem cmpL_self : ∀ (a : List Int), cmpL a a = 0
  | [] => rfl
  | x :: a => by simp only [cmpL, Int.lt_irrefl, if_false]; exact cmpL_self a
theorem cmpL_anti : ∀ (a b : List Int), cmpL b a = - cmpL a b
  | [], [] => by simp [cmpL]
  | [], _ :: _ => by simp [cmpL]
  | _ :: _, [] => by simp [cmpL]
  | x :: a, y :: b => by
    simp only [cmpL]
    by_cases h1 : x < y
    · rw [if_neg (by omega), if_pos h1, if_pos h1]; rfl
    · by_cases h2 : y < x
      · rw [if_pos h2, if_neg h1, if_pos h2]
      · rw [if_neg h2, if_neg h1, if_neg h1, if_neg h2]; exact cmpL_anti a b
theorem cmpL_eq : ∀ (a b : List Int), a.length = b.length → cmpL a b = 0 → a = b
  | [], [], _, _ => rfl
  | x :: a, y :: b, hl, h => by
    simp only [cmpL] at h
    by_cases h1 : x < y
    · rw [if_pos h1] at h; omega
    · by_cases h2 : y < x
      · rw [if_neg h1, if_pos h2] at h; omega
      · rw [if_neg h1, if_neg h2] at h
        rw [show x = y by omega, cmpL_eq a b (by simpa using hl) h]
theorem cmpL_trans : ∀ (a b c : List Int), a.length = b.length → b.length = c.length → cmpL a b < 0 → cmpL b c < 0 → cmpL a c < 0
  | [], [], [], _, _, h, _ => by simp [cmpL] at h
  | x :: a, y :: b, z :: c, h1, h2, h, k => by
    simp only [cmpL] at h k ⊢
    by_cases q1 : x < y
    · by_cases q2 : y < z
      · rw [if_pos (by omega)]; omega
      · rw [if_neg q2] at k
        by_cases q3 : z < y
        · rw [if_pos q3] at k; omega
        · rw [if_pos (show x < z by omega)]; omega
    · rw [if_neg q1] at h
      by_cases q3 : y < x
      · rw [if_pos q3] at h; omega
      · rw [if_neg q3] at h
        have e : x = y := by omega
        subst e
        by_cases q2 : x < z
        · rw [if_pos q2]; omega
        · rw [if_neg q2] at k ⊢
          by_cases q4 : z < x
          · rw [if_pos q4] at k; omega
          · rw [if_neg q4] at k ⊢
            exact cmpL_trans a b c (by simpa using h1) (by simpa using h2) h k
def mO (e : List D) : List Int := (e.drop 4).map fun d => match d with | .i _ n => n | _ => 0
theorem mO_eT (t : Tm) : mO (eT t) = t.1 := by
  unfold mO
  rw [dropT, eM, List.map_map]
  have : ((fun d => match d with | D.i _ n => n | _ => 0) ∘ D.i IntKind.i64) = (id : Int → Int) := by funext n; rfl
  rw [this, List.map_id]
structure okEl (e : List D) : Prop where
  len : e.length = 12
  mlen : (mO e).length = 8
  cells : e.drop 4 = eM (mO e)
theorem okEl_eT {t : Tm} (h : t.1.length = 8) : okEl (eT t) := ⟨eT_len h, by rw [mO_eT]; exact h, by rw [mO_eT]; rfl⟩
theorem w134 (a b : List D) (ha : okEl a) (hb : okEl b) : FnR Go.Proofs.Tryz.prog 134 [.a a, .a b] [] (.i .i64 (cmpL (mO b) (mO a))) := by
  refine fnr134 (by simp) rfl (by simp) List.nodup_nil fun F out hS => ?_
  have bt : ∀ z, boxC (some (z, .box a)) z 4 8 = some (eM (mO a)) := fun z => by rw [boxC_s _ _ _ _ (by rw [ha.len]; decide), ha.cells, take8 ha.mlen]
  have bu : ∀ z, boxC (some (z, .box b)) z 4 8 = some (eM (mO b)) := fun z => by rw [boxC_s _ _ _ _ (by rw [hb.len]; decide), hb.cells, take8 hb.mlen]
  unfold ir134
  simp only [go_sem, sB, reduceCtorEq, sL, sA, sE, sN, bt, bu]
  refine callO_intro (w70 _ _ hb.mlen ha.mlen) ?_
  simp only [go_sem, sB, reduceCtorEq, sL, sA, sE, sN, rv134, fin_t]
  exact .refl _
theorem perm_unique : ∀ (l r : List (List D)), l.Perm r → l.Pairwise (fun a b => 0 < cmpL (mO a) (mO b)) → r.Pairwise (fun a b => ¬ cmpL (mO a) (mO b) < 0) → l = r := by
  intro l
  induction l with
  | nil => intro r hp _ _; exact (List.nil_perm.1 hp).symm
  | cons a l ih =>
    intro r hp h1 h2
    cases r with
    | nil => exact absurd hp (by simp)
    | cons b r =>
      by_cases hab : a = b
      · subst hab
        rw [ih r ((List.perm_cons a).1 hp) (List.pairwise_cons.1 h1).2 (List.pairwise_cons.1 h2).2]
      · exfalso
        have hb : b ∈ l := by
          have : b ∈ a :: l := hp.symm.subset (by simp)
          rcases List.mem_cons.1 this with h | h
          · exact absurd h.symm hab
          · exact h
        have ha : a ∈ r := by
          have : a ∈ b :: r := hp.subset (by simp)
          rcases List.mem_cons.1 this with h | h
          · exact absurd h hab
          · exact h
        have q1 := (List.pairwise_cons.1 h1).1 b hb
        have q2 := (List.pairwise_cons.1 h2).1 a ha
        rw [cmpL_anti] at q2
        omega
end Go.Vm.G
namespace Go.Vm.G
open Go Go.Vm Go.RowKit Go.Sort Go.Proofs
def El (w : World) (ok : Nat → Prop) (β : BMap) : Type := { x : List Value × List D // x.1.length = 12 ∧ (∀ v ∈ x.1, v.oneCell' = true) ∧ CellsR w ok β x.2 x.1 ∧ okEl x.2 }
def zVal : List Value := [.bool false, .slice none 0 0, .bool false, .slice none 0 0, .int .i64 0, .int .i64 0, .int .i64 0, .int .i64 0, .int .i64 0, .int .i64 0, .int .i64 0, .int .i64 0]
def zDat : List D := [.b false, .sl 1 true [], .b false, .sl 1 true [], .i .i64 0, .i .i64 0, .i .i64 0, .i .i64 0, .i .i64 0, .i .i64 0, .i .i64 0, .i .i64 0]
theorem vr_nil (w : World) (ok : Nat → Prop) (β : BMap) : VR w ok β (.sl 1 true []) (.slice none 0 0) := okConst_vr (v := .slice none 0 0) rfl w ok β
theorem zCells (w : World) (ok : Nat → Prop) (β : BMap) : CellsR w ok β zDat zVal := by
  intro q d hq
  have hlt : q < 12 := (List.getElem?_eq_some_iff.1 hq).1
  match q, hlt with
  | 0, _ | 2, _ => simp [zDat] at hq; subst hq; exact ⟨_, rfl, rfl, .b _⟩
  | 1, _ | 3, _ => simp [zDat] at hq; subst hq; exact ⟨_, rfl, rfl, vr_nil _ _ _⟩
  | 4, _ | 5, _ | 6, _ | 7, _ | 8, _ | 9, _ | 10, _ | 11, _ => simp [zDat] at hq; subst hq; exact ⟨_, rfl, rfl, .i _ _⟩
instance (w : World) (ok : Nat → Prop) (β : BMap) : Inhabited (El w ok β) := ⟨⟨(zVal, zDat), rfl, List.all_eq_true.1 (show zVal.all (·.oneCell') = true from rfl), zCells _ _ _, rfl, rfl, rfl⟩⟩
def encE {w : World} {ok : Nat → Prop} {β : BMap} (x : El w ok β) : List Value := x.1.1
def cfE {w : World} {ok : Nat → Prop} {β : BMap} (x y : El w ok β) : Int := cmpL (mO y.1.2) (mO x.1.2)
theorem swoE (w : World) (ok : Nat → Prop) (β : BMap) : SWO (ltOf (cfE (w := w) (ok := ok) (β := β))) := by
  refine ⟨fun x => by simp [ltOf, cfE, cmpL_self], fun x y z h1 h2 => ?_, fun x y z h1 h2 => ?_⟩
  · skip
    have h1 : cmpL (mO y.1.2) (mO x.1.2) < 0 := of_decide_eq_true h1
    have h2 : cmpL (mO z.1.2) (mO y.1.2) < 0 := of_decide_eq_true h2
    have lx := x.2.2.2.2.mlen
    have ly := y.2.2.2.2.mlen
    have lz := z.2.2.2.2.mlen
    exact decide_eq_true (cmpL_trans _ _ _ (by omega) (by omega) h2 h1)
  · skip
    have h1 : ¬ cmpL (mO y.1.2) (mO x.1.2) < 0 := of_decide_eq_false h1
    have h2 : ¬ cmpL (mO z.1.2) (mO y.1.2) < 0 := of_decide_eq_false h2
    have lx := x.2.2.2.2.mlen
    have ly := y.2.2.2.2.mlen
    have lz := z.2.2.2.2.mlen
    refine decide_eq_false (fun h => ?_)
    have h : cmpL (mO z.1.2) (mO x.1.2) < 0 := h
    by_cases e : cmpL (mO y.1.2) (mO x.1.2) = 0
    · rw [cmpL_eq _ _ (by omega) e] at h2
      exact h2 h
    · have h3 : cmpL (mO x.1.2) (mO y.1.2) < 0 := by rw [cmpL_anti]; omega
      exact h2 (cmpL_trans _ _ _ (by omega) (by omega) h h3)
theorem isAggTm : ∀ w, (isAgg (Tryz.pdqTm_ren.t 24)).run Tryz.prog w = .ok true w := fun w => run_isAgg (by decide +kernel)
theorem sizeTm : ∀ w, (Go.sizeOf (Tryz.pdqTm_ren.t 24)).run Tryz.prog w = .ok 12 w := fun w => run_sizeOf (by decide +kernel)
theorem enters134 : ∀ args w, (callFunc 134 args).run Tryz.prog w = .ok (.enter 134 args) w := by
  obtain ⟨⟨fn, hf, hb, hname⟩, _⟩ := w134 zDat zDat ⟨rfl, rfl, rfl⟩ ⟨rfl, rfl, rfl⟩
  intro args w
  simp only [callFunc, Sem.run_bind, run_program, Result.andThen_ok, hf, hname, hb, Bool.false_eq_true, if_false, Sem.run_pure]
theorem f161 : ∃ fn, Tryz.prog.funcs[161]? = some fn ∧ fn.body.isNone = false ∧ (fn.name == "runtime.NumGoroutine") = false := ⟨_, Tryz.func161, rfl, rfl⟩
theorem fn161 {es es' : List (List D)} (hes : ∀ e ∈ es, okEl e) (hp : es'.Perm es) (hs : es'.Pairwise (fun a b => 0 < cmpL (mO a) (mO b))) (hn : es.length < 4611686018427387904) (key : Key) (st lim : Nat) (hlim : lim < 4611686018427387904) :
    FnR Tryz.prog 161 [.w key st 12 0 es.length, .i .i64 0, .i .i64 es.length, .i .i64 lim, .f 134 [] []] [⟨key, st, .row 12 es, .row 12 es'⟩] (.t []) := by
  refine ⟨f161, fun w β F ok vals hvl hv hoks hlow hups hinj => ?_⟩
  obtain ⟨x, hx, hxok, hxlt, hM, _⟩ := hups _ (List.mem_singleton.2 rfl)
  match vals, hvl with
  | [v0, v1, v2, v3, v4], _ =>
  have h0 := hv 0 _ v0 rfl rfl
  have h1 := hv 1 _ v1 rfl rfl
  have h2 := hv 2 _ v2 rfl rfl
  have h3 := hv 3 _ v3 rfl rfl
  have h4 := hv 4 _ v4 rfl rfl
  clear hv
  cases h1; cases h2; cases h3
  cases h4 with
  | f _ _ _ fs cs hl1 hl2 _ _ =>
  have : fs = [] := List.length_eq_zero_iff.1 hl1.symm
  subst this
  have : cs = [] := List.length_eq_zero_iff.1 hl2.symm
  subst this
  cases h0 with
  | w _ _ _ _ _ blk c hb hc hm hsz =>
  have hx : β key st = some x := hx
  rw [hb] at hx
  injection hx with hx
  subst hx
  obtain ⟨vs, ety, hvs, hsz12, hcells⟩ := hM
  generalize hN : es.length = n at *
  have hfl : es.flatten.length = n * 12 := by rw [flatten_length hsz12, hN]
  have hvs12 : n * 12 ≤ vs.size := by
    cases n with
    | zero => omega
    | succ n =>
      have hq : n * 12 + 11 < es.flatten.length := by omega
      obtain ⟨v, h5, _⟩ := hcells _ _ (List.getElem?_eq_getElem hq)
      have := (List.getElem?_eq_some_iff.1 h5).1
      simp only [Array.length_toList] at this
      omega
  have mk : ∀ i, i < n → ∃ x : El w ok β, x.1.1 = (vs.toList.drop (i * 12)).take 12 ∧ es[i]? = some x.1.2 := by
    intro i hi
    have he : es[i]? = some (es[i]'(by omega)) := List.getElem?_eq_getElem _
    have hmem := List.mem_of_getElem? he
    have ht := hcells.take (i * 12) 12 (by omega)
    have e2 := flatten_drop hsz12 he 0 12 (by rw [hsz12 _ hmem]; omega)
    rw [Nat.add_zero, List.drop_zero, List.take_of_length_le (l := es[i]'(by omega)) (by rw [hsz12 _ hmem]; omega)] at e2
    rw [e2] at ht
    have hl : ((vs.toList.drop (i * 12)).take 12).length = 12 := by simp; omega
    refine ⟨⟨((vs.toList.drop (i * 12)).take 12, es[i]'(by omega)), hl, ?_, ht, hes _ hmem⟩, rfl, he⟩
    intro v hv
    obtain ⟨j, hj, rfl⟩ := List.mem_iff_getElem.1 hv
    have hj12 : j < 12 := by have := hj; rw [hl] at this; exact this
    obtain ⟨v', h6, h7, _⟩ := ht j _ (List.getElem?_eq_getElem (show j < (es[i]'(by omega)).length by rw [hsz12 _ hmem]; omega))
    rw [List.getElem?_eq_getElem hj] at h6
    injection h6 with h6
    rw [h6]; exact h7
  obtain ⟨f, hf⟩ : ∃ f : Nat → El w ok β, ∀ i, i < n → (f i).1.1 = (vs.toList.drop (i * 12)).take 12 ∧ es[i]? = some (f i).1.2 :=
    ⟨fun i => if h : i < n then (mk i h).choose else default, fun i h => by simp only [h, dite_true]; exact (mk i h).choose_spec⟩
  obtain ⟨d, hds, hdi⟩ : ∃ d : Array (El w ok β), d.size = n ∧ ∀ i, i < n → d[i]! = f i := ⟨(Array.range n).map f, by simp, fun i h => by simp [h]⟩
  have hH : HoldsK encE 12 w blk 0 d := by
    intro t ht
    rw [size_flatK, hds] at ht
    rw [get_flatK _ _ _ _ (by rw [hds]; exact ht)]
    have h7 : t / 12 < n := by omega
    rw [hdi _ h7]
    unfold encE
    rw [(hf _ h7).1]
    have e3 : ((vs.toList.drop (t / 12 * 12)).take 12)[t % 12]! = vs[t]'(by omega) := by
      rw [getElem!_pos _ _ (by simp; omega), List.getElem_take, List.getElem_drop, Array.getElem_toList]
      congr 1
      omega
    rw [e3, Nat.zero_add]
    refine ⟨?_, ?_⟩
    · simp only [World.cell?, hvs, Option.isSome_none, Bool.false_eq_true, if_false]
      rw [Array.getElem?_eq_getElem]; rfl
    · simp only [World.frozen?, hvs]
      simp
  have hup : ∀ (W : World), (∀ x, ok x → W.heap[x]? = w.heap[x]?) → SizeKept β w W → ∀ (ok' : Nat → Prop), (∀ x, ok x → ok' x) → ∀ d v, VR w ok β d v → VR W ok' β d v :=
    fun W h1 h2 ok' h3 d v h => h.mono (fun x hx => ⟨h3 x hx, h1 x hx⟩) (.refl _) h2
  have kept : ∀ m (dk : Array (El w ok β)) os, SizeKept β w (sortWorldK encE 12 w blk 0 m dk os) := by
    intro m dk os k s x vs' e' hb' hv'
    by_cases hxb : x = blk
    · subst hxb
      exact ⟨_, sw_row encE 12 w x m dk os hv', putCells_size _ _ _⟩
    · exact ⟨vs', by rw [sw_other encE 12 w blk m dk os (hlow _ _ _ hb').2 hxb]; exact hv', rfl⟩
  have same : ∀ m (dk : Array (El w ok β)) os x, ok x → (sortWorldK encE 12 w blk 0 m dk os).heap[x]? = w.heap[x]? :=
    fun m dk os x hx => sw_other encE 12 w blk m dk os (hoks x hx) (fun e => hxok (e ▸ hx))
  have hcmp : CmpLays (α := El w ok β) Tryz.prog 134 #[] encE 12 cfE blk 0 d.size w := by
    intro m os dk hdk a b
    have hW := w134 a.1.2 b.1.2 a.2.2.2.2 b.2.2.2.2
    have := hW.2 (sortWorldK encE 12 w blk 0 m dk os) β F ok [.agg (encE a).toArray, .agg (encE b).toArray] rfl (fun j d v hj hv => ?_)
      (fun x hx => Nat.lt_of_lt_of_le (hoks x hx) (sw_size encE 12 w blk m dk os)) (fun k s x hb => ⟨(hlow k s x hb).1, Nat.lt_of_lt_of_le (hlow k s x hb).2 (sw_size encE 12 w blk m dk os)⟩) (by simp) (by simp)
    · refine this.mono fun e w' he => ?_
      obtain ⟨v, rfl, g1, g2, g3, g4, g5, g6, g7, g8⟩ := he
      cases g8
      exact ⟨rfl, grown_of g1 g2.tape g2.drawn g3 g4 (fun x hx => g5 x hx (by simp))⟩
    · have hA : ∀ a : El w ok β, VR (sortWorldK encE 12 w blk 0 m dk os) ok β (.a a.1.2) (.agg (encE a).toArray) := by
        intro a
        refine .a _ _ (by rw [a.2.2.2.2.len]; exact a.2.1.symm) (fun j d v hj hv => ?_) a.2.2.1
        obtain ⟨v', q1, q2, q3⟩ := a.2.2.2.1 j d hj
        have hv : a.1.1[j]? = some v := hv
        rw [hv] at q1
        injection q1 with q1
        subst q1
        exact hup _ (same m dk os) (kept m dk os) ok (fun _ h => h) _ _ q3
      match j with
      | 0 => simp at hj hv; subst hj hv; exact hA a
      | 1 => simp at hj hv; subst hj hv; exact hA b
      | j + 2 => simp at hj
  have R : RowK encE 12 w blk 0 d := ⟨fun x => x.2.1, fun x => x.2.2.1, hH, hxlt⟩
  have hmain := AnyQ.pdqsortCmpFunc_all Tryz.pdqTm 12 isAggTm sizeTm encE cfE 134 #[] (swoE w ok β) blk 0 c d w enters134 hcmp R (n + 1) 0 d.size lim d w (by omega) rfl (SWK.start hH) (Nat.zero_le _) (Nat.le_refl _) (by omega) hlim (Or.inl rfl)
  obtain ⟨hperm, hsort⟩ := pdq_sorts (ltOf cfE) (swoE w ok β) d 0 d.size lim true true (Nat.zero_le _) (Nat.le_refl _) (Or.inl rfl)
  generalize pdq (ltOf cfE) d 0 d.size lim true true = d' at hmain hperm hsort
  have hperm' : (d'.toList.map (·.1.2)).Perm es := by
    have e1 : d.toList.map (·.1.2) = es := by
      apply List.ext_getElem?
      intro i
      rw [List.getElem?_map]
      by_cases hi : i < n
      · rw [(hf i hi).2, Array.getElem?_toList, Array.getElem?_eq_getElem (by omega), Option.map_some, ← getElem!_pos d i (by omega), hdi i hi]
      · rw [List.getElem?_eq_none (by rw [Array.length_toList]; omega), List.getElem?_eq_none (by omega)]; rfl
    rw [← e1]
    refine List.Perm.map _ ?_
    have := hperm.2.2
    rw [hds, show n = d'.size by rw [hperm.1, hds]] at this
    rw [Array.extract_size] at this
    rw [hperm.1, Array.extract_size] at this
    exact this
  have hds' : d'.size = n := by rw [hperm.1, hds]
  have hsorted : (d'.toList.map (·.1.2)).Pairwise (fun a b => ¬ cmpL (mO a) (mO b) < 0) := by
    rw [List.pairwise_map, List.pairwise_iff_getElem]
    intro i j hi hj hij
    rw [Array.length_toList] at hi hj
    have := hsort i j (Nat.zero_le _) hij (by omega)
    have := of_decide_eq_false this
    rw [getElem!_pos d' i hi, getElem!_pos d' j hj] at this
    simp only [Array.getElem_toList]
    exact this
  have heq : es' = d'.toList.map (·.1.2) := perm_unique _ _ (hp.trans hperm'.symm) hs hsorted
  rw [hds] at hmain
  refine Calls.mono (P := Tryz.prog) (R := fun e w' => e = .returned (.tuple #[]) ∧ SWK encE 12 w blk 0 d' w') ?_ ?_
  · have e0 : (0 : Nat) * 12 = 0 := rfl
    exact hmain
  · rintro e w' ⟨rfl, m, os, rfl⟩
    refine ⟨_, rfl, rfl, ⟨rfl, Nat.le_add_right _ _⟩, rfl, sw_size _ _ _ _ _ _ _, fun x hx hne => ?_, fun x vs' e' hx hv' => ?_, fun u hu x hb' => ?_, .t [] [] rfl (by simp)⟩
    · exact sw_other encE 12 w blk m d' os hx (fun e => hne _ (List.mem_singleton.2 rfl) (e ▸ hb))
    · by_cases hxb : x = blk
      · subst hxb
        exact ⟨_, sw_row encE 12 w x m d' os hv', putCells_size _ _ _⟩
      · exact ⟨vs', by rw [sw_other encE 12 w blk m d' os hx hxb]; exact hv', rfl⟩
    · rw [List.mem_singleton] at hu
      subst hu
      have hb' : β key st = some x := hb'
      rw [hb] at hb'
      injection hb' with hb'
      subst hb'
      refine ⟨_, _, sw_row encE 12 w blk m d' os hvs, fun e he => hsz12 e (hp.subset he), ?_⟩
      intro q dq hq
      have hlen' : es'.length = n := by rw [hp.length_eq, hN]
      have h12' : ∀ e ∈ es', e.length = 12 := fun e he => hsz12 e (hp.subset he)
      have hqlt : q < n * 12 := by have := (List.getElem?_eq_some_iff.1 hq).1; rw [flatten_length h12', hlen'] at this; exact this
      have hqi : q / 12 < n := by omega
      have e4 : q = q / 12 * 12 + q % 12 := by omega
      rw [e4, flatten_get _ _ h12' (by omega)] at hq
      have e5 : es'[q / 12]? = some (d'[q / 12]!).1.2 := by
        rw [heq, List.getElem?_map, Array.getElem?_toList, Array.getElem?_eq_getElem (by omega), Option.map_some, getElem!_pos d' _ (by omega)]
      rw [e5] at hq
      obtain ⟨v, q1, q2, q3⟩ := (d'[q / 12]!).2.2.2.1 _ dq hq
      refine ⟨v, ?_, q2, hup _ (same m d' os) (kept m d' os) _ (fun x hx => .inl hx) _ _ q3⟩
      rw [Array.getElem?_toList, putCells_get _ _ _ (by rw [size_flatK, hds']; exact hqlt) (by omega), get_flatK _ _ _ _ (by rw [hds']; exact hqlt)]
      have hl12 := (d'[q / 12]!).2.1
      have : (encE d'[q / 12]!)[q % 12]! = v := by
        unfold encE
        rw [getElem!_pos _ _ (by rw [hl12]; omega)]
        rw [List.getElem?_eq_getElem (by rw [hl12]; omega)] at q1
        injection q1
      rw [this]
end Go.Vm.G
namespace Go.Vm.G
open Go Go.Vm
open Nat renaming reduceBEq → sB, reduceLeDiff → sL, reduceAdd → sA
open Int renaming reduceEq → sE, reduceNe → sN
theorem w190 (x : Nat) (hx : x < 4294967296) : FnR Go.Proofs.Tryz.prog 190 [.i .u64 x] [] (.i .i64 (blen x : Nat)) := by
  refine fnr190 (by simp) rfl (by simp) List.nodup_nil fun F out hS => ?_
  unfold ir190
  have u8 : ∀ m : Nat, m < 256 → IntKind.wrap .u8 (m : Int) = (m : Int) := fun m hm => by rw [IntKind.wrap_u8']; omega
  have bl : ∀ m : Nat, m < 256 → blen m ≤ 8 := by
    intro m hm
    by_cases h : m = 0
    · rw [h]; decide
    · obtain ⟨g1, g2, g3⟩ := blen_spec h
      apply Classical.byContradiction
      intro hn
      have := Nat.pow_le_pow_right (show 0 < 2 by decide) (show 8 ≤ blen m - 1 by omega)
      omega
  have i64 : ∀ m : Nat, m ≤ 64 → IntKind.wrap .i64 (m : Int) = (m : Int) := fun m hm => IntWalk.i64_in _ (by omega)
  have ad : ∀ a b : Nat, a + b ≤ 64 → IntKind.wrap .i64 ((a : Int) + (b : Int)) = ((a + b : Nat) : Int) := fun a b h => by rw [← Int.natCast_add]; exact i64 _ h
  have c0 : decide (((x : Nat) : Int) ≥ 4294967296) = false := decide_eq_false (by omega)
  by_cases h1 : 65536 ≤ x
  · have c1 : decide (((x : Nat) : Int) ≥ 65536) = true := decide_eq_true (by omega)
    have s1 := shr_c .u64 .u64 x 16 16 rfl (by decide)
    have d1 : blen x = 16 + blen (x / 2 ^ 16) := blen_div (j := 16) (by omega)
    have hy : x / 2 ^ 16 < 65536 := by omega
    generalize x / 2 ^ 16 = y at *
    by_cases h2 : 256 ≤ y
    · have c2 : decide (((y : Nat) : Int) ≥ 256) = true := decide_eq_true (by omega)
      have s2 := shr_c .u64 .u64 y 8 8 rfl (by decide)
      have d2 : blen y = 8 + blen (y / 2 ^ 8) := blen_div (j := 8) (by omega)
      have hw : y / 2 ^ 8 < 256 := by omega
      generalize y / 2 ^ 8 = w at *
      have b1 := bl w hw
      have a1 : IntKind.wrap .i64 ((16 : Int) + 8) = ((24 : Nat) : Int) := by decide
      simp only [go_sem, sB, reduceCtorEq, sL, sA, sE, sN, c0, c1, s1, c2, s2, u8 w hw]
      rw [tab_len _ (by decide +kernel) hw]
      simp only [go_sem, sB, reduceCtorEq, sL, sA, sE, sN, i64 (blen w) (by omega), show IntKind.wrap .i64 ((0 : Int) + 16) = 16 from by decide, a1, ad 24 (blen w) (by omega), rv190, fin_t]
      rw [d1, d2, ← Nat.add_assoc]
      exact .refl _
    · have c2 : decide (((y : Nat) : Int) ≥ 256) = false := decide_eq_false (by omega)
      have b1 := bl y (by omega)
      have a2 : IntKind.wrap .i64 ((16 : Int) + (blen y : Int)) = ((16 + blen y : Nat) : Int) := ad 16 (blen y) (by omega)
      simp only [go_sem, sB, reduceCtorEq, sL, sA, sE, sN, c0, c1, s1, c2, u8 y (by omega)]
      rw [tab_len _ (by decide +kernel) (show y < 256 by omega)]
      simp only [go_sem, sB, reduceCtorEq, sL, sA, sE, sN, i64 (blen y) (by omega), show IntKind.wrap .i64 ((0 : Int) + 16) = 16 from by decide, a2, rv190, fin_t]
      rw [d1]
      exact .refl _
  · have c1 : decide (((x : Nat) : Int) ≥ 65536) = false := decide_eq_false (by omega)
    by_cases h2 : 256 ≤ x
    · have c2 : decide (((x : Nat) : Int) ≥ 256) = true := decide_eq_true (by omega)
      have s2 := shr_c .u64 .u64 x 8 8 rfl (by decide)
      have d2 : blen x = 8 + blen (x / 2 ^ 8) := blen_div (j := 8) (by omega)
      have hw : x / 2 ^ 8 < 256 := by omega
      generalize x / 2 ^ 8 = w at *
      have b1 := bl w hw
      have a1 : IntKind.wrap .i64 ((0 : Int) + 8) = ((8 : Nat) : Int) := by decide
      simp only [go_sem, sB, reduceCtorEq, sL, sA, sE, sN, c0, c1, c2, s2, u8 w hw]
      rw [tab_len _ (by decide +kernel) hw]
      simp only [go_sem, sB, reduceCtorEq, sL, sA, sE, sN, i64 (blen w) (by omega), a1, ad 8 (blen w) (by omega), rv190, fin_t]
      rw [d2]
      exact .refl _
    · have c2 : decide (((x : Nat) : Int) ≥ 256) = false := decide_eq_false (by omega)
      have b1 := bl x (by omega)
      have a2 : IntKind.wrap .i64 ((0 : Int) + (blen x : Int)) = ((blen x : Nat) : Int) := by rw [Int.zero_add]; exact i64 _ (by omega)
      simp only [go_sem, sB, reduceCtorEq, sL, sA, sE, sN, c0, c1, c2, u8 x (by omega)]
      rw [tab_len _ (by decide +kernel) (show x < 256 by omega)]
      simp only [go_sem, sB, reduceCtorEq, sL, sA, sE, sN, i64 (blen x) (by omega), a2, rv190, fin_t]
      exact .refl _
theorem w162 (x : Nat) (hx : x < 4294967296) : FnR Go.Proofs.Tryz.prog 162 [.i .u64 x] [] (.i .i64 (blen x : Nat)) := by
  refine fnr162 (by simp) rfl (by simp) List.nodup_nil fun F out hS => ?_
  unfold ir162
  simp only [go_sem, sB, reduceCtorEq, sL, sA, sE, sN]
  refine callO_intro (w190 x hx) ?_
  simp only [go_sem, sB, reduceCtorEq, sL, sA, sE, sN, rv162, fin_t]
  exact .refl _
theorem w133 {es es' : List (List D)} (hes : ∀ e ∈ es, okEl e) (hp : es'.Perm es) (hs : es'.Pairwise (fun a b => 0 < cmpL (mO a) (mO b))) (hnr : nrLL es' = true) (hn : es.length < 4294967296) (key : Key) (st : Nat) :
    FnR Go.Proofs.Tryz.prog 133 [.w key st 12 0 es.length, .f 134 [] []] [⟨key, st, .row 12 es, .row 12 es'⟩] (.t []) := by
  refine fnr133 (by simp) rfl (by simp [Obj.nr, hnr]) (by simp) fun F out hS => ?_
  have hF : key.1 ≠ F := by have := hS.low _ (List.mem_singleton.2 rfl); simp only at this; omega
  have ho := hS.old _ (List.mem_singleton.2 rfl)
  simp only at ho
  have e1 : IntKind.wrap .u64 ((es.length : Nat) : Int) = ((es.length : Nat) : Int) := by rw [IntKind.wrap_u64]; omega
  have hb := blen_le32 hn
  unfold ir133
  simp only [go_sem, sB, reduceCtorEq, sL, sA, sE, sN, e1]
  refine callO_intro (w162 _ hn) ?_
  simp only [go_sem, sB, reduceCtorEq, sL, sA, sE, sN]
  refine callRO_one (fn161 hes hp hs (by omega) key st (blen es.length) (by omega)) (by simp only [go_sem, sB, reduceCtorEq, sL, sA, sE, sN, look_out hF, ho]) (by simp) ?_
  simp only [go_sem, sB, reduceCtorEq, sL, sA, sE, sN, set_out hF, rv133, fin_n, outOf_one]
theorem callRO_none {P : Program} {fr : Nat} {f : FuncId} {args : List D} {dst : Option Nat} {st : St} {K : St → Prop} {d : D} (h : FnR P f args [] d) (hk : K (st.put dst d)) : @callRO P fr f args dst st ⟨K⟩ := ⟨[], d, h, by simp, List.nodup_nil, hk⟩
theorem w181_0 (f : Bool) : FnR Go.Proofs.Tryz.prog 181 [.sl 12 f [], .i .i64 0, .i .i64 0, .f 134 [] []] [] (.t []) := by
  refine fnr181 (by simp) rfl (by simp) List.nodup_nil fun F out hS => ?_
  unfold ir181
  have e1 : IntKind.wrap .i64 ((0 : Int) + 1) = 1 := by decide
  simp only [go_sem, sB, reduceCtorEq, sL, sA, sE, sN, e1]
  refine Loop.stepW ?_
  simp only [go_sem, sB, reduceCtorEq, sL, sA, sE, sN, wb181_1, show decide ((1 : Int) < 0) = false from rfl, rv181, fin_n]
  rfl
theorem w161_0 (f : Bool) : FnR Go.Proofs.Tryz.prog 161 [.sl 12 f [], .i .i64 0, .i .i64 0, .i .i64 0, .f 134 [] []] [] (.t []) := by
  refine fnr161 (by simp) rfl (by simp) List.nodup_nil fun F out hS => ?_
  unfold ir161
  have e1 : IntKind.wrap .i64 ((0 : Int) - 0) = 0 := by decide
  simp only [go_sem, sB, reduceCtorEq, sL, sA, sE, sN, e1]
  refine Loop.stepW ?_
  simp only [go_sem, sB, reduceCtorEq, sL, sA, sE, sN, wb161_0, e1, show decide ((0 : Int) ≤ 12) = true from rfl]
  refine callRO_none (w181_0 f) ?_
  simp only [go_sem, sB, reduceCtorEq, sL, sA, sE, sN, rv161, fin_nr]
  rfl
theorem w133_0 (f : Bool) : FnR Go.Proofs.Tryz.prog 133 [.sl 12 f [], .f 134 [] []] [] (.t []) := by
  refine fnr133 (by simp) rfl (by simp) List.nodup_nil fun F out hS => ?_
  unfold ir133
  have e1 : IntKind.wrap .u64 ((0 : Nat) : Int) = ((0 : Nat) : Int) := by decide
  simp only [go_sem, sB, reduceCtorEq, sL, sA, sE, sN, e1]
  refine callO_intro (w162 0 (by omega)) ?_
  simp only [go_sem, sB, reduceCtorEq, sL, sA, sE, sN]
  refine callRO_none (w161_0 f) ?_
  simp only [go_sem, sB, reduceCtorEq, sL, sA, sE, sN, rv133, fin_n]
  rfl
def eK (l : List Tm) : List (D × D) := l.map fun t => (.a (eM t.1), rW t.2)
def putM : List Tm → List Int → Rat → List Tm
  | [], m, c => [(m, c)]
  | t :: l, m, c => if m = t.1 then (m, c) :: l else t :: putM l m c
def getM : List Tm → List Int → Option Rat
  | [], _ => none
  | t :: l, m => if m = t.1 then some t.2 else getM l m
def addM (l : List Tm) (m : List Int) (c : Rat) : List Tm := putM l m (match getM l m with | some o => o + c | none => c)
theorem keyM {a b : List Int} (ha : a.length = 8) (hb : b.length = 8) : keyEq 8 (.a (eM a)) (.a (eM b)) = some (decide (a = b)) := by
  simp only [keyEq, len8 ha, len8 hb, and_self, if_true, intsEq_eM a b (by omega)]
theorem mfind_eK {m : List Int} (hm : m.length = 8) : ∀ (l : List Tm) (i : Nat), (∀ t ∈ l, t.1.length = 8) →
    (getM l m = none → mfind 8 (.a (eM m)) (eK l) i = some none) ∧ (∀ q, getM l m = some q → ∃ j, mfind 8 (.a (eM m)) (eK l) i = some (some (j, rW q)))
  | [], i, _ => by simp [getM, eK, mfind]
  | t :: l, i, hl => by
    have ih := mfind_eK hm l (i + 1) (fun u hu => hl u (by simp [hu]))
    have ht := hl t (by simp)
    simp only [getM]
    by_cases h : m = t.1
    · have e : mfind 8 (.a (eM m)) (eK (t :: l)) i = some (some (i, rW t.2)) := by
        simp only [eK, List.map_cons, mfind, keyM hm ht, decide_eq_true h]
      rw [if_pos h, e]
      refine ⟨by simp, fun q hq => ⟨i, ?_⟩⟩
      injection hq with hq
      rw [hq]
    · have e : mfind 8 (.a (eM m)) (eK (t :: l)) i = mfind 8 (.a (eM m)) (eK l) (i + 1) := by
        simp only [eK, List.map_cons, mfind, keyM hm ht, decide_eq_false h]
      rw [if_neg h, e]
      exact ih
theorem mput_eK {m : List Int} (hm : m.length = 8) (c : Rat) : ∀ (l : List Tm), (∀ t ∈ l, t.1.length = 8) → mput 8 (.a (eM m)) (rW c) (eK l) = some (eK (putM l m c))
  | [], _ => by simp [putM, eK, mput]
  | t :: l, hl => by
    have ih := mput_eK hm c l (fun u hu => hl u (by simp [hu]))
    have ht := hl t (by simp)
    by_cases h : m = t.1
    · simp only [eK, List.map_cons, mput, keyM hm ht, decide_eq_true h, putM, if_pos h]
    · simp only [eK, List.map_cons, mput, keyM hm ht, decide_eq_false h, putM, if_neg h] at ih ⊢
      rw [ih]
      rfl
theorem nrL_eK1 : ∀ (l : List Tm), nrL ((eK l).map (·.1)) = true ∧ nrL ((eK l).map (·.2)) = true
  | [] => ⟨rfl, rfl⟩
  | t :: l => by
    have := nrL_eK1 l
    simp only [eK, List.map_cons, nrL, D.nr, nrL_eM, nr_rW, Bool.true_and] at this ⊢
    exact this
theorem nr_map (l : List Tm) : Obj.nr (.map (eK l)) = true := by
  have := nrL_eK1 l
  simp only [Obj.nr, this.1, this.2, Bool.and_self]
theorem getM_lq {A : Nat} : ∀ {l : List Tm} {m : List Int} {q : Rat}, PB A l → getM l m = some q → LQ q ≤ A
  | [], _, _, _, h => by simp [getM] at h
  | t :: l, m, q, hp, h => by
    simp only [getM] at h
    split at h
    · injection h with h
      rw [← h]; exact hp.head.2
    · exact getM_lq hp.tail h
theorem w75 (l : List Tm) (c : Rat) (m : List Int) {A : Nat} (hl : PB A l) (hm : m.length = 8) (hc : LQ c ≤ A) (hA : A ≤ 549755813888) (key : Key) (z : Nat) :
    FnR Go.Proofs.Tryz.prog 75 [.m key z, rW c, .a (eM m)] [⟨key, z, .map (eK l), .map (eK (addM l m c))⟩] (.t []) := by
  refine fnr75 (by simp) rfl (by simp [nr_map]) (by simp) fun F out hS => ?_
  have hF : key.1 ≠ F := by have := hS.low _ (List.mem_singleton.2 rfl); simp only at this; omega
  have ho := hS.old _ (List.mem_singleton.2 rfl)
  simp only at ho
  have bm : ∀ z, boxC (some (z, .box (eM m))) z 0 8 = some (eM m) := fun z => by rw [boxC_s _ _ _ _ (by rw [len8 hm]; decide), List.drop_zero, take8 hm]
  have bc : ∀ z q, boxC (some (z, .box (rC q))) z 0 4 = some (rC q) := fun z q => by rw [boxC_s _ _ _ _ (by rw [rC_len]; decide), List.drop_zero, takeC]
  have hk : keyEq 8 (.a (eM m)) (.a (eM m)) = some true := by rw [keyM hm hm]; simp
  unfold ir75
  cases hg : getM l m with
  | none =>
    have h1 := (mfind_eK hm l 0 hl.len).1 hg
    have e : addM l m c = putM l m c := by simp only [addM, hg]
    rw [e]
    simp only [go_sem, sB, reduceCtorEq, sL, sA, sE, sN, rW_C, mg_m, look_out hF, ho, bm, bc, mgO_none hk h1 (vz := [.b false, .sl 1 true [], .b false, .sl 1 true []]) (agg := true) rfl]
    refine msO_intro (es := eK l) (es' := eK (putM l m c)) ?_ hk (mput_eK hm c l hl.len) ?_
    · rw [look_out hF]; exact ho
    · simp only [go_sem, sB, reduceCtorEq, sL, sA, sE, sN, set_out hF, rv75, fin_n, outOf_one]
  | some q =>
    obtain ⟨j, h1⟩ := (mfind_eK hm l 0 hl.len).2 q hg
    have hq := getM_lq hl hg
    have e : addM l m c = putM l m (q + c) := by simp only [addM, hg]
    rw [e]
    simp only [go_sem, sB, reduceCtorEq, sL, sA, sE, sN, rW_C, mg_m, look_out hF, ho, bm, bc, mgO_some hk h1, rC_len, takeC, dropC]
    refine callO_intro (q80 q c (by omega) (by omega)) ?_
    simp only [go_sem, sB, reduceCtorEq, sL, sA, sE, sN, rW_C, rC_len, takeC, dropC, bm, bc]
    refine msO_intro (es := eK l) (es' := eK (putM l m (q + c))) ?_ hk (mput_eK hm (q + c) l hl.len) ?_
    · rw [look_out hF]; exact ho
    · simp only [go_sem, sB, reduceCtorEq, sL, sA, sE, sN, set_out hF, rv75, fin_n, outOf_one]
def outS (l : List Tm) : List Nat → List Tm
  | [] => []
  | j :: s => (match l[j]? with | some t => if t.2 = 0 then [] else [t] | none => []) ++ outS l s
theorem outS_app (l : List Tm) : ∀ (s s' : List Nat), outS l (s ++ s') = outS l s ++ outS l s'
  | [], _ => rfl
  | j :: s, s' => by simp only [List.cons_append, outS, outS_app l s s', List.append_assoc]
theorem outS_len (l : List Tm) : ∀ (s : List Nat), (outS l s).length ≤ s.length
  | [] => by simp [outS]
  | j :: s => by
    have := outS_len l s
    simp only [outS, List.length_append, List.length_cons]
    have h : (match l[j]? with | some t => if t.2 = 0 then [] else [t] | none => []).length ≤ 1 := by
      split
      · split <;> simp
      · simp
    omega
theorem outS_range : ∀ (l : List Tm), outS l (List.range l.length) = l.filter (fun t => decide (t.2 ≠ 0)) := by
  have key : ∀ (l k : List Tm), outS (k ++ l) (List.range' k.length l.length) = l.filter (fun t => decide (t.2 ≠ 0)) := by
    intro l
    induction l with
    | nil => intro k; rfl
    | cons t l ih =>
      intro k
      have := ih (k ++ [t])
      rw [List.length_append, List.append_assoc] at this
      simp only [List.length_cons, List.length_nil, Nat.zero_add, List.singleton_append] at this
      rw [List.length_cons, List.range'_succ, outS, this]
      have e : (k ++ t :: l)[k.length]? = some t := by simp
      rw [e]
      by_cases h : t.2 = 0
      · simp [h]
      · simp [h]
  intro l
  have := key l []
  rw [List.range_eq_range']
  simpa using this
theorem outS_perm (l : List Tm) {s s' : List Nat} (h : s.Perm s') : (outS l s).Perm (outS l s') := by
  induction h with
  | nil => exact .refl _
  | cons j _ ih => simp only [outS]; exact ih.append_left _
  | swap i j s =>
    simp only [outS, ← List.append_assoc]
    exact List.perm_append_comm.append_right _
  | trans _ _ h1 h2 => exact h1.trans h2
theorem seen_perm {s : List Nat} {n : Nat} (hn : s.Nodup) (h1 : ∀ j ∈ s, j < n) (h2 : ∀ j, j < n → j ∈ s) : s.Perm (List.range n) := by
  refine (List.perm_ext_iff_of_nodup hn List.nodup_range).2 fun j => ?_
  rw [List.mem_range]
  exact ⟨h1 j, h2 j⟩
theorem nodup_len {s : List Nat} {n : Nat} (hn : s.Nodup) (h1 : ∀ j ∈ s, j < n) : s.length ≤ n := by
  have h : ((List.range n).filter (fun j => decide (j ∈ s))).Perm s := by
    refine (List.perm_ext_iff_of_nodup (List.nodup_range.filter _) hn).2 fun j => ?_
    simp only [List.mem_filter, List.mem_range, decide_eq_true_eq]
    exact ⟨fun h => h.2, fun h => ⟨h1 j h, h⟩⟩
  rw [← h.length_eq]
  have := List.length_filter_le (fun j => decide (j ∈ s)) (List.range n)
  rw [List.length_range] at this
  exact this
theorem eK_at {l : List Tm} {j : Nat} {kd vd : D} (h : (eK l)[j]? = some (kd, vd)) : ∃ t, l[j]? = some t ∧ kd = .a (eM t.1) ∧ vd = rW t.2 := by
  rw [eK, List.getElem?_map] at h
  cases ht : l[j]? with
  | none => rw [ht] at h; simp at h
  | some t => rw [ht] at h; simp at h; exact ⟨t, rfl, h.1.symm, h.2.symm⟩
theorem loop77 (l : List Tm) (hl : ∀ t ∈ l, t.1.length = 8) (hn : l.length ≤ 1000000000) (key : Key) (z : Nat) (F : Nat) (hF : key.1 ≠ F) (out : Sto) (ho : out key = some (z, .map (eK l))) (Q : Ex → St → Prop) (zi : Nat) :
    ∀ (k : Nat) (seen : List Nat) (d : D) (own : Nat → Option (Nat × Obj)) (nx : Nat), seen.length + k = l.length → seen.Nodup → (∀ j ∈ seen, j < l.length) → RowD F [22] own d 12 ((outS l seen).map eT) → own 8 = some (zi, .iter key z seen l.length) → OwnB own nx →
    (∀ r d own nx seen', seen'.Perm (List.range l.length) → r 3 = d → RowD F [22] own d 12 ((outS l seen').map eT) → OwnB own nx → Q (.exit 0) { r := r, own := own, out := out, nx := nx }) →
    Loop Go.Proofs.Tryz.prog F [3, 8] [8, 22] b77_0 { r := (upd (upd (fun _ => .u) 8 (.it (F, 8) zi)) 3 (d)), own := own, out := out, nx := nx } Q := by
  intro k
  have hlen : (eK l).length = l.length := by simp [eK]
  induction k with
  | zero =>
    intro seen d own nx hk hnd hs hR h8 hO h0
    refine Loop.stepW ?_
    simp only [go_sem, sB, reduceCtorEq, sL, sA, sE, sN, wb77_0]
    refine nxtO_intro (key := (F, 8)) (mk := key) (z := zi) (mz := z) (seen := seen) (es := eK l) rfl (by simp only [go_sem, sB, reduceCtorEq, sL, sA, sE, sN, h8]) (by rw [look_out hF]; exact ho) hlen (fun j kd vd hj hns => ?_) (fun hall => ?_)
    · exfalso
      obtain ⟨t, ht, _, _⟩ := eK_at hj
      have hjl := (List.getElem?_eq_some_iff.1 ht).1
      have : (j :: seen).Nodup := List.nodup_cons.2 ⟨hns, hnd⟩
      have h5 := nodup_len this (n := l.length) (fun x hx => by
        rcases List.mem_cons.1 hx with rfl | hx
        · exact hjl
        · exact hs x hx)
      rw [List.length_cons] at h5
      omega
    · simp only [go_sem, sB, reduceCtorEq, sL, sA, sE, sN]
      refine h0 _ d _ _ seen (seen_perm hnd hs hall) rfl (hR.on (by simp [upd])) ?_
      repeat' first | exact hO | exact OwnB.none _ | refine OwnB.updn ?_ (by first | omega | (dsimp only; omega)) | refine OwnB.updv (own := own) ?_ (hO.mono (by first | omega | (dsimp only; omega)))
  | succ k ih =>
    intro seen d own nx hk hnd hs hR h8 hO h0
    refine Loop.stepW ?_
    have z8' := hO _ _ _ h8
    simp only [go_sem, sB, reduceCtorEq, sL, sA, sE, sN, wb77_0]
    refine nxtO_intro (key := (F, 8)) (mk := key) (z := zi) (mz := z) (seen := seen) (es := eK l) rfl (by simp only [go_sem, sB, reduceCtorEq, sL, sA, sE, sN, h8]) (by rw [look_out hF]; exact ho) hlen (fun j kd vd hj hns => ?_) (fun hall => ?_)
    · obtain ⟨t, ht, rfl, rfl⟩ := eK_at hj
      have hjl := (List.getElem?_eq_some_iff.1 ht).1
      have hT := hl t (List.mem_of_getElem? ht)
      have hnd' : (seen ++ [j]).Nodup := by
        rw [List.nodup_append]
        refine ⟨hnd, by simp, ?_⟩
        intro a ha b hb
        rw [List.mem_singleton] at hb
        subst hb
        rintro rfl
        exact hns ha
      have hs' : ∀ x ∈ seen ++ [j], x < l.length := by
        intro x hx
        rcases List.mem_append.1 hx with hx | hx
        · exact hs x hx
        · rw [List.mem_singleton] at hx; rw [hx]; exact hjl
      have bm : ∀ z, boxC (some (z, .box (eM t.1))) z 0 8 = some (eM t.1) := fun z => by rw [boxC_s _ _ _ _ (by rw [len8 hT]; decide), List.drop_zero, take8 hT]
      have bc : ∀ z, boxC (some (z, .box (rC t.2))) z 0 4 = some (rC t.2) := fun z => by rw [boxC_s _ _ _ _ (by rw [rC_len]; decide), List.drop_zero, takeC]
      have hE := fun (L : Sto) (h1 : L (F, 8) = some (zi, .iter key z (seen ++ [j]) l.length)) (h2 : L key = some (z, .map (eK l))) => entryD_at (L := L) h1 h2 hlen hj
      have hoS : outS l (seen ++ [j]) = outS l seen ++ (if t.2 = 0 then [] else [t]) := by
        rw [outS_app]
        simp only [outS, ht, List.append_nil]
      have hlo : (outS l seen).length ≤ 1000000000 := by have := outS_len l seen; omega
      simp only [go_sem, sB, reduceCtorEq, sL, sA, sE, sN]
      rw [hE _ (by simp only [go_sem, sB, reduceCtorEq, sL, sA, sE, sN]) (by rw [look_out hF]; exact ho)]
      simp only [go_sem, sB, reduceCtorEq, sL, sA, sE, sN, rW_C, rC_len, len8 hT, bm, bc]
      refine callO_intro (q68 t.2) ?_
      by_cases g3 : t.2 = 0
      · have g4 : (t.2.num.sign != 0) = false := by rw [bne, sgn0 g3]; rfl
        rw [if_pos g3, List.append_nil] at hoS
        simp only [go_sem, sB, reduceCtorEq, sL, sA, sE, sN, g4]
        refine ih (seen ++ [j]) _ _ _ (by simp; omega) hnd' hs' ?_ ?_ ?_ h0
        · rw [hoS]; exact hR.on (by simp [upd])
        · rfl
        · repeat' first | exact hO | exact OwnB.none _ | refine OwnB.updn ?_ (by first | omega | (dsimp only; omega)) | refine OwnB.updv (own := own) ?_ (hO.mono (by first | omega | (dsimp only; omega)))
      · have g4 : (t.2.num.sign != 0) = true := by rw [bne, sgn1 g3]; rfl
        rw [if_neg g3] at hoS
        simp only [go_sem, sB, reduceCtorEq, sL, sA, sE, sN, g4, bm, bc, len8 hT, rC_len, z8, fillT2 _ _ hT, eT_mk, eT_len hT]
        refine appO_R (S := [22]) (es := (outS l seen).map eT) (hR.on (by simp [upd])) ?_ (by simp) (by simp; omega) (by simp; omega) (fun own' hb hoth hs2 => ?_)
        · dsimp only
          repeat' first | exact hO | exact OwnB.none _ | refine OwnB.updn ?_ (by first | omega | (dsimp only; omega)) | refine OwnB.updv (own := own) ?_ (hO.mono (by first | omega | (dsimp only; omega)))
        · have h8' := hoth 8 (by decide) (by decide)
          simp only [go_sem, sB, reduceCtorEq, sL, sA, sE, sN, map_app1] at h8' ⊢
          refine ih (seen ++ [j]) _ _ _ (by simp; omega) hnd' hs' ?_ ?_ ?_ h0
          · rw [hoS, ← map_app1]; exact .at (by simp) hs2 (by simp)
          · exact h8'
          · repeat' first | exact hb | exact OwnB.none _ | refine OwnB.updv (own := own') ?_ (hb.mono (by first | omega | (dsimp only; omega)))
    · exfalso
      have h5 := (seen_perm hnd hs hall).length_eq
      rw [List.length_range] at h5
      omega
theorem pw_map {r : List Tm} (h : r.Pairwise (fun a b => 0 < cmpL a.1 b.1)) : (r.map eT).Pairwise (fun a b => 0 < cmpL (mO a) (mO b)) := by
  rw [List.pairwise_map]
  simpa only [mO_eT] using h
theorem w77 (l r : List Tm) {A : Nat} (hl : PB A l) (hn : l.length ≤ 1000000000) (hr : r.Perm (l.filter (fun t => decide (t.2 ≠ 0)))) (hs : r.Pairwise (fun a b => 0 < cmpL a.1 b.1)) (key : Key) (z : Nat) :
    FnR Go.Proofs.Tryz.prog 77 [.m key z] [⟨key, z, .map (eK l), .map (eK l)⟩] (eP false r) := by
  refine fnr77 (by simp) (nr_eP _ _) (by simp [nr_map]) (by simp) fun F out hS => ?_
  have hF : key.1 ≠ F := by have := hS.low _ (List.mem_singleton.2 rfl); simp only at this; omega
  have ho := hS.old _ (List.mem_singleton.2 rfl)
  simp only at ho
  have hlen : (eK l).length = l.length := by simp [eK]
  have hu : ∀ (st : St), Fin F [⟨key, z, .map (eK l), .map (eK l)⟩] out rv77 (eP false r) .ret st = (Weak (eP false r) (st.r 2) ∧ st.out = updK out key (some (z, .map (eK l)))) := fun st => fin_tu
  have hupd : updK out key (some (z, .map (eK l))) = out := by
    funext k
    unfold updK
    split
    · rename_i h; rw [h, ho]
    · rfl
  unfold ir77
  simp only [go_sem, sB, reduceCtorEq, sL, sA, sE, sN]
  refine rgO_intro (es := eK l) (by rw [look_out hF]; exact ho) (by simp only [go_sem, sB, reduceCtorEq, sL, sA, sE, sN]) ?_
  simp only [go_sem, sB, reduceCtorEq, sL, sA, sE, sN, hlen]
  refine loop77 l hl.len hn key z F hF out ho _ _ l.length [] _ _ _ (by simp) List.nodup_nil (by simp) (.nil _ _ _ _) rfl ?_ (fun rg d own nx seen hp hd hR hO => ?_)
  · repeat' first | exact OwnB.none _ | refine OwnB.updn ?_ (by omega) | refine OwnB.upd0 ?_
  · have hperm : (r.map eT).Perm ((outS l seen).map eT) := by
      refine List.Perm.map _ (hr.trans ?_)
      rw [← outS_range]
      exact (outS_perm l hp).symm
    have hsm : (outS l seen).length ≤ 1000000000 := by have := outS_len l seen; have := hp.length_eq; rw [List.length_range] at this; omega
    have hmem : ∀ e ∈ (outS l seen).map eT, okEl e := by
      intro e he
      have he := hperm.symm.subset he
      obtain ⟨t, ht, rfl⟩ := List.mem_map.1 he
      have := hr.subset ht
      exact okEl_eT (hl.len t (List.mem_filter.1 this).1)
    have hR' := hR.on (own' := upd (fun _ => none) 22 (own 22)) (by simp [upd])
    rcases hR' with ⟨rfl, hnil⟩ | ⟨s, zr, hs1, rfl, hown⟩
    · have hr0 : r = [] := by
        have := hperm.length_eq
        rw [hnil] at this
        simpa using this
      subst hr0
      simp only [go_sem, sB, reduceCtorEq, sL, sA, sE, sN, hd]
      refine callRO_none (w133_0 true) ?_
      simp only [go_sem, sB, reduceCtorEq, sL, sA, sE, sN, hd, hu, hupd]
      exact weak_full _ _ _
    · rw [List.mem_singleton] at hs1
      subst hs1
      have hown' : own 22 = some (zr, .row 12 ((outS l seen).map eT)) := hown
      simp only [go_sem, sB, reduceCtorEq, sL, sA, sE, sN, hd]
      refine callRO_one (w133 hmem hperm (pw_map hs) (nrLL_eT r) (by rw [List.length_map]; omega) (F, 22) zr) (by simp only [go_sem, sB, reduceCtorEq, sL, sA, sE, sN, hown']) (by simp) ?_
      have hlr : ((outS l seen).map eT).length = (r.map eT).length := hperm.length_eq.symm
      simp only [go_sem, sB, reduceCtorEq, sL, sA, sE, sN, hd, hlr]
      rw [frzR_s _ _ _ _ _ _ _ _ (by omega)]
      simp only [go_sem, sB, reduceCtorEq, sL, sA, sE, sN, hu, hupd, List.take_length]
      exact .refl _
def mulIn (l : List Tm) (a : Tm) : List Tm → Option (List Tm)
  | [] => some l
  | b :: q => if (mMul a.1 b.1).all okE then mulIn (addM l (mMul a.1 b.1) (a.2 * b.2)) a q else none
def mulOut (l : List Tm) (q : List Tm) : List Tm → Option (List Tm)
  | [] => some l
  | a :: p => match mulIn l a q with
    | some l' => mulOut l' q p
    | none => none
theorem put_len (m : List Int) (c : Rat) : ∀ (l : List Tm), (putM l m c).length ≤ l.length + 1
  | [] => by simp [putM]
  | t :: l => by
    have := put_len m c l
    simp only [putM]
    split
    · simp
    · simp only [List.length_cons]; omega
theorem PB_put {A : Nat} {m : List Int} {c : Rat} (hm : m.length = 8) (hc : LQ c ≤ A) : ∀ {l : List Tm}, PB A l → PB A (putM l m c)
  | [], h => .cons hm hc h
  | t :: l, h => by
    simp only [putM]
    split
    · exact .cons hm hc h.tail
    · exact .cons h.head.1 h.head.2 (PB_put hm hc h.tail)
theorem PB_addM {A B : Nat} {m : List Int} {c : Rat} (hm : m.length = 8) (hc : LQ c ≤ B) {l : List Tm} (h : PB A l) : PB (A + B + 1) (addM l m c) := by
  unfold addM
  refine PB_put hm ?_ (h.mono (by omega))
  cases hg : getM l m with
  | none => simp only; omega
  | some o =>
    have := getM_lq h hg
    have := LQ_add o c
    simp only
    omega
theorem addM_len (l : List Tm) (m : List Int) (c : Rat) : (addM l m c).length ≤ l.length + 1 := put_len _ _ _
theorem loop18a (a : Tm) (p q : List Tm) (f g : Bool) {A : Nat} (ha : a.1.length = 8) (ka : a.1.all okE = true) (hA : LQ a.2 ≤ A) (hq : PB A q) (kq : PM q) (hlq : q.length ≤ 1000000000) (ii : D) (nn : D) (F : Nat) (out : Sto) (Q : Ex → St → Prop) (zm za : Nat) :
    ∀ (rest : List Tm) (k : Nat) (l : List Tm) (B : Nat) (nx : Nat), q.drop k = rest → k + rest.length = q.length → PB B l → B + rest.length * (2 * A + 1) ≤ 549755813888 → A ≤ 549755813888 →
    (∀ l', mulIn l a rest = some l' → PB (B + rest.length * (2 * A + 1)) l' → l'.length ≤ l.length + rest.length → ∀ r nx, r 1 = eP g q → r 6 = .m (F, 13) zm → r 14 = eP f p → r 15 = nn → r 16 = ii → Q (.exit 2) { r := r, own := upd (upd (fun _ => none) 13 (some (zm, .map (eK l')))) 8 (some (za, .box (eT a))), out := out, nx := nx }) →
    (mulIn l a rest = none → ∀ own nx, Q .ret { r := (upd (upd (fun _ => .u) 5 (.i .i64 2)) 4 (.sl 12 true [])), own := own, out := out, nx := nx }) →
    Loop Go.Proofs.Tryz.prog F [1, 6, 8, 14, 15, 16, 20, 21, 22] [8, 13] b18_0 { r := (upd (upd (upd (upd (upd (upd (upd (upd (upd (fun _ => .u) 22 (.i .i64 k)) 21 (.i .i64 q.length)) 20 (eP g q)) 16 (ii)) 15 (nn)) 14 (eP f p)) 8 (.p (F, 8) za 0)) 6 (.m (F, 13) zm)) 1 (eP g q)), own := upd (upd (fun _ => none) 13 (some (zm, .map (eK l)))) 8 (some (za, .box (eT a))), out := out, nx := nx } Q := by
  intro rest
  have bt : ∀ {t : Tm}, t.1.length = 8 → ∀ z, boxC (some (z, .box (eT t))) z 4 8 = some (eM t.1) := fun h z => by rw [boxC_s _ _ _ _ (by rw [eT_len h]; decide), dropT, take8 h]
  have bt' : ∀ {t : Tm}, t.1.length = 8 → ∀ z, boxC (some (z, .box (eT t))) z 0 4 = some (rC t.2) := fun h z => by rw [boxC_s _ _ _ _ (by rw [eT_len h]; decide), List.drop_zero, takeT4]
  induction rest with
  | nil =>
    intro k l B nx hd hk hl hB hA2 h0 h1
    refine Loop.stepW ?_
    have ek : k = q.length := by simpa using hk
    subst ek
    have c1 : decide (((q.length : Nat) : Int) < ((q.length : Nat) : Int)) = false := by simp
    simp only [go_sem, sB, reduceCtorEq, sL, sA, sE, sN, wb18_0, c1]
    exact h0 l rfl (hl.mono (by omega)) (by simp) _ _ rfl rfl rfl rfl rfl
  | cons b rest ih =>
    intro k l B nx hd hk hl hB hA2 h0 h1
    refine Loop.stepW ?_
    simp only [List.length_cons] at hk hB h0
    have hb : q[k]? = some b := by
      have := List.getElem?_drop (xs := q) (i := k) (j := 0)
      rw [hd] at this
      simpa using this.symm
    have e1 : IntKind.wrap .i64 (((k : Nat) : Int) + 1) = ((k + 1 : Nat) : Int) := by rw [IntWalk.i64_in _ (by omega)]; omega
    have c1 : decide (((k : Nat) : Int) < ((q.length : Nat) : Int)) = true := decide_eq_true (by omega)
    have hT := hq.get hb
    have hxq := ixsO_sl 12 g _ .i64 k _ (eP_at hb)
    have hl8 := mMul_len ha hT.1
    have hmulB : (rest.length + 1) * (2 * A + 1) = rest.length * (2 * A + 1) + (2 * A + 1) := by rw [Nat.add_mul, Nat.one_mul]
    simp only [mulIn] at h0 h1
    simp only [go_sem, sB, reduceCtorEq, sL, sA, sE, sN, wb18_0, eP, c1, hxq, takeT hT.1, eT_len hT.1, bt ha, bt hT.1]
    refine callO_intro (w74 _ _ ha hT.1 ka (kq.get hb)) ?_
    cases hf : (mMul a.1 b.1).all okE with
    | false =>
      rw [hf] at h0 h1
      simp only [go_sem, sB, reduceCtorEq, sL, sA, sE, sN, z8, len80, drop80, show ((2 : Int) != 0) = true from rfl]
      exact h1 rfl _ _
    | true =>
      rw [hf] at h0 h1
      simp only [if_true] at h0 h1
      have bn : ∀ z', boxC (some (z', .box (eM (mMul a.1 b.1)))) z' 0 8 = some (eM (mMul a.1 b.1)) := fun z' => by rw [boxC_s _ _ _ _ (by rw [len8 hl8]; decide), List.drop_zero, take8 hl8]
      simp only [go_sem, sB, reduceCtorEq, sL, sA, sE, sN, z8, len80, len8 hl8, drop80, show ((0 : Int) != 0) = false from rfl, bt' ha, bt' hT.1, bt ha, bt hT.1]
      refine callO_intro (q76 a.2 b.2 (by omega) (by have := hT.2; omega)) ?_
      have hq2 : LQ (a.2 * b.2) ≤ 2 * A := by have := LQ_mul a.2 b.2; have := hT.2; omega
      simp only [go_sem, sB, reduceCtorEq, sL, sA, sE, sN, bn]
      refine callRO_one (w75 l (a.2 * b.2) (mMul a.1 b.1) (A := max B (2 * A)) (hl.mono (Nat.le_max_left _ _)) hl8 (Nat.le_trans hq2 (Nat.le_max_right _ _)) (by omega) (F, 13) zm) (by simp only [go_sem, sB, reduceCtorEq, sL, sA, sE, sN]) (by simp) ?_
      simp only [go_sem, sB, reduceCtorEq, sL, sA, sE, sN, e1]
      refine ih (k + 1) (addM l (mMul a.1 b.1) (a.2 * b.2)) (B + 2 * A + 1) _ (by rw [drop_at hb] at hd; injection hd) (by omega) (PB_addM hl8 hq2 hl) (by omega) hA2 (fun l' e hl' hle r nx => h0 l' e (hl'.mono (by omega)) ?_ r nx) h1
      have := addM_len l (mMul a.1 b.1) (a.2 * b.2)
      omega
theorem loop18b (p q : List Tm) (f g : Bool) {A : Nat} (hp : PB A p) (kp : PM p) (hq : PB A q) (kq : PM q) (hlp : p.length ≤ 1000000000) (hlq : q.length ≤ 1000000000) (F : Nat) (out : Sto) (Q : Ex → St → Prop) (zm : Nat) :
    ∀ (rest : List Tm) (i : Nat) (l : List Tm) (B : Nat) (nx : Nat), p.drop i = rest → i + rest.length = p.length → PB B l → B + rest.length * (q.length * (2 * A + 1)) ≤ 549755813888 → A ≤ 549755813888 →
    (∀ l', mulOut l q rest = some l' → PB (B + rest.length * (q.length * (2 * A + 1))) l' → l'.length ≤ l.length + rest.length * q.length → ∀ r nx, r 6 = .m (F, 13) zm → Q (.exit 0) { r := r, own := upd (fun _ => none) 13 (some (zm, .map (eK l'))), out := out, nx := nx }) →
    (mulOut l q rest = none → ∀ own nx, Q .ret { r := (upd (upd (fun _ => .u) 5 (.i .i64 2)) 4 (.sl 12 true [])), own := own, out := out, nx := nx }) →
    Loop Go.Proofs.Tryz.prog F [1, 6, 14, 15, 16] [13] b18_1 { r := (upd (upd (upd (upd (upd (fun _ => .u) 16 (.i .i64 i)) 15 (.i .i64 p.length)) 14 (eP f p)) 6 (.m (F, 13) zm)) 1 (eP g q)), own := upd (fun _ => none) 13 (some (zm, .map (eK l))), out := out, nx := nx } Q := by
  intro rest
  induction rest with
  | nil =>
    intro i l B nx hd hi hl hB hA2 h0 h1
    refine Loop.stepW ?_
    have ei : i = p.length := by simpa using hi
    subst ei
    have c1 : decide (((p.length : Nat) : Int) < ((p.length : Nat) : Int)) = false := by simp
    simp only [go_sem, sB, reduceCtorEq, sL, sA, sE, sN, wb18_1, c1]
    exact h0 l rfl (hl.mono (by omega)) (by simp) _ _ rfl
  | cons a rest ih =>
    intro i l B nx hd hi hl hB hA2 h0 h1
    refine Loop.stepW ?_
    simp only [List.length_cons] at hi hB h0
    have hb : p[i]? = some a := by
      have := List.getElem?_drop (xs := p) (i := i) (j := 0)
      rw [hd] at this
      simpa using this.symm
    have e1 : IntKind.wrap .i64 (((i : Nat) : Int) + 1) = ((i + 1 : Nat) : Int) := by rw [IntWalk.i64_in _ (by omega)]; omega
    have c1 : decide (((i : Nat) : Int) < ((p.length : Nat) : Int)) = true := decide_eq_true (by omega)
    have hT := hp.get hb
    have hxp := ixsO_sl 12 f _ .i64 i _ (eP_at hb)
    have hm1 : (rest.length + 1) * (q.length * (2 * A + 1)) = rest.length * (q.length * (2 * A + 1)) + q.length * (2 * A + 1) := by rw [Nat.add_mul, Nat.one_mul]
    have hm2 : (rest.length + 1) * q.length = rest.length * q.length + q.length := by rw [Nat.add_mul, Nat.one_mul]
    simp only [mulOut] at h0 h1
    simp only [go_sem, sB, reduceCtorEq, sL, sA, sE, sN, wb18_1, eP, c1, hxp, takeT hT.1, eT_len hT.1, List.length_map]
    refine loop18a a p q f g hT.1 (kp.get hb) hT.2 hq kq hlq _ _ F out _ zm _ q 0 l B _ rfl (by omega) hl (by omega) hA2 (fun l' e hl' hle r nx r1 r6 r14 r15 r16 => ?_) (fun e own nx => ?_)
    · rw [e] at h0 h1
      simp only [go_sem, sB, reduceCtorEq, sL, sA, sE, sN, r1, r6, r14, r15, r16, e1]
      exact ih (i + 1) l' (B + q.length * (2 * A + 1)) _ (by rw [drop_at hb] at hd; injection hd) (by omega) hl' (by omega) hA2 (fun l'' e' hl'' hle' r nx => h0 l'' e' (hl''.mono (by omega)) (by omega) r nx) h1
    · rw [e] at h1
      simp only [go_sem, sB, reduceCtorEq, sL, sA, sE, sN]
      exact h1 rfl own nx
theorem w18 (p q : List Tm) (f g : Bool) {A : Nat} (hp : PB A p) (kp : PM p) (hq : PB A q) (kq : PM q) (hlp : p.length * q.length ≤ 1000000000) (hlp1 : p.length ≤ 1000000000) (hlq : q.length ≤ 1000000000) (hA : A ≤ 549755813888) (hB : p.length * (q.length * (2 * A + 1)) ≤ 549755813888)
    (l r : List Tm) (hl : mulOut [] q p = some l) (hr : r.Perm (l.filter (fun t => decide (t.2 ≠ 0)))) (hs : r.Pairwise (fun a b => 0 < cmpL a.1 b.1)) :
    FnR Go.Proofs.Tryz.prog 18 [eP f p, eP g q] [] (.t [eP false r, .i .i64 0]) := by
  refine fnr18 (by simp) (nr_t2 _ _ _) (by simp) List.nodup_nil fun F out hS => ?_
  unfold ir18
  simp only [go_sem, sB, reduceCtorEq, sL, sA, sE, sN, eP, eP_len]
  refine loop18b p q f g hp kp hq kq hlp1 hlq F out _ 1 p 0 [] 0 _ rfl (by omega) (.nil _) (by omega) hA (fun l' e hl' hle rg nx r6 => ?_) (fun e own nx => ?_)
  · rw [hl] at e
    injection e with e
    subst e
    simp only [go_sem, sB, reduceCtorEq, sL, sA, sE, sN, r6]
    refine callRO_one (w77 l r hl' (by simp at hle; omega) hr hs (F, 13) 1) (by simp only [go_sem, sB, reduceCtorEq, sL, sA, sE, sN]) (by simp) ?_
    simp only [go_sem, sB, reduceCtorEq, sL, sA, sE, sN, rv18, fin_t2]
    exact .refl _
  · rw [hl] at e
    simp at e
theorem w18x (p q : List Tm) (f g : Bool) {A : Nat} (hp : PB A p) (kp : PM p) (hq : PB A q) (kq : PM q) (hlp1 : p.length ≤ 1000000000) (hlq : q.length ≤ 1000000000) (hA : A ≤ 549755813888) (hB : p.length * (q.length * (2 * A + 1)) ≤ 549755813888)
    (hl : mulOut [] q p = none) : FnR Go.Proofs.Tryz.prog 18 [eP f p, eP g q] [] (.t [eP false [], .i .i64 2]) := by
  refine fnr18 (by simp) (nr_t2 _ _ _) (by simp) List.nodup_nil fun F out hS => ?_
  unfold ir18
  simp only [go_sem, sB, reduceCtorEq, sL, sA, sE, sN, eP, eP_len]
  refine loop18b p q f g hp kp hq kq hlp1 hlq F out _ 1 p 0 [] 0 _ rfl (by omega) (.nil _) (by omega) hA (fun l' e hl' hle rg nx r6 => ?_) (fun e own nx => ?_)
  · rw [hl] at e
    simp at e
  · simp only [go_sem, sB, reduceCtorEq, sL, sA, sE, sN, rv18, fin_t2]
    exact .t (.cons (weak_full _ _ _) (.refl _))
theorem LQ_small {q : Rat} (h1 : q.num.natAbs < 4294967296) (h2 : q.den < 4294967296) : LQ q ≤ 1 := by
  have a : LZ q.num ≤ 1 := L_le (by show _ < BB ^ 1; rw [Nat.pow_one]; exact h1)
  have b : L q.den ≤ 1 := L_le (by show _ < BB ^ 1; rw [Nat.pow_one]; exact h2)
  exact Nat.max_le.2 ⟨a, b⟩
def smallP (p : List Tm) : Bool := p.all fun t => decide (t.1.length = 8) && (decide (t.2.num.natAbs < 4294967296) && decide (t.2.den < 4294967296)) && t.1.all okE
theorem PB_small {p : List Tm} (h : smallP p = true) : PB 1 p := by
  refine ⟨fun t ht => ?_, fun t ht => ?_⟩
  · have := List.all_eq_true.1 h t ht
    simp only [Bool.and_eq_true, decide_eq_true_eq] at this
    exact this.1.1
  · have := List.all_eq_true.1 h t ht
    simp only [Bool.and_eq_true, decide_eq_true_eq] at this
    exact LQ_small this.1.2.1 this.1.2.2
theorem PM_small {p : List Tm} (h : smallP p = true) : PM p := by
  intro t ht
  have := List.all_eq_true.1 h t ht
  simp only [Bool.and_eq_true, decide_eq_true_eq] at this
  exact this.2
def s_a : List Tm := addP (xP 0) (cP 1)
def s_d : List Tm := difP (xP 0) (cP 1)
def s_q : List Tm := [([2, 0, 0, 0, 0, 0, 0, 0], 1), (m0, -1)]
def s_yy : List Tm := [([0, 2, 0, 0, 0, 0, 0, 0], 1)]
def s_l1 : List Tm := [([2, 0, 0, 0, 0, 0, 0, 0], 1), ([1, 0, 0, 0, 0, 0, 0, 0], 0), (m0, -1)]
def s_b : List Tm := addP (xP 0) s_yy
theorem san1 : mulOut [] s_d s_a = some s_l1 := by decide +kernel
theorem san2 : mulOut [] (xP 1) (xP 1) = some s_yy := by decide +kernel
theorem san3 : s_l1.filter (fun t => decide (t.2 ≠ 0)) = s_q := by decide +kernel
theorem san4 : s_yy.filter (fun t => decide (t.2 ≠ 0)) = s_yy := by decide +kernel
theorem san5 : subR (mulP (xP 0) (xP 0)).1 (cP 1) = s_q := by decide +kernel
theorem sm1 : smallP (xP 0) = true := by decide +kernel
theorem sm2 : smallP (xP 1) = true := by decide +kernel
theorem sm3 : smallP (cP 1) = true := by decide +kernel
theorem sm4 : smallP s_a = true := by decide +kernel
theorem sm5 : smallP s_d = true := by decide +kernel
theorem sm6 : smallP s_q = true := by decide +kernel
theorem sm7 : smallP s_b = true := by decide +kernel
theorem sm8 : smallP (mulP (xP 0) (xP 0)).1 = true := by decide +kernel
theorem sm9 : smallP s_yy = true := by decide +kernel
theorem san6 : s_b = [([1, 0, 0, 0, 0, 0, 0, 0], 1), ([0, 2, 0, 0, 0, 0, 0, 0], 1)] := by decide +kernel
theorem san7 : leadP [List.replicate 8 1] ([1, 0, 0, 0, 0, 0, 0, 0], 1) [([0, 2, 0, 0, 0, 0, 0, 0], 1)] = ([0, 2, 0, 0, 0, 0, 0, 0], 1) := by decide +kernel
theorem pw1 : s_q.Pairwise (fun a b => 0 < cmpL a.1 b.1) := by decide +kernel
theorem pw2 : s_yy.Pairwise (fun a b => 0 < cmpL a.1 b.1) := by decide +kernel
def rt (t : Tm) : RT := ⟨decide (t.2.num < 0), toW t.2.num.natAbs, false, toW t.2.den, t.1⟩
theorem eP_rt (f : Bool) (p : List Tm) : eP f p = .sl 12 f ((p.map rt).map tE) := by
  unfold eP
  rw [List.map_map]
  rfl
theorem top_toW {n : Nat} (h : n ≠ 0) : (toW n).getD ((toW n).length - 1) 0 ≠ 0 := by
  induction n using Nat.strongRecOn with
  | _ n ih =>
    rw [toW_pos h]
    by_cases h1 : n / BB = 0
    · rw [h1, toW_zero]
      have : n < BB := by
        rcases Nat.lt_or_ge n BB with h | h
        · exact h
        · have := Nat.div_pos h BB_pos; omega
      show n % BB ≠ 0
      rw [Nat.mod_eq_of_lt this]
      exact h
    · have hlt : n / BB < n := Nat.div_lt_self (Nat.pos_of_ne_zero h) (by decide)
      have := ih _ hlt h1
      have hl : (toW (n / BB)).length ≠ 0 := by rw [toW_pos h1]; simp
      generalize toW (n / BB) = l at *
      cases l with
      | nil => simp at hl
      | cons x l => simpa using this
theorem validI_toW (v : Bool) (n : Nat) (h : n = 0 → v = false) : validI v (toW n) = true := by
  unfold validI
  by_cases h0 : n = 0
  · rw [h0, toW_zero, h h0]; rfl
  · have : (toW n).length ≠ 0 := by rw [toW_pos h0]; simp
    rw [if_neg this]
    exact decide_eq_true (top_toW h0)
theorem validQ_rat (q : Rat) : validQ (decide (q.num < 0)) (toW q.num.natAbs) false (toW q.den) = true := by
  unfold validQ
  rw [validI_toW _ _ (fun h => decide_eq_false (by omega)), validI_toW _ _ (fun h => rfl), val_toW, val_toW]
  have h1 : (toW q.den).length ≠ 0 := by rw [toW_pos q.den_nz]; simp
  have h2 : Nat.gcd q.num.natAbs q.den = 1 := q.reduced
  simp [h1, h2]
theorem termOk_rt {t : Tm} (h0 : t.2 ≠ 0) (h1 : t.1.all okE = true) : termOk (rt t) = true := by
  unfold termOk
  have hn : t.2.num.natAbs ≠ 0 := by
    intro h
    exact h0 (Rat.num_eq_zero.1 (Int.natAbs_eq_zero.1 h))
  have hl : (toW t.2.num.natAbs).length ≠ 0 := by rw [toW_pos hn]; simp
  have e : (rt t).m.all okE = true := h1
  have e2 : validQ (rt t).nv (rt t).a (rt t).dv (rt t).b = true := validQ_rat t.2
  rw [e, e2, Bool.true_and, Bool.and_true]
  refine decide_eq_true ?_
  split
  · omega
  · rw [if_neg (show ¬ (rt t).a.length = 0 from hl)]; omega
theorem validP_rt : ∀ (p : List Tm) (u : Option Tm), (∀ t ∈ p, t.2 ≠ 0 ∧ t.1.all okE = true) → (u.toList ++ p).Pairwise (fun a b => 0 < cmpL a.1 b.1) → validP (u.map rt) (p.map rt) = true
  | [], u, _, _ => by cases u <;> rfl
  | t :: p, u, h, hs => by
    have ht := h t (by simp)
    have ih := validP_rt p (some t) (fun x hx => h x (by simp [hx])) (by
      cases u with
      | none => exact hs
      | some v => exact (List.pairwise_cons.1 hs).2)
    simp only [List.map_cons, validP, termOk_rt ht.1 ht.2, Bool.true_and]
    rw [show (some t).map rt = some (rt t) from rfl] at ih
    rw [ih, Bool.and_true]
    cases u with
    | none => rfl
    | some v => exact decide_eq_true ((List.pairwise_cons.1 hs).1 t (by simp))
theorem rt_ok {t : Tm} (h : t.1.length = 8) (hl : LQ t.2 ≤ 1099511627776) : (rt t).ok := by
  unfold LQ LZ L at hl
  exact ⟨Wd_toW _, Wd_toW _, by show (toW _).length ≤ _; omega, by show (toW _).length ≤ _; omega, h⟩
theorem w14c (p : List Tm) (f : Bool) {A : Nat} (hp : PB A p) (kp : PM p) (hA : A ≤ 1099511627776) (hl : p.length ≤ 1099511627776) (h0 : ∀ t ∈ p, t.2 ≠ 0) (hs : p.Pairwise (fun a b => 0 < cmpL a.1 b.1)) : FnR Go.Proofs.Tryz.prog 14 [eP f p] [] (.b true) := by
  have := w14 (p.map rt) f (fun t ht => by obtain ⟨u, hu, rfl⟩ := List.mem_map.1 ht; exact rt_ok (hp.len u hu) (by have := hp.lq u hu; omega)) (by simpa using hl)
  have e : validP none (p.map rt) = true := validP_rt p none (fun t ht => ⟨h0 t ht, kp t ht⟩) hs
  rw [← eP_rt, e] at this
  exact this
theorem w18_1 : FnR Go.Proofs.Tryz.prog 18 [eP false s_a, eP false s_d] [] (.t [eP false s_q, .i .i64 0]) :=
  w18 s_a s_d false false (A := 1) (PB_small sm4) (PM_small sm4) (PB_small sm5) (PM_small sm5) (by decide +kernel) (by decide +kernel) (by decide +kernel) (by decide) (by decide +kernel) s_l1 s_q san1 (by rw [san3]) pw1
theorem w18_2 : FnR Go.Proofs.Tryz.prog 18 [eP false (xP 1), eP false (xP 1)] [] (.t [eP false s_yy, .i .i64 0]) :=
  w18 (xP 1) (xP 1) false false (A := 1) (PB_small sm2) (PM_small sm2) (PB_small sm2) (PM_small sm2) (by decide +kernel) (by decide +kernel) (by decide +kernel) (by decide) (by decide +kernel) s_yy s_yy san2 (by rw [san4]) pw2
theorem w38_1 : FnR Go.Proofs.Tryz.prog 38 [eP false s_b, .sl 8 true [eM (List.replicate 8 1)]] [] (.t [.a (eT ([0, 2, 0, 0, 0, 0, 0, 0], 1)), .b true]) := by
  have h := sm7
  rw [san6] at h ⊢
  have := w38 [List.replicate 8 1] ([1, 0, 0, 0, 0, 0, 0, 0], 1) [([0, 2, 0, 0, 0, 0, 0, 0], 1)] true false (PB_small h) (PM_small h) (by
    intro w hw
    rw [List.mem_singleton] at hw
    subst hw
    exact ⟨rfl, by intro x hx; rw [List.eq_of_mem_replicate hx]; omega⟩) (by decide) (by decide)
  rw [san7] at this
  exact this
theorem san9 : FnR Go.Proofs.Tryz.prog 19 [eP false s_q, eP false (subR (mulP (xP 0) (xP 0)).1 (cP 1))] [] (.b true) := by
  have := w19 s_q s_q false false (A := 1) (PB_small sm6) (PB_small sm6) (by decide) (by decide)
  rw [san5]
  rw [decide_eq_true (rfl : s_q = s_q)] at this
  exact this
theorem eqx (p : List Tm) (h : smallP p = true) (hl : p.length ≤ 1000) : FnR Go.Proofs.Tryz.prog 19 [eP false p, eP false p] [] (.b true) := by
  have := w19 p p false false (A := 1) (PB_small h) (PB_small h) (by decide) (by omega)
  rw [decide_eq_true (rfl : p = p)] at this
  exact this
theorem w13 : FnR Go.Proofs.Tryz.prog 13 [] [] (.b true) := by
  refine fnr13 (by simp) rfl (by simp) List.nodup_nil fun F out hS => ?_
  have e1 : ((1 : Int) : Rat) = 1 := rfl
  unfold ir13
  simp only [go_sem, sB, reduceCtorEq, sL, sA, sE, sN]
  refine callO_intro (w25 0 (by omega)) ?_
  simp only [go_sem, sB, reduceCtorEq, sL, sA, sE, sN]
  refine callO_intro (w25 1 (by omega)) ?_
  simp only [go_sem, sB, reduceCtorEq, sL, sA, sE, sN]
  refine callO_intro (q23 1 (by omega) (by omega)) ?_
  rw [e1]
  simp only [go_sem, sB, reduceCtorEq, sL, sA, sE, sN]
  refine callO_intro (w22 1) ?_
  simp only [go_sem, sB, reduceCtorEq, sL, sA, sE, sN, show ((0 : Int) != 0) = false from rfl]
  refine callO_intro (w49 0 (by omega)) ?_
  simp only [go_sem, sB, reduceCtorEq, sL, sA, sE, sN]
  refine callO_intro (eqx (xP 0) sm1 (by decide)) ?_
  simp only [go_sem, sB, reduceCtorEq, sL, sA, sE, sN]
  refine callO_intro (w49 1 (by omega)) ?_
  simp only [go_sem, sB, reduceCtorEq, sL, sA, sE, sN]
  refine callO_intro (eqx (xP 1) sm2 (by decide)) ?_
  simp only [go_sem, sB, reduceCtorEq, sL, sA, sE, sN]
  refine callO_intro (w64 1 (by omega) (by omega)) ?_
  rw [e1]
  simp only [go_sem, sB, reduceCtorEq, sL, sA, sE, sN]
  refine callO_intro (eqx (cP 1) sm3 (by decide +kernel)) ?_
  simp only [go_sem, sB, reduceCtorEq, sL, sA, sE, sN]
  refine callO_intro (w20 (xP 0) (cP 1) false false (A := 1) (PB_small sm1) (PB_small sm3) (by decide) (by decide +kernel)) ?_
  simp only [go_sem, sB, reduceCtorEq, sL, sA, sE, sN]
  refine callO_intro (w21 (xP 0) (cP 1) false false (A := 1) (PB_small sm1) (PB_small sm3) (by decide) (by decide +kernel)) ?_
  simp only [go_sem, sB, reduceCtorEq, sL, sA, sE, sN]
  refine callO_intro w18_1 ?_
  simp only [go_sem, sB, reduceCtorEq, sL, sA, sE, sN]
  refine callO_intro (w17 false s_q) ?_
  simp only [go_sem, sB, reduceCtorEq, sL, sA, sE, sN]
  refine callO_intro w18_2 ?_
  simp only [go_sem, sB, reduceCtorEq, sL, sA, sE, sN]
  refine callO_intro (w17 false s_yy) ?_
  simp only [go_sem, sB, reduceCtorEq, sL, sA, sE, sN]
  refine callO_intro (w20 (xP 0) s_yy false false (A := 1) (PB_small sm1) (PB_small sm9) (by decide) (by decide +kernel)) ?_
  simp only [go_sem, sB, reduceCtorEq, sL, sA, sE, sN]
  refine callO_intro w65 ?_
  simp only [go_sem, sB, reduceCtorEq, sL, sA, sE, sN]
  refine callO_intro w38_1 ?_
  simp only [go_sem, sB, reduceCtorEq, sL, sA, sE, sN, eT_len (t := ([0, 2, 0, 0, 0, 0, 0, 0], 1)) rfl]
  refine callO_intro w66 ?_
  simp only [go_sem, sB, reduceCtorEq, sL, sA, sE, sN]
  refine callO_intro (w38_0 [] true true) ?_
  simp only [go_sem, sB, reduceCtorEq, sL, sA, sE, sN]
  refine callO_intro (w49 0 (by omega)) ?_
  simp only [go_sem, sB, reduceCtorEq, sL, sA, sE, sN]
  refine callO_intro (w49 0 (by omega)) ?_
  simp only [go_sem, sB, reduceCtorEq, sL, sA, sE, sN]
  refine callO_intro (w47 (xP 0) (xP 0) false false (A := 1) (PB_small sm1) (PB_small sm1) (PM_small sm1) (PM_small sm1) (by decide) (by decide)) ?_
  simp only [go_sem, sB, reduceCtorEq, sL, sA, sE, sN]
  refine callO_intro (w64 1 (by omega) (by omega)) ?_
  rw [e1]
  simp only [go_sem, sB, reduceCtorEq, sL, sA, sE, sN]
  refine callO_intro (w57 _ (cP 1) false false (A := 1) (PB_small sm8) (PB_small sm3) (PM_small sm3) (by decide) (by decide +kernel)) ?_
  simp only [go_sem, sB, reduceCtorEq, sL, sA, sE, sN]
  refine callO_intro san9 ?_
  simp only [go_sem, sB, reduceCtorEq, sL, sA, sE, sN]
  have hb : ∀ z, boxC (some (z, .box (eT ([0, 2, 0, 0, 0, 0, 0, 0], 1)))) z 4 8 = some [D.i .i64 0, .i .i64 2, .i .i64 0, .i .i64 0, .i .i64 0, .i .i64 0, .i .i64 0, .i .i64 0] := fun z => by
    rw [boxC_s _ _ _ _ (by rw [eT_len rfl]; decide)]; rfl
  have he : evEqa false 8 (.a [D.i .i64 0, .i .i64 2, .i .i64 0, .i .i64 0, .i .i64 0, .i .i64 0, .i .i64 0, .i .i64 0]) (.a [D.i .i64 0, .i .i64 2, .i .i64 0, .i .i64 0, .i .i64 0, .i .i64 0, .i .i64 0, .i .i64 0]) = some (.b true) := rfl
  simp only [go_sem, sB, reduceCtorEq, sL, sA, sE, sN, hb, he]
  refine callO_intro (w40 [] true (.nil 1) (by intro t ht; simp at ht) (by decide)) ?_
  simp only [go_sem, sB, reduceCtorEq, sL, sA, sE, sN, degP, show ((-1 : Int) == -1) = true from rfl]
  refine callO_intro (w14c s_q false (A := 1) (PB_small sm6) (PM_small sm6) (by decide) (by decide) (by decide +kernel) pw1) ?_
  simp only [go_sem, sB, reduceCtorEq, sL, sA, sE, sN, rv13, fin_t]
  exact .refl _
def ev (f : List Int → Rat) : List Tm → Rat
  | [] => 0
  | t :: p => t.2 * f t.1 + ev f p
def L8 (p : List Tm) : Prop := ∀ t ∈ p, t.1.length = 8
structure Can (p : List Tm) : Prop where
  len : ∀ t ∈ p, t.1.length = 8
  nz : ∀ t ∈ p, t.2 ≠ 0
  st : p.Pairwise (fun a b => 0 < cmpL a.1 b.1)
theorem Can.tail {t : Tm} {p : List Tm} (h : Can (t :: p)) : Can p := ⟨fun u hu => h.len u (by simp [hu]), fun u hu => h.nz u (by simp [hu]), (List.pairwise_cons.1 h.st).2⟩
theorem Can.nil : Can [] := ⟨by simp, by simp, List.Pairwise.nil⟩
theorem ev_perm (f : List Int → Rat) {p q : List Tm} (h : p.Perm q) : ev f p = ev f q := by
  induction h with
  | nil => rfl
  | cons t _ ih => simp only [ev, ih]
  | swap a b l => simp only [ev]; rw [← Rat.add_assoc, ← Rat.add_assoc, Rat.add_comm (b.2 * f b.1)]
  | trans _ _ h1 h2 => exact h1.trans h2
theorem ev_filter (f : List Int → Rat) : ∀ (p : List Tm), ev f (p.filter (fun t => decide (t.2 ≠ 0))) = ev f p
  | [] => rfl
  | t :: p => by
    rw [List.filter_cons]
    by_cases h : t.2 = 0
    · rw [if_neg (by simp [h]), ev_filter f p]
      simp [ev, h, Rat.zero_mul, Rat.zero_add]
    · rw [if_pos (by simp [h])]
      simp only [ev, ev_filter f p]
theorem ev_zero {f : List Int → Rat} : ∀ {p : List Tm}, (∀ t ∈ p, f t.1 = 0) → ev f p = 0
  | [], _ => rfl
  | t :: p, h => by
    have ih := ev_zero (f := f) (p := p) (fun u hu => h u (List.mem_cons_of_mem _ hu))
    simp only [ev, h t (by simp), ih, Rat.mul_zero, Rat.add_zero]
theorem ev_congr {f g : List Int → Rat} : ∀ {p : List Tm}, (∀ t ∈ p, f t.1 = g t.1) → ev f p = ev g p
  | [], _ => rfl
  | t :: p, h => by
    have ih := ev_congr (f := f) (g := g) (p := p) (fun u hu => h u (List.mem_cons_of_mem _ hu))
    simp only [ev, h t (by simp), ih]
theorem ev_addf (f g : List Int → Rat) : ∀ (p : List Tm), ev (fun m => f m + g m) p = ev f p + ev g p
  | [] => by simp [ev, Rat.add_zero]
  | t :: p => by
    simp only [ev, ev_addf f g p, Rat.mul_add]
    rw [Rat.add_assoc, Rat.add_assoc, ← Rat.add_assoc (t.2 * g t.1), Rat.add_comm (t.2 * g t.1) (ev f p), Rat.add_assoc]
theorem ev_mulf (c : Rat) (f : List Int → Rat) : ∀ (p : List Tm), ev (fun m => c * f m) p = c * ev f p
  | [] => by simp [ev, Rat.mul_zero]
  | t :: p => by
    simp only [ev, ev_mulf c f p, Rat.mul_add]
    rw [← Rat.mul_assoc, Rat.mul_comm t.2 c, Rat.mul_assoc]
theorem ev_swap (h : List Int → List Int → Rat) (q : List Tm) : ∀ (p : List Tm), ev (fun m => ev (fun n => h m n) q) p = ev (fun n => ev (fun m => h m n) p) q
  | [] => by rw [ev_zero (p := q) (fun t _ => rfl)]; rfl
  | t :: p => by
    simp only [ev]
    rw [ev_swap h q p, ← ev_mulf t.2, ← ev_addf]
def dlt (m : List Int) : List Int → Rat := fun n => if n = m then 1 else 0
theorem can_eq : ∀ {p q : List Tm}, Can p → Can q → (∀ f, ev f p = ev f q) → p = q
  | [], [], _, _, _ => rfl
  | [], u :: q, _, hq, h => by
    exfalso
    have h1 := h (dlt u.1)
    simp only [ev] at h1
    rw [ev_zero (p := q) (fun t ht => by
      have h2 := (List.pairwise_cons.1 hq.st).1 t ht
      unfold dlt
      rw [if_neg]
      intro e
      rw [e, cmpL_self] at h2
      omega)] at h1
    simp only [dlt, if_true, Rat.mul_one, Rat.add_zero] at h1
    exact hq.nz u (by simp) h1.symm
  | t :: p, [], hp, _, h => by
    exfalso
    have h1 := h (dlt t.1)
    simp only [ev] at h1
    rw [ev_zero (p := p) (fun u hu => by
      have h2 := (List.pairwise_cons.1 hp.st).1 u hu
      unfold dlt
      rw [if_neg]
      intro e
      rw [e, cmpL_self] at h2
      omega)] at h1
    simp only [dlt, if_true, Rat.mul_one, Rat.add_zero] at h1
    exact hp.nz t (by simp) h1
  | t :: p, u :: q, hp, hq, h => by
    have off : ∀ {v : Tm} {l : List Tm}, (∀ x ∈ l, 0 < cmpL v.1 x.1) → ev (dlt v.1) l = 0 := by
      intro v l hl
      refine ev_zero (fun x hx => ?_)
      have h2 := hl x hx
      unfold dlt
      rw [if_neg]
      intro e
      rw [e, cmpL_self] at h2
      omega
    have lt : t.1.length = 8 := hp.len t (by simp)
    have lu : u.1.length = 8 := hq.len u (by simp)
    have tp := (List.pairwise_cons.1 hp.st).1
    have uq := (List.pairwise_cons.1 hq.st).1
    have trans : ∀ {a b c : List Int}, a.length = 8 → b.length = 8 → c.length = 8 → 0 < cmpL a b → 0 < cmpL b c → 0 < cmpL a c := by
      intro a b c ha hb hc h1 h2
      rw [cmpL_anti b a] at h1
      rw [cmpL_anti c b] at h2
      have := cmpL_trans c b a (by omega) (by omega) (by omega) (by omega)
      rw [cmpL_anti c a]; omega
    have heads : t.1 = u.1 := by
      apply Classical.byContradiction
      intro hne
      have hne0 : cmpL t.1 u.1 ≠ 0 := fun e => hne (cmpL_eq _ _ (by omega) e)
      by_cases hgt : 0 < cmpL t.1 u.1
      · have h1 := h (dlt t.1)
        rw [off (v := t) (l := u :: q) (fun x hx => by
          rcases List.mem_cons.1 hx with rfl | hx
          · exact hgt
          · exact trans lt lu (hq.len x (by simp [hx])) hgt (uq x hx))] at h1
        simp only [ev] at h1
        rw [off tp] at h1
        simp only [dlt, if_true, Rat.mul_one, Rat.add_zero] at h1
        exact hp.nz t (by simp) h1
      · have hgt' : 0 < cmpL u.1 t.1 := by rw [cmpL_anti]; omega
        have h1 := h (dlt u.1)
        rw [off (v := u) (l := t :: p) (fun x hx => by
          rcases List.mem_cons.1 hx with rfl | hx
          · exact hgt'
          · exact trans lu lt (hp.len x (by simp [hx])) hgt' (tp x hx))] at h1
        simp only [ev] at h1
        rw [off uq] at h1
        simp only [dlt, if_true, Rat.mul_one, Rat.add_zero] at h1
        exact hq.nz u (by simp) h1.symm
    have hc : t.2 = u.2 := by
      have h1 := h (dlt t.1)
      simp only [ev] at h1
      rw [off tp] at h1
      rw [heads] at h1
      rw [off uq] at h1
      simpa only [dlt, if_true, Rat.mul_one, Rat.add_zero] using h1
    have htu : t = u := Prod.ext heads hc
    subst htu
    rw [can_eq hp.tail hq.tail (fun f => by
      have h1 := h f
      simp only [ev] at h1
      have := congrArg (fun x => -(t.2 * f t.1) + x) h1
      simp only [← Rat.add_assoc, Rat.neg_add_cancel, Rat.zero_add] at this
      exact this)]
theorem radd4 (a b c d : Rat) : a + b + (c + d) = a + c + (b + d) := by
  rw [Rat.add_assoc, Rat.add_assoc, ← Rat.add_assoc b c d, Rat.add_comm b c, Rat.add_assoc c b d]
theorem radd3 (a b c d : Rat) : a + b + c + d = a + c + (b + d) := by
  rw [Rat.add_assoc (a + b), radd4]
theorem ev_mrg (f : List Int → Rat) (k : Rat) (fb : Rat → Rat → Rat) (fo : Rat → Rat) (hb : ∀ x y, fb x y = x + k * y) (ho : ∀ y, fo y = k * y) : ∀ (n : Nat) (p q : List Tm), p.length + q.length ≤ n → L8 p → L8 q → ev f (mrg fb fo n p q) = ev f p + k * ev f q
  | 0, p, q, h, _, _ => by
    have e1 : p = [] := List.length_eq_zero_iff.1 (by omega)
    have e2 : q = [] := List.length_eq_zero_iff.1 (by omega)
    subst e1 e2
    simp [mrg, ev, Rat.mul_zero, Rat.add_zero]
  | n + 1, [], [], _, _, _ => by simp [mrg, ev, Rat.mul_zero, Rat.add_zero]
  | n + 1, [], b :: q, h, hp, hq => by
    have ih := ev_mrg f k fb fo hb ho n [] q (by simp at h ⊢; omega) hp (fun t ht => hq t (List.mem_cons_of_mem _ ht))
    simp only [mrg, ev, ih, ho, Rat.mul_add, Rat.mul_assoc, Rat.zero_add]
  | n + 1, a :: p, [], h, hp, hq => by
    have ih := ev_mrg f k fb fo hb ho n p [] (by simp at h ⊢; omega) (fun t ht => hp t (List.mem_cons_of_mem _ ht)) hq
    simp only [mrg, ev, ih, Rat.mul_zero, Rat.add_zero]
  | n + 1, a :: p, b :: q, h, hp, hq => by
    simp only [List.length_cons] at h
    have hp' : L8 p := fun t ht => hp t (List.mem_cons_of_mem _ ht)
    have hq' : L8 q := fun t ht => hq t (List.mem_cons_of_mem _ ht)
    have i1 := ev_mrg f k fb fo hb ho n p (b :: q) (by simp only [List.length_cons]; omega) hp' hq
    have i2 := ev_mrg f k fb fo hb ho n (a :: p) q (by simp only [List.length_cons]; omega) hp hq'
    have i3 := ev_mrg f k fb fo hb ho n p q (by omega) hp' hq'
    have la := hp a (by simp)
    have lb := hq b (by simp)
    simp only [mrg]
    split
    · simp only [ev] at i1 ⊢
      rw [i1, Rat.add_assoc]
    · split
      · simp only [ev] at i2 ⊢
        rw [i2, ho, Rat.mul_add, Rat.mul_assoc]
        rw [← Rat.add_assoc, ← Rat.add_assoc, Rat.add_comm (k * (b.2 * f b.1)), radd3, ← Rat.add_assoc]
      · rename_i h1 h2
        have hab : a.1 = b.1 := cmpL_eq _ _ (by omega) (by omega)
        split
        · rename_i h3
          rw [i3]
          simp only [ev]
          have h4 : a.2 * f a.1 + k * (b.2 * f b.1) = 0 := by
            rw [hb] at h3
            rw [← hab, ← Rat.mul_assoc, ← Rat.add_mul, h3, Rat.zero_mul]
          rw [Rat.mul_add, radd4, h4, Rat.zero_add]
        · simp only [ev]
          rw [i3, hb, Rat.add_mul, Rat.mul_add, hab, Rat.mul_assoc, radd4]
theorem ev_addP (f : List Int → Rat) {p q : List Tm} (hp : L8 p) (hq : L8 q) : ev f (addP p q) = ev f p + ev f q := by
  have := ev_mrg f 1 (· + ·) id (fun x y => by rw [Rat.one_mul]) (fun y => by rw [Rat.one_mul]; rfl) (p.length + q.length) p q (Nat.le_refl _) hp hq
  rw [Rat.one_mul] at this
  exact this
theorem putM_ev (f : List Int → Rat) {m : List Int} : ∀ (l : List Tm) (c : Rat), (match getM l m with | some o => ev f (putM l m (o + c)) | none => ev f (putM l m c)) = ev f l + c * f m
  | [], c => by simp [getM, putM, ev, Rat.add_zero, Rat.zero_add]
  | t :: l, c => by
    have ih := putM_ev f (m := m) l c
    simp only [getM]
    by_cases h : m = t.1
    · rw [if_pos h]
      simp only [putM, if_pos h, ev]
      rw [← h, Rat.add_mul, Rat.add_assoc, Rat.add_assoc, Rat.add_comm (c * f m)]
    · rw [if_neg h]
      cases hg : getM l m with
      | none =>
        rw [hg] at ih
        simp only [putM, if_neg h, ev]
        simp only at ih
        rw [ih, Rat.add_assoc]
      | some o =>
        rw [hg] at ih
        simp only [putM, if_neg h, ev]
        simp only at ih
        rw [ih, Rat.add_assoc]
theorem ev_addM (f : List Int → Rat) (l : List Tm) (m : List Int) (c : Rat) : ev f (addM l m c) = ev f l + c * f m := by
  have := putM_ev f (m := m) l c
  unfold addM
  cases hg : getM l m with
  | none => rw [hg] at this; exact this
  | some o => rw [hg] at this; exact this
theorem ev_mulIn (f : List Int → Rat) (a : Tm) : ∀ (q l l' : List Tm), mulIn l a q = some l' → ev f l' = ev f l + a.2 * ev (fun n => f (mMul a.1 n)) q
  | [], l, l', h => by simp only [mulIn] at h; injection h with h; subst h; simp [ev, Rat.mul_zero, Rat.add_zero]
  | b :: q, l, l', h => by
    simp only [mulIn] at h
    split at h
    · rw [ev_mulIn f a q _ l' h, ev_addM]
      simp only [ev]
      rw [Rat.mul_add, Rat.mul_assoc, Rat.add_assoc]
    · simp at h
theorem ev_mulOut (f : List Int → Rat) (q : List Tm) : ∀ (p l l' : List Tm), mulOut l q p = some l' → ev f l' = ev f l + ev (fun m => ev (fun n => f (mMul m n)) q) p
  | [], l, l', h => by simp only [mulOut] at h; injection h with h; subst h; simp [ev, Rat.add_zero]
  | a :: p, l, l', h => by
    simp only [mulOut] at h
    cases hm : mulIn l a q with
    | none => rw [hm] at h; simp at h
    | some l1 =>
      rw [hm] at h
      rw [ev_mulOut f q p l1 l' h, ev_mulIn f a q l l1 hm]
      simp only [ev, Rat.add_assoc]
theorem gt_trans {a b c : List Int} (ha : a.length = 8) (hb : b.length = 8) (hc : c.length = 8) (h1 : 0 < cmpL a b) (h2 : 0 < cmpL b c) : 0 < cmpL a c := by
  rw [cmpL_anti b a] at h1
  rw [cmpL_anti c b] at h2
  have := cmpL_trans c b a (by omega) (by omega) (by omega) (by omega)
  rw [cmpL_anti c a]; omega
theorem mrg_can {fb : Rat → Rat → Rat} {fo : Rat → Rat} (ho : ∀ y, y ≠ 0 → fo y ≠ 0) : ∀ (n : Nat) (p q : List Tm), Can p → Can q → Can (mrg fb fo n p q)
  | 0, _, _, _, _ => Can.nil
  | n + 1, [], [], _, _ => Can.nil
  | n + 1, [], b :: q, hp, hq => by
    have ih := mrg_can (fb := fb) ho n [] q hp hq.tail
    have hg := (List.pairwise_cons.1 hq.st).1
    have key := mrg_all (P := fun t => 0 < cmpL b.1 t.1) (f := fb) (g := fo) (fun t h => h) (fun t u h _ => h) n [] q (by simp) hg
    simp only [mrg]
    exact ⟨fun t ht => (List.mem_cons.1 ht).elim (fun e => e ▸ hq.len b (by simp)) (ih.len t), fun t ht => (List.mem_cons.1 ht).elim (fun e => e ▸ ho _ (hq.nz b (by simp))) (ih.nz t), List.pairwise_cons.2 ⟨key, ih.st⟩⟩
  | n + 1, a :: p, [], hp, hq => by
    have ih := mrg_can (fb := fb) ho n p [] hp.tail hq
    have hg := (List.pairwise_cons.1 hp.st).1
    have key := mrg_all (P := fun t => 0 < cmpL a.1 t.1) (f := fb) (g := fo) (fun t h => h) (fun t u h _ => h) n p [] hg (by simp)
    simp only [mrg]
    exact ⟨fun t ht => (List.mem_cons.1 ht).elim (fun e => e ▸ hp.len a (by simp)) (ih.len t), fun t ht => (List.mem_cons.1 ht).elim (fun e => e ▸ hp.nz a (by simp)) (ih.nz t), List.pairwise_cons.2 ⟨key, ih.st⟩⟩
  | n + 1, a :: p, b :: q, hp, hq => by
    have i1 := mrg_can (fb := fb) ho n p (b :: q) hp.tail hq
    have i2 := mrg_can (fb := fb) ho n (a :: p) q hp hq.tail
    have i3 := mrg_can (fb := fb) ho n p q hp.tail hq.tail
    have ga := (List.pairwise_cons.1 hp.st).1
    have gb := (List.pairwise_cons.1 hq.st).1
    have la := hp.len a (by simp)
    have lb := hq.len b (by simp)
    have up : ∀ {m : List Int} {n : Nat} {p q : List Tm}, (∀ t ∈ p, 0 < cmpL m t.1) → (∀ t ∈ q, 0 < cmpL m t.1) → ∀ t ∈ mrg fb fo n p q, 0 < cmpL m t.1 :=
      fun h1 h2 => mrg_all (P := fun t => 0 < cmpL _ t.1) (fun t h => h) (fun t u h _ => h) _ _ _ h1 h2
    simp only [mrg]
    split
    · rename_i h1
      have key := up (m := a.1) (n := n) (p := p) (q := b :: q) ga (fun t ht => by
        rcases List.mem_cons.1 ht with rfl | ht
        · exact h1
        · exact gt_trans la lb (hq.len t (by simp [ht])) h1 (gb t ht))
      exact ⟨fun t ht => (List.mem_cons.1 ht).elim (fun e => e ▸ la) (i1.len t), fun t ht => (List.mem_cons.1 ht).elim (fun e => e ▸ hp.nz a (by simp)) (i1.nz t), List.pairwise_cons.2 ⟨key, i1.st⟩⟩
    · split
      · rename_i h1 h2
        have h3 : 0 < cmpL b.1 a.1 := by rw [cmpL_anti]; omega
        have key := up (m := b.1) (n := n) (p := a :: p) (q := q) (fun t ht => by
          rcases List.mem_cons.1 ht with rfl | ht
          · exact h3
          · exact gt_trans lb la (hp.len t (by simp [ht])) h3 (ga t ht)) gb
        exact ⟨fun t ht => (List.mem_cons.1 ht).elim (fun e => e ▸ lb) (i2.len t), fun t ht => (List.mem_cons.1 ht).elim (fun e => e ▸ ho _ (hq.nz b (by simp))) (i2.nz t), List.pairwise_cons.2 ⟨key, i2.st⟩⟩
      · rename_i h1 h2
        have hab : a.1 = b.1 := cmpL_eq _ _ (by omega) (by omega)
        split
        · exact i3
        · rename_i h3
          have key := up (m := a.1) (n := n) (p := p) (q := q) ga (fun t ht => hab ▸ gb t ht)
          exact ⟨fun t ht => (List.mem_cons.1 ht).elim (fun e => e ▸ la) (i3.len t), fun t ht => (List.mem_cons.1 ht).elim (fun e => e ▸ h3) (i3.nz t), List.pairwise_cons.2 ⟨key, i3.st⟩⟩
theorem can_add {p q : List Tm} (hp : Can p) (hq : Can q) : Can (addP p q) := mrg_can (fun y h => h) _ p q hp hq
theorem sort_ins (t : Tm) (ht : t.1.length = 8) : ∀ (r : List Tm), L8 r → (∀ u ∈ r, u.1 ≠ t.1) → r.Pairwise (fun a b => 0 < cmpL a.1 b.1) → ∃ r' : List Tm, r'.Perm (t :: r) ∧ r'.Pairwise (fun a b => 0 < cmpL a.1 b.1)
  | [], _, _, _ => ⟨[t], .refl _, by simp⟩
  | u :: r, hr, hne, hs => by
    have lu := hr u (by simp)
    by_cases h : 0 < cmpL t.1 u.1
    · refine ⟨t :: u :: r, .refl _, List.pairwise_cons.2 ⟨fun x hx => ?_, hs⟩⟩
      rcases List.mem_cons.1 hx with rfl | hx
      · exact h
      · exact gt_trans ht lu (hr x (by simp [hx])) h ((List.pairwise_cons.1 hs).1 x hx)
    · obtain ⟨r', h1, h2⟩ := sort_ins t ht r (fun x hx => hr x (by simp [hx])) (fun x hx => hne x (by simp [hx])) (List.pairwise_cons.1 hs).2
      have hut : 0 < cmpL u.1 t.1 := by
        have h3 : cmpL t.1 u.1 ≠ 0 := fun e => hne u (by simp) (cmpL_eq _ _ (by omega) e).symm
        rw [cmpL_anti]; omega
      refine ⟨u :: r', (h1.cons u).trans (.swap _ _ _), List.pairwise_cons.2 ⟨fun x hx => ?_, h2⟩⟩
      rcases List.mem_cons.1 (h1.subset hx) with rfl | hx
      · exact hut
      · exact (List.pairwise_cons.1 hs).1 x hx
theorem sort_ex : ∀ (l : List Tm), L8 l → (l.map (·.1)).Nodup → ∃ r : List Tm, r.Perm l ∧ r.Pairwise (fun a b => 0 < cmpL a.1 b.1)
  | [], _, _ => ⟨[], .refl _, List.Pairwise.nil⟩
  | t :: l, hl, hn => by
    simp only [List.map_cons, List.nodup_cons] at hn
    obtain ⟨r, h1, h2⟩ := sort_ex l (fun x hx => hl x (by simp [hx])) hn.2
    obtain ⟨r', h3, h4⟩ := sort_ins t (hl t (by simp)) r (fun x hx => hl x (by simp [h1.subset hx])) (fun u hu e => hn.1 (by rw [← e]; exact List.mem_map.2 ⟨u, h1.subset hu, rfl⟩)) h2
    exact ⟨r', h3.trans (h1.cons t), h4⟩
theorem put_keys (m : List Int) (c : Rat) : ∀ (l : List Tm), (∀ t ∈ putM l m c, t.1 = m ∨ ∃ u ∈ l, u.1 = t.1) ∧ ((l.map (·.1)).Nodup → ((putM l m c).map (·.1)).Nodup)
  | [] => by simp [putM]
  | t :: l => by
    obtain ⟨h1, h2⟩ := put_keys m c l
    simp only [putM]
    by_cases h : m = t.1
    · rw [if_pos h]
      refine ⟨fun u hu => ?_, fun hn => ?_⟩
      · rcases List.mem_cons.1 hu with rfl | hu
        · exact .inl rfl
        · exact .inr ⟨u, by simp [hu], rfl⟩
      · rw [List.map_cons] at hn ⊢
        rw [h]; exact hn
    · rw [if_neg h]
      refine ⟨fun u hu => ?_, fun hn => ?_⟩
      · rcases List.mem_cons.1 hu with rfl | hu
        · exact .inr ⟨u, by simp, rfl⟩
        · rcases h1 u hu with e | ⟨v, hv, e⟩
          · exact .inl e
          · exact .inr ⟨v, by simp [hv], e⟩
      · rw [List.map_cons, List.nodup_cons] at hn ⊢
        refine ⟨fun hm => ?_, h2 hn.2⟩
        obtain ⟨u, hu, e⟩ := List.mem_map.1 hm
        rcases h1 u hu with e2 | ⟨v, hv, e2⟩
        · exact h (by rw [← e2, e])
        · exact hn.1 (List.mem_map.2 ⟨v, hv, by rw [e2, e]⟩)
structure Mid (M : List Int → Prop) (l : List Tm) : Prop where
  nd : (l.map (·.1)).Nodup
  all : ∀ t ∈ l, M t.1
theorem Mid.add {M : List Int → Prop} {l : List Tm} (h : Mid M l) {m : List Int} (hm : M m) (c : Rat) : Mid M (addM l m c) := by
  unfold addM
  obtain ⟨h1, h2⟩ := put_keys m (match getM l m with | some o => o + c | none => c) l
  refine ⟨h2 h.nd, fun t ht => ?_⟩
  rcases h1 t ht with e | ⟨u, hu, e⟩
  · rw [e]; exact hm
  · rw [← e]; exact h.all u hu
theorem mulIn_ex {M : List Int → Prop} (a : Tm) : ∀ (q l : List Tm), Mid M l → (∀ b ∈ q, (mMul a.1 b.1).all okE = true ∧ M (mMul a.1 b.1)) → ∃ l', mulIn l a q = some l' ∧ Mid M l'
  | [], l, h, _ => ⟨l, rfl, h⟩
  | b :: q, l, h, hq => by
    have hb := hq b (by simp)
    simp only [mulIn, hb.1, if_true]
    exact mulIn_ex a q _ (h.add hb.2 _) (fun x hx => hq x (by simp [hx]))
theorem mulOut_ex {M : List Int → Prop} (q : List Tm) : ∀ (p l : List Tm), Mid M l → (∀ a ∈ p, ∀ b ∈ q, (mMul a.1 b.1).all okE = true ∧ M (mMul a.1 b.1)) → ∃ l', mulOut l q p = some l' ∧ Mid M l'
  | [], l, h, _ => ⟨l, rfl, h⟩
  | a :: p, l, h, hp => by
    obtain ⟨l1, h1, h2⟩ := mulIn_ex a q l h (hp a (by simp))
    simp only [mulOut, h1]
    exact mulOut_ex q p l1 h2 (fun x hx => hp x (by simp [hx]))
theorem PB_mulIn {A : Nat} {a : Tm} (ha : a.1.length = 8) (hA : LQ a.2 ≤ A) : ∀ (q l l' : List Tm) (B : Nat), PB A q → PB B l → mulIn l a q = some l' → PB (B + q.length * (2 * A + 1)) l' ∧ l'.length ≤ l.length + q.length
  | [], l, l', B, _, hl, h => by
    simp only [mulIn] at h
    injection h with h
    subst h
    exact ⟨hl.mono (by omega), by simp⟩
  | b :: q, l, l', B, hq, hl, h => by
    simp only [mulIn] at h
    split at h
    · have hb := hq.head
      have h2 : LQ (a.2 * b.2) ≤ 2 * A := by have := LQ_mul a.2 b.2; omega
      obtain ⟨h3, h4⟩ := PB_mulIn ha hA q _ l' (B + 2 * A + 1) hq.tail (PB_addM (mMul_len ha hb.1) h2 hl) h
      have h5 := addM_len l (mMul a.1 b.1) (a.2 * b.2)
      have h6 : (q.length + 1) * (2 * A + 1) = q.length * (2 * A + 1) + (2 * A + 1) := by rw [Nat.add_mul, Nat.one_mul]
      rw [List.length_cons]
      exact ⟨h3.mono (by omega), by omega⟩
    · simp at h
theorem PB_mulOut {A : Nat} {q : List Tm} (hq : PB A q) : ∀ (p l l' : List Tm) (B : Nat), PB A p → PB B l → mulOut l q p = some l' → PB (B + p.length * (q.length * (2 * A + 1))) l' ∧ l'.length ≤ l.length + p.length * q.length
  | [], l, l', B, _, hl, h => by
    simp only [mulOut] at h
    injection h with h
    subst h
    exact ⟨hl.mono (by omega), by simp⟩
  | a :: p, l, l', B, hp, hl, h => by
    simp only [mulOut] at h
    cases hm : mulIn l a q with
    | none => rw [hm] at h; simp at h
    | some l1 =>
      rw [hm] at h
      have ha := hp.head
      obtain ⟨h1, h2⟩ := PB_mulIn ha.1 ha.2 q l l1 B hq hl hm
      obtain ⟨h3, h4⟩ := PB_mulOut hq p l1 l' _ hp.tail h1 h
      have h6 : (p.length + 1) * (q.length * (2 * A + 1)) = p.length * (q.length * (2 * A + 1)) + q.length * (2 * A + 1) := by rw [Nat.add_mul, Nat.one_mul]
      have h7 : (p.length + 1) * q.length = p.length * q.length + q.length := by rw [Nat.add_mul, Nat.one_mul]
      rw [List.length_cons]
      exact ⟨h3.mono (by omega), by omega⟩
structure Pl (e : Nat) (A n : Nat) (p : List Tm) : Prop where
  can : Can p
  ex : ∀ t ∈ p, ∀ x ∈ t.1, 0 ≤ x ∧ x ≤ (e : Int)
  lq : ∀ t ∈ p, LQ t.2 ≤ A
  ln : p.length ≤ n
theorem Pl.pb {e A n : Nat} {p : List Tm} (h : Pl e A n p) : PB A p := ⟨h.can.len, h.lq⟩
theorem Pl.l8 {e A n : Nat} {p : List Tm} (h : Pl e A n p) : L8 p := h.can.len
theorem Pl.pm {e A n : Nat} {p : List Tm} (h : Pl e A n p) (he : e ≤ 65535) : PM p := by
  intro t ht
  refine List.all_eq_true.2 fun x hx => ?_
  have := h.ex t ht x hx
  simp only [okE, decide_eq_true_eq]
  omega
theorem Pl.mono {e A n e' A' n' : Nat} {p : List Tm} (h : Pl e A n p) (h1 : e ≤ e') (h2 : A ≤ A') (h3 : n ≤ n') : Pl e' A' n' p :=
  ⟨h.can, fun t ht x hx => by have := h.ex t ht x hx; omega, fun t ht => Nat.le_trans (h.lq t ht) h2, Nat.le_trans h.ln h3⟩
theorem mMul_ex {a b : List Int} {e1 e2 : Nat} (ha : ∀ x ∈ a, 0 ≤ x ∧ x ≤ (e1 : Int)) (hb : ∀ x ∈ b, 0 ≤ x ∧ x ≤ (e2 : Int)) : ∀ x ∈ mMul a b, 0 ≤ x ∧ x ≤ ((e1 + e2 : Nat) : Int) := by
  unfold mMul
  induction a generalizing b with
  | nil => intro x hx; simp at hx
  | cons y a ih =>
    cases b with
    | nil => intro x hx; simp at hx
    | cons z b =>
      intro x hx
      rw [List.zipWith_cons_cons] at hx
      rcases List.mem_cons.1 hx with rfl | hx
      · have h1 := ha y (by simp)
        have h2 := hb z (by simp)
        omega
      · exact ih (fun w hw => ha w (by simp [hw])) (fun w hw => hb w (by simp [hw])) x hx
theorem Pl.add {e A1 A2 n1 n2 : Nat} {p q : List Tm} (hp : Pl e A1 n1 p) (hq : Pl e A2 n2 q) : Pl e (A1 + A2 + 1) (n1 + n2) (addP p q) :=
  ⟨can_add hp.can hq.can, mrg_all (P := fun t => ∀ x ∈ t.1, 0 ≤ x ∧ x ≤ (e : Int)) (fun t h => h) (fun t u h _ => h) _ p q hp.ex hq.ex, (PB_add hp.pb hq.pb).lq, by have := add_length p q; have := hp.ln; have := hq.ln; omega⟩
theorem mul_ex {e1 e2 A n1 n2 : Nat} {p q : List Tm} (hp : Pl e1 A n1 p) (hq : Pl e2 A n2 q) (he : e1 + e2 ≤ 65535) (hn : n1 * n2 ≤ 1000000000) (h1 : n1 ≤ 1000000000) (h2 : n2 ≤ 1000000000) (hA : A ≤ 549755813888) (hB : n1 * (n2 * (2 * A + 1)) ≤ 549755813888) :
    ∃ r, Pl (e1 + e2) (n1 * (n2 * (2 * A + 1))) (n1 * n2) r ∧ (∀ f, ev f r = ev (fun m => ev (fun n => f (mMul m n)) q) p) ∧ ∀ f g, FnR Go.Proofs.Tryz.prog 18 [eP f p, eP g q] [] (.t [eP false r, .i .i64 0]) := by
  have hM : ∀ a ∈ p, ∀ b ∈ q, (mMul a.1 b.1).all okE = true ∧ ((mMul a.1 b.1).length = 8 ∧ ∀ x ∈ mMul a.1 b.1, 0 ≤ x ∧ x ≤ ((e1 + e2 : Nat) : Int)) := by
    intro a ha b hb
    have h3 := mMul_ex (hp.ex a ha) (hq.ex b hb)
    refine ⟨List.all_eq_true.2 fun x hx => ?_, mMul_len (hp.can.len a ha) (hq.can.len b hb), h3⟩
    have := h3 x hx
    simp only [okE, decide_eq_true_eq]
    omega
  obtain ⟨l, hl, hmid⟩ := mulOut_ex (M := fun m => m.length = 8 ∧ ∀ x ∈ m, 0 ≤ x ∧ x ≤ ((e1 + e2 : Nat) : Int)) q p [] ⟨by simp, by simp⟩ hM
  obtain ⟨hPB, hlen⟩ := PB_mulOut hq.pb p [] l 0 hp.pb (.nil 0) hl
  have hk1 : p.length * (q.length * (2 * A + 1)) ≤ n1 * (n2 * (2 * A + 1)) := Nat.mul_le_mul hp.ln (Nat.mul_le_mul_right _ hq.ln)
  have hk2 : p.length * q.length ≤ n1 * n2 := Nat.mul_le_mul hp.ln hq.ln
  have hfl : ∀ t ∈ l.filter (fun t => decide (t.2 ≠ 0)), t ∈ l := fun t ht => (List.mem_filter.1 ht).1
  have hnd : ((l.filter (fun t => decide (t.2 ≠ 0))).map (·.1)).Nodup := hmid.nd.sublist (List.Sublist.map _ List.filter_sublist)
  obtain ⟨r, hr1, hr2⟩ := sort_ex (l.filter (fun t => decide (t.2 ≠ 0))) (fun t ht => (hmid.all t (hfl t ht)).1) hnd
  have hmem : ∀ t ∈ r, t ∈ l ∧ t.2 ≠ 0 := fun t ht => by
    have := List.mem_filter.1 (hr1.subset ht)
    exact ⟨this.1, by simpa using this.2⟩
  refine ⟨r, ⟨⟨fun t ht => (hmid.all t (hmem t ht).1).1, fun t ht => (hmem t ht).2, hr2⟩, fun t ht => (hmid.all t (hmem t ht).1).2, fun t ht => ?_, ?_⟩, fun f => ?_, fun f g => ?_⟩
  · have := hPB.lq t (hmem t ht).1
    omega
  · have h3 := hr1.length_eq
    have h4 := List.length_filter_le (fun t : Tm => decide (t.2 ≠ 0)) l
    simp only [List.length_nil, Nat.zero_add] at hlen
    omega
  · rw [ev_perm f hr1, ev_filter, ev_mulOut f q p [] l hl]
    simp only [ev, Rat.zero_add]
  · exact w18 p q f g hp.pb (hp.pm (by omega)) hq.pb (hq.pm (by omega)) (by omega) (by have := hp.ln; omega) (by have := hq.ln; omega) hA (by omega) l r hl hr1 hr2
def e8 (r : List Int) : List D := r.map (.i .i8)
structure R5 (r : List Int) : Prop where
  len : r.length = 5
  bd : ∀ x ∈ r, -128 ≤ x ∧ x ≤ 127
theorem R5.get {r : List Int} (h : R5 r) (i : Nat) : -128 ≤ r.getD i 0 ∧ r.getD i 0 ≤ 127 := by
  rw [List.getD_eq_getElem?_getD]
  by_cases hi : i < r.length
  · rw [List.getElem?_eq_getElem hi]; exact h.bd _ (List.getElem_mem _)
  · rw [List.getElem?_eq_none (by omega)]; simp
theorem w97 (x : Int) (h1 : -128 ≤ x) (h2 : x ≤ 127) : FnR Go.Proofs.Tryz.prog 97 [.i .i8 x] [] (.i .i64 (x.natAbs : Int)) := by
  refine fnr97 (by simp) rfl (by simp) List.nodup_nil fun F out hS => ?_
  have e1 : IntKind.wrap .i64 x = x := IntWalk.i64_in _ (by omega)
  unfold ir97
  by_cases h : x < 0
  · have e2 : IntKind.wrap .i64 (0 - x) = (x.natAbs : Int) := by rw [IntWalk.i64_in _ (by omega)]; omega
    simp only [go_sem, sB, reduceCtorEq, sL, sA, sE, sN, decide_eq_true h, e1, e2, rv97, fin_t]
    exact .refl _
  · have e2 : x = (x.natAbs : Int) := by omega
    simp only [go_sem, sB, reduceCtorEq, sL, sA, sE, sN, decide_eq_false h, e1, rv97, fin_t]
    rw [← e2]
    exact .refl _
def mIt (r : List Int) (deg : Int) : Nat → List Int × Int
  | 0 => (m0, deg)
  | i + 1 => ((mIt r deg i).1.set i (Int.tmod ((r.getD (1 + i) 0).natAbs : Int) ((mIt r deg i).2 + 1)), (mIt r deg i).2 - Int.tmod ((r.getD (1 + i) 0).natAbs : Int) ((mIt r deg i).2 + 1))
theorem tmod_bd (a : Nat) (b : Int) (hb : 0 ≤ b) : 0 ≤ Int.tmod (a : Int) (b + 1) ∧ Int.tmod (a : Int) (b + 1) ≤ b := by
  have h1 := Int.tmod_nonneg (b + 1) (show (0 : Int) ≤ (a : Int) by omega)
  have h2 := Int.tmod_lt_of_pos (a : Int) (show 0 < b + 1 by omega)
  omega
theorem mIt_ok (r : List Int) (deg : Nat) : ∀ i, (mIt r deg i).1.length = 8 ∧ (∀ x ∈ (mIt r deg i).1, 0 ≤ x ∧ x ≤ (deg : Int)) ∧ 0 ≤ (mIt r deg i).2 ∧ (mIt r deg i).2 ≤ deg
  | 0 => ⟨rfl, by intro x hx; rw [show (mIt r deg 0).1 = m0 from rfl, m0] at hx; rw [List.eq_of_mem_replicate hx]; omega, by show (0 : Int) ≤ deg; omega, by show (deg : Int) ≤ deg; omega⟩
  | i + 1 => by
    obtain ⟨h1, h2, h3, h4⟩ := mIt_ok r deg i
    have h5 := tmod_bd (r.getD (1 + i) 0).natAbs _ h3
    refine ⟨by simp only [mIt, List.length_set, h1], fun x hx => ?_, by simp only [mIt]; omega, by simp only [mIt]; omega⟩
    simp only [mIt] at hx
    rcases List.mem_or_eq_of_mem_set hx with hx | rfl
    · exact h2 x hx
    · omega
theorem ixaO_q (len sz : Nat) (cs : List D) (n : Nat) (k' : IntKind) (h : n < len) : ixaO len sz (.q cs) (.i k' n) = some (.q (cs.drop (n * sz))) := by simp [ixaO, h]
theorem e8_at {r : List Int} {n : Nat} (h : n < r.length) : (e8 r).drop n = .i .i8 (r.getD n 0) :: (e8 r).drop (n + 1) := by
  have h' : n < (e8 r).length := by simpa [e8] using h
  rw [List.drop_eq_getElem_cons h']
  simp [e8, List.getD_eq_getElem?_getD, List.getElem?_eq_getElem h]
theorem loop33a (rows : List (List Int)) (f : Bool) (r : List Int) (k : Nat) (hk : rows[k]? = some r) (hr : R5 r) (hkk : k ≤ 1000000000) (n deg : Nat) (hn : n ≤ 4) (hd : deg ≤ 1000) (tm : D) (p9 : D) (F : Nat) (out : Sto) (Q : Ex → St → Prop) (z z' : Nat) :
    ∀ (c i : Nat) (nx : Nat), i + c = n →
    (∀ nx l, Q (.exit 2) { r := (upd (upd (upd (upd (upd (upd (upd (upd (upd (upd (fun _ => .u) 35 (.b false)) 13 (.i .i64 n)) 12 (.i .i64 l)) 11 (.p (F, 11) z' 0)) 10 (.i .i64 k)) 9 (p9)) 4 (.p (F, 4) z 0)) 3 (tm)) 2 (.i .i64 deg)) 1 (.i .i64 n)), own := upd (upd (fun _ => none) 11 (some (z', .box (eM (mIt r deg n).1)))) 4 (some (z, .box [.sl 5 f (rows.map e8)])), out := out, nx := nx }) →
    Loop Go.Proofs.Tryz.prog F [1, 2, 3, 4, 9, 10, 11, 12, 13] [4, 11] b33_0 { r := (upd (upd (upd (upd (upd (upd (upd (upd (upd (fun _ => .u) 13 (.i .i64 i)) 12 (.i .i64 (mIt r deg i).2)) 11 (.p (F, 11) z' 0)) 10 (.i .i64 k)) 9 (p9)) 4 (.p (F, 4) z 0)) 3 (tm)) 2 (.i .i64 deg)) 1 (.i .i64 n)), own := upd (upd (fun _ => none) 11 (some (z', .box (eM (mIt r deg i).1)))) 4 (some (z, .box [.sl 5 f (rows.map e8)])), out := out, nx := nx } Q := by
  intro c
  induction c with
  | zero =>
    intro i nx hi h0
    refine Loop.stepW ?_
    have ei : i = n := by omega
    subst ei
    have c1 : decide (((i : Nat) : Int) < ((i : Nat) : Int)) = false := by simp
    simp only [go_sem, sB, reduceCtorEq, sL, sA, sE, sN, wb33_0, c1]
    exact h0 _ _
  | succ c ih =>
    intro i nx hi h0
    refine Loop.stepW ?_
    have c1 : decide (((i : Nat) : Int) < ((n : Nat) : Int)) = true := decide_eq_true (by omega)
    have c2 : decide (((i : Nat) : Int) < 4) = true := decide_eq_true (by omega)
    have e1 : IntKind.wrap .i64 (((i : Nat) : Int) + 1) = ((i + 1 : Nat) : Int) := by rw [IntWalk.i64_in _ (by omega)]; omega
    have e1' : IntKind.wrap .i64 (1 + ((i : Nat) : Int)) = ((1 + i : Nat) : Int) := by rw [IntWalk.i64_in _ (by omega)]; omega
    obtain ⟨m1, m2, m3, m4⟩ := mIt_ok r deg i
    have hx : ixsO 5 (.sl 5 f (rows.map e8)) (.i .i64 k) = some (.q (e8 r)) := ixsO_sl 5 f _ .i64 k _ (by rw [List.getElem?_map, hk]; rfl)
    have hrd : (e8 r).drop (1 + i) = .i .i8 (r.getD (1 + i) 0) :: (e8 r).drop (1 + i + 1) := e8_at (by rw [hr.len]; omega)
    have hb := hr.get (1 + i)
    have ht := tmod_bd (r.getD (1 + i) 0).natAbs _ m3
    have e2 : IntKind.wrap .i64 ((mIt r deg i).2 + 1) = (mIt r deg i).2 + 1 := IntWalk.i64_in _ (by omega)
    have hi1 : 1 + i < 5 := by omega
    have hi8 : i < 8 := by omega
    have hm : mIt r deg (i + 1) = ((mIt r deg i).1.set i (Int.tmod ((r.getD (1 + i) 0).natAbs : Int) ((mIt r deg i).2 + 1)), (mIt r deg i).2 - Int.tmod ((r.getD (1 + i) 0).natAbs : Int) ((mIt r deg i).2 + 1)) := rfl
    have hg := w97 _ hb.1 hb.2
    generalize r.getD (1 + i) 0 = x at *
    have hrem := e_rem .i64 (x.natAbs : Int) ((mIt r deg i).2 + 1) (by omega)
    have e3 : IntKind.wrap .i64 ((mIt r deg i).2 - Int.tmod (x.natAbs : Int) ((mIt r deg i).2 + 1)) = (mIt r deg i).2 - Int.tmod (x.natAbs : Int) ((mIt r deg i).2 + 1) := IntWalk.i64_in _ (by omega)
    generalize hv : Int.tmod (x.natAbs : Int) ((mIt r deg i).2 + 1) = v at *
    have hst : boxS (some (z', .box (eM (mIt r deg i).1))) (F, 11) z' i [.i .i64 v] = some ((F, 11), z', .box (eM ((mIt r deg i).1.set i v))) := by
      rw [boxS_s _ _ _ _ _ (by rw [eM_len]; simp; omega), splM _ _ _ (by omega)]
    have hl2 : ((mIt r deg i).1.set i v).length = 8 := by rw [List.length_set]; exact m1
    have hld : boxC (some (z', .box (eM ((mIt r deg i).1.set i v)))) z' i 1 = some [.i .i64 v] := by
      rw [boxC_s _ _ _ _ (by rw [eM_len]; omega), eM_cell (by omega)]
      simp [List.getD_eq_getElem?_getD, List.getElem?_set, m1, hi8]
    simp only [go_sem, sB, reduceCtorEq, sL, sA, sE, sN, wb33_0, c1, c2, e1', hx, ixaO_q _ _ _ _ _ hi1, Nat.mul_one, hrd]
    refine callO_intro hg ?_
    simp only [go_sem, sB, reduceCtorEq, sL, sA, sE, sN, e2, hrem, ixaO_p _ _ _ _ _ _ _ hi8, Nat.mul_one, hst, hld, e3, e1]
    have ih' := ih (i + 1)
    rw [hm] at ih'
    exact ih' _ (by omega) h0
def mono5 (r : List Int) (n deg : Nat) : List Int := (mIt r deg n).1
def term5 (r : List Int) (n deg : Nat) : List Tm := (timP ((Int.tmod (r.getD 0 0) 4 : Int) : Rat) m0 [(mono5 r n deg, 1)]).1
def madeL (n deg : Nat) : List Tm → List (List Int) → List Tm
  | p, [] => p
  | p, r :: rs => madeL n deg (addP p (term5 r n deg)) rs
def madeP (rows : List (List Int)) (n deg terms : Nat) : List Tm := madeL n deg [] (rows.take terms)
theorem LQ_int {x : Int} (h : x.natAbs < 4294967296) : LQ (x : Rat) ≤ 1 := LQ_small (by show (Rat.num (x : Rat)).natAbs < _; rw [Rat.num_intCast]; exact h) (by rw [Rat.den_intCast]; omega)
theorem LQ_1 : LQ 1 ≤ 1 := LQ_small (by decide) (by decide)
theorem tm4 (x : Int) : -3 ≤ Int.tmod x 4 ∧ Int.tmod x 4 ≤ 3 := by
  have h1 := Int.tmod_lt_of_pos x (show (0 : Int) < 4 by omega)
  have h2 := Int.lt_tmod_of_pos x (show (0 : Int) < 4 by omega)
  omega
theorem mMul_0 : ∀ (m : List Int), m.length = 8 → mMul m0 m = m := by
  intro m h
  match m, h with
  | [a, b, c, d, e, f, g, k], _ => simp [mMul, m0, List.replicate]
theorem term5_pl (r : List Int) (n deg : Nat) (hd : deg ≤ 65535) : Pl deg 2 1 (term5 r n deg) := by
  obtain ⟨h1, h2, _, _⟩ := mIt_ok r deg n
  have h3 := tm4 (r.getD 0 0)
  unfold term5 timP
  split
  · exact ⟨Can.nil, by simp, by simp, by simp⟩
  · rename_i hc
    split
    · have e : mulT ((Int.tmod (r.getD 0 0) 4 : Int) : Rat) m0 [(mono5 r n deg, 1)] = [(mono5 r n deg, ((Int.tmod (r.getD 0 0) 4 : Int) : Rat) * 1)] := by
        simp only [mulT, List.map_cons, List.map_nil, mMul_0 _ h1, mono5]
      rw [e, Rat.mul_one]
      refine ⟨⟨fun t ht => ?_, fun t ht => ?_, by simp⟩, fun t ht => ?_, fun t ht => ?_, by simp⟩
      · rw [List.mem_singleton] at ht; subst ht; exact h1
      · rw [List.mem_singleton] at ht; subst ht; exact hc
      · rw [List.mem_singleton] at ht; subst ht; exact h2
      · rw [List.mem_singleton] at ht; subst ht
        exact Nat.le_trans (LQ_int (x := Int.tmod (r.getD 0 0) 4) (by omega)) (by omega)
    · exact ⟨Can.nil, by simp, by simp, by simp⟩
theorem madeL_pl (n deg : Nat) (hd : deg ≤ 65535) : ∀ (rs : List (List Int)) (p : List Tm) (k : Nat), Pl deg (3 * k) k p → Pl deg (3 * (k + rs.length)) (k + rs.length) (madeL n deg p rs)
  | [], p, k, h => h
  | r :: rs, p, k, h => by
    have h1 := h.add (term5_pl r n deg hd)
    have h2 := madeL_pl n deg hd rs _ (k + 1) (h1.mono (Nat.le_refl _) (by omega) (by omega))
    rw [List.length_cons, show k + (rs.length + 1) = k + 1 + rs.length by omega]
    exact h2
theorem madeP_pl (rows : List (List Int)) (n deg terms : Nat) (hd : deg ≤ 65535) : Pl deg (3 * terms) terms (madeP rows n deg terms) := by
  have := madeL_pl n deg hd (rows.take terms) [] 0 ⟨Can.nil, by simp, by simp, by simp⟩
  have hl : (rows.take terms).length ≤ terms := by rw [List.length_take]; omega
  exact this.mono (Nat.le_refl _) (by omega) (by omega)
theorem loop33b (rows : List (List Int)) (f : Bool) (hrows : ∀ r ∈ rows, R5 r) (n deg terms : Nat) (hn : n ≤ 4) (hd : deg ≤ 1000) (hterms : terms ≤ 1000) (F : Nat) (out : Sto) (Q : Ex → St → Prop) (z : Nat) :
    ∀ (rs : List (List Int)) (k : Nat) (p : List Tm) (g : Bool) (nx : Nat), (rows.take terms).drop k = rs → k + rs.length = (rows.take terms).length → Pl deg (3 * k) k p →
    (∀ nx g, Q (.exit 0) { r := (upd (upd (upd (upd (upd (upd (upd (fun _ => .u) 24 (.b false)) 10 (.i .i64 (rows.take terms).length)) 9 (eP g (madeL n deg p rs))) 4 (.p (F, 4) z 0)) 3 (.i .i64 terms)) 2 (.i .i64 deg)) 1 (.i .i64 n)), own := upd (fun _ => none) 4 (some (z, .box [.sl 5 f (rows.map e8)])), out := out, nx := nx }) →
    Loop Go.Proofs.Tryz.prog F [1, 2, 3, 4, 9, 10] [4] b33_1 { r := (upd (upd (upd (upd (upd (upd (fun _ => .u) 10 (.i .i64 k)) 9 (eP g p)) 4 (.p (F, 4) z 0)) 3 (.i .i64 terms)) 2 (.i .i64 deg)) 1 (.i .i64 n)), own := upd (fun _ => none) 4 (some (z, .box [.sl 5 f (rows.map e8)])), out := out, nx := nx } Q := by
  intro rs
  have htl : (rows.take terms).length = min terms rows.length := List.length_take
  induction rs with
  | nil =>
    intro k p g nx hd' hk hp h0
    refine Loop.stepW ?_
    have ek : k = (rows.take terms).length := by simpa using hk
    by_cases h : k < rows.length
    · have c1 : decide (((k : Nat) : Int) < ((rows.length : Nat) : Int)) = true := decide_eq_true (by omega)
      have c2 : decide (((k : Nat) : Int) < ((terms : Nat) : Int)) = false := decide_eq_false (by omega)
      simp only [go_sem, sB, reduceCtorEq, sL, sA, sE, sN, wb33_1, List.length_map, c1, c2]
      rw [ek]
      exact h0 _ g
    · have c1 : decide (((k : Nat) : Int) < ((rows.length : Nat) : Int)) = false := decide_eq_false (by omega)
      simp only [go_sem, sB, reduceCtorEq, sL, sA, sE, sN, wb33_1, List.length_map, c1]
      rw [ek]
      exact h0 _ g
  | cons r rs ih =>
    intro k p g nx hd' hk hp h0
    refine Loop.stepW ?_
    simp only [List.length_cons] at hk
    have hkr : (rows.take terms)[k]? = some r := by
      have := List.getElem?_drop (xs := rows.take terms) (i := k) (j := 0)
      rw [hd'] at this
      simpa using this.symm
    have hkt : k < terms := by omega
    have hr : rows[k]? = some r := by rw [List.getElem?_take, if_pos hkt] at hkr; exact hkr
    have hR := hrows r (List.mem_of_getElem? hr)
    have c1 : decide (((k : Nat) : Int) < ((rows.length : Nat) : Int)) = true := decide_eq_true (by omega)
    have c2 : decide (((k : Nat) : Int) < ((terms : Nat) : Int)) = true := decide_eq_true (by omega)
    have e1 : IntKind.wrap .i64 (((k : Nat) : Int) + 1) = ((k + 1 : Nat) : Int) := by rw [IntWalk.i64_in _ (by omega)]; omega
    simp only [go_sem, sB, reduceCtorEq, sL, sA, sE, sN, wb33_1, List.length_map, c1, c2, z8, len80, drop80]
    refine loop33a rows f r k hr hR (by omega) n deg hn hd _ _ F out _ z _ n 0 _ (by omega) (fun nx l => ?_)
    have hx : ixsO 5 (.sl 5 f (rows.map e8)) (.i .i64 k) = some (.q (e8 r)) := ixsO_sl 5 f _ .i64 k _ (by rw [List.getElem?_map, hr]; rfl)
    have hx0 : ixaO 5 1 (.q (e8 r)) (.i .i64 0) = some (.q (.i .i8 (r.getD 0 0) :: (e8 r).drop 1)) := by
      have h1 := ixaO_q 5 1 (e8 r) 0 .i64 (by omega)
      rw [Nat.zero_mul, e8_at (by rw [hR.len]; omega)] at h1
      exact h1
    have hrem := e_rem .i8 (r.getD 0 0) 4 (by omega)
    have ht := tm4 (r.getD 0 0)
    have e2 : IntKind.wrap .i64 (Int.tmod (r.getD 0 0) 4) = Int.tmod (r.getD 0 0) 4 := IntWalk.i64_in _ (by omega)
    have hml : (mIt r deg n).1.length = 8 := (mIt_ok r deg n).1
    have bm : ∀ z, boxC (some (z, .box (eM (mIt r deg n).1))) z 0 8 = some (eM (mIt r deg n).1) := fun z => by rw [boxC_s _ _ _ _ (by rw [len8 hml]; decide), List.drop_zero, take8 hml]
    simp only [go_sem, sB, reduceCtorEq, sL, sA, sE, sN, hx, hx0, hrem, e2]
    refine callO_intro (q23 _ (by omega) (by omega)) ?_
    simp only [go_sem, sB, reduceCtorEq, sL, sA, sE, sN]
    refine callO_intro (q23 1 (by omega) (by omega)) ?_
    rw [show ((1 : Int) : Rat) = 1 from rfl]
    have h12 : (eT ((mIt r deg n).1, (1 : Rat))).length = 12 := eT_len (t := ((mIt r deg n).1, (1 : Rat))) hml
    simp only [go_sem, sB, reduceCtorEq, sL, sA, sE, sN, rW_C, rC_len, bm, z8, fillT2 _ _ hml, h12]
    have hpl : PB 1 [((mIt r deg n).1, (1 : Rat))] := .cons hml LQ_1 (.nil 1)
    have hpm : PM [((mIt r deg n).1, (1 : Rat))] := by
      intro t ht'
      rw [List.mem_singleton] at ht'
      subst ht'
      refine List.all_eq_true.2 fun x hx' => ?_
      have := (mIt_ok r deg n).2.1 x hx'
      simp only [okE, decide_eq_true_eq]
      omega
    refine callO_intro (w98 _ [((mIt r deg n).1, (1 : Rat))] true hpl hpm (LQ_int (by omega)) (by omega) (by simp)) ?_
    simp only [go_sem, sB, reduceCtorEq, sL, sA, sE, sN]
    have h5 := term5_pl r n deg (by omega)
    refine callO_intro (w56 p (term5 r n deg) g false (A := 3 * k + 2) (hp.pb.mono (by omega)) (h5.pb.mono (by omega)) (by omega) (by have := hp.ln; have := h5.ln; omega)) ?_
    simp only [go_sem, sB, reduceCtorEq, sL, sA, sE, sN, e1]
    refine ih (k + 1) _ false _ (by rw [drop_at hkr] at hd'; injection hd') (by omega) ((hp.add h5).mono (Nat.le_refl _) (by omega) (by omega)) h0
theorem w33 (rows : List (List Int)) (f : Bool) (hrows : ∀ r ∈ rows, R5 r) (n deg terms : Nat) (hn : n ≤ 4) (hd : deg ≤ 1000) (hterms : terms ≤ 1000) :
    FnR Go.Proofs.Tryz.prog 33 [.a [.sl 5 f (rows.map e8)], .i .i64 n, .i .i64 deg, .i .i64 terms] [] (eP false (madeP rows n deg terms)) := by
  refine fnr33 (by simp) (nr_eP _ _) (by simp) List.nodup_nil fun F out hS => ?_
  unfold ir33
  simp only [go_sem, sB, reduceCtorEq, sL, sA, sE, sN]
  refine loop33b rows f hrows n deg terms hn hd hterms F out _ _ (rows.take terms) 0 [] true _ rfl (by omega) ⟨Can.nil, by simp, by simp, by simp⟩ (fun nx g => ?_)
  simp only [go_sem, sB, reduceCtorEq, sL, sA, sE, sN, rv33, fin_t]
  exact weak_full _ _ _
def IsProd (p q r : List Tm) : Prop := ∀ f, ev f r = ev (fun m => ev (fun n => f (mMul m n)) q) p
theorem mMul_comm : ∀ (a b : List Int), mMul a b = mMul b a
  | [], [] => rfl
  | [], _ :: _ => rfl
  | _ :: _, [] => rfl
  | x :: a, y :: b => by
    have := mMul_comm a b
    unfold mMul at this ⊢
    rw [List.zipWith_cons_cons, List.zipWith_cons_cons, this, Int.add_comm]
theorem mMul_assoc : ∀ (a b c : List Int), mMul (mMul a b) c = mMul a (mMul b c)
  | [], b, c => by simp [mMul]
  | _ :: _, [], c => by simp [mMul]
  | _ :: _, _ :: _, [] => by simp [mMul]
  | x :: a, y :: b, z :: c => by
    have := mMul_assoc a b c
    unfold mMul at this ⊢
    simp only [List.zipWith_cons_cons, this, Int.add_assoc]
theorem cmp_add : ∀ (a b c : List Int), a.length = b.length → b.length = c.length → cmpL (mMul a c) (mMul b c) = cmpL a b
  | [], [], [], _, _ => rfl
  | x :: a, y :: b, z :: c, h1, h2 => by
    have := cmp_add a b c (by simpa using h1) (by simpa using h2)
    unfold mMul at this ⊢
    rw [List.zipWith_cons_cons, List.zipWith_cons_cons]
    simp only [cmpL]
    by_cases q1 : x < y
    · rw [if_pos q1, if_pos (by omega)]
    · by_cases q2 : y < x
      · rw [if_neg q1, if_pos q2, if_neg (by omega), if_pos (by omega)]
      · rw [if_neg q1, if_neg q2, if_neg (by omega), if_neg (by omega)]
        exact this
theorem w16 (rows : List (List Int)) (f : Bool) (hrows : ∀ r ∈ rows, R5 r) : FnR Go.Proofs.Tryz.prog 16 [.a [.sl 5 f (rows.map e8)]] [] (eP false (madeP rows 4 5 6)) := by
  refine fnr16 (by simp) (nr_eP _ _) (by simp) List.nodup_nil fun F out hS => ?_
  unfold ir16
  simp only [go_sem, sB, reduceCtorEq, sL, sA, sE, sN]
  refine callO_intro (w33 rows f hrows 4 5 6 (by omega) (by omega) (by omega)) ?_
  simp only [go_sem, sB, reduceCtorEq, sL, sA, sE, sN, rv16, fin_t]
  exact .refl _
theorem same_tt {p : List Tm} (f g : Bool) {A : Nat} (hp : PB A p) (hA : A ≤ 140737488355328) (hl : p.length ≤ 1000000000000) : FnR Go.Proofs.Tryz.prog 19 [eP f p, eP g p] [] (.b true) := by
  have := w19 p p f g hp hp hA hl
  rwa [decide_eq_true (rfl : p = p)] at this
def pw (x : Rat) : Nat → Rat
  | 0 => 1
  | n + 1 => pw x n * x
theorem eM_at {m : List Int} {n : Nat} (h : n < m.length) : (eM m).drop n = .i .i64 (m.getD n 0) :: (eM m).drop (n + 1) := by
  have h' : n < (eM m).length := by simpa [eM] using h
  rw [List.drop_eq_getElem_cons h']
  simp [eM, List.getD_eq_getElem?_getD, List.getElem?_eq_getElem h]
structure Pt (X : Nat) (v : List Rat) : Prop where
  len : v.length = 8
  lq : ∀ x ∈ v, LQ x ≤ X
theorem Pt.get {X : Nat} {v : List Rat} (h : Pt X v) {i : Nat} (hi : i < 8) : LQ (v.getD i 0) ≤ X := by
  have := h.len
  rw [List.getD_eq_getElem?_getD, List.getElem?_eq_getElem (show i < v.length by omega)]
  exact h.lq _ (List.getElem_mem _)
theorem LQ_0 : LQ 0 ≤ 1 := LQ_small (by decide) (by decide)
def zz : List D := [.b false, .sl 1 true [], .b false, .sl 1 true []]
def zr (n : Nat) : List D := (List.replicate n zz).flatten
theorem cP_pl {A : Nat} {a : Rat} (h : LQ a ≤ A) : Pl 0 A 1 (cP a) := by
  unfold cP
  split
  · exact ⟨Can.nil, by simp, by simp, by simp⟩
  · rename_i h0
    refine ⟨⟨fun t ht => ?_, fun t ht => ?_, by simp⟩, fun t ht x hx => ?_, fun t ht => ?_, by simp⟩
    all_goals (rw [List.mem_singleton] at ht; subst ht)
    · rfl
    · exact h0
    · have : x ∈ List.replicate 8 (0 : Int) := hx
      rw [List.eq_of_mem_replicate this]; omega
    · exact h
structure Top (o : List (List Int)) (p : List Tm) (t : Tm) : Prop where
  mem : t ∈ p
  top : ∀ u ∈ p, 0 ≤ ordG o t.1 u.1
theorem ev_single (f : List Int → Rat) {a : Tm} : ∀ {p : List Tm}, Can p → a ∈ p → (∀ t ∈ p, t.1 ≠ a.1 → f t.1 = 0) → ev f p = a.2 * f a.1
  | t :: p, hp, ha, h => by
    have hg := (List.pairwise_cons.1 hp.st).1
    rcases List.mem_cons.1 ha with rfl | ha
    · simp only [ev]
      rw [ev_zero (f := f) (fun u hu => h u (by simp [hu]) (fun e => by have := hg u hu; rw [e, cmpL_self] at this; omega)), Rat.add_zero]
    · simp only [ev]
      rw [h t (by simp) (fun e => by have := hg a ha; rw [e, cmpL_self] at this; omega), Rat.mul_zero, Rat.zero_add]
      exact ev_single f hp.tail ha (fun u hu => h u (by simp [hu]))
theorem coef_mem {p : List Tm} (hp : Can p) {t : Tm} (ht : t ∈ p) : ev (dlt t.1) p = t.2 := by
  rw [ev_single (dlt t.1) hp ht (fun u _ hne => if_neg hne)]
  simp [dlt, Rat.mul_one]
theorem mem_prod {p q r : List Tm} (hr : Can r) (h : IsProd p q r) {t : Tm} (ht : t ∈ r) : ∃ a ∈ p, ∃ b ∈ q, t.1 = mMul a.1 b.1 := by
  apply Classical.byContradiction
  intro hn
  have h1 := coef_mem hr ht
  rw [h] at h1
  rw [ev_zero (f := fun m => ev (fun n => dlt t.1 (mMul m n)) q) (fun a ha => ev_zero (f := fun n => dlt t.1 (mMul a.1 n)) (fun b hb => if_neg (fun e => hn ⟨a, ha, b, hb, e.symm⟩)))] at h1
  exact hr.nz t ht h1.symm
theorem degP_max : ∀ (p : List Tm) (d : Int), d ≤ degP d p ∧ (∀ t ∈ p, t.1.sum ≤ degP d p) ∧ (degP d p = d ∨ ∃ t ∈ p, t.1.sum = degP d p)
  | [], d => by simp [degP]
  | t :: p, d => by
    obtain ⟨h1, h2, h3⟩ := degP_max p (if t.1.sum > d then t.1.sum else d)
    simp only [degP]
    refine ⟨Int.le_trans (by split <;> omega) h1, fun u hu => ?_, ?_⟩
    · rcases List.mem_cons.1 hu with rfl | hu
      · refine Int.le_trans ?_ h1
        split <;> omega
      · exact h2 u hu
    · rcases h3 with h3 | ⟨u, hu, e⟩
      · by_cases hc : t.1.sum > d
        · exact .inr ⟨t, by simp, by rw [h3, if_pos hc]⟩
        · exact .inl (by rw [h3, if_neg hc])
      · exact .inr ⟨u, by simp [hu], e⟩
theorem bM {m : List Int} (h : m.length = 8) (z : Nat) : boxC (some (z, .box (eM m))) z 0 8 = some (eM m) := by rw [boxC_s _ _ _ _ (by rw [len8 h]; decide), List.drop_zero, take8 h]
def zt : List D := [.b false, .sl 1 true [], .b false, .sl 1 true [], .i .i64 0, .i .i64 0, .i .i64 0, .i .i64 0, .i .i64 0, .i .i64 0, .i .i64 0, .i .i64 0]
theorem get_mid {α : Type} (xs ys : List α) (y : α) {i : Nat} (h : xs.length = i) : (xs ++ y :: ys)[i]? = some y := by
  rw [List.getElem?_append_right (by omega), h, Nat.sub_self]; rfl
theorem set_mid {α : Type} (xs ys : List α) (y v : α) {i : Nat} (h : xs.length = i) : (xs ++ y :: ys).set i v = (xs ++ [v]) ++ ys := by
  rw [List.set_append_right _ _ (by omega), h, Nat.sub_self]; simp
theorem loop42 (c : Rat) (m : List Int) (p : List Tm) (f : Bool) {A : Nat} (hm : m.length = 8) (km : m.all okE = true) (hp : PB A p) (kp : PM p) (hc : LQ c ≤ 549755813888) (hA : A ≤ 549755813888) (hl : p.length ≤ 1000000000) (F : Nat) (out : Sto) (Q : Ex → St → Prop) (z3 z4 z : Nat) :
    ∀ (l : List Tm) (i : Nat) (res : List Tm) (nx : Nat), p.drop i = l → i + l.length = p.length → res.length = i →
    (fitP m l = true → ∀ r nx, r 8 = .w (F, 18) z 12 0 p.length → Q (.exit 0) { r := r, own := upd (upd (upd (fun _ => none) 18 (some (z, .row 12 ((res ++ mulT c m l).map eT)))) 4 (some (z4, .box (eM m)))) 3 (some (z3, .box (rC c))), out := out, nx := nx }) →
    (fitP m l = false → ∀ r own nx, r 6 = .sl 12 true [] → r 7 = .i .i64 2 → Q .ret { r := r, own := own, out := out, nx := nx }) →
    Loop Go.Proofs.Tryz.prog F [3, 4, 8, 19, 20, 21] [3, 4, 18] b42_0 { r := (upd (upd (upd (upd (upd (upd (fun _ => .u) 21 (.i .i64 i)) 20 (.i .i64 p.length)) 19 (eP f p)) 8 (.w (F, 18) z 12 0 p.length)) 4 (.p (F, 4) z4 0)) 3 (.p (F, 3) z3 0)), own := upd (upd (upd (fun _ => none) 18 (some (z, .row 12 (res.map eT ++ List.replicate l.length zt)))) 4 (some (z4, .box (eM m)))) 3 (some (z3, .box (rC c))), out := out, nx := nx } Q := by
  intro l
  induction l with
  | nil =>
    intro i res nx hd hi hres h0 h1
    refine Loop.stepW ?_
    have ei : i = p.length := by simpa using hi
    subst ei
    have c1 : decide (((p.length : Nat) : Int) < ((p.length : Nat) : Int)) = false := by simp
    have e : res.map eT ++ List.replicate ([] : List Tm).length zt = (res ++ mulT c m []).map eT := by simp [mulT]
    rw [e]
    simp only [go_sem, sB, reduceCtorEq, sL, sA, sE, sN, wb42_0, c1]
    exact h0 rfl _ _ rfl
  | cons t l ih =>
    intro i res nx hd hi hres h0 h1
    refine Loop.stepW ?_
    simp only [List.length_cons] at hi
    have ht : p[i]? = some t := by
      have := List.getElem?_drop (xs := p) (i := i) (j := 0)
      rw [hd] at this
      simpa using this.symm
    have hin : i < p.length := by omega
    have e1 : IntKind.wrap .i64 (((i : Nat) : Int) + 1) = ((i + 1 : Nat) : Int) := by rw [IntWalk.i64_in _ (by omega)]; omega
    have c1 : decide (((i : Nat) : Int) < ((p.length : Nat) : Int)) = true := decide_eq_true (by omega)
    have hT := (hp.get ht).1
    have hxp := ixsO_sl 12 f _ .i64 i _ (eP_at ht)
    have hl8 := mMul_len hm hT
    have bt : ∀ z, boxC (some (z, .box (eT t))) z 4 8 = some (eM t.1) := fun z => by rw [boxC_s _ _ _ _ (by rw [eT_len hT]; decide), dropT, take8 hT]
    have bt' : ∀ z, boxC (some (z, .box (eT t))) z 0 4 = some (rC t.2) := fun z => by rw [boxC_s _ _ _ _ (by rw [eT_len hT]; decide), List.drop_zero, takeT4]
    rw [List.length_cons, List.replicate_succ]
    simp only [go_sem, sB, reduceCtorEq, sL, sA, sE, sN, wb42_0, eP, c1, hxp, takeT hT, eT_len hT, bM hm, bt]
    refine callO_intro (w74 m t.1 hm hT km (kp.get ht)) ?_
    cases hf : (mMul m t.1).all okE with
    | false =>
      have hff : fitP m (t :: l) = false := by simp [fitP, hf]
      simp only [go_sem, sB, reduceCtorEq, sL, sA, sE, sN, z8, len80, drop80, show ((2 : Int) != 0) = true from rfl]
      exact h1 hff _ _ _ rfl rfl
    | true =>
      have hfe : fitP m (t :: l) = fitP m l := by simp [fitP, hf]
      rw [hfe] at h0 h1
      simp only [go_sem, sB, reduceCtorEq, sL, sA, sE, sN, eP_len, z8, len80, len8 hl8, drop80, show ((0 : Int) != 0) = false from rfl, bt', takeC, rC_len, dropC]
      refine callO_intro (q76 c t.2 hc (by have := (hp.get ht).2; omega)) ?_
      have hg := get_mid (res.map eT) (List.replicate l.length zt) zt (i := i) (by simpa using hres)
      have hs := set_mid (res.map eT) (List.replicate l.length zt) zt (eT (mMul m t.1, c * t.2)) (i := i) (by simpa using hres)
      have h12 : (eT (mMul m t.1, c * t.2)).length = 12 := eT_len (t := (mMul m t.1, c * t.2)) hl8
      have hsp : splice zt 0 (eT (mMul m t.1, c * t.2)) = eT (mMul m t.1, c * t.2) := by
        unfold splice
        rw [h12]; simp [zt]
      simp only [go_sem, sB, reduceCtorEq, sL, sA, sE, sN, rW_C, rC_len, takeC, bM hl8, z8, fillT2 _ _ hl8, ixsO_w _ _ _ _ _ _ _ hin, rowS_s, hg, rowSE_s zt _ _ _ _ _ 0 _ (show 0 + (eT (mMul m t.1, c * t.2)).length ≤ zt.length by rw [h12]; decide), hsp, hs, e1, h12]
      have e2 : res.map eT ++ [eT (mMul m t.1, c * t.2)] = (res ++ [(mMul m t.1, c * t.2)]).map eT := by simp
      rw [e2]
      refine ih (i + 1) (res ++ [(mMul m t.1, c * t.2)]) _ (by rw [drop_at ht] at hd; injection hd) (by omega) (by simp; omega) (fun hf r nx r8 => ?_) h1
      have := h0 hf r nx r8
      simpa only [mulT, List.map_cons, app_assoc1] using this
theorem w42 (c : Rat) (m : List Int) (p : List Tm) (f : Bool) {A : Nat} (hm : m.length = 8) (km : m.all okE = true) (hp : PB A p) (kp : PM p) (hc : LQ c ≤ 549755813888) (hA : A ≤ 549755813888) (hl : p.length ≤ 1000000000) :
    FnR Go.Proofs.Tryz.prog 42 [rW c, .a (eM m), eP f p] [] (.t [eP false (timP c m p).1, .i .i64 (timP c m p).2]) := by
  refine fnr42 (by simp) (nr_t2 _ _ _) (by simp) List.nodup_nil fun F out hS => ?_
  unfold ir42
  simp only [go_sem, sB, reduceCtorEq, sL, sA, sE, sN, rW_C, rC_len, takeC, dropC]
  refine callO_intro (q68 c) ?_
  by_cases h : c = 0
  · have e : timP c m p = ([], 0) := if_pos h
    rw [e]
    simp only [go_sem, sB, reduceCtorEq, sL, sA, sE, sN, sgn0 h, rv42, fin_t2]
    exact .t (.cons (weak_full _ _ _) (.refl _))
  · have e : timP c m p = if fitP m p then (mulT c m p, 0) else ([], 2) := if_neg h
    rw [e]
    simp only [go_sem, sB, reduceCtorEq, sL, sA, sE, sN, sgn1 h, eP, eP_len]
    refine mkO_intro (Nat.le_refl _) (by omega) (by omega) ?_
    simp only [go_sem, sB, reduceCtorEq, sL, sA, sE, sN, eP_len]
    refine loop42 c m p f hm km hp kp hc hA hl F out _ _ _ _ p 0 [] _ rfl (by omega) rfl (fun hf r nx r8 => ?_) (fun hf r own nx r6 r7 => ?_)
    · rw [List.nil_append]
      have hle : 0 + p.length ≤ ((mulT c m p).map eT).length := by simp [mulT]
      have htk : ((mulT c m p).map eT).take p.length = (mulT c m p).map eT := List.take_of_length_le (by simp [mulT])
      simp only [go_sem, sB, reduceCtorEq, sL, sA, sE, sN, r8, frzR_s _ _ _ _ _ _ _ _ hle, htk, rv42, fin_t2, hf]
      exact .refl _
    · simp only [go_sem, sB, reduceCtorEq, sL, sA, sE, sN, r6, r7, rv42, fin_t2, hf]
      exact .t (.cons (weak_full _ _ _) (.refl _))
def kI (i n : Nat) : D := .a [.i .i64 i, .i .i64 n]
theorem keyI (i n j k : Nat) : keyEq 2 (kI i n) (kI j k) = some (decide (i = j ∧ n = k)) := by
  simp only [kI, keyEq, List.length_cons, List.length_nil, and_self, if_true, intsEq]
  by_cases h1 : i = j
  · by_cases h2 : n = k
    · subst h1 h2; simp
    · rw [if_pos (by omega), if_neg (by omega), decide_eq_false (fun h => h2 h.2)]
  · rw [if_neg (by omega), decide_eq_false (fun h => h1 h.1)]
def KnM (R : Nat → Nat → List Tm) (es : List (D × D)) : Prop := ∀ e ∈ es, ∃ (i n : Nat) (f : Bool), e = (kI i n, eP f (R i n))
theorem mfindK {R : Nat → Nat → List Tm} (i n : Nat) : ∀ (es : List (D × D)) (j : Nat), KnM R es → mfind 2 (kI i n) es j = some none ∨ ∃ j' f, mfind 2 (kI i n) es j = some (some (j', eP f (R i n)))
  | [], j, _ => .inl rfl
  | e :: es, j, h => by
    obtain ⟨i', n', f, rfl⟩ := h e (by simp)
    simp only [mfind, keyI]
    by_cases hk : i = i' ∧ n = n'
    · obtain ⟨rfl, rfl⟩ := hk
      rw [decide_eq_true (⟨rfl, rfl⟩ : i = i ∧ n = n)]
      exact .inr ⟨j, f, rfl⟩
    · rw [decide_eq_false hk]
      exact mfindK i n es (j + 1) (fun e he => h e (by simp [he]))
theorem mputK {R : Nat → Nat → List Tm} (i n : Nat) (f : Bool) : ∀ (es : List (D × D)), KnM R es → ∃ es', mput 2 (kI i n) (eP f (R i n)) es = some es' ∧ KnM R es'
  | [], _ => ⟨[(kI i n, eP f (R i n))], rfl, fun e he => by rw [List.mem_singleton] at he; exact ⟨i, n, f, he⟩⟩
  | e :: es, h => by
    obtain ⟨i', n', f', rfl⟩ := h e (by simp)
    have h' : KnM R es := fun e he => h e (by simp [he])
    simp only [mput, keyI]
    by_cases hk : i = i' ∧ n = n'
    · rw [decide_eq_true hk]
      refine ⟨_, rfl, fun e he => ?_⟩
      rcases List.mem_cons.1 he with rfl | he
      · exact ⟨i, n, f, rfl⟩
      · exact h' e he
    · rw [decide_eq_false hk]
      obtain ⟨es', e1, e2⟩ := mputK i n f es h'
      rw [e1]
      refine ⟨_, rfl, fun e he => ?_⟩
      rcases List.mem_cons.1 he with rfl | he
      · exact ⟨i', n', f', rfl⟩
      · exact e2 e he
theorem nr_KnM {R : Nat → Nat → List Tm} {es : List (D × D)} (h : KnM R es) : Obj.nr (.map es) = true := by
  have key : nrL (es.map (·.1)) = true ∧ nrL (es.map (·.2)) = true := by
    induction es with
    | nil => exact ⟨rfl, rfl⟩
    | cons e es ih =>
      obtain ⟨i, n, f, rfl⟩ := h e (by simp)
      have := ih (fun e he => h e (by simp [he]))
      simp only [List.map_cons, nrL, this.1, this.2, Bool.and_true]
      exact ⟨rfl, nr_eP _ _⟩
  simp only [Obj.nr, key.1, key.2, Bool.and_self]
theorem set_same {fr : Nat} {st : St} {k : Key} {v : Nat × Obj} (h : st.look fr k = some v) : st.set fr k (some v) = st := by
  by_cases hk : k.1 = fr
  · have e : upd st.own k.2 (some v) = st.own := by
      funext s
      unfold upd
      by_cases hs : s = k.2
      · rw [if_pos hs, hs]; simp only [St.look, if_pos hk] at h; exact h.symm
      · rw [if_neg hs]
    simp only [St.set, if_pos hk, e]
  · have e : updK st.out k (some v) = st.out := by
      funext s
      unfold updK
      by_cases hs : s = k
      · rw [if_pos hs, hs]; simp only [St.look, if_neg hk] at h; exact h.symm
      · rw [if_neg hs]
    rw [set_out hk, e]
theorem look_set_ne {fr : Nat} {st : St} {k k' : Key} {v : Option (Nat × Obj)} (hne : k' ≠ k) : (st.set fr k v).look fr k' = st.look fr k' := by
  by_cases hk : k.1 = fr
  · simp only [St.set, if_pos hk, St.look]
    split
    · rename_i h
      unfold upd
      rw [if_neg (fun e => hne (Prod.ext (h.trans hk.symm) e))]
    · rfl
  · rw [set_out hk]
    simp only [St.look]
    split
    · rfl
    · unfold updK
      rw [if_neg hne]
theorem callRO_mb {P : Program} {fr : Nat} {f : FuncId} {args : List D} {dst : Option Nat} {st : St} {K : St → Prop} {mk bk : Key} {zm zb : Nat} {o1 o2 o3 : Obj} {d : D} (h : FnR P f args [⟨mk, zm, o1, o2⟩, ⟨bk, zb, o3, o3⟩] d) (l1 : st.look fr mk = some (zm, o1)) (g1 : o1 ≠ .gone) (l2 : st.look fr bk = some (zb, o3)) (g3 : o3 ≠ .gone) (hne : bk ≠ mk)
    (hk : K ((st.set fr mk (some (zm, o2))).put dst d)) : @callRO P fr f args dst st ⟨K⟩ := by
  refine ⟨_, d, h, fun u hu => ?_, ?_, ?_⟩
  · simp only [List.mem_cons, List.not_mem_nil, or_false] at hu
    rcases hu with rfl | rfl
    · exact ⟨l1, g1⟩
    · exact ⟨l2, g3⟩
  · simp only [List.map_cons, List.map_nil, List.nodup_cons, List.mem_cons, List.not_mem_nil, or_false, not_false_eq_true, List.nodup_nil, and_true]
    exact fun e => hne e.symm
  · simp only [putUps]
    rw [set_same (st := st.set fr mk (some (zm, o2))) (by rw [look_set_ne hne]; exact l2)]
    exact hk
theorem outOf_mb {mk bk : Key} {zm zb : Nat} {o1 o2 o3 : Obj} {out : Sto} (h : out bk = some (zb, o3)) (hne : bk ≠ mk) : outOf [⟨mk, zm, o1, o2⟩, ⟨bk, zb, o3, o3⟩] out = updK out mk (some (zm, o2)) := by
  funext k
  unfold outOf updK
  by_cases h1 : k = mk
  · subst h1; simp
  · rw [if_neg h1]
    have e1 : (mk == k) = false := by simp [Ne.symm h1]
    simp only [List.find?_cons, e1, List.find?_nil]
    by_cases h2 : bk = k
    · subst h2; simp [h]
    · have e2 : (bk == k) = false := by simp [h2]
      simp only [e2]
def clR (mk bk : Key) (zm zb : Nat) (Qs : List (List Tm)) : D := .f 111 [] [.q [.m mk zm], .p bk zb 0, .q (Qs.map (eP false))]
theorem fin_t2u {F : Nat} {out : Sto} {ups : List Up} {s s' : Nat} {d : D} {st : St} : Fin F ups out [.t s, .t s'] d .ret st = (Weak d (.t [st.r s, st.r s']) ∧ st.out = outOf ups out) := by
  simp [Fin, resAll, resL, resD]
theorem w111 (R : Nat → Nat → List Tm) (Qs : List (List Tm)) (hQ : Qs.length = 8) (i : Nat) (hi : i < 8) (N : Nat) (hN : N ≤ 1000000) (h0 : R i 0 = cP 1)
    (hs : ∀ n, n < N → ∀ f, FnR Go.Proofs.Tryz.prog 18 [eP f (R i n), eP false (Qs.getD i [])] [] (.t [eP false (R i (n + 1)), .i .i64 0])) (mk bk : Key) (hne : bk ≠ mk) (zm zb : Nat) :
    ∀ (n : Nat) (es : List (D × D)), n ≤ N → KnM R es → ∃ es', KnM R es' ∧
      FnR Go.Proofs.Tryz.prog 111 [.i .i64 i, .i .i64 n, .q [.m mk zm], .p bk zb 0, .q (Qs.map (eP false))] [⟨mk, zm, .map es, .map es'⟩, ⟨bk, zb, .box [clR mk bk zm zb Qs], .box [clR mk bk zm zb Qs]⟩] (.t [eP false (R i n), .i .i64 0]) := by
  intro n
  have hnd : ([mk, bk] : List Key).Nodup := by
    simp only [List.nodup_cons, List.mem_cons, List.not_mem_nil, or_false, not_false_eq_true, List.nodup_nil, and_true]
    exact fun e => hne e.symm
  have hups : ∀ (es es' : List (D × D)), KnM R es' → ∀ u ∈ ([⟨mk, zm, .map es, .map es'⟩, ⟨bk, zb, .box [clR mk bk zm zb Qs], .box [clR mk bk zm zb Qs]⟩] : List Up), (u.new.nr = true ∨ u.new = u.old) ∧ u.new ≠ .gone := by
    intro es es' hk u hu
    simp only [List.mem_cons, List.not_mem_nil, or_false] at hu
    rcases hu with rfl | rfl
    · exact ⟨.inl (nr_KnM hk), by simp⟩
    · exact ⟨.inr rfl, by simp⟩
  induction n with
  | zero =>
    intro es hn hk
    refine ⟨es, hk, ?_⟩
    refine fnr111 (by simp) (nr_t2 _ _ _) (hups es es hk) hnd fun F out hS => ?_
    have o1 := hS.old _ (List.mem_cons_self ..)
    have o2 := hS.old _ (List.mem_cons_of_mem _ (List.mem_cons_self ..))
    simp only at o1 o2
    have e1 : ((1 : Int) : Rat) = 1 := rfl
    rw [h0]
    unfold ir111
    simp only [go_sem, sB, reduceCtorEq, sL, sA, sE, sN, show (((0 : Nat) : Int) == 0) = true from rfl]
    refine callO_intro (q85 1 (by omega) (by omega)) ?_
    rw [e1]
    simp only [go_sem, sB, reduceCtorEq, sL, sA, sE, sN]
    refine callO_intro (w22 1) ?_
    simp only [go_sem, sB, reduceCtorEq, sL, sA, sE, sN, rv111, fin_t2u, outOf_mb o2 hne]
    refine ⟨.refl _, ?_⟩
    funext k
    unfold updK
    split
    · rename_i h; rw [h, o1]
    · rfl
  | succ n ih =>
    intro es hn hk
    rcases mfindK i (n + 1) es 0 hk with hf | ⟨j, f, hf⟩
    · obtain ⟨es1, hk1, c1⟩ := ih es (by omega) hk
      obtain ⟨es2, hp2, hk2⟩ := mputK i (n + 1) false es1 hk1
      refine ⟨es2, hk2, ?_⟩
      refine fnr111 (by simp) (nr_t2 _ _ _) (hups es es2 hk2) hnd fun F out hS => ?_
      have o1 := hS.old _ (List.mem_cons_self ..)
      have o2 := hS.old _ (List.mem_cons_of_mem _ (List.mem_cons_self ..))
      have F1 : mk.1 ≠ F := by have := hS.low _ (List.mem_cons_self ..); simp only at this; omega
      have F2 : bk.1 ≠ F := by have := hS.low _ (List.mem_cons_of_mem _ (List.mem_cons_self ..)); simp only at this; omega
      simp only at o1 o2
      have cz : (((n + 1 : Nat) : Int) == 0) = false := by rw [beq_eq_false_iff_ne]; omega
      have e1 : IntKind.wrap .i64 (((n + 1 : Nat) : Int) - 1) = ((n : Nat) : Int) := by rw [IntWalk.i64_in _ (by omega)]; omega
      have hkk : keyEq 2 (kI i (n + 1)) (kI i (n + 1)) = some true := by rw [keyI]; simp
      have hkI : D.a [.i .i64 (i : Int), .i .i64 ((n + 1 : Nat) : Int)] = kI i (n + 1) := rfl
      have hd : (Qs.map (eP false)).drop i = eP false (Qs.getD i []) :: (Qs.map (eP false)).drop (i + 1) := by
        have h' : i < (Qs.map (eP false)).length := by rw [List.length_map]; omega
        rw [List.drop_eq_getElem_cons h']
        simp [List.getD_eq_getElem?_getD, List.getElem?_eq_getElem (show i < Qs.length by omega)]
      unfold ir111
      simp only [go_sem, sB, reduceCtorEq, sL, sA, sE, sN, cz, hkI, mg_m, look_out F1, look_out F2, o1, o2, mgO_none hkk hf (vz := [.sl 12 true []]) (agg := false) rfl, e1]
      have hcl : clR mk bk zm zb Qs = .f 111 [] [.q [.m mk zm], .p bk zb 0, .q (Qs.map (eP false))] := rfl
      rw [hcl] at c1 o2 ⊢
      simp only [go_sem, sB, reduceCtorEq, sL, sA, sE, sN]
      refine callRO_mb c1 (by rw [look_out F1]; exact o1) (by simp) (by rw [look_out F2]; exact o2) (by simp) hne ?_
      have o3 : updK out mk (some (zm, .map es1)) mk = some (zm, .map es1) := by unfold updK; rw [if_pos rfl]
      simp only [go_sem, sB, reduceCtorEq, sL, sA, sE, sN, set_out F1, ixaO_q _ _ _ _ _ hi, Nat.mul_one, hd, show ((0 : Int) == 0) = true from rfl]
      refine callO_intro (hs n (by omega) false) ?_
      simp only [go_sem, sB, reduceCtorEq, sL, sA, sE, sN, show ((0 : Int) == 0) = true from rfl, hkI]
      refine msO_intro (es := es1) (es' := es2) (by rw [look_out F1]; exact o3) hkk hp2 ?_
      simp only [go_sem, sB, reduceCtorEq, sL, sA, sE, sN, set_out F1, rv111, fin_t2u, outOf_mb o2 hne]
      refine ⟨.refl _, ?_⟩
      funext k
      unfold updK
      by_cases hkm : k = mk
      · rw [if_pos hkm, if_pos hkm]
      · rw [if_neg hkm, if_neg hkm, if_neg hkm]
    · refine ⟨es, hk, ?_⟩
      refine fnr111 (by simp) (nr_t2 _ _ _) (hups es es hk) hnd fun F out hS => ?_
      have o1 := hS.old _ (List.mem_cons_self ..)
      have o2 := hS.old _ (List.mem_cons_of_mem _ (List.mem_cons_self ..))
      have F1 : mk.1 ≠ F := by have := hS.low _ (List.mem_cons_self ..); simp only at this; omega
      have F2 : bk.1 ≠ F := by have := hS.low _ (List.mem_cons_of_mem _ (List.mem_cons_self ..)); simp only at this; omega
      simp only at o1 o2
      have cz : (((n + 1 : Nat) : Int) == 0) = false := by rw [beq_eq_false_iff_ne]; omega
      have hkk : keyEq 2 (kI i (n + 1)) (kI i (n + 1)) = some true := by rw [keyI]; simp
      have hkI : D.a [.i .i64 (i : Int), .i .i64 ((n + 1 : Nat) : Int)] = kI i (n + 1) := rfl
      unfold ir111
      simp only [go_sem, sB, reduceCtorEq, sL, sA, sE, sN, cz, hkI, mg_m, look_out F1, o1, mgO_some hkk hf, rv111, fin_t2u, outOf_mb o2 hne]
      refine ⟨.t (.cons (weak_full _ _ _) (.refl _)), ?_⟩
      funext k
      unfold updK
      split
      · rename_i h; rw [h, o1]
      · rfl
def vb (Qs : List (List Tm)) (m : List Int) (i : Nat) : Bool := decide (0 < m.getD i 0) && decide (Qs.getD i [] = [])
def vix (b : Nat → Bool) : Nat → Nat → Int
  | 0, _ => -1
  | c + 1, i => if b i then (i : Int) else vix b c (i + 1)
def van (Qs : List (List Tm)) (m : List Int) : Bool := decide (vix (vb Qs m) 8 0 ≥ 0)
theorem vix_spec (b : Nat → Bool) : ∀ c i, (0 ≤ vix b c i ↔ ∃ j, i ≤ j ∧ j < i + c ∧ b j = true)
  | 0, i => by simp only [vix]; constructor; · intro h; omega
               · rintro ⟨j, h1, h2, _⟩; omega
  | c + 1, i => by
    simp only [vix]
    by_cases h : b i = true
    · rw [if_pos h]
      exact ⟨fun _ => ⟨i, by omega, by omega, h⟩, fun _ => by omega⟩
    · rw [if_neg h, vix_spec b c (i + 1)]
      constructor
      · rintro ⟨j, h1, h2, h3⟩; exact ⟨j, by omega, by omega, h3⟩
      · rintro ⟨j, h1, h2, h3⟩
        by_cases hj : j = i
        · subst hj; exact absurd h3 h
        · exact ⟨j, by omega, by omega, h3⟩
theorem qs_at {Qs : List (List Tm)} (hQ : Qs.length = 8) {i : Nat} (hi : i < 8) : (Qs.map (eP false)).drop i = eP false (Qs.getD i []) :: (Qs.map (eP false)).drop (i + 1) := by
  have h' : i < (Qs.map (eP false)).length := by rw [List.length_map]; omega
  rw [List.drop_eq_getElem_cons h']
  simp [List.getD_eq_getElem?_getD, List.getElem?_eq_getElem (show i < Qs.length by omega)]
theorem w113 (Qs : List (List Tm)) (hQ : Qs.length = 8) (t : Tm) (ht : t.1.length = 8) (i : Nat) (hi : i < 8) : FnR Go.Proofs.Tryz.prog 113 [.i .i64 i, .q (eT t), .q (Qs.map (eP false))] [] (.b (vb Qs t.1 i)) := by
  refine fnr113 (by simp) rfl (by simp) List.nodup_nil fun F out hS => ?_
  have hm := eM_at (m := t.1) (n := i) (by omega)
  have hq := qs_at hQ hi
  unfold ir113 vb
  by_cases hg : 0 < t.1.getD i 0
  · have hz : ((((Qs.getD i []).length : Nat) : Int) == 0) = decide (Qs.getD i [] = []) := by
      cases Qs.getD i [] with
      | nil => rfl
      | cons a l => rw [decide_eq_false (by simp), beq_eq_false_iff_ne]; simp only [List.length_cons]; omega
    simp only [go_sem, sB, reduceCtorEq, sL, sA, sE, sN, ixaO_q _ _ _ _ _ hi, Nat.mul_one, dropT, hm, hq, eP_len, eP, decide_eq_true (show t.1.getD i 0 > 0 from hg), decide_eq_true hg, hz, Bool.true_and, rv113, fin_t]
    exact .refl _
  · simp only [go_sem, sB, reduceCtorEq, sL, sA, sE, sN, ixaO_q _ _ _ _ _ hi, Nat.mul_one, dropT, hm, decide_eq_false (show ¬ t.1.getD i 0 > 0 from hg), decide_eq_false hg, Bool.false_and, rv113, fin_t]
    exact .refl _
def ixL : List (List D) := (List.range 8).map fun i => [.i .i64 ((i : Nat) : Int)]
theorem ixL_at {i : Nat} (h : i < 8) : ixL[i]? = some [.i .i64 ((i : Nat) : Int)] := by
  unfold ixL
  rw [List.getElem?_map, List.getElem?_range h]; rfl
theorem ixL_len : ixL.length = 8 := (rfl)
theorem loop152 (Qs : List (List Tm)) (hQ : Qs.length = 8) (t : Tm) (ht : t.1.length = 8) (F : Nat) (out : Sto) (Q : Ex → St → Prop) : ∀ (c i : Nat) (nx : Nat), i + c = 8 →
    (∀ r nx, vix (vb Qs t.1) c i = -1 → Q (.exit 0) { r := r, own := fun _ => none, out := out, nx := nx }) →
    (∀ r nx, r 4 = .i .i64 (vix (vb Qs t.1) c i) → Q .ret { r := r, own := fun _ => none, out := out, nx := nx }) →
    Loop Go.Proofs.Tryz.prog F [0, 1, 7, 8] [] b152_0 { r := (upd (upd (upd (upd (fun _ => .u) 8 (.i .i64 i)) 7 (.i .i64 8)) 1 (.f 113 [] [.q (eT t), .q (Qs.map (eP false))])) 0 (.sl 1 true ixL)), own := fun _ => none, out := out, nx := nx } Q := by
  intro c
  induction c with
  | zero =>
    intro i nx hi h0 h1
    refine Loop.stepW ?_
    have : i = 8 := by omega
    subst this
    have c1 : decide (((8 : Nat) : Int) < 8) = false := by decide
    simp only [go_sem, sB, reduceCtorEq, sL, sA, sE, sN, wb152_0, c1]
    exact h0 _ _ rfl
  | succ c ih =>
    intro i nx hi h0 h1
    refine Loop.stepW ?_
    have hi8 : i < 8 := by omega
    have c1 : decide (((i : Nat) : Int) < 8) = true := decide_eq_true (by omega)
    have e1 : IntKind.wrap .i64 (((i : Nat) : Int) + 1) = ((i + 1 : Nat) : Int) := by rw [IntWalk.i64_in _ (by omega)]; omega
    have hx := ixsO_sl 1 true ixL .i64 i _ (ixL_at hi8)
    simp only [go_sem, sB, reduceCtorEq, sL, sA, sE, sN, wb152_0, c1, hx, callvO_f]
    refine callO_intro (w113 Qs hQ t ht i hi8) ?_
    simp only [vix] at h0 h1
    by_cases hb : vb Qs t.1 i = true
    · simp only [hb, if_true] at h1
      simp only [go_sem, sB, reduceCtorEq, sL, sA, sE, sN, hb]
      exact h1 _ _ rfl
    · have hb' : vb Qs t.1 i = false := by simpa using hb
      simp only [hb', Bool.false_eq_true, if_false] at h0 h1
      simp only [go_sem, sB, reduceCtorEq, sL, sA, sE, sN, hb', e1]
      exact ih (i + 1) _ (by omega) h0 h1
theorem w112 (Qs : List (List Tm)) (hQ : Qs.length = 8) (t : Tm) (ht : t.1.length = 8) : FnR Go.Proofs.Tryz.prog 112 [.sl 1 true ixL, .f 113 [] [.q (eT t), .q (Qs.map (eP false))]] [] (.b (van Qs t.1)) := by
  have h152 : FnR Go.Proofs.Tryz.prog 152 [.sl 1 true ixL, .f 113 [] [.q (eT t), .q (Qs.map (eP false))]] [] (.i .i64 (vix (vb Qs t.1) 8 0)) := by
    refine fnr152 (by simp) rfl (by simp) List.nodup_nil fun F out hS => ?_
    unfold ir152
    simp only [go_sem, sB, reduceCtorEq, sL, sA, sE, sN, ixL_len]
    refine loop152 Qs hQ t ht F out _ 8 0 _ rfl (fun r nx h => ?_) (fun r nx h => ?_)
    · rw [h]
      simp only [go_sem, sB, reduceCtorEq, sL, sA, sE, sN, rv152, fin_t]
      exact .refl _
    · simp only [go_sem, sB, reduceCtorEq, sL, sA, sE, sN, h, rv152, fin_t]
      exact .refl _
  refine fnr112 (by simp) rfl (by simp) List.nodup_nil fun F out hS => ?_
  unfold ir112
  simp only [go_sem, sB, reduceCtorEq, sL, sA, sE, sN]
  refine callO_intro h152 ?_
  simp only [go_sem, sB, reduceCtorEq, sL, sA, sE, sN, rv112, fin_t]
  exact .refl _
structure SubOk (p : List Tm) (Qs : List (List Tm)) (R : Nat → Nat → List Tm) (N : Nat) (T : Tm → Nat → List Tm) : Prop where
  lenQ : Qs.length = 8
  R0 : ∀ i, R i 0 = cP 1
  Rs : ∀ i, i < 8 → ∀ n, n < N → Qs.getD i [] ≠ [] → ∀ f, FnR Go.Proofs.Tryz.prog 18 [eP f (R i n), eP false (Qs.getD i [])] [] (.t [eP false (R i (n + 1)), .i .i64 0])
  ex : ∀ t ∈ p, t.1.length = 8 ∧ ∀ i, i < 8 → ∃ n : Nat, t.1.getD i 0 = (n : Int) ∧ n ≤ N
  T0 : ∀ t ∈ p, T t 0 = cP t.2
  Ts : ∀ t ∈ p, van Qs t.1 = false → ∀ i, i < 8 → ∀ f g, FnR Go.Proofs.Tryz.prog 18 [eP f (T t i), eP g (R i (t.1.getD i 0).toNat)] [] (.t [eP false (T t (i + 1)), .i .i64 0])
theorem loop45a (p : List Tm) (Qs : List (List Tm)) (R : Nat → Nat → List Tm) (N : Nat) (hN : N ≤ 1000000) (T : Tm → Nat → List Tm) (hS : SubOk p Qs R N T) (t : Tm) (htp : t ∈ p) (hv : van Qs t.1 = false) (d8 d21 d22 d23 : D) (F : Nat) (out : Sto) (Q : Ex → St → Prop) (zm zb : Nat) :
    ∀ (c i : Nat) (f : Bool) (es : List (D × D)) (nx : Nat), i + c = 8 → KnM R es →
    (∀ r es f nx, KnM R es → r 3 = .q (Qs.map (eP false)) → r 7 = .p (F, 7) zb 0 → r 8 = d8 → r 11 = eP f (T t 8) → r 21 = d21 → r 22 = d22 → r 23 = d23 → Q (.exit 2) { r := r, own := upd (upd (upd (upd (fun _ => none) 19 (some (zm, .map es))) 7 (some (zb, .box [clR (F, 19) (F, 7) zm zb Qs]))) 6 none) 3 none, out := out, nx := nx }) →
    Loop Go.Proofs.Tryz.prog F [3, 7, 8, 11, 21, 22, 23, 34, 35] [3, 6, 7, 19] b45_0 { r := (upd (upd (upd (upd (upd (upd (upd (upd (upd (fun _ => .u) 35 (.i .i64 i)) 34 (.a (eM t.1))) 23 (d23)) 22 (d22)) 21 (d21)) 11 (eP f (T t i))) 8 (d8)) 7 (.p (F, 7) zb 0)) 3 (.q (Qs.map (eP false)))), own := upd (upd (upd (upd (fun _ => none) 19 (some (zm, .map es))) 7 (some (zb, .box [clR (F, 19) (F, 7) zm zb Qs]))) 6 none) 3 none, out := out, nx := nx } Q := by
  intro c
  induction c with
  | zero =>
    intro i f es nx hi hk h0
    refine Loop.stepW ?_
    have : i = 8 := by omega
    subst this
    have c1 : decide (((8 : Nat) : Int) < 8) = false := by decide
    simp only [go_sem, sB, reduceCtorEq, sL, sA, sE, sN, wb45_0, c1]
    exact h0 _ _ _ _ hk rfl rfl rfl rfl rfl rfl rfl
  | succ c ih =>
    intro i f es nx hi hk h0
    refine Loop.stepW ?_
    have hi8 : i < 8 := by omega
    have c1 : decide (((i : Nat) : Int) < 8) = true := decide_eq_true (by omega)
    have e1 : IntKind.wrap .i64 (((i : Nat) : Int) + 1) = ((i + 1 : Nat) : Int) := by rw [IntWalk.i64_in _ (by omega)]; omega
    obtain ⟨h8, hex⟩ := hS.ex t htp
    have hx := ixvO_m t.1 8 i .i64 hi8 (by omega)
    obtain ⟨n, hn, hnN⟩ := hex i hi8
    rw [hn] at hx
    have hTs := hS.Ts t htp hv i hi8 f false
    rw [hn, Int.toNat_natCast] at hTs
    have hne : 0 < n → Qs.getD i [] ≠ [] := by
      intro h0n he
      have : van Qs t.1 = true := by
        unfold van
        refine decide_eq_true ((vix_spec _ _ _).2 ⟨i, by omega, by omega, ?_⟩)
        unfold vb
        rw [he, hn, decide_eq_true (show (0 : Int) < (n : Int) by omega)]; rfl
      rw [hv] at this
      exact absurd this (by decide)
    obtain ⟨es', hk', c111⟩ := w111 R Qs hS.lenQ i hi8 n (by omega) (hS.R0 i) (fun m hm f => hS.Rs i hi8 m (by omega) (hne (by omega)) f) (F, 19) (F, 7) (by simp) zm zb n es (Nat.le_refl _) hk
    have hcl : clR (F, 19) (F, 7) zm zb Qs = .f 111 [] [.q [.m (F, 19) zm], .p (F, 7) zb 0, .q (Qs.map (eP false))] := rfl
    rw [hcl] at c111 h0 ih ⊢
    simp only [go_sem, sB, reduceCtorEq, sL, sA, sE, sN, wb45_0, c1, hx]
    refine callRO_mb c111 (by simp only [go_sem, sB, reduceCtorEq, sL, sA, sE, sN]) (by simp) (by simp only [go_sem, sB, reduceCtorEq, sL, sA, sE, sN]) (by simp) (by simp) ?_
    simp only [go_sem, sB, reduceCtorEq, sL, sA, sE, sN, show ((0 : Int) == 0) = true from rfl]
    refine callO_intro hTs ?_
    simp only [go_sem, sB, reduceCtorEq, sL, sA, sE, sN, show ((0 : Int) == 0) = true from rfl, show ((0 : Int) != 0) = false from rfl, e1]
    exact ih (i + 1) false es' _ (by omega) hk' h0
def subL (Qs : List (List Tm)) (T : Tm → Nat → List Tm) : List Tm → List Tm → List Tm
  | a, [] => a
  | a, t :: p => if van Qs t.1 then subL Qs T a p else subL Qs T (addP a (T t 8)) p
theorem loop45b (p : List Tm) (fp : Bool) (Qs : List (List Tm)) (R : Nat → Nat → List Tm) (N : Nat) (hN : N ≤ 1000000) (T : Tm → Nat → List Tm) (hS : SubOk p Qs R N T) {A L : Nat} (hT : ∀ t ∈ p, PB A (T t 8) ∧ (T t 8).length ≤ L) (hlp : p.length ≤ 1000000) (hA : (p.length + 1) * (A + 1) ≤ 549755813888) (hL : (p.length + 1) * L ≤ 1000000000) (F : Nat) (out : Sto) (Q : Ex → St → Prop) (zm zb : Nat) :
    ∀ (l : List Tm) (k : Nat) (a : List Tm) (g : Bool) (es : List (D × D)) (nx : Nat), p.drop k = l → k + l.length = p.length → KnM R es → PB (k * (A + 1)) a → a.length ≤ k * L →
    (∀ r own g nx, r 8 = eP g (subL Qs T a l) → Q (.exit 0) { r := r, own := own, out := out, nx := nx }) →
    Loop Go.Proofs.Tryz.prog F [3, 7, 8, 21, 22, 23] [3, 6, 7, 19] b45_1 { r := (upd (upd (upd (upd (upd (upd (fun _ => .u) 23 (.i .i64 k)) 22 (.i .i64 p.length)) 21 (eP fp p)) 8 (eP g a)) 7 (.p (F, 7) zb 0)) 3 (.q (Qs.map (eP false)))), own := upd (upd (upd (upd (fun _ => none) 19 (some (zm, .map es))) 7 (some (zb, .box [clR (F, 19) (F, 7) zm zb Qs]))) 6 none) 3 none, out := out, nx := nx } Q := by
  intro l
  induction l with
  | nil =>
    intro k a g es nx hd hk hes hpb hla h0
    refine Loop.stepW ?_
    have ek : k = p.length := by simpa using hk
    subst ek
    have c1 : decide (((p.length : Nat) : Int) < ((p.length : Nat) : Int)) = false := by simp
    simp only [go_sem, sB, reduceCtorEq, sL, sA, sE, sN, wb45_1, c1]
    exact h0 _ _ g _ rfl
  | cons t l ih =>
    intro k a g es nx hd hk hes hpb hla h0
    refine Loop.stepW ?_
    simp only [List.length_cons] at hk
    have ht : p[k]? = some t := by
      have := List.getElem?_drop (xs := p) (i := k) (j := 0)
      rw [hd] at this
      simpa using this.symm
    have htp := List.mem_of_getElem? ht
    have hT8 := (hS.ex t htp).1
    have e1 : IntKind.wrap .i64 (((k : Nat) : Int) + 1) = ((k + 1 : Nat) : Int) := by rw [IntWalk.i64_in _ (by omega)]; omega
    have c1 : decide (((k : Nat) : Int) < ((p.length : Nat) : Int)) = true := decide_eq_true (by omega)
    have hxp := ixsO_sl 12 fp _ .i64 k _ (eP_at ht)
    have hix : [[D.i .i64 0], [D.i .i64 1], [D.i .i64 2], [D.i .i64 3], [D.i .i64 4], [D.i .i64 5], [D.i .i64 6], [D.i .i64 7]] = ixL := (rfl)
    have hm8 : (k + 1) * (A + 1) = k * (A + 1) + (A + 1) := by rw [Nat.add_mul, Nat.one_mul]
    have hm9 : (k + 1) * L = k * L + L := by rw [Nat.add_mul, Nat.one_mul]
    have hm10 : (k + 1) * (A + 1) ≤ (p.length + 1) * (A + 1) := Nat.mul_le_mul_right _ (by omega)
    have hm11 : (k + 1) * L ≤ (p.length + 1) * L := Nat.mul_le_mul_right _ (by omega)
    simp only [subL] at h0
    simp only [go_sem, sB, reduceCtorEq, sL, sA, sE, sN, wb45_1, eP, c1, hxp, takeT hT8, eT_len hT8, hix, frzW_p, frzB_s, List.drop_zero]
    refine callO_intro (w112 Qs hS.lenQ t hT8) ?_
    cases hv : van Qs t.1 with
    | true =>
      rw [hv, if_pos rfl] at h0
      simp only [go_sem, sB, reduceCtorEq, sL, sA, sE, sN, e1]
      exact ih (k + 1) a g es _ (by rw [drop_at ht] at hd; injection hd) (by omega) hes (hpb.mono (by omega)) (by omega) h0
    | false =>
      rw [hv, if_neg (by simp)] at h0
      have hl8 : (eM t.1).length = 8 := len8 hT8
      simp only [go_sem, sB, reduceCtorEq, sL, sA, sE, sN, takeT4, eT_len hT8]
      refine callO_intro (w22 t.2) ?_
      rw [← hS.T0 t htp]
      simp only [go_sem, sB, reduceCtorEq, sL, sA, sE, sN, dropT, take8 hT8, eT_len hT8, len8 hT8]
      refine loop45a p Qs R N hN T hS t htp hv _ _ _ _ F out _ zm zb 8 0 false es _ rfl hes (fun r es' f nx hk' r3 r7 r8 r11 r21 r22 r23 => ?_)
      obtain ⟨hTA, hTL⟩ := hT t htp
      simp only [go_sem, sB, reduceCtorEq, sL, sA, sE, sN, r3, r7, r8, r11, r21, r22, r23]
      refine callO_intro (w20 a (T t 8) g f (A := (k + 1) * (A + 1)) (hpb.mono (by omega)) (hTA.mono (by omega)) (by omega) (by omega)) ?_
      simp only [go_sem, sB, reduceCtorEq, sL, sA, sE, sN, r3, r7, r8, r11, r21, r22, r23, e1]
      refine ih (k + 1) (addP a (T t 8)) false es' _ (by rw [drop_at ht] at hd; injection hd) (by omega) hk' ((PB_add hpb hTA).mono (by omega)) (by have := add_length a (T t 8); omega) h0
theorem cells_m (k : Key) (z : Nat) : (D.m k z).cells? = some [.m k z] := (rfl)
theorem cells_f (k : FuncId) (a b : List D) : (D.f k a b).cells? = some [.f k a b] := (rfl)
theorem w45 (p : List Tm) (fp : Bool) (Qs : List (List Tm)) (R : Nat → Nat → List Tm) (N : Nat) (hN : N ≤ 1000000) (T : Tm → Nat → List Tm) (hS : SubOk p Qs R N T) {A L B : Nat} (hp : PB B p) (kp : PM p) (hT : ∀ t ∈ p, PB A (T t 8) ∧ (T t 8).length ≤ L) (hlp : p.length ≤ 1000000) (hA : (p.length + 1) * (A + 1) ≤ 549755813888) (hL : (p.length + 1) * L ≤ 1000000000) (hdeg : degP (-1) p ≤ 64) :
    FnR Go.Proofs.Tryz.prog 45 [eP fp p, .a (Qs.map (eP false))] [] (.t [eP false (subL Qs T [] p), .i .i64 0]) := by
  refine fnr45 (by simp) (nr_t2 _ _ _) (by simp) List.nodup_nil fun F out hSt => ?_
  have hl8 : (Qs.map (eP false)).length = 8 := by rw [List.length_map]; exact hS.lenQ
  have ht8 : (Qs.map (eP false)).take 8 = Qs.map (eP false) := List.take_of_length_le (by omega)
  unfold ir45
  simp only [go_sem, sB, reduceCtorEq, sL, sA, sE, sN, hl8, ht8]
  refine callO_intro (w40 p fp hp kp (by omega)) ?_
  simp only [go_sem, sB, reduceCtorEq, sL, sA, sE, sN, decide_eq_false (show ¬ degP (-1) p > 64 by omega), eP, eP_len, frzW_p, frzB_s, List.drop_zero, cells_m, cells_f]
  refine loop45b p fp Qs R N hN T hS hT hlp hA hL F out _ 2 3 p 0 [] true [] _ rfl (by omega) (by intro e he; simp at he) (.nil _) (by simp) (fun r own g nx r8 => ?_)
  simp only [go_sem, sB, reduceCtorEq, sL, sA, sE, sN, r8, rv45, fin_t2]
  exact .t (.cons (weak_full _ _ _) (.refl _))
theorem w45x (p : List Tm) (fp : Bool) (Qs : List (List Tm)) {B : Nat} (hQ : Qs.length = 8) (hp : PB B p) (kp : PM p) (hlp : p.length ≤ 1000000) (hdeg : 64 < degP (-1) p) :
    FnR Go.Proofs.Tryz.prog 45 [eP fp p, .a (Qs.map (eP false))] [] (.t [eP false [], .i .i64 2]) := by
  refine fnr45 (by simp) (nr_t2 _ _ _) (by simp) List.nodup_nil fun F out hSt => ?_
  have hl8 : (Qs.map (eP false)).length = 8 := by rw [List.length_map]; exact hQ
  have ht8 : (Qs.map (eP false)).take 8 = Qs.map (eP false) := List.take_of_length_le (by omega)
  unfold ir45
  simp only [go_sem, sB, reduceCtorEq, sL, sA, sE, sN, hl8, ht8]
  refine callO_intro (w40 p fp hp kp (by omega)) ?_
  simp only [go_sem, sB, reduceCtorEq, sL, sA, sE, sN, decide_eq_true (show degP (-1) p > 64 by omega), rv45, fin_t2]
  exact .t (.cons (weak_full _ _ _) (.refl _))
open Classical in
noncomputable def prodP (p q : List Tm) : List Tm := if h : ∃ r, Can r ∧ IsProd p q r then Classical.choose h else []
theorem prodP_eq {p q r : List Tm} (hr : Can r) (h : IsProd p q r) : prodP p q = r := by
  have hex : ∃ r, Can r ∧ IsProd p q r := ⟨r, hr, h⟩
  unfold prodP
  rw [dif_pos hex]
  have := Classical.choose_spec hex
  exact can_eq this.1 hr (fun f => by rw [this.2 f, h f])
theorem ev_match {p : List Tm} (hp : Can p) {A : Nat} (hA : ∀ t ∈ p, LQ t.2 ≤ A) (f : List Int → Rat) (hf : ∀ m, f m = 0 ∨ f m = 1) (h1 : ∀ t ∈ p, ∀ u ∈ p, f t.1 = 1 → f u.1 = 1 → t.1 = u.1) : LQ (ev f p) ≤ A + 1 := by
  by_cases h : ∃ t ∈ p, f t.1 = 1
  · obtain ⟨t, ht, h2⟩ := h
    rw [ev_single f hp ht (fun u hu hne => (hf u.1).resolve_right (fun h3 => hne (h1 u hu t ht h3 h2))), h2, Rat.mul_one]
    exact Nat.le_succ_of_le (hA t ht)
  · rw [ev_zero (fun t ht => (hf t.1).resolve_right (fun h3 => h ⟨t, ht, h3⟩))]
    have := LQ_0; omega
theorem ev_sum_lq {A B : Nat} (f : List Int → Rat) : ∀ (q : List Tm), (∀ t ∈ q, LQ t.2 ≤ A) → (∀ t ∈ q, LQ (f t.1) ≤ B) → LQ (ev f q) ≤ q.length * (A + B + 1) + 1
  | [], _, _ => by have := LQ_0; simp only [ev]; omega
  | t :: q, h1, h2 => by
    have ih := ev_sum_lq f q (fun u hu => h1 u (by simp [hu])) (fun u hu => h2 u (by simp [hu]))
    have h3 := h1 t (by simp)
    have h4 := h2 t (by simp)
    have h5 := LQ_mul t.2 (f t.1)
    have h6 := LQ_add (t.2 * f t.1) (ev f q)
    have h7 : (q.length + 1) * (A + B + 1) = q.length * (A + B + 1) + (A + B + 1) := by rw [Nat.add_mul, Nat.one_mul]
    simp only [ev, List.length_cons]; omega
theorem prod_lq {p q r : List Tm} (hp : Can p) (hq : Can q) (hr : Can r) (h : IsProd p q r) {A1 A2 n2 : Nat} (h1 : ∀ t ∈ p, LQ t.2 ≤ A1) (h2 : ∀ t ∈ q, LQ t.2 ≤ A2) (hn : q.length ≤ n2) : ∀ t ∈ r, LQ t.2 ≤ n2 * (A1 + A2 + 2) + 1 := by
  intro t ht
  rw [← coef_mem hr ht, h, ev_swap (fun m n => dlt t.1 (mMul m n)) q p]
  have := ev_sum_lq (A := A2) (B := A1 + 1) (fun n => ev (fun m => dlt t.1 (mMul m n)) p) q h2 (fun u hu => ev_match hp h1 _ (fun m => by unfold dlt; split <;> simp) (fun a ha b hb e1 e2 => by
    have la := hp.len a ha
    have lb := hp.len b hb
    have lu := hq.len u hu
    have f1 : mMul a.1 u.1 = t.1 := by
      apply Classical.byContradiction
      intro hne
      simp only [dlt, if_neg hne] at e1
      exact absurd e1 (by decide)
    have f2 : mMul b.1 u.1 = t.1 := by
      apply Classical.byContradiction
      intro hne
      simp only [dlt, if_neg hne] at e2
      exact absurd e2 (by decide)
    have hc := cmp_add a.1 b.1 u.1 (by omega) (by omega)
    rw [f1, f2, cmpL_self] at hc
    exact cmpL_eq _ _ (by omega) hc.symm))
  have hm : q.length * (A2 + (A1 + 1) + 1) ≤ n2 * (A1 + A2 + 2) := by
    rw [show A2 + (A1 + 1) + 1 = A1 + A2 + 2 by omega]; exact Nat.mul_le_mul_right _ hn
  omega
theorem mul_c {e1 e2 A1 A2 n1 n2 M : Nat} {p q : List Tm} (hp : Pl e1 A1 n1 p) (hq : Pl e2 A2 n2 q) (he : e1 + e2 ≤ 65535) (hn : n1 * n2 ≤ 1000000000) (h1 : n1 ≤ 1000000000) (h2 : n2 ≤ 1000000000) (hA1 : A1 ≤ M) (hA2 : A2 ≤ M) (hM : M ≤ 549755813888) (hB : n1 * (n2 * (2 * M + 1)) ≤ 549755813888) :
    Pl (e1 + e2) (n2 * (A1 + A2 + 2) + 1) (n1 * n2) (prodP p q) ∧ IsProd p q (prodP p q) ∧ ∀ f g, FnR Go.Proofs.Tryz.prog 18 [eP f p, eP g q] [] (.t [eP false (prodP p q), .i .i64 0]) := by
  obtain ⟨r, lr, ir, cr⟩ := mul_ex (hp.mono (Nat.le_refl _) hA1 (Nat.le_refl _)) (hq.mono (Nat.le_refl _) hA2 (Nat.le_refl _)) he hn h1 h2 hM hB
  rw [prodP_eq lr.can ir]
  exact ⟨⟨lr.can, lr.ex, prod_lq hp.can hq.can lr.can ir hp.lq hq.lq hq.ln, lr.ln⟩, ir, cr⟩
def Mq (q : List Tm) (f : List Int → Rat) : List Int → Rat := fun m => ev (fun n => f (mMul m n)) q
def itM (q : List Tm) : Nat → (List Int → Rat) → (List Int → Rat)
  | 0, f => f
  | n + 1, f => Mq q (itM q n f)
def opM : List (List Tm) → List Int → (List Int → Rat) → (List Int → Rat)
  | q :: Qs, x :: m, f => itM q x.toNat (opM Qs m f)
  | _, _, f => f
theorem mq_comm (a b : List Tm) (f : List Int → Rat) : Mq a (Mq b f) = Mq b (Mq a f) := by
  funext m
  unfold Mq
  rw [ev_swap (fun n k => f (mMul (mMul m n) k)) b a]
  refine ev_congr fun t _ => ev_congr fun u _ => ?_
  rw [mMul_assoc, mMul_comm u.1 t.1, ← mMul_assoc]
theorem mq_prod {a b r : List Tm} (h : IsProd a b r) (f : List Int → Rat) : Mq r f = Mq a (Mq b f) := by
  funext m
  unfold Mq
  rw [h]
  refine ev_congr fun t _ => ev_congr fun u _ => ?_
  rw [mMul_assoc]
theorem it_comm (a q : List Tm) : ∀ (n : Nat) (f : List Int → Rat), Mq a (itM q n f) = itM q n (Mq a f)
  | 0, _ => rfl
  | n + 1, f => by simp only [itM]; rw [mq_comm, it_comm a q n f]
theorem op_snoc (q : List Tm) (x : Int) (f : List Int → Rat) : ∀ (Qs : List (List Tm)) (m : List Int), Qs.length = m.length → opM (Qs ++ [q]) (m ++ [x]) f = opM Qs m (itM q x.toNat f)
  | [], [], _ => by simp [opM]
  | a :: Qs, y :: m, h => by simp only [List.cons_append, opM]; rw [op_snoc q x f Qs m (by simpa using h)]
def Nn (m : List Int) : Prop := m.length = 8 ∧ ∀ x ∈ m, 0 ≤ x
def NnP (q : List Tm) : Prop := ∀ t ∈ q, Nn t.1
def EqN (f g : List Int → Rat) : Prop := ∀ m, Nn m → f m = g m
theorem Nn.mul {a b : List Int} (ha : Nn a) (hb : Nn b) : Nn (mMul a b) := by
  refine ⟨mMul_len ha.1 hb.1, fun x hx => ?_⟩
  obtain ⟨ha1, ha2⟩ := ha
  obtain ⟨hb1, hb2⟩ := hb
  have key : ∀ (a b : List Int), (∀ x ∈ a, 0 ≤ x) → (∀ x ∈ b, 0 ≤ x) → ∀ x ∈ mMul a b, 0 ≤ x := by
    intro a
    induction a with
    | nil => intro b _ _ x hx; simp [mMul] at hx
    | cons y a ih =>
      intro b h1 h2 x hx
      cases b with
      | nil => simp [mMul] at hx
      | cons z b =>
        have e : mMul (y :: a) (z :: b) = (y + z) :: mMul a b := rfl
        rw [e] at hx
        rcases List.mem_cons.1 hx with rfl | hx
        · have := h1 y (by simp); have := h2 z (by simp); omega
        · exact ih b (fun w hw => h1 w (by simp [hw])) (fun w hw => h2 w (by simp [hw])) x hx
  exact key a b ha2 hb2 x hx
theorem Pl.nn {e A n : Nat} {p : List Tm} (h : Pl e A n p) : NnP p := fun t ht => ⟨h.can.len t ht, fun x hx => (h.ex t ht x hx).1⟩
theorem mMul_0r {m : List Int} (h : m.length = 8) : mMul m m0 = m := by rw [mMul_comm]; exact mMul_0 m h
theorem mq_one (f : List Int → Rat) : EqN (Mq (cP 1) f) f := by
  intro m hm
  have e : cP 1 = [(m0, 1)] := if_neg (by decide)
  unfold Mq
  rw [e]
  simp only [ev]
  rw [mMul_0r hm.1, Rat.one_mul, Rat.add_zero]
theorem ev_cP (f : List Int → Rat) (c : Rat) : ev f (cP c) = c * f m0 := by
  unfold cP
  split
  · rename_i h; rw [h, Rat.zero_mul]; rfl
  · simp only [ev]; rw [Rat.add_zero]
theorem mq_at0 {b : List Tm} (hb : NnP b) (f : List Int → Rat) : Mq b f m0 = ev f b := ev_congr fun t ht => by rw [mMul_0 _ (hb t ht).1]
theorem mq_nil (f : List Int → Rat) : Mq [] f = fun _ => 0 := rfl
theorem mq_zero (q : List Tm) : Mq q (fun _ => 0) = fun _ => 0 := by
  funext m
  exact ev_zero (fun _ _ => rfl)
theorem it_zero (q : List Tm) : ∀ n, itM q n (fun _ => 0) = fun _ => 0
  | 0 => rfl
  | n + 1 => by simp only [itM, it_zero q n, mq_zero]
theorem op_van : ∀ (Qs : List (List Tm)) (m : List Int) (i : Nat) (f : List Int → Rat), 0 < m.getD i 0 → i < Qs.length → Qs.getD i [] = [] → opM Qs m f = fun _ => 0
  | [], _, _, _, _, h, _ => by simp at h
  | _ :: _, [], i, _, h, _, _ => by simp at h
  | q :: Qs, x :: m, 0, f, h1, _, h3 => by
    have h1 : 0 < x := h1
    have h3 : q = [] := h3
    obtain ⟨k, hk⟩ : ∃ k, x.toNat = k + 1 := ⟨x.toNat - 1, by omega⟩
    simp only [opM]
    rw [hk, h3]
    simp only [itM, mq_nil]
  | q :: Qs, x :: m, i + 1, f, h1, h2, h3 => by
    simp only [opM]
    rw [op_van Qs m i f (by simpa using h1) (by simpa using h2) (by simpa using h3), it_zero]
noncomputable def powP (q : List Tm) : Nat → List Tm
  | 0 => cP 1
  | n + 1 => prodP (powP q n) q
noncomputable def chn (v q : List Tm) : Nat → List Tm
  | 0 => v
  | n + 1 => prodP (chn v q n) q
noncomputable def trP (Qs : List (List Tm)) (t : Tm) : Nat → List Tm
  | 0 => cP t.2
  | i + 1 => prodP (trP Qs t i) (powP (Qs.getD i []) (t.1.getD i 0).toNat)
def sz (nQ AQ A0 : Nat) : Nat → Nat
  | 0 => A0
  | s + 1 => nQ * (sz nQ AQ A0 s + AQ + 2) + 1
def ps (m : List Int) : Nat → Nat
  | 0 => 0
  | i + 1 => ps m i + (m.getD i 0).toNat
structure Cap (eQ AQ nQ A0 S : Nat) : Prop where
  n1 : 1 ≤ nQ
  a1 : 1 ≤ A0
  ex : eQ * S ≤ 65535
  ln : nQ ^ S ≤ 1000000000
  aq : AQ ≤ sz nQ AQ A0 S
  m : sz nQ AQ A0 S ≤ 549755813888
  b : nQ ^ S * (2 * sz nQ AQ A0 S + 1) ≤ 549755813888
theorem sz_le {nQ AQ A0 : Nat} (h : 1 ≤ nQ) (s : Nat) : sz nQ AQ A0 s ≤ sz nQ AQ A0 (s + 1) := by
  have : 1 * (sz nQ AQ A0 s + AQ + 2) ≤ nQ * (sz nQ AQ A0 s + AQ + 2) := Nat.mul_le_mul_right _ h
  simp only [sz]; omega
theorem sz_mono {nQ AQ A0 : Nat} (h : 1 ≤ nQ) {s S : Nat} (hs : s ≤ S) : sz nQ AQ A0 s ≤ sz nQ AQ A0 S := by
  induction S with
  | zero => rw [show s = 0 by omega]; exact Nat.le_refl _
  | succ S ih =>
    by_cases h1 : s = S + 1
    · rw [h1]; exact Nat.le_refl _
    · exact Nat.le_trans (ih (by omega)) (sz_le h S)
theorem sz_a0 {nQ AQ A0 : Nat} (h : 1 ≤ A0) : ∀ s, sz nQ AQ 1 s ≤ sz nQ AQ A0 s
  | 0 => h
  | s + 1 => by
    have := sz_a0 (nQ := nQ) (AQ := AQ) h s
    simp only [sz]
    have : nQ * (sz nQ AQ 1 s + AQ + 2) ≤ nQ * (sz nQ AQ A0 s + AQ + 2) := Nat.mul_le_mul_left _ (by omega)
    omega
theorem Cap.pow {eQ AQ nQ A0 S : Nat} (c : Cap eQ AQ nQ A0 S) {s : Nat} (h : s ≤ S) : nQ ^ s ≤ nQ ^ S := Nat.pow_le_pow_right c.n1 h
section
variable {eQ AQ nQ A0 S : Nat}
theorem stepQ (c : Cap eQ AQ nQ A0 S) {B s : Nat} (hB : B ≤ A0) (hs : s + 1 ≤ S) {v q : List Tm} (hv : Pl (eQ * s) (sz nQ AQ B s) (nQ ^ s) v) (hq : Pl eQ AQ nQ q) (hBs : sz nQ AQ B s ≤ sz nQ AQ A0 S) :
    Pl (eQ * (s + 1)) (sz nQ AQ B (s + 1)) (nQ ^ (s + 1)) (prodP v q) ∧ IsProd v q (prodP v q) ∧ ∀ f g, FnR Go.Proofs.Tryz.prog 18 [eP f v, eP g q] [] (.t [eP false (prodP v q), .i .i64 0]) := by
  have hp := c.pow hs
  have hp0 : nQ ^ s * nQ = nQ ^ (s + 1) := (Nat.pow_succ ..).symm
  have hp1 : nQ ^ s * 1 ≤ nQ ^ s * nQ := Nat.mul_le_mul_left _ c.n1
  have hp2 : 1 * nQ ≤ nQ ^ s * nQ := Nat.mul_le_mul_right _ (Nat.pow_pos c.n1)
  have he : eQ * s + eQ = eQ * (s + 1) := by rw [Nat.mul_add, Nat.mul_one]
  have he2 : eQ * (s + 1) ≤ eQ * S := Nat.mul_le_mul_left _ hs
  have hb : nQ ^ (s + 1) * (2 * sz nQ AQ A0 S + 1) ≤ nQ ^ S * (2 * sz nQ AQ A0 S + 1) := Nat.mul_le_mul_right _ hp
  have cb := c.b
  have cl := c.ln
  have cx := c.ex
  have := mul_c (M := sz nQ AQ A0 S) hv hq (by omega) (by omega) (by omega) (by omega) hBs c.aq c.m (by rw [← Nat.mul_assoc, hp0]; omega)
  rw [he, hp0] at this
  exact this
theorem pow_c (c : Cap eQ AQ nQ A0 S) {q : List Tm} (hq : Pl eQ AQ nQ q) : ∀ n, n ≤ S → Pl (eQ * n) (sz nQ AQ 1 n) (nQ ^ n) (powP q n) ∧ ∀ f, EqN (Mq (powP q n) f) (itM q n f)
  | 0, _ => ⟨(cP_pl LQ_1).mono (by omega) (Nat.le_refl _) (by simp), fun f => mq_one f⟩
  | n + 1, h => by
    obtain ⟨h1, h2⟩ := pow_c c hq n (by omega)
    have hm : sz nQ AQ 1 n ≤ sz nQ AQ A0 S := Nat.le_trans (sz_a0 c.a1 n) (sz_mono c.n1 (by omega))
    obtain ⟨k1, k2, _⟩ := stepQ c c.a1 h h1 hq hm
    refine ⟨k1, fun f m hm => ?_⟩
    have e : powP q (n + 1) = prodP (powP q n) q := rfl
    rw [e, mq_prod k2 f]
    rw [h2 (Mq q f) m hm]
    simp only [itM]
    rw [it_comm]
theorem chn_c (c : Cap eQ AQ nQ A0 S) {s : Nat} {v q : List Tm} (hv : Pl (eQ * s) (sz nQ AQ A0 s) (nQ ^ s) v) (hq : Pl eQ AQ nQ q) : ∀ n, s + n ≤ S → Pl (eQ * (s + n)) (sz nQ AQ A0 (s + n)) (nQ ^ (s + n)) (chn v q n) ∧ ∀ f, ev f (chn v q n) = ev (itM q n f) v
  | 0, _ => ⟨hv, fun f => rfl⟩
  | n + 1, h => by
    obtain ⟨h1, h2⟩ := chn_c c hv hq n (by omega)
    obtain ⟨k1, k2, _⟩ := stepQ c (Nat.le_refl A0) (by omega) h1 hq (sz_mono c.n1 (by omega))
    refine ⟨k1, fun f => ?_⟩
    have e : chn v q (n + 1) = prodP (chn v q n) q := rfl
    rw [e, k2 f]
    show ev (Mq q f) (chn v q n) = _
    rw [h2, ← it_comm]; rfl
theorem mulpow (c : Cap eQ AQ nQ A0 S) {s n : Nat} {v q : List Tm} (hv : Pl (eQ * s) (sz nQ AQ A0 s) (nQ ^ s) v) (hq : Pl eQ AQ nQ q) (hs : s + n ≤ S) :
    prodP v (powP q n) = chn v q n ∧ ∀ f g, FnR Go.Proofs.Tryz.prog 18 [eP f v, eP g (powP q n)] [] (.t [eP false (chn v q n), .i .i64 0]) := by
  obtain ⟨h1, h2⟩ := pow_c c hq n (by omega)
  obtain ⟨h3, h4⟩ := chn_c c hv hq n hs
  have hp := c.pow hs
  have hp0 : nQ ^ s * nQ ^ n = nQ ^ (s + n) := (Nat.pow_add ..).symm
  have hp1 : nQ ^ s * 1 ≤ nQ ^ s * nQ ^ n := Nat.mul_le_mul_left _ (Nat.pow_pos c.n1)
  have hp2 : 1 * nQ ^ n ≤ nQ ^ s * nQ ^ n := Nat.mul_le_mul_right _ (Nat.pow_pos c.n1)
  have he : eQ * s + eQ * n = eQ * (s + n) := by rw [Nat.mul_add]
  have he2 : eQ * (s + n) ≤ eQ * S := Nat.mul_le_mul_left _ hs
  have hb : nQ ^ (s + n) * (2 * sz nQ AQ A0 S + 1) ≤ nQ ^ S * (2 * sz nQ AQ A0 S + 1) := Nat.mul_le_mul_right _ hp
  have cb := c.b
  have cl := c.ln
  have cx := c.ex
  obtain ⟨k1, k2, k3⟩ := mul_c (M := sz nQ AQ A0 S) hv h1 (by omega) (by omega) (by omega) (by omega) (sz_mono c.n1 (by omega)) (Nat.le_trans (sz_a0 c.a1 n) (sz_mono c.n1 (by omega))) c.m (by rw [← Nat.mul_assoc, hp0]; omega)
  have e : prodP v (powP q n) = chn v q n := can_eq k1.can h3.can fun f => by
    rw [k2 f, h4 f]
    exact ev_congr fun t ht => h2 f _ (hv.nn t ht)
  rw [e] at k3
  exact ⟨e, k3⟩
theorem tr_c (c : Cap eQ AQ nQ A0 S) {Qs : List (List Tm)} (hlQ : Qs.length = 8) (hQ : ∀ i, i < 8 → Pl eQ AQ nQ (Qs.getD i [])) {t : Tm} (ht : Nn t.1) (hA : LQ t.2 ≤ A0) (hS : ps t.1 8 ≤ S) :
    ∀ i, i ≤ 8 → Pl (eQ * ps t.1 i) (sz nQ AQ A0 (ps t.1 i)) (nQ ^ ps t.1 i) (trP Qs t i) ∧ ∀ f, ev f (trP Qs t i) = t.2 * opM (Qs.take i) (t.1.take i) f m0
  | 0, _ => ⟨(cP_pl hA).mono (Nat.zero_le _) (Nat.le_refl _) (by simp [ps]), fun f => by
      show ev f (cP t.2) = _
      rw [ev_cP, List.take_zero, List.take_zero]; rfl⟩
  | i + 1, hi => by
    obtain ⟨h1, h2⟩ := tr_c c hlQ hQ ht hA hS i (by omega)
    have hps : ∀ k, i + 1 + k ≤ 8 → ps t.1 (i + 1) ≤ ps t.1 (i + 1 + k) := by
      intro k
      induction k with
      | zero => intro _; exact Nat.le_refl _
      | succ k ih => intro h; have := ih (by omega); rw [show i + 1 + (k + 1) = (i + 1 + k) + 1 by omega]; simp only [ps] at this ⊢; omega
    have h8 := hps (8 - (i + 1)) (by omega)
    rw [show i + 1 + (8 - (i + 1)) = 8 by omega] at h8
    have hle : ps t.1 i + (t.1.getD i 0).toNat ≤ S := by
      have : ps t.1 (i + 1) = ps t.1 i + (t.1.getD i 0).toNat := rfl
      omega
    obtain ⟨e, _⟩ := mulpow c h1 (hQ i (by omega)) hle
    obtain ⟨k1, k2⟩ := chn_c c h1 (hQ i (by omega)) (t.1.getD i 0).toNat hle
    have e2 : trP Qs t (i + 1) = chn (trP Qs t i) (Qs.getD i []) (t.1.getD i 0).toNat := e
    rw [e2]
    refine ⟨k1, fun f => ?_⟩
    have g1 : Qs.take (i + 1) = Qs.take i ++ [Qs.getD i []] := by
      rw [List.take_add_one, List.getD_eq_getElem?_getD, List.getElem?_eq_getElem (show i < Qs.length by omega)]; rfl
    have g2 : t.1.take (i + 1) = t.1.take i ++ [t.1.getD i 0] := by
      rw [List.take_add_one, List.getD_eq_getElem?_getD, List.getElem?_eq_getElem (show i < t.1.length by rw [ht.1]; omega)]; rfl
    rw [k2, h2, g1, g2, op_snoc _ _ _ _ _ (by rw [List.length_take, List.length_take, hlQ, ht.1])]
theorem get_nn' {m : List Int} (hm : Nn m) (k : Nat) : 0 ≤ m.getD k 0 := by
  rw [List.getD_eq_getElem?_getD]
  by_cases h : k < m.length
  · rw [List.getElem?_eq_getElem h]; exact hm.2 _ (List.getElem_mem _)
  · rw [List.getElem?_eq_none (by omega)]; simp
theorem get_ps {m : List Int} : ∀ (k i : Nat), i < k → (m.getD i 0).toNat ≤ ps m k
  | 0, i, h => by omega
  | k + 1, i, h => by
    simp only [ps]
    by_cases hi : i = k
    · subst hi; omega
    · have := get_ps (m := m) k i (by omega); omega
theorem sum_ps {m : List Int} (hm : Nn m) : m.sum = (ps m 8 : Int) := by
  obtain ⟨h8, h0⟩ := hm
  match m, h8, h0 with
  | [a, b, c, d, e, f, g, h], _, h0 =>
    have := h0 a (by simp); have := h0 b (by simp); have := h0 c (by simp); have := h0 d (by simp); have := h0 e (by simp); have := h0 f (by simp); have := h0 g (by simp); have := h0 h (by simp)
    simp [ps]; omega
theorem subL_c (c : Cap eQ AQ nQ A0 S) {Qs : List (List Tm)} (hlQ : Qs.length = 8) (hQ : ∀ i, i < 8 → Pl eQ AQ nQ (Qs.getD i [])) : ∀ (p a : List Tm) (k : Nat), (∀ t ∈ p, Nn t.1 ∧ LQ t.2 ≤ A0 ∧ ps t.1 8 ≤ S) → Pl (eQ * S) (k * (sz nQ AQ A0 S + 1)) (k * nQ ^ S) a →
    Pl (eQ * S) ((k + p.length) * (sz nQ AQ A0 S + 1)) ((k + p.length) * nQ ^ S) (subL Qs (trP Qs) a p) ∧ ∀ f, ev f (subL Qs (trP Qs) a p) = ev f a + ev (fun m => opM Qs m f m0) p
  | [], a, k, _, ha => ⟨by simpa [subL] using ha, fun f => by simp [subL, ev, Rat.add_zero]⟩
  | t :: p, a, k, hp, ha => by
    obtain ⟨h1, h2, h3⟩ := hp t (by simp)
    have hp' : ∀ u ∈ p, Nn u.1 ∧ LQ u.2 ≤ A0 ∧ ps u.1 8 ≤ S := fun u hu => hp u (by simp [hu])
    have hk : k + (t :: p).length = (k + 1) + p.length := by rw [List.length_cons]; omega
    rw [hk]
    have m1 : (k + 1) * (sz nQ AQ A0 S + 1) = k * (sz nQ AQ A0 S + 1) + (sz nQ AQ A0 S + 1) := by rw [Nat.add_mul, Nat.one_mul]
    have m2 : (k + 1) * nQ ^ S = k * nQ ^ S + nQ ^ S := by rw [Nat.add_mul, Nat.one_mul]
    simp only [subL]
    by_cases hv : van Qs t.1 = true
    · rw [if_pos hv]
      obtain ⟨k1, k2⟩ := subL_c c hlQ hQ p a (k + 1) hp' (ha.mono (Nat.le_refl _) (by omega) (by omega))
      refine ⟨k1, fun f => ?_⟩
      obtain ⟨i, _, hi, hb⟩ := (vix_spec (vb Qs t.1) 8 0).1 (of_decide_eq_true hv)
      unfold vb at hb
      simp only [Bool.and_eq_true, decide_eq_true_eq] at hb
      rw [k2 f]
      simp only [ev]
      rw [op_van Qs t.1 i f hb.1 (by omega) hb.2, Rat.mul_zero, Rat.zero_add]
    · rw [if_neg hv]
      obtain ⟨g1, g2⟩ := tr_c c hlQ hQ h1 h2 h3 8 (Nat.le_refl _)
      have g3 : Pl (eQ * S) (sz nQ AQ A0 S) (nQ ^ S) (trP Qs t 8) := g1.mono (Nat.mul_le_mul_left _ h3) (sz_mono c.n1 h3) (c.pow h3)
      obtain ⟨k1, k2⟩ := subL_c c hlQ hQ p (addP a (trP Qs t 8)) (k + 1) hp' ((ha.add g3).mono (Nat.le_refl _) (by omega) (by omega))
      refine ⟨k1, fun f => ?_⟩
      rw [k2 f, ev_addP f ha.l8 g3.l8, g2 f, List.take_of_length_le (by omega), List.take_of_length_le (by rw [h1.1]; omega)]
      simp only [ev]
      rw [Rat.add_assoc]
noncomputable def sbsP (Qs : List (List Tm)) (p : List Tm) : List Tm := subL Qs (trP Qs) [] p
theorem subst_c (c : Cap eQ AQ nQ A0 S) {Qs : List (List Tm)} (hlQ : Qs.length = 8) (hQ : ∀ i, i < 8 → Pl eQ AQ nQ (Qs.getD i [])) {e A n : Nat} {p : List Tm} (hp : Pl e A n p) (he : e ≤ 65535) (hA : A ≤ A0) (hd : ∀ t ∈ p, ps t.1 8 ≤ S) (hS : S ≤ 64) (hn : n ≤ 1000000)
    (hb1 : (n + 1) * (sz nQ AQ A0 S + 1) ≤ 549755813888) (hb2 : (n + 1) * nQ ^ S ≤ 1000000000) :
    Pl (eQ * S) (n * (sz nQ AQ A0 S + 1)) (n * nQ ^ S) (sbsP Qs p) ∧ (∀ f, ev f (sbsP Qs p) = ev (fun m => opM Qs m f m0) p) ∧ ∀ fp, FnR Go.Proofs.Tryz.prog 45 [eP fp p, .a (Qs.map (eP false))] [] (.t [eP false (sbsP Qs p), .i .i64 0]) := by
  have hall : ∀ t ∈ p, Nn t.1 ∧ LQ t.2 ≤ A0 ∧ ps t.1 8 ≤ S := fun t ht => ⟨hp.nn t ht, Nat.le_trans (hp.lq t ht) hA, hd t ht⟩
  obtain ⟨k1, k2⟩ := subL_c c hlQ hQ p [] 0 hall ⟨Can.nil, by simp, by simp, by simp⟩
  rw [Nat.zero_add] at k1
  have hln := hp.ln
  refine ⟨k1.mono (Nat.le_refl _) (Nat.mul_le_mul_right _ hln) (Nat.mul_le_mul_right _ hln), fun f => by unfold sbsP; rw [k2 f]; simp [ev, Rat.zero_add], fun fp => ?_⟩
  have hok : SubOk p Qs (fun i n => powP (Qs.getD i []) n) S (trP Qs) := {
    lenQ := hlQ
    R0 := fun _ => rfl
    Rs := fun i hi n hn _ f => by
      obtain ⟨h1, _⟩ := pow_c c (hQ i hi) n (by omega)
      exact (stepQ c c.a1 (show n + 1 ≤ S by omega) h1 (hQ i hi) (Nat.le_trans (sz_a0 c.a1 n) (sz_mono c.n1 (by omega)))).2.2 f false
    ex := fun t ht => ⟨hp.l8 t ht, fun i hi => by
      have h1 := get_nn' (hp.nn t ht) i
      have h2 := get_ps (m := t.1) 8 i hi
      have h3 := hd t ht
      exact ⟨(t.1.getD i 0).toNat, by omega, by omega⟩⟩
    T0 := fun _ _ => rfl
    Ts := fun t ht _ i hi f g => by
      obtain ⟨h1, h2, h3⟩ := hall t ht
      obtain ⟨g1, _⟩ := tr_c c hlQ hQ h1 h2 h3 i (by omega)
      have hps : ∀ k, i + 1 + k ≤ 8 → ps t.1 (i + 1) ≤ ps t.1 (i + 1 + k) := by
        intro k
        induction k with
        | zero => intro _; exact Nat.le_refl _
        | succ k ih => intro h; have := ih (by omega); rw [show i + 1 + (k + 1) = (i + 1 + k) + 1 by omega]; simp only [ps] at this ⊢; omega
      have h8 := hps (8 - (i + 1)) (by omega)
      rw [show i + 1 + (8 - (i + 1)) = 8 by omega] at h8
      have hle : ps t.1 i + (t.1.getD i 0).toNat ≤ S := by
        have : ps t.1 (i + 1) = ps t.1 i + (t.1.getD i 0).toNat := rfl
        omega
      obtain ⟨e1, e2⟩ := mulpow c g1 (hQ i hi) hle
      have e3 : trP Qs t (i + 1) = chn (trP Qs t i) (Qs.getD i []) (t.1.getD i 0).toNat := e1
      rw [e3]
      exact e2 f g }
  have hdeg : degP (-1) p ≤ 64 := by
    obtain ⟨_, _, h3⟩ := degP_max p (-1)
    rcases h3 with h3 | ⟨t, ht, e'⟩
    · omega
    · rw [← e', sum_ps (hp.nn t ht)]
      have := hd t ht; omega
  have hm1 : (p.length + 1) * (sz nQ AQ A0 S + 1) ≤ (n + 1) * (sz nQ AQ A0 S + 1) := Nat.mul_le_mul_right _ (by omega)
  have hm2 : (p.length + 1) * nQ ^ S ≤ (n + 1) * nQ ^ S := Nat.mul_le_mul_right _ (by omega)
  exact w45 p fp Qs _ S (by omega) (trP Qs) hok (A := sz nQ AQ A0 S) (L := nQ ^ S) hp.pb (hp.pm he) (fun t ht => by
    obtain ⟨h1, h2, h3⟩ := hall t ht
    obtain ⟨g1, _⟩ := tr_c c hlQ hQ h1 h2 h3 8 (Nat.le_refl _)
    exact ⟨g1.pb.mono (sz_mono c.n1 h3), Nat.le_trans g1.ln (c.pow h3)⟩) (by omega) (by omega) (by omega) hdeg
end
theorem tim_ev {c : Rat} {m : List Int} {p : List Tm} (hf : fitP m p = true) (f : List Int → Rat) : ev f (timP c m p).1 = c * ev (fun n => f (mMul m n)) p ∧ (timP c m p).2 = 0 := by
  unfold timP
  by_cases h : c = 0
  · rw [if_pos h, h, Rat.zero_mul]; exact ⟨rfl, rfl⟩
  · rw [if_neg h, if_pos hf]
    refine ⟨?_, rfl⟩
    clear hf
    induction p with
    | nil => simp [mulT, ev, Rat.mul_zero]
    | cons t p ih =>
      have e : mulT c m (t :: p) = (mMul m t.1, c * t.2) :: mulT c m p := rfl
      rw [e]
      simp only [ev] at ih ⊢
      rw [ih, Rat.mul_add, Rat.mul_assoc]
theorem tim_can {c : Rat} {m : List Int} {p : List Tm} (hc : c ≠ 0) (hm : m.length = 8) (hp : Can p) : Can (timP c m p).1 := by
  unfold timP
  rw [if_neg hc]
  split
  · refine ⟨fun t ht => ?_, fun t ht => ?_, ?_⟩
    · obtain ⟨u, hu, rfl⟩ := List.mem_map.1 ht
      exact mMul_len hm (hp.len u hu)
    · obtain ⟨u, hu, rfl⟩ := List.mem_map.1 ht
      exact fun h => (Rat.mul_eq_zero.1 h).elim hc (hp.nz u hu)
    · refine List.pairwise_map.2 (List.Pairwise.imp_of_mem (fun {a b} ha hb h => ?_) hp.st)
      have la := hp.len a ha
      have lb := hp.len b hb
      rw [mMul_comm m a.1, mMul_comm m b.1, cmp_add _ _ _ (by omega) (by omega)]
      exact h
  · exact Can.nil
theorem mulR_c {q : List Tm} (hq : Can q) : ∀ (l res : List Tm), Can l → Can res → (∀ t ∈ l, fitP t.1 q = true) → (mulR res l q).2 = 0 ∧ Can (mulR res l q).1 ∧ ∀ f, ev f (mulR res l q).1 = ev f res + ev (Mq q f) l
  | [], res, _, hr, _ => ⟨rfl, hr, fun f => by simp [mulR, ev, Rat.add_zero]⟩
  | t :: l, res, hl, hr, hf => by
    have h0 := hf t (by simp)
    have hc := tim_can (hl.nz t (by simp)) (hl.len t (by simp)) hq
    have e0 := (tim_ev (c := t.2) h0 (fun _ => 0)).2
    simp only [mulR]
    rw [if_pos e0]
    obtain ⟨k1, k2, k3⟩ := mulR_c hq l (addP res (timP t.2 t.1 q).1) hl.tail (can_add hr hc) (fun u hu => hf u (by simp [hu]))
    refine ⟨k1, k2, fun f => ?_⟩
    rw [k3, ev_addP f hr.len hc.len, (tim_ev h0 f).1]
    simp only [ev, Mq]
    rw [Rat.add_assoc]
theorem fit_pl {e1 e2 A1 A2 n1 n2 : Nat} {p q : List Tm} (hp : Pl e1 A1 n1 p) (hq : Pl e2 A2 n2 q) (he : e1 + e2 ≤ 65535) : ∀ t ∈ p, fitP t.1 q = true := by
  intro t ht
  refine List.all_eq_true.2 fun u hu => List.all_eq_true.2 fun x hx => ?_
  have := mMul_ex (hp.ex t ht) (hq.ex u hu) x hx
  simp only [okE, decide_eq_true_eq]
  omega
theorem mulP_eq {e1 e2 A1 A2 n1 n2 : Nat} {p q : List Tm} (hp : Pl e1 A1 n1 p) (hq : Pl e2 A2 n2 q) (he : e1 + e2 ≤ 65535) : mulP p q = (prodP p q, 0) := by
  obtain ⟨k1, k2, k3⟩ := mulR_c hq.can p [] hp.can Can.nil (fit_pl hp hq he)
  refine Prod.ext (prodP_eq k2 fun f => ?_).symm k1
  show ev f (mulR [] p q).1 = _
  rw [k3 f]
  simp only [ev, Rat.zero_add]; rfl
theorem mul_r {e1 e2 A1 A2 n1 n2 M : Nat} {p q : List Tm} (hp : Pl e1 A1 n1 p) (hq : Pl e2 A2 n2 q) (he : e1 + e2 ≤ 65535) (hA1 : A1 ≤ M) (hA2 : A2 ≤ M) (hB : (n1 + 1) * (2 * M + 1) ≤ 549755813888) (hL : n1 + (n1 + 1) * n2 ≤ 1000000000000) :
    ∀ f g, FnR Go.Proofs.Tryz.prog 115 [eP f p, eP g q] [] (.t [eP false (prodP p q), .i .i64 0]) := by
  intro f g
  have hln := hp.ln
  have hlq := hq.ln
  have m1 : (p.length + 1) * (2 * M + 1) ≤ (n1 + 1) * (2 * M + 1) := Nat.mul_le_mul_right _ (by omega)
  have m2 : (p.length + 1) * q.length ≤ (n1 + 1) * n2 := Nat.mul_le_mul (by omega) hlq
  have := w115 p q f g (A := M) (hp.pb.mono hA1) (hq.pb.mono hA2) (hp.pm (by omega)) (hq.pm (by omega)) (by omega) (by omega)
  rw [mulP_eq hp hq he] at this
  exact this
structure RubOk (p : List Tm) (Qs : List (List Tm)) (T : Tm → Nat → List Tm) : Prop where
  lenQ : Qs.length = 8
  ex : ∀ t ∈ p, t.1.length = 8 ∧ ∀ i, i < 8 → ∃ n : Nat, t.1.getD i 0 = (n : Int) ∧ n ≤ 1000000
  T0 : ∀ t ∈ p, T t 0 = cP t.2
  Ts : ∀ t ∈ p, ∀ i, i < 8 → chn (T t i) (Qs.getD i []) (t.1.getD i 0).toNat = T t (i + 1)
  Rs : ∀ t ∈ p, ∀ i, i < 8 → ∀ j, j < (t.1.getD i 0).toNat → ∀ f g, FnR Go.Proofs.Tryz.prog 115 [eP f (chn (T t i) (Qs.getD i []) j), eP g (Qs.getD i [])] [] (.t [eP false (chn (T t i) (Qs.getD i []) (j + 1)), .i .i64 0])
section
variable {eQ AQ nQ A0 S : Nat}
end
theorem xP_pl {i : Nat} (hi : i < 8) : Pl 1 1 1 (xP i) := by
  refine ⟨⟨fun t ht => ?_, fun t ht => ?_, by simp [xP]⟩, fun t ht x hx => ?_, fun t ht => ?_, by simp [xP]⟩
  all_goals (unfold xP at ht; rw [List.mem_singleton] at ht; subst ht)
  · exact len8m i
  · exact (by decide : (1 : Rat) ≠ 0)
  · rcases List.mem_or_eq_of_mem_set hx with hx | rfl
    · have := List.eq_of_mem_replicate (show x ∈ List.replicate 8 (0 : Int) from hx); omega
    · omega
  · exact LQ_1
def DG (S : Nat) (p : List Tm) : Prop := ∀ t ∈ p, ps t.1 8 ≤ S
theorem sum_set : ∀ (m : List Int) (i : Nat) (v : Int), i < m.length → (m.set i v).sum = m.sum - m.getD i 0 + v
  | [], _, _, h => by simp at h
  | x :: m, 0, v, _ => by rw [List.set_cons_zero, List.sum_cons, List.sum_cons]; simp; omega
  | x :: m, i + 1, v, h => by
    have ih := sum_set m i v (by simpa using h)
    have e : (x :: m).getD (i + 1) 0 = m.getD i 0 := rfl
    rw [List.set_cons_succ, List.sum_cons, List.sum_cons, ih, e]; omega
theorem mIt_deg (r : List Int) (deg : Nat) : ∀ i, i ≤ 8 → (mIt r deg i).1.sum + (mIt r deg i).2 = deg ∧ ∀ j, i ≤ j → (mIt r deg i).1.getD j 0 = 0
  | 0, _ => by
    refine ⟨by simp [mIt, m0, List.replicate], fun j _ => ?_⟩
    show m0.getD j 0 = 0
    unfold m0
    rw [List.getD_eq_getElem?_getD, List.getElem?_replicate]
    split <;> rfl
  | i + 1, hi => by
    obtain ⟨h1, h2⟩ := mIt_deg r deg i (by omega)
    have hl := (mIt_ok r deg i).1
    have h3 := h2 i (Nat.le_refl _)
    refine ⟨?_, fun j hj => ?_⟩
    · simp only [mIt]
      rw [sum_set _ _ _ (by omega), h3]; omega
    · have h4 := h2 j (by omega)
      simp only [mIt]
      rw [List.getD_eq_getElem?_getD, List.getElem?_set, if_neg (by omega)]
      rw [List.getD_eq_getElem?_getD] at h4
      exact h4
theorem mono5_ps (r : List Int) (n deg : Nat) (hn : n ≤ 8) : ps (mono5 r n deg) 8 ≤ deg := by
  obtain ⟨h1, _⟩ := mIt_deg r deg n hn
  obtain ⟨h2, h3, h4, h5⟩ := mIt_ok r deg n
  have hnn : Nn (mono5 r n deg) := ⟨h2, fun x hx => (h3 x hx).1⟩
  have := sum_ps hnn
  unfold mono5 at this ⊢
  omega
theorem sum_mono' {p q : List Tm} {t : Tm} (ht : t ∈ addP p q) : (∃ u ∈ p, u.1 = t.1) ∨ ∃ u ∈ q, u.1 = t.1 :=
  mrg_all (P := fun t => (∃ u ∈ p, u.1 = t.1) ∨ ∃ u ∈ q, u.1 = t.1) (fun t h => h) (fun t u h _ => h) _ p q (fun t ht => .inl ⟨t, ht, rfl⟩) (fun t ht => .inr ⟨t, ht, rfl⟩) t ht
theorem DG.add {S : Nat} {p q : List Tm} (hp : DG S p) (hq : DG S q) : DG S (addP p q) := by
  intro t ht
  rcases sum_mono' ht with ⟨u, hu, e⟩ | ⟨u, hu, e⟩
  · rw [← e]; exact hp u hu
  · rw [← e]; exact hq u hu
def putQ (ls : List (List (List Int))) (i : Nat) : List Tm := if i < 4 then (match ls[i]? with | some rows => madeP rows 3 2 3 | none => xP i) else xP i
def putL (ls : List (List (List Int))) : List (List Tm) := (List.range 8).map (putQ ls)
theorem putL_len (ls : List (List (List Int))) : (putL ls).length = 8 := by unfold putL; rw [List.length_map, List.length_range]
theorem putL_get (ls : List (List (List Int))) {i : Nat} (h : i < 8) : (putL ls)[i]? = some (putQ ls i) := by
  unfold putL
  rw [List.getElem?_map, List.getElem?_range h]; rfl
theorem putL_getD (ls : List (List (List Int))) {i : Nat} (h : i < 8) : (putL ls).getD i [] = putQ ls i := by
  rw [List.getD_eq_getElem?_getD, putL_get ls h]; rfl
def zs : List D := [.sl 12 true []]
def zq (n : Nat) : List D := List.replicate n (.sl 12 true [])
def putC (ls : List (List (List Int))) (i : Nat) : List D := ((putL ls).take i).map (eP false) ++ zq (8 - i)
theorem putC_len (ls : List (List (List Int))) {i : Nat} (h : i ≤ 8) : (putC ls i).length = 8 := by
  unfold putC zq
  rw [List.length_append, List.length_map, List.length_take, putL_len, List.length_replicate]; omega
theorem putC_set (ls : List (List (List Int))) {i : Nat} (h : i < 8) : (putC ls i).set i (eP false (putQ ls i)) = putC ls (i + 1) := by
  unfold putC zq
  rw [show 8 - i = (7 - i) + 1 by omega, List.replicate_succ, set_mid _ _ _ _ (by rw [List.length_map, List.length_take, putL_len]; omega), List.take_add_one, putL_get ls h, show 8 - (i + 1) = 7 - i by omega]
  simp
theorem stC {l : List D} {i : Nat} (h : i < l.length) (k : Key) (z : Nat) (d : D) : boxS (some (z, .box l)) k z i [d] = some (k, z, .box (l.set i d)) := by
  rw [boxS_s _ _ _ _ _ (by simp; omega)]
  unfold splice
  rw [List.set_eq_take_append_cons_drop, if_pos h]
  simp
theorem loop44 (ls : List (List (List Int))) (f : Bool) (hls : ∀ rows ∈ ls, ∀ r ∈ rows, R5 r) (d0 : D) (hd0 : d0 = .sl 1 f (ls.map fun rows => [.sl 5 false (rows.map e8)])) (F : Nat) (out : Sto) (Q : Ex → St → Prop) (z2 z3 : Nat) (c2 : List D) :
    ∀ (c i : Nat) (nx : Nat), i + c = 8 →
    (∀ r nx, r 2 = .p (F, 2) z2 0 → r 3 = .p (F, 3) z3 0 → Q (.exit 0) { r := r, own := upd (upd (fun _ => none) 3 (some (z3, .box ((putL ls).map (eP false))))) 2 (some (z2, .box c2)), out := out, nx := nx }) →
    Loop Go.Proofs.Tryz.prog F [0, 2, 3, 4] [2, 3] b44_0 { r := (upd (upd (upd (upd (fun _ => .u) 4 (.i .i64 i)) 3 (.p (F, 3) z3 0)) 2 (.p (F, 2) z2 0)) 0 (d0)), own := upd (upd (fun _ => none) 3 (some (z3, .box (putC ls i)))) 2 (some (z2, .box c2)), out := out, nx := nx } Q := by
  subst hd0
  intro c
  induction c with
  | zero =>
    intro i nx hi h0
    refine Loop.stepW ?_
    have : i = 8 := by omega
    subst this
    have c1 : decide (((8 : Nat) : Int) < 8) = false := by decide
    have e : putC ls 8 = (putL ls).map (eP false) := by
      unfold putC zq
      rw [List.take_of_length_le (by rw [putL_len]; omega)]; simp
    rw [e]
    simp only [go_sem, sB, reduceCtorEq, sL, sA, sE, sN, wb44_0, c1]
    exact h0 _ _ rfl rfl
  | succ c ih =>
    intro i nx hi h0
    refine Loop.stepW ?_
    have hi8 : i < 8 := by omega
    have c1 : decide (((i : Nat) : Int) < 8) = true := decide_eq_true (by omega)
    have e1 : IntKind.wrap .i64 (((i : Nat) : Int) + 1) = ((i + 1 : Nat) : Int) := by rw [IntWalk.i64_in _ (by omega)]; omega
    have hl := putC_len ls (show i ≤ 8 by omega)
    have hset := putC_set ls hi8
    have s1 := stC (l := putC ls i) (i := i) (by omega)
    have ih' := ih (i + 1)
    simp only [go_sem, sB, reduceCtorEq, sL, sA, sE, sN, wb44_0, c1]
    refine callO_intro (w49 i hi8) ?_
    by_cases h1 : i < ls.length
    · obtain ⟨rows, hr⟩ := get_ex h1
      by_cases h4 : i < 4
      · have hq : putQ ls i = madeP rows 3 2 3 := by unfold putQ; rw [if_pos h4, hr]
        rw [hq] at hset
        have hx := ixsO_sl 1 f (ls.map fun rows => [.sl 5 false (rows.map e8)]) .i64 i _ (by rw [List.getElem?_map, hr]; rfl)
        have s2 := stC (l := (putC ls i).set i (eP false (xP i))) (i := i) (by rw [List.length_set]; omega)
        simp only [go_sem, sB, reduceCtorEq, sL, sA, sE, sN, ixaO_p _ _ _ _ _ _ _ hi8, Nat.mul_one, eP, s1, List.length_map, decide_eq_true (show ((i : Nat) : Int) < ((ls.length : Nat) : Int) by omega), decide_eq_true (show ((i : Nat) : Int) < 4 by omega), hx]
        refine callO_intro (w33 rows false (hls rows (List.mem_of_getElem? hr)) 3 2 3 (by omega) (by omega) (by omega)) ?_
        unfold eP at s2 hset
        simp only [go_sem, sB, reduceCtorEq, sL, sA, sE, sN, ixaO_p _ _ _ _ _ _ _ hi8, Nat.mul_one, eP, s2, List.set_set, hset, e1]
        exact ih' _ (by omega) h0
      · have hq : putQ ls i = xP i := if_neg h4
        rw [hq] at hset
        unfold eP at hset
        simp only [go_sem, sB, reduceCtorEq, sL, sA, sE, sN, ixaO_p _ _ _ _ _ _ _ hi8, Nat.mul_one, eP, s1, List.length_map, decide_eq_true (show ((i : Nat) : Int) < ((ls.length : Nat) : Int) by omega), decide_eq_false (show ¬ ((i : Nat) : Int) < 4 by omega), hset, e1]
        exact ih' _ (by omega) h0
    · have hq : putQ ls i = xP i := by
        unfold putQ
        rw [List.getElem?_eq_none (by omega)]
        split <;> rfl
      rw [hq] at hset
      unfold eP at hset
      simp only [go_sem, sB, reduceCtorEq, sL, sA, sE, sN, ixaO_p _ _ _ _ _ _ _ hi8, Nat.mul_one, eP, s1, List.length_map, decide_eq_false (show ¬ ((i : Nat) : Int) < ((ls.length : Nat) : Int) by omega), hset, e1]
      exact ih' _ (by omega) h0
theorem nr_Qs (Qs : List (List Tm)) : (D.a (Qs.map (eP false))).nr = true := by
  have : ∀ Qs : List (List Tm), nrL (Qs.map (eP false)) = true := by
    intro Qs
    induction Qs with
    | nil => rfl
    | cons q Qs ih => simp only [List.map_cons, nrL, ih, Bool.and_true]; exact nr_eP _ _
  simpa [D.nr] using this Qs
theorem w44 (ls : List (List (List Int))) (f : Bool) (hls : ∀ rows ∈ ls, ∀ r ∈ rows, R5 r) : FnR Go.Proofs.Tryz.prog 44 [.sl 1 f (ls.map fun rows => [.sl 5 false (rows.map e8)])] [] (.a ((putL ls).map (eP false))) := by
  refine fnr44 (by simp) (nr_Qs _) (by simp) List.nodup_nil fun F out hS => ?_
  have hz : [D.sl 12 true [], .sl 12 true [], .sl 12 true [], .sl 12 true [], .sl 12 true [], .sl 12 true [], .sl 12 true [], .sl 12 true []] = putC ls 0 := (rfl)
  have hl0 := putC_len ls (show 0 ≤ 8 by omega)
  have d0 : (putC ls 0).drop 8 = [] := List.drop_of_length_le (by omega)
  have hl8 : ((putL ls).map (eP false)).length = 8 := by rw [List.length_map]; exact putL_len ls
  have ht8 : ((putL ls).map (eP false)).take 8 = (putL ls).map (eP false) := List.take_of_length_le (by omega)
  unfold ir44
  simp only [go_sem, sB, reduceCtorEq, sL, sA, sE, sN, hz, hl0, d0]
  refine loop44 ls f hls _ rfl F out _ _ _ _ 8 0 _ rfl (fun r nx r2 r3 => ?_)
  simp only [go_sem, sB, reduceCtorEq, sL, sA, sE, sN, r2, r3, hl8, ht8, hl0, d0, rv44, fin_c]
  exact ⟨_, rfl, .refl _⟩
def IsI (C : Nat) (x : Rat) : Prop := ∃ z : Int, x = (z : Rat) ∧ z.natAbs ≤ C
theorem IsI.add {C D : Nat} {x y : Rat} (hx : IsI C x) (hy : IsI D y) : IsI (C + D) (x + y) := by
  obtain ⟨a, rfl, ha⟩ := hx
  obtain ⟨b, rfl, hb⟩ := hy
  exact ⟨a + b, (Rat.intCast_add a b).symm, by omega⟩
theorem IsI.mul {C D : Nat} {x y : Rat} (hx : IsI C x) (hy : IsI D y) : IsI (C * D) (x * y) := by
  obtain ⟨a, rfl, ha⟩ := hx
  obtain ⟨b, rfl, hb⟩ := hy
  exact ⟨a * b, (Rat.intCast_mul a b).symm, by rw [Int.natAbs_mul]; exact Nat.mul_le_mul ha hb⟩
theorem IsI.mono {C D : Nat} {x : Rat} (hx : IsI C x) (h : C ≤ D) : IsI D x := by
  obtain ⟨a, e, ha⟩ := hx
  exact ⟨a, e, by omega⟩
theorem isI_0 (C : Nat) : IsI C 0 := ⟨0, rfl, by simp⟩
theorem isI_1 : IsI 1 1 := ⟨1, rfl, by decide⟩
theorem isI_match {p : List Tm} (hp : Can p) {C : Nat} (hC : ∀ t ∈ p, IsI C t.2) (f : List Int → Rat) (hf : ∀ m, f m = 0 ∨ f m = 1) (h1 : ∀ t ∈ p, ∀ u ∈ p, f t.1 = 1 → f u.1 = 1 → t.1 = u.1) : IsI C (ev f p) := by
  by_cases h : ∃ t ∈ p, f t.1 = 1
  · obtain ⟨t, ht, h2⟩ := h
    rw [ev_single f hp ht (fun u hu hne => (hf u.1).resolve_right (fun h3 => hne (h1 u hu t ht h3 h2))), h2, Rat.mul_one]
    exact hC t ht
  · rw [ev_zero (fun t ht => (hf t.1).resolve_right (fun h3 => h ⟨t, ht, h3⟩))]
    exact isI_0 C
theorem isI_sum {C D : Nat} (f : List Int → Rat) : ∀ (q : List Tm), (∀ t ∈ q, IsI D t.2) → (∀ t ∈ q, IsI C (f t.1)) → IsI (q.length * (D * C)) (ev f q)
  | [], _, _ => isI_0 _
  | t :: q, h1, h2 => by
    have ih := isI_sum f q (fun u hu => h1 u (by simp [hu])) (fun u hu => h2 u (by simp [hu]))
    have := ((h1 t (by simp)).mul (h2 t (by simp))).add ih
    simp only [ev]
    exact this.mono (by rw [List.length_cons, Nat.add_mul, Nat.one_mul]; omega)
theorem isI_prod {p q r : List Tm} (hp : Can p) (hq : Can q) (hr : Can r) (h : IsProd p q r) {C D n2 : Nat} (h1 : ∀ t ∈ p, IsI C t.2) (h2 : ∀ t ∈ q, IsI D t.2) (hn : q.length ≤ n2) : ∀ t ∈ r, IsI (n2 * (D * C)) t.2 := by
  intro t ht
  rw [← coef_mem hr ht, h, ev_swap (fun m n => dlt t.1 (mMul m n)) q p]
  refine (isI_sum (C := C) (fun n => ev (fun m => dlt t.1 (mMul m n)) p) q h2 (fun u hu => isI_match hp h1 _ (fun m => by unfold dlt; split <;> simp) (fun a ha b hb e1 e2 => ?_))).mono (Nat.mul_le_mul_right _ hn)
  have la := hp.len a ha
  have lb := hp.len b hb
  have lu := hq.len u hu
  have f1 : mMul a.1 u.1 = t.1 := by
    apply Classical.byContradiction
    intro hne
    simp only [dlt, if_neg hne] at e1
    exact absurd e1 (by decide)
  have f2 : mMul b.1 u.1 = t.1 := by
    apply Classical.byContradiction
    intro hne
    simp only [dlt, if_neg hne] at e2
    exact absurd e2 (by decide)
  have hc := cmp_add a.1 b.1 u.1 (by omega) (by omega)
  rw [f1, f2, cmpL_self] at hc
  exact cmpL_eq _ _ (by omega) hc.symm
theorem isI_add {p q : List Tm} (hp : Can p) (hq : Can q) {C D : Nat} (h1 : ∀ t ∈ p, IsI C t.2) (h2 : ∀ t ∈ q, IsI D t.2) : ∀ t ∈ addP p q, IsI (C + D) t.2 := by
  intro t ht
  have hc := can_add hp hq
  rw [← coef_mem hc ht, ev_addP _ hp.len hq.len]
  have key : ∀ (l : List Tm), Can l → ∀ t' ∈ l, ∀ u ∈ l, dlt t.1 t'.1 = 1 → dlt t.1 u.1 = 1 → t'.1 = u.1 := by
    intro l _ a _ b _ e1 e2
    have f1 : a.1 = t.1 := by
      apply Classical.byContradiction
      intro hne
      simp only [dlt, if_neg hne] at e1
      exact absurd e1 (by decide)
    have f2 : b.1 = t.1 := by
      apply Classical.byContradiction
      intro hne
      simp only [dlt, if_neg hne] at e2
      exact absurd e2 (by decide)
    rw [f1, f2]
  exact (isI_match hp h1 _ (fun m => by unfold dlt; split <;> simp) (key p hp)).add (isI_match hq h2 _ (fun m => by unfold dlt; split <;> simp) (key q hq))
theorem isI_lq {C : Nat} {x : Rat} (h : IsI C x) (hC : C < 115792089237316195423570985008687907853269984665640564039457584007913129639936) : LQ x ≤ 8 := by
  obtain ⟨z, rfl, hz⟩ := h
  unfold LQ LZ
  rw [Rat.num_intCast, Rat.den_intCast]
  have h1 : L z.natAbs ≤ 8 := L_le (by have : BB ^ 8 = 115792089237316195423570985008687907853269984665640564039457584007913129639936 := by decide
                                       rw [this]; omega)
  have h2 : L 1 ≤ 8 := Nat.le_trans (L_le (k := 1) (by decide)) (by omega)
  omega
def Uv (k : Nat) (p : List Tm) : Prop := ∀ t ∈ p, ∃ j : Nat, j ≤ k ∧ t.1 = (j : Int) :: List.replicate 7 0
theorem uv_len : ∀ (p : List Tm) (k : Nat), Can p → Uv k p → p.length ≤ k + 1
  | [], _, _, _ => by simp
  | t :: p, k, hc, h => by
    obtain ⟨j, hj, e⟩ := h t (by simp)
    have hg := (List.pairwise_cons.1 hc.st).1
    have hlt : ∀ u ∈ p, ∃ i : Nat, i < j ∧ u.1 = (i : Int) :: List.replicate 7 0 := by
      intro u hu
      obtain ⟨i, _, e2⟩ := h u (by simp [hu])
      refine ⟨i, ?_, e2⟩
      have h1 := hg u hu
      rw [e, e2] at h1
      simp only [cmpL] at h1
      by_cases hij : (j : Int) < (i : Int)
      · rw [if_pos hij] at h1; omega
      · by_cases hij2 : (i : Int) < (j : Int)
        · omega
        · rw [if_neg hij, if_neg hij2, cmpL_self] at h1; omega
    rw [List.length_cons]
    cases hp : p with
    | nil => simp
    | cons u q =>
      obtain ⟨i0, hi0, _⟩ := hlt u (by rw [hp]; simp)
      have := uv_len p (j - 1) hc.tail (fun v hv => by
        obtain ⟨i, hi, e3⟩ := hlt v hv
        exact ⟨i, by omega, e3⟩)
      rw [hp] at this
      omega
theorem uv_prod {k l : Nat} {p q r : List Tm} (hr : Can r) (h : IsProd p q r) (hp : Uv k p) (hq : Uv l q) : Uv (k + l) r := by
  intro t ht
  obtain ⟨a, ha, b, hb, e⟩ := mem_prod hr h ht
  obtain ⟨i, hi, e1⟩ := hp a ha
  obtain ⟨j, hj, e2⟩ := hq b hb
  refine ⟨i + j, by omega, ?_⟩
  rw [e, e1, e2]
  show ((i : Int) + (j : Int)) :: List.zipWith (· + ·) (List.replicate 7 0) (List.replicate 7 0) = _
  rw [show ((i : Int) + (j : Int)) = ((i + j : Nat) : Int) by omega]; rfl
theorem uv_add {k : Nat} {p q : List Tm} (hp : Uv k p) (hq : Uv k q) : Uv k (addP p q) := by
  intro t ht
  rcases sum_mono' ht with ⟨u, hu, e⟩ | ⟨u, hu, e⟩
  · rw [← e]; exact hp u hu
  · rw [← e]; exact hq u hu
theorem uv_one : Uv 0 (cP 1) := by
  have e : cP 1 = [(m0, 1)] := if_neg (by decide)
  intro t ht
  rw [e, List.mem_singleton] at ht
  subst ht
  exact ⟨0, by omega, rfl⟩
theorem uv_ex {k : Nat} {p : List Tm} (h : Uv k p) : ∀ t ∈ p, ∀ x ∈ t.1, 0 ≤ x ∧ x ≤ (k : Int) := by
  intro t ht x hx
  obtain ⟨j, hj, e⟩ := h t ht
  rw [e] at hx
  rcases List.mem_cons.1 hx with rfl | hx
  · omega
  · rw [List.eq_of_mem_replicate hx]; omega
theorem term5_1 (r : List Int) : Uv 1 (term5 r 1 1) ∧ ∀ t ∈ term5 r 1 1, IsI 3 t.2 := by
  have h3 := tm4 (r.getD 0 0)
  have hm := mono5_ps r 1 1 (by omega)
  obtain ⟨h2, hb, _, _⟩ := mIt_ok r 1 1
  unfold term5 timP
  split
  · exact ⟨fun t ht => by simp at ht, fun t ht => by simp at ht⟩
  · split
    · refine ⟨fun t ht => ?_, fun t ht => ?_⟩
      · obtain ⟨u, hu, rfl⟩ := List.mem_map.1 ht
        rw [List.mem_singleton] at hu
        subst hu
        have e : mMul m0 (mono5 r 1 1) = mono5 r 1 1 := mMul_0 _ h2
        refine ⟨(Int.tmod ((r.getD 1 0).natAbs : Int) 2).toNat, ?_, ?_⟩
        · have := Int.tmod_lt_of_pos ((r.getD 1 0).natAbs : Int) (show (0 : Int) < 2 by omega)
          omega
        · show mMul m0 (mono5 r 1 1) = _
          rw [e]
          have hnn := Int.tmod_nonneg (2 : Int) (show (0 : Int) ≤ ((r.getD 1 0).natAbs : Int) by omega)
          have e2 : mono5 r 1 1 = m0.set 0 (Int.tmod ((r.getD 1 0).natAbs : Int) 2) := rfl
          rw [e2, Int.toNat_of_nonneg hnn]; rfl
      · obtain ⟨u, hu, rfl⟩ := List.mem_map.1 ht
        rw [List.mem_singleton] at hu
        subst hu
        exact ⟨Int.tmod (r.getD 0 0) 4, by show _ * (1 : Rat) = _; rw [Rat.mul_one], by omega⟩
    · exact ⟨fun t ht => by simp at ht, fun t ht => by simp at ht⟩
theorem made_1 (rows : List (List Int)) : Uv 1 (madeP rows 1 1 2) ∧ (∀ t ∈ madeP rows 1 1 2, IsI 6 t.2) ∧ Can (madeP rows 1 1 2) ∧ (madeP rows 1 1 2).length ≤ 2 := by
  have hpl := madeP_pl rows 1 1 2 (by omega)
  have key : ∀ (rs : List (List Int)) (p : List Tm) (C : Nat), Can p → Uv 1 p → (∀ t ∈ p, IsI C t.2) → Uv 1 (madeL 1 1 p rs) ∧ ∀ t ∈ madeL 1 1 p rs, IsI (C + 3 * rs.length) t.2 := by
    intro rs
    induction rs with
    | nil => intro p C _ h1 h2; exact ⟨h1, fun t ht => (h2 t ht).mono (by simp)⟩
    | cons r rs ih =>
      intro p C hc h1 h2
      obtain ⟨k1, k2⟩ := term5_1 r
      have k3 := (term5_pl r 1 1 (by omega)).can
      obtain ⟨g1, g2⟩ := ih (addP p (term5 r 1 1)) (C + 3) (can_add hc k3) (uv_add h1 k1) (isI_add hc k3 h2 k2)
      exact ⟨g1, fun t ht => (g2 t ht).mono (by rw [List.length_cons]; omega)⟩
  obtain ⟨g1, g2⟩ := key (rows.take 2) [] 0 Can.nil (fun t ht => by simp at ht) (fun t ht => by simp at ht)
  refine ⟨g1, fun t ht => (g2 t ht).mono (by rw [List.length_take]; omega), hpl.can, hpl.ln⟩
theorem pow_1 {q : List Tm} (hc : Can q) (hu : Uv 1 q) (hi : ∀ t ∈ q, IsI 6 t.2) (hl : q.length ≤ 2) : ∀ n, n ≤ 64 → (Can (powP q n) ∧ Uv n (powP q n) ∧ ∀ t ∈ powP q n, IsI (12 ^ n) t.2)
  | 0, _ => ⟨(cP_pl LQ_1).can, uv_one, fun t ht => by
      have e : cP 1 = [(m0, 1)] := if_neg (by decide)
      have ht : t ∈ cP 1 := ht
      rw [e, List.mem_singleton] at ht
      subst ht
      exact isI_1⟩
  | n + 1, hn => by
    obtain ⟨h1, h2, h3⟩ := pow_1 hc hu hi hl n (by omega)
    have hb : 12 ^ n < 115792089237316195423570985008687907853269984665640564039457584007913129639936 := Nat.lt_of_le_of_lt (Nat.pow_le_pow_right (by omega) (show n ≤ 64 by omega)) (by decide)
    have hp : Pl n 8 65 (powP q n) := ⟨h1, uv_ex h2, fun t ht => isI_lq (h3 t ht) hb, by have := uv_len _ _ h1 h2; omega⟩
    have hq : Pl 1 8 2 q := ⟨hc, uv_ex hu, fun t ht => isI_lq (hi t ht) (by decide), hl⟩
    obtain ⟨k1, k2, _⟩ := mul_c (M := 8) hp hq (by omega) (by omega) (by omega) (by omega) (by omega) (by omega) (by omega) (by omega)
    exact ⟨k1.can, uv_prod k1.can k2 h2 hu, fun t ht => (isI_prod h1 hc k1.can k2 h3 hi hl t ht).mono (by rw [Nat.pow_succ]; omega)⟩
theorem pow_1pl {q : List Tm} (hc : Can q) (hu : Uv 1 q) (hi : ∀ t ∈ q, IsI 6 t.2) (hl : q.length ≤ 2) {n : Nat} (hn : n ≤ 64) : Pl n 8 65 (powP q n) := by
  obtain ⟨h1, h2, h3⟩ := pow_1 hc hu hi hl n hn
  have hb : 12 ^ n < 115792089237316195423570985008687907853269984665640564039457584007913129639936 := Nat.lt_of_le_of_lt (Nat.pow_le_pow_right (by omega) hn) (by decide)
  exact ⟨h1, uv_ex h2, fun t ht => isI_lq (h3 t ht) hb, by have := uv_len _ _ h1 h2; omega⟩
theorem mul_fit {A n1 n2 : Nat} {p q : List Tm} (cp : Can p) (cq : Can q) (hp : PB A p) (kp : PM p) (hq : PB A q) (kq : PM q) (l1 : p.length ≤ n1) (l2 : q.length ≤ n2) (hn : n1 * n2 ≤ 1000000000) (h1 : n1 ≤ 1000000000) (h2 : n2 ≤ 1000000000) (hA : A ≤ 549755813888) (hB : n1 * (n2 * (2 * A + 1)) ≤ 549755813888)
    (hfit : ∀ a ∈ p, ∀ b ∈ q, (mMul a.1 b.1).all okE = true) : ∃ r, Can r ∧ IsProd p q r ∧ ∀ f g, FnR Go.Proofs.Tryz.prog 18 [eP f p, eP g q] [] (.t [eP false r, .i .i64 0]) := by
  obtain ⟨l, hl, hmid⟩ := mulOut_ex (M := fun m => m.length = 8) q p [] ⟨by simp, by simp⟩ (fun a ha b hb => ⟨hfit a ha b hb, mMul_len (cp.len a ha) (cq.len b hb)⟩)
  have hk1 : p.length * (q.length * (2 * A + 1)) ≤ n1 * (n2 * (2 * A + 1)) := Nat.mul_le_mul l1 (Nat.mul_le_mul_right _ l2)
  have hk2 : p.length * q.length ≤ n1 * n2 := Nat.mul_le_mul l1 l2
  have hfl : ∀ t ∈ l.filter (fun t => decide (t.2 ≠ 0)), t ∈ l := fun t ht => (List.mem_filter.1 ht).1
  have hnd : ((l.filter (fun t => decide (t.2 ≠ 0))).map (·.1)).Nodup := hmid.nd.sublist (List.Sublist.map _ List.filter_sublist)
  obtain ⟨r, hr1, hr2⟩ := sort_ex (l.filter (fun t => decide (t.2 ≠ 0))) (fun t ht => hmid.all t (hfl t ht)) hnd
  have hmem : ∀ t ∈ r, t ∈ l ∧ t.2 ≠ 0 := fun t ht => by
    have := List.mem_filter.1 (hr1.subset ht)
    exact ⟨this.1, by simpa using this.2⟩
  refine ⟨r, ⟨fun t ht => hmid.all t (hmem t ht).1, fun t ht => (hmem t ht).2, hr2⟩, fun f => ?_, fun f g => ?_⟩
  · rw [ev_perm f hr1, ev_filter, ev_mulOut f q p [] l hl]
    simp only [ev, Rat.zero_add]
  · exact w18 p q f g hp kp hq kq (by omega) (by omega) (by omega) hA (by omega) l r hl hr1 hr2
theorem mulOut_bad {m : List Int} {c : Rat} : ∀ (p l : List Tm), (∃ a ∈ p, (mMul a.1 m).all okE = false) → mulOut l [(m, c)] p = none
  | [], _, h => by obtain ⟨a, ha, _⟩ := h; simp at ha
  | a :: p, l, h => by
    simp only [mulOut, mulIn]
    cases hb : (mMul a.1 m).all okE with
    | false => rfl
    | true =>
      simp only [if_true]
      obtain ⟨x, hx, h2⟩ := h
      rcases List.mem_cons.1 hx with rfl | hx
      · rw [hb] at h2; exact absurd h2 (by decide)
      · exact mulOut_bad p _ ⟨x, hx, h2⟩
theorem loop53 (q : List Tm) (g : Bool) (n : Nat) (hn : n ≤ 64) (hs : ∀ k, k < n → ∀ f, FnR Go.Proofs.Tryz.prog 18 [eP f (powP q k), eP g q] [] (.t [eP false (powP q (k + 1)), .i .i64 0])) (F : Nat) (out : Sto) (Q : Ex → St → Prop) : ∀ (c i : Nat) (f : Bool) (nx : Nat), i + c = n →
    (∀ r f nx, r 6 = eP f (powP q n) → r 7 = .i .i64 0 → Q (.exit 0) { r := r, own := fun _ => none, out := out, nx := nx }) →
    Loop Go.Proofs.Tryz.prog F [0, 1, 6, 7, 8] [] b53_0 { r := (upd (upd (upd (upd (upd (fun _ => .u) 8 (.i .i64 i)) 7 (.i .i64 0)) 6 (eP f (powP q i))) 1 (.i .i64 n)) 0 (eP g q)), own := fun _ => none, out := out, nx := nx } Q := by
  intro c
  induction c with
  | zero =>
    intro i f nx hi h0
    refine Loop.stepW ?_
    have : i = n := by omega
    subst this
    have c1 : decide (((i : Nat) : Int) < ((i : Nat) : Int)) = false := by simp
    simp only [go_sem, sB, reduceCtorEq, sL, sA, sE, sN, wb53_0, c1]
    exact h0 _ f _ rfl rfl
  | succ c ih =>
    intro i f nx hi h0
    refine Loop.stepW ?_
    have c1 : decide (((i : Nat) : Int) < ((n : Nat) : Int)) = true := decide_eq_true (by omega)
    have e1 : IntKind.wrap .i64 (((i : Nat) : Int) + 1) = ((i + 1 : Nat) : Int) := by rw [IntWalk.i64_in _ (by omega)]; omega
    simp only [go_sem, sB, reduceCtorEq, sL, sA, sE, sN, wb53_0, c1, show ((0 : Int) == 0) = true from rfl]
    refine callO_intro (hs i (by omega) f) ?_
    simp only [go_sem, sB, reduceCtorEq, sL, sA, sE, sN, e1]
    exact ih (i + 1) false _ (by omega) h0
theorem w53 (q : List Tm) (g : Bool) (n : Nat) (hn : n ≤ 64) (hs : ∀ k, k < n → ∀ f, FnR Go.Proofs.Tryz.prog 18 [eP f (powP q k), eP g q] [] (.t [eP false (powP q (k + 1)), .i .i64 0])) :
    FnR Go.Proofs.Tryz.prog 53 [eP g q, .i .i64 (n : Int)] [] (.t [eP false (powP q n), .i .i64 0]) := by
  refine fnr53 (by simp) (nr_t2 _ _ _) (by simp) List.nodup_nil fun F out hS => ?_
  have e1 : ((1 : Int) : Rat) = 1 := rfl
  unfold ir53
  simp only [go_sem, sB, reduceCtorEq, sL, sA, sE, sN, decide_eq_false (show ¬ ((n : Nat) : Int) < 0 by omega), decide_eq_false (show ¬ ((n : Nat) : Int) > 64 by omega)]
  refine callO_intro (q85 1 (by omega) (by omega)) ?_
  rw [e1]
  simp only [go_sem, sB, reduceCtorEq, sL, sA, sE, sN]
  refine callO_intro (w22 1) ?_
  simp only [go_sem, sB, reduceCtorEq, sL, sA, sE, sN]
  refine loop53 q g n hn hs F out _ n 0 false _ (by omega) (fun r f nx r6 r7 => ?_)
  simp only [go_sem, sB, reduceCtorEq, sL, sA, sE, sN, r6, r7, rv53, fin_t2]
  exact .t (.cons (weak_full _ _ _) (.refl _))
theorem w53x (q : List Tm) (g : Bool) (n : Int) (hn : n < 0 ∨ 64 < n) : FnR Go.Proofs.Tryz.prog 53 [eP g q, .i .i64 n] [] (.t [.sl 12 true [], .i .i64 1]) := by
  refine fnr53 (by simp) rfl (by simp) List.nodup_nil fun F out hS => ?_
  unfold ir53
  by_cases h0 : n < 0
  · simp only [go_sem, sB, reduceCtorEq, sL, sA, sE, sN, decide_eq_true h0, rv53, fin_t2]
    exact .refl _
  · simp only [go_sem, sB, reduceCtorEq, sL, sA, sE, sN, decide_eq_false h0, decide_eq_true (show n > 64 by omega), rv53, fin_t2]
    exact .refl _
theorem w53b (q : List Tm) (g : Bool) (h1 : ∀ f, FnR Go.Proofs.Tryz.prog 18 [eP f (cP 1), eP g q] [] (.t [eP false q, .i .i64 0])) (h2 : ∀ f, FnR Go.Proofs.Tryz.prog 18 [eP f q, eP g q] [] (.t [eP false [], .i .i64 2])) :
    FnR Go.Proofs.Tryz.prog 53 [eP g q, .i .i64 2] [] (.t [eP false [], .i .i64 2]) := by
  refine fnr53 (by simp) (nr_t2 _ _ _) (by simp) List.nodup_nil fun F out hS => ?_
  have e1 : ((1 : Int) : Rat) = 1 := rfl
  have e2 : IntKind.wrap .i64 (0 + 1) = 1 := IntWalk.i64_in _ (by omega)
  have e3 : IntKind.wrap .i64 (1 + 1) = 2 := IntWalk.i64_in _ (by omega)
  unfold ir53
  simp only [go_sem, sB, reduceCtorEq, sL, sA, sE, sN, show decide ((2 : Int) < 0) = false from rfl, show decide ((2 : Int) > 64) = false from rfl]
  refine callO_intro (q85 1 (by omega) (by omega)) ?_
  rw [e1]
  simp only [go_sem, sB, reduceCtorEq, sL, sA, sE, sN]
  refine callO_intro (w22 1) ?_
  simp only [go_sem, sB, reduceCtorEq, sL, sA, sE, sN]
  refine Loop.stepW ?_
  simp only [go_sem, sB, reduceCtorEq, sL, sA, sE, sN, wb53_0, show decide ((0 : Int) < 2) = true from rfl, show ((0 : Int) == 0) = true from rfl]
  refine callO_intro (h1 false) ?_
  simp only [go_sem, sB, reduceCtorEq, sL, sA, sE, sN, e2]
  refine Loop.stepW ?_
  simp only [go_sem, sB, reduceCtorEq, sL, sA, sE, sN, wb53_0, show decide ((1 : Int) < 2) = true from rfl, show ((0 : Int) == 0) = true from rfl]
  refine callO_intro (h2 false) ?_
  simp only [go_sem, sB, reduceCtorEq, sL, sA, sE, sN, e3]
  refine Loop.stepW ?_
  simp only [go_sem, sB, reduceCtorEq, sL, sA, sE, sN, wb53_0, show decide ((2 : Int) < 2) = false from rfl, rv53, fin_t2]
  exact .refl _
theorem loop54 (q : List Tm) (g : Bool) (n : Nat) (hn : n ≤ 64) (hs : ∀ k, k < n → ∀ f, FnR Go.Proofs.Tryz.prog 115 [eP f (powP q k), eP g q] [] (.t [eP false (powP q (k + 1)), .i .i64 0])) (F : Nat) (out : Sto) (Q : Ex → St → Prop) : ∀ (c i : Nat) (f : Bool) (nx : Nat), i + c = n →
    (∀ r f nx, r 6 = eP f (powP q n) → Q (.exit 0) { r := r, own := fun _ => none, out := out, nx := nx }) →
    Loop Go.Proofs.Tryz.prog F [0, 1, 6, 7] [] b54_0 { r := (upd (upd (upd (upd (fun _ => .u) 7 (.i .i64 i)) 6 (eP f (powP q i))) 1 (.i .i64 n)) 0 (eP g q)), own := fun _ => none, out := out, nx := nx } Q := by
  intro c
  induction c with
  | zero =>
    intro i f nx hi h0
    refine Loop.stepW ?_
    have : i = n := by omega
    subst this
    have c1 : decide (((i : Nat) : Int) < ((i : Nat) : Int)) = false := by simp
    simp only [go_sem, sB, reduceCtorEq, sL, sA, sE, sN, wb54_0, c1]
    exact h0 _ f _ rfl
  | succ c ih =>
    intro i f nx hi h0
    refine Loop.stepW ?_
    have c1 : decide (((i : Nat) : Int) < ((n : Nat) : Int)) = true := decide_eq_true (by omega)
    have e1 : IntKind.wrap .i64 (((i : Nat) : Int) + 1) = ((i + 1 : Nat) : Int) := by rw [IntWalk.i64_in _ (by omega)]; omega
    simp only [go_sem, sB, reduceCtorEq, sL, sA, sE, sN, wb54_0, c1]
    refine callO_intro (hs i (by omega) f) ?_
    simp only [go_sem, sB, reduceCtorEq, sL, sA, sE, sN, show ((0 : Int) != 0) = false from rfl, e1]
    exact ih (i + 1) false _ (by omega) h0
theorem w54 (q : List Tm) (g : Bool) (n : Nat) (hn : n ≤ 64) (hs : ∀ k, k < n → ∀ f, FnR Go.Proofs.Tryz.prog 115 [eP f (powP q k), eP g q] [] (.t [eP false (powP q (k + 1)), .i .i64 0])) :
    FnR Go.Proofs.Tryz.prog 54 [eP g q, .i .i64 (n : Int)] [] (.t [eP false (powP q n), .i .i64 0]) := by
  refine fnr54 (by simp) (nr_t2 _ _ _) (by simp) List.nodup_nil fun F out hS => ?_
  have e1 : ((1 : Int) : Rat) = 1 := rfl
  unfold ir54
  simp only [go_sem, sB, reduceCtorEq, sL, sA, sE, sN, decide_eq_false (show ¬ ((n : Nat) : Int) < 0 by omega), decide_eq_false (show ¬ ((n : Nat) : Int) > 64 by omega)]
  refine callO_intro (w64 1 (by omega) (by omega)) ?_
  rw [e1]
  simp only [go_sem, sB, reduceCtorEq, sL, sA, sE, sN]
  refine loop54 q g n hn hs F out _ n 0 false _ (by omega) (fun r f nx r6 => ?_)
  simp only [go_sem, sB, reduceCtorEq, sL, sA, sE, sN, r6, rv54, fin_t2]
  exact .t (.cons (weak_full _ _ _) (.refl _))
theorem w54x (q : List Tm) (g : Bool) (n : Int) (hn : n < 0 ∨ 64 < n) : FnR Go.Proofs.Tryz.prog 54 [eP g q, .i .i64 n] [] (.t [.sl 12 true [], .i .i64 1]) := by
  refine fnr54 (by simp) rfl (by simp) List.nodup_nil fun F out hS => ?_
  unfold ir54
  by_cases h0 : n < 0
  · simp only [go_sem, sB, reduceCtorEq, sL, sA, sE, sN, decide_eq_true h0, rv54, fin_t2]
    exact .refl _
  · simp only [go_sem, sB, reduceCtorEq, sL, sA, sE, sN, decide_eq_false h0, decide_eq_true (show n > 64 by omega), rv54, fin_t2]
    exact .refl _
end Go.Vm.G

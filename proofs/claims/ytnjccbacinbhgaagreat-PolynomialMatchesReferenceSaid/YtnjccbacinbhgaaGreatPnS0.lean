/- A part of the proof of: All functions return the results of the reference (PolynomialMatchesReference), for every input. -/
import Derived.Test.YtnjccbacinbhgaaGreatPnC2
import Derived.Shelf.SlSortCmp.WholeK
set_option linter.unusedSimpArgs false
set_option linter.unusedVariables false
namespace Go.Proofs
open Go.Shelf Go.RowKit Go.Lib Go.Sort
def Tryz.pdqTm_ren : Go.Shelf.Ren := ⟨fun | 14 => 161 | 20 => 181 | 21 => 182 | 22 => 183 | 23 => 184 | 24 => 185 | 25 => 186 | 26 => 187 | 27 => 188 | 46 => 200 | 47 => 201 | 48 => 202 | 49 => 203 | 50 => 204 | 15 => 162 | 57 => 205 | 28 => 189 | 29 => 190 | n => n, fun | 24 => 33 | 22 => 22 | 3 => 3 | 25 => 115 | 4 => 4 | 0 => 0 | 46 => 178 | 45 => 177 | 50 => 182 | 66 => 194 | 39 => 143 | 55 => 140 | 70 => 198 | 76 => 202 | 77 => 203 | 53 => 144 | 5 => 5 | 9 => 9 | n => n, fun | n => n⟩
theorem Tryz.pdqTm : Go.Proofs.SlLaysF0.n14 Tryz.prog Tryz.pdqTm_ren := {
  mixed := by kernel_rfl
  f14 := ⟨Tryz.f161.name, by decide, Tryz.func161.trans (congrArg some (by kernel_rfl))⟩
  f15 := Tryz.func162.trans (congrArg some (by kernel_rfl))
  f20 := ⟨Tryz.f181.name, by decide, Tryz.func181.trans (congrArg some (by kernel_rfl))⟩
  f21 := ⟨Tryz.f182.name, by decide, Tryz.func182.trans (congrArg some (by kernel_rfl))⟩
  f22 := ⟨Tryz.f183.name, by decide, Tryz.func183.trans (congrArg some (by kernel_rfl))⟩
  f23 := ⟨Tryz.f184.name, by decide, Tryz.func184.trans (congrArg some (by kernel_rfl))⟩
  f24 := ⟨Tryz.f185.name, by decide, Tryz.func185.trans (congrArg some (by kernel_rfl))⟩
  f25 := ⟨Tryz.f186.name, by decide, Tryz.func186.trans (congrArg some (by kernel_rfl))⟩
  f26 := ⟨Tryz.f187.name, by decide, Tryz.func187.trans (congrArg some (by kernel_rfl))⟩
  f27 := ⟨Tryz.f188.name, by decide, Tryz.func188.trans (congrArg some (by kernel_rfl))⟩
  f28 := Tryz.func189.trans (congrArg some (by kernel_rfl))
  f29 := Tryz.func190.trans (congrArg some (by kernel_rfl))
  f46 := ⟨Tryz.f200.name, by decide, Tryz.func200.trans (congrArg some (by kernel_rfl))⟩
  f47 := Tryz.func201.trans (congrArg some (by kernel_rfl))
  f48 := Tryz.func202.trans (congrArg some (by kernel_rfl))
  f49 := ⟨Tryz.f203.name, by decide, Tryz.func203.trans (congrArg some (by kernel_rfl))⟩
  f50 := ⟨Tryz.f204.name, by decide, Tryz.func204.trans (congrArg some (by kernel_rfl))⟩
  f57 := ⟨Tryz.f205.name, by decide, Tryz.func205.trans (congrArg some (by kernel_rfl))⟩
  t0 := Tryz.underlying0
  a0 := Tryz.isAgg0
  z0 := Tryz.sizeOf0
  v0 := Tryz.zeroValue0
  t3 := Tryz.underlying3
  a3 := Tryz.isAgg3
  z3 := Tryz.sizeOf3
  v3 := Tryz.zeroValue3
  t4 := Tryz.underlying4
  a4 := Tryz.isAgg4
  z4 := Tryz.sizeOf4
  v4 := Tryz.zeroValue4
  t5 := Tryz.underlying5
  a5 := Tryz.isAgg5
  z5 := Tryz.sizeOf5
  v5 := Tryz.zeroValue5
  t9 := Tryz.underlying9
  a9 := Tryz.isAgg9
  z9 := Tryz.sizeOf9
  v9 := Tryz.zeroValue9
  t22 := Tryz.underlying22
  a22 := Tryz.isAgg22
  z22 := Tryz.sizeOf22
  v22 := Tryz.zeroValue22
  t25 := Tryz.underlying115
  a25 := Tryz.isAgg115
  z25 := Tryz.sizeOf115
  v25 := Tryz.zeroValue115
  t39 := Tryz.underlying143
  a39 := Tryz.isAgg143
  z39 := Tryz.sizeOf143
  v39 := Tryz.zeroValue143
  t45 := Tryz.underlying177
  a45 := Tryz.isAgg177
  z45 := Tryz.sizeOf177
  v45 := Tryz.zeroValue177
  t46 := Tryz.underlying178
  a46 := Tryz.isAgg178
  z46 := Tryz.sizeOf178
  v46 := Tryz.zeroValue178
  t50 := Tryz.underlying182
  a50 := Tryz.isAgg182
  z50 := Tryz.sizeOf182
  v50 := Tryz.zeroValue182
  t53 := Tryz.underlying144
  a53 := Tryz.isAgg144
  z53 := Tryz.sizeOf144
  v53 := Tryz.zeroValue144
  t55 := Tryz.underlying140
  a55 := Tryz.isAgg140
  z55 := Tryz.sizeOf140
  v55 := Tryz.zeroValue140
  t66 := Tryz.underlying194
  a66 := Tryz.isAgg194
  z66 := Tryz.sizeOf194
  v66 := Tryz.zeroValue194
  t70 := Tryz.underlying198
  a70 := Tryz.isAgg198
  z70 := Tryz.sizeOf198
  v70 := Tryz.zeroValue198
  t76 := Tryz.underlying202
  a76 := Tryz.isAgg202
  z76 := Tryz.sizeOf202
  v76 := Tryz.zeroValue202
  t77 := Tryz.underlying203
  a77 := Tryz.isAgg203
  z77 := Tryz.sizeOf203
  v77 := Tryz.zeroValue203 }
end Go.Proofs
namespace Go.Vm
open Go Go.RowKit Go.Sort Go.Proofs
section
variable {α : Type} [Inhabited α] (enc : α → List Value) (k : Nat) (w : World) (blk m : Nat) (dk : Array α) (os : Array Go.Obj)
theorem sw_heap : (sortWorldK enc k w blk 0 m dk os).heap = w.heap.modify blk (onCells (putCells id 0 (flatK enc k dk))) ++ os := (rfl)
theorem sw_size : w.heap.size ≤ (sortWorldK enc k w blk 0 m dk os).heap.size := by rw [sw_heap, Array.size_append, Array.size_modify]; omega
theorem sw_other {x : Nat} (h : x < w.heap.size) (hx : x ≠ blk) : (sortWorldK enc k w blk 0 m dk os).heap[x]? = w.heap[x]? := by
  rw [sw_heap, Array.getElem?_append_left (by rw [Array.size_modify]; exact h), Array.getElem?_modify, if_neg (Ne.symm hx)]
theorem sw_row {vs : Array Value} {e : TypeId} {fr : Nat × Nat} (h : w.heap[blk]? = some (.cells vs e fr)) : (sortWorldK enc k w blk 0 m dk os).heap[blk]? = some (.cells (putCells id 0 (flatK enc k dk) vs) e fr) := by
  have hlt : blk < w.heap.size := (Array.getElem?_eq_some_iff.1 h).1
  rw [sw_heap, Array.getElem?_append_left (by rw [Array.size_modify]; exact hlt), Array.getElem?_modify, if_pos rfl, h]
  rfl
end
theorem putCells_size (off : Nat) (F vs : Array Value) : (putCells id off F vs).size = vs.size := by simp [putCells]
theorem putCells_get (F vs : Array Value) (t : Nat) (h : t < F.size) (h2 : t < vs.size) : (putCells id 0 F vs)[t]? = some F[t]! := by
  simp [putCells, h, h2]
theorem grown_of {W w' : World} (hos : w'.os = W.os) (ht : w'.tape = W.tape) (hd : W.drawn ≤ w'.drawn) (ho : w'.output = W.output) (hs : W.heap.size ≤ w'.heap.size) (hh : ∀ x, x < W.heap.size → w'.heap[x]? = W.heap[x]?) :
    ∃ q os', w' = Sort.grow (W.drewN q) os' := by
  refine ⟨w'.drawn - W.drawn, w'.heap.extract W.heap.size w'.heap.size, ?_⟩
  have e1 : W.heap ++ w'.heap.extract W.heap.size w'.heap.size = w'.heap := by
    apply Array.ext_getElem?
    intro x
    by_cases hx : x < W.heap.size
    · rw [Array.getElem?_append_left hx, hh x hx]
    · rw [Array.getElem?_append_right (by omega), Array.getElem?_extract]
      by_cases hx2 : x < w'.heap.size
      · rw [if_pos (by omega)]
        congr 1
        omega
      · rw [if_neg (by omega), Array.getElem?_eq_none (by omega)]
  obtain ⟨heap, tape, drawn, os, output⟩ := w'
  simp only [Sort.grow, World.drewN] at *
  subst hos ht ho
  congr 1
  · exact e1.symm
  · omega
end Go.Vm
namespace Go.Vm.G
open Go Go.Vm
open Nat renaming reduceBEq → sB, reduceLeDiff → sL, reduceAdd → sA
open Int renaming reduceEq → sE, reduceNe → sN
theorem cmpL_self : ∀ (a : List Int), cmpL a a = 0
  | [] => rfl
  | x :: a => by simp only [cmpL, Int.lt_irrefl, if_false]; exact cmpL_self a
theorem cmpL_anti : ∀ (a b : List Int), cmpL b a = - cmpL a b
  | [], [] => by simp [cmpL]
  | [], _ :: _ => by simp [cmpL]
  | _ :: _, [] => by simp [cmpL]
  | x :: a, y :: b => by
    simp only [cmpL]
    by_cases h1 : x < y
    · rw [if_neg (by omega), if_pos h1, if_pos h1]; rfl
    · by_cases h2 : y < x
      · rw [if_pos h2, if_neg h1, if_pos h2]
      · rw [if_neg h2, if_neg h1, if_neg h1, if_neg h2]; exact cmpL_anti a b
theorem cmpL_eq : ∀ (a b : List Int), a.length = b.length → cmpL a b = 0 → a = b
  | [], [], _, _ => rfl
  | x :: a, y :: b, hl, h => by
    simp only [cmpL] at h
    by_cases h1 : x < y
    · rw [if_pos h1] at h; omega
    · by_cases h2 : y < x
      · rw [if_neg h1, if_pos h2] at h; omega
      · rw [if_neg h1, if_neg h2] at h
        rw [show x = y by omega, cmpL_eq a b (by simpa using hl) h]
theorem cmpL_trans : ∀ (a b c : List Int), a.length = b.length → b.length = c.length → cmpL a b < 0 → cmpL b c < 0 → cmpL a c < 0
  | [], [], [], _, _, h, _ => by simp [cmpL] at h
  | x :: a, y :: b, z :: c, h1, h2, h, k => by
    simp only [cmpL] at h k ⊢
    by_cases q1 : x < y
    · by_cases q2 : y < z
      · rw [if_pos (by omega)]; omega
      · rw [if_neg q2] at k
        by_cases q3 : z < y
        · rw [if_pos q3] at k; omega
        · rw [if_pos (show x < z by omega)]; omega
    · rw [if_neg q1] at h
      by_cases q3 : y < x
      · rw [if_pos q3] at h; omega
      · rw [if_neg q3] at h
        have e : x = y := by omega
        subst e
        by_cases q2 : x < z
        · rw [if_pos q2]; omega
        · rw [if_neg q2] at k ⊢
          by_cases q4 : z < x
          · rw [if_pos q4] at k; omega
          · rw [if_neg q4] at k ⊢
            exact cmpL_trans a b c (by simpa using h1) (by simpa using h2) h k
def mO (e : List D) : List Int := (e.drop 4).map fun d => match d with | .i _ n => n | _ => 0
theorem mO_eT (t : Tm) : mO (eT t) = t.1 := by
  unfold mO
  rw [dropT, eM, List.map_map]
  have : ((fun d => match d with | D.i _ n => n | _ => 0) ∘ D.i IntKind.i64) = (id : Int → Int) := by funext n; rfl
  rw [this, List.map_id]
structure okEl (e : List D) : Prop where
  len : e.length = 12
  mlen : (mO e).length = 8
  cells : e.drop 4 = eM (mO e)
theorem okEl_eT {t : Tm} (h : t.1.length = 8) : okEl (eT t) := ⟨eT_len h, by rw [mO_eT]; exact h, by rw [mO_eT]; rfl⟩
theorem w134 (a b : List D) (ha : okEl a) (hb : okEl b) : FnR Go.Proofs.Tryz.prog 134 [.a a, .a b] [] (.i .i64 (cmpL (mO b) (mO a))) := by
  refine fnr134 (by simp) rfl (by simp) List.nodup_nil fun F out hS => ?_
  have bt : ∀ z, boxC (some (z, .box a)) z 4 8 = some (eM (mO a)) := fun z => by rw [boxC_s _ _ _ _ (by rw [ha.len]; decide), ha.cells, take8 ha.mlen]
  have bu : ∀ z, boxC (some (z, .box b)) z 4 8 = some (eM (mO b)) := fun z => by rw [boxC_s _ _ _ _ (by rw [hb.len]; decide), hb.cells, take8 hb.mlen]
  unfold ir134
  simp only [go_sem, sB, reduceCtorEq, sL, sA, sE, sN, bt, bu]
  refine callO_intro (w70 _ _ hb.mlen ha.mlen) ?_
  simp only [go_sem, sB, reduceCtorEq, sL, sA, sE, sN, rv134, fin_t]
  exact .refl _
theorem perm_unique : ∀ (l r : List (List D)), l.Perm r → l.Pairwise (fun a b => 0 < cmpL (mO a) (mO b)) → r.Pairwise (fun a b => ¬ cmpL (mO a) (mO b) < 0) → l = r := by
  intro l
  induction l with
  | nil => intro r hp _ _; exact (List.nil_perm.1 hp).symm
  | cons a l ih =>
    intro r hp h1 h2
    cases r with
    | nil => exact absurd hp (by simp)
    | cons b r =>
      by_cases hab : a = b
      · subst hab
        rw [ih r ((List.perm_cons a).1 hp) (List.pairwise_cons.1 h1).2 (List.pairwise_cons.1 h2).2]
      · exfalso
        have hb : b ∈ l := by
          have : b ∈ a :: l := hp.symm.subset (by simp)
          rcases List.mem_cons.1 this with h | h
          · exact absurd h.symm hab
          · exact h
        have ha : a ∈ r := by
          have : a ∈ b :: r := hp.subset (by simp)
          rcases List.mem_cons.1 this with h | h
          · exact absurd h hab
          · exact h
        have q1 := (List.pairwise_cons.1 h1).1 b hb
        have q2 := (List.pairwise_cons.1 h2).1 a ha
        rw [cmpL_anti] at q2
        omega
end Go.Vm.G
namespace Go.Vm.G
open Go Go.Vm Go.RowKit Go.Sort Go.Proofs
def El (w : World) (ok : Nat → Prop) (β : BMap) : Type := { x : List Value × List D // x.1.length = 12 ∧ (∀ v ∈ x.1, v.oneCell' = true) ∧ CellsR w ok β x.2 x.1 ∧ okEl x.2 }
def zVal : List Value := [.bool false, .slice none 0 0, .bool false, .slice none 0 0, .int .i64 0, .int .i64 0, .int .i64 0, .int .i64 0, .int .i64 0, .int .i64 0, .int .i64 0, .int .i64 0]
def zDat : List D := [.b false, .sl 1 true [], .b false, .sl 1 true [], .i .i64 0, .i .i64 0, .i .i64 0, .i .i64 0, .i .i64 0, .i .i64 0, .i .i64 0, .i .i64 0]
theorem vr_nil (w : World) (ok : Nat → Prop) (β : BMap) : VR w ok β (.sl 1 true []) (.slice none 0 0) := okConst_vr (v := .slice none 0 0) rfl w ok β
theorem zCells (w : World) (ok : Nat → Prop) (β : BMap) : CellsR w ok β zDat zVal := by
  intro q d hq
  have hlt : q < 12 := (List.getElem?_eq_some_iff.1 hq).1
  match q, hlt with
  | 0, _ | 2, _ => simp [zDat] at hq; subst hq; exact ⟨_, rfl, rfl, .b _⟩
  | 1, _ | 3, _ => simp [zDat] at hq; subst hq; exact ⟨_, rfl, rfl, vr_nil _ _ _⟩
  | 4, _ | 5, _ | 6, _ | 7, _ | 8, _ | 9, _ | 10, _ | 11, _ => simp [zDat] at hq; subst hq; exact ⟨_, rfl, rfl, .i _ _⟩
instance (w : World) (ok : Nat → Prop) (β : BMap) : Inhabited (El w ok β) := ⟨⟨(zVal, zDat), rfl, List.all_eq_true.1 (show zVal.all (·.oneCell') = true from rfl), zCells _ _ _, rfl, rfl, rfl⟩⟩
def encE {w : World} {ok : Nat → Prop} {β : BMap} (x : El w ok β) : List Value := x.1.1
def cfE {w : World} {ok : Nat → Prop} {β : BMap} (x y : El w ok β) : Int := cmpL (mO y.1.2) (mO x.1.2)
theorem swoE (w : World) (ok : Nat → Prop) (β : BMap) : SWO (ltOf (cfE (w := w) (ok := ok) (β := β))) := by
  refine ⟨fun x => by simp [ltOf, cfE, cmpL_self], fun x y z h1 h2 => ?_, fun x y z h1 h2 => ?_⟩
  · skip
    have h1 : cmpL (mO y.1.2) (mO x.1.2) < 0 := of_decide_eq_true h1
    have h2 : cmpL (mO z.1.2) (mO y.1.2) < 0 := of_decide_eq_true h2
    have lx := x.2.2.2.2.mlen
    have ly := y.2.2.2.2.mlen
    have lz := z.2.2.2.2.mlen
    exact decide_eq_true (cmpL_trans _ _ _ (by omega) (by omega) h2 h1)
  · skip
    have h1 : ¬ cmpL (mO y.1.2) (mO x.1.2) < 0 := of_decide_eq_false h1
    have h2 : ¬ cmpL (mO z.1.2) (mO y.1.2) < 0 := of_decide_eq_false h2
    have lx := x.2.2.2.2.mlen
    have ly := y.2.2.2.2.mlen
    have lz := z.2.2.2.2.mlen
    refine decide_eq_false (fun h => ?_)
    have h : cmpL (mO z.1.2) (mO x.1.2) < 0 := h
    by_cases e : cmpL (mO y.1.2) (mO x.1.2) = 0
    · rw [cmpL_eq _ _ (by omega) e] at h2
      exact h2 h
    · have h3 : cmpL (mO x.1.2) (mO y.1.2) < 0 := by rw [cmpL_anti]; omega
      exact h2 (cmpL_trans _ _ _ (by omega) (by omega) h h3)
theorem isAggTm : ∀ w, (isAgg (Tryz.pdqTm_ren.t 24)).run Tryz.prog w = .ok true w := fun w => run_isAgg (by decide +kernel)
theorem sizeTm : ∀ w, (Go.sizeOf (Tryz.pdqTm_ren.t 24)).run Tryz.prog w = .ok 12 w := fun w => run_sizeOf (by decide +kernel)
theorem enters134 : ∀ args w, (callFunc 134 args).run Tryz.prog w = .ok (.enter 134 args) w := by
  obtain ⟨⟨fn, hf, hb, hname⟩, _⟩ := w134 zDat zDat ⟨rfl, rfl, rfl⟩ ⟨rfl, rfl, rfl⟩
  intro args w
  simp only [callFunc, Sem.run_bind, run_program, Result.andThen_ok, hf, hname, hb, Bool.false_eq_true, if_false, Sem.run_pure]
theorem f161 : ∃ fn, Tryz.prog.funcs[161]? = some fn ∧ fn.body.isNone = false ∧ (fn.name == "runtime.NumGoroutine") = false := ⟨_, Tryz.func161, rfl, rfl⟩
theorem fn161 {es es' : List (List D)} (hes : ∀ e ∈ es, okEl e) (hp : es'.Perm es) (hs : es'.Pairwise (fun a b => 0 < cmpL (mO a) (mO b))) (hn : es.length < 4611686018427387904) (key : Key) (st lim : Nat) (hlim : lim < 4611686018427387904) :
    FnR Tryz.prog 161 [.w key st 12 0 es.length, .i .i64 0, .i .i64 es.length, .i .i64 lim, .f 134 [] []] [⟨key, st, .row 12 es, .row 12 es'⟩] (.t []) := by
  refine ⟨f161, fun w β F ok vals hvl hv hoks hlow hups hinj => ?_⟩
  obtain ⟨x, hx, hxok, hxlt, hM, _⟩ := hups _ (List.mem_singleton.2 rfl)
  match vals, hvl with
  | [v0, v1, v2, v3, v4], _ =>
  have h0 := hv 0 _ v0 rfl rfl
  have h1 := hv 1 _ v1 rfl rfl
  have h2 := hv 2 _ v2 rfl rfl
  have h3 := hv 3 _ v3 rfl rfl
  have h4 := hv 4 _ v4 rfl rfl
  clear hv
  cases h1; cases h2; cases h3
  cases h4 with
  | f _ _ _ fs cs hl1 hl2 _ _ =>
  have : fs = [] := List.length_eq_zero_iff.1 hl1.symm
  subst this
  have : cs = [] := List.length_eq_zero_iff.1 hl2.symm
  subst this
  cases h0 with
  | w _ _ _ _ _ blk c hb hc hm hsz =>
  have hx : β key st = some x := hx
  rw [hb] at hx
  injection hx with hx
  subst hx
  obtain ⟨vs, ety, hvs, hsz12, hcells⟩ := hM
  generalize hN : es.length = n at *
  have hfl : es.flatten.length = n * 12 := by rw [flatten_length hsz12, hN]
  have hvs12 : n * 12 ≤ vs.size := by
    cases n with
    | zero => omega
    | succ n =>
      have hq : n * 12 + 11 < es.flatten.length := by omega
      obtain ⟨v, h5, _⟩ := hcells _ _ (List.getElem?_eq_getElem hq)
      have := (List.getElem?_eq_some_iff.1 h5).1
      simp only [Array.length_toList] at this
      omega
  have mk : ∀ i, i < n → ∃ x : El w ok β, x.1.1 = (vs.toList.drop (i * 12)).take 12 ∧ es[i]? = some x.1.2 := by
    intro i hi
    have he : es[i]? = some (es[i]'(by omega)) := List.getElem?_eq_getElem _
    have hmem := List.mem_of_getElem? he
    have ht := hcells.take (i * 12) 12 (by omega)
    have e2 := flatten_drop hsz12 he 0 12 (by rw [hsz12 _ hmem]; omega)
    rw [Nat.add_zero, List.drop_zero, List.take_of_length_le (l := es[i]'(by omega)) (by rw [hsz12 _ hmem]; omega)] at e2
    rw [e2] at ht
    have hl : ((vs.toList.drop (i * 12)).take 12).length = 12 := by simp; omega
    refine ⟨⟨((vs.toList.drop (i * 12)).take 12, es[i]'(by omega)), hl, ?_, ht, hes _ hmem⟩, rfl, he⟩
    intro v hv
    obtain ⟨j, hj, rfl⟩ := List.mem_iff_getElem.1 hv
    have hj12 : j < 12 := by have := hj; rw [hl] at this; exact this
    obtain ⟨v', h6, h7, _⟩ := ht j _ (List.getElem?_eq_getElem (show j < (es[i]'(by omega)).length by rw [hsz12 _ hmem]; omega))
    rw [List.getElem?_eq_getElem hj] at h6
    injection h6 with h6
    rw [h6]; exact h7
  obtain ⟨f, hf⟩ : ∃ f : Nat → El w ok β, ∀ i, i < n → (f i).1.1 = (vs.toList.drop (i * 12)).take 12 ∧ es[i]? = some (f i).1.2 :=
    ⟨fun i => if h : i < n then (mk i h).choose else default, fun i h => by simp only [h, dite_true]; exact (mk i h).choose_spec⟩
  obtain ⟨d, hds, hdi⟩ : ∃ d : Array (El w ok β), d.size = n ∧ ∀ i, i < n → d[i]! = f i := ⟨(Array.range n).map f, by simp, fun i h => by simp [h]⟩
  have hH : HoldsK encE 12 w blk 0 d := by
    intro t ht
    rw [size_flatK, hds] at ht
    rw [get_flatK _ _ _ _ (by rw [hds]; exact ht)]
    have h7 : t / 12 < n := by omega
    rw [hdi _ h7]
    unfold encE
    rw [(hf _ h7).1]
    have e3 : ((vs.toList.drop (t / 12 * 12)).take 12)[t % 12]! = vs[t]'(by omega) := by
      rw [getElem!_pos _ _ (by simp; omega), List.getElem_take, List.getElem_drop, Array.getElem_toList]
      congr 1
      omega
    rw [e3, Nat.zero_add]
    refine ⟨?_, ?_⟩
    · simp only [World.cell?, hvs, Option.isSome_none, Bool.false_eq_true, if_false]
      rw [Array.getElem?_eq_getElem]; rfl
    · simp only [World.frozen?, hvs]
      simp
  have hup : ∀ (W : World), (∀ x, ok x → W.heap[x]? = w.heap[x]?) → SizeKept β w W → ∀ (ok' : Nat → Prop), (∀ x, ok x → ok' x) → ∀ d v, VR w ok β d v → VR W ok' β d v :=
    fun W h1 h2 ok' h3 d v h => h.mono (fun x hx => ⟨h3 x hx, h1 x hx⟩) (.refl _) h2
  have kept : ∀ m (dk : Array (El w ok β)) os, SizeKept β w (sortWorldK encE 12 w blk 0 m dk os) := by
    intro m dk os k s x vs' e' hb' hv'
    by_cases hxb : x = blk
    · subst hxb
      exact ⟨_, sw_row encE 12 w x m dk os hv', putCells_size _ _ _⟩
    · exact ⟨vs', by rw [sw_other encE 12 w blk m dk os (hlow _ _ _ hb').2 hxb]; exact hv', rfl⟩
  have same : ∀ m (dk : Array (El w ok β)) os x, ok x → (sortWorldK encE 12 w blk 0 m dk os).heap[x]? = w.heap[x]? :=
    fun m dk os x hx => sw_other encE 12 w blk m dk os (hoks x hx) (fun e => hxok (e ▸ hx))
  have hcmp : CmpLays (α := El w ok β) Tryz.prog 134 #[] encE 12 cfE blk 0 d.size w := by
    intro m os dk hdk a b
    have hW := w134 a.1.2 b.1.2 a.2.2.2.2 b.2.2.2.2
    have := hW.2 (sortWorldK encE 12 w blk 0 m dk os) β F ok [.agg (encE a).toArray, .agg (encE b).toArray] rfl (fun j d v hj hv => ?_)
      (fun x hx => Nat.lt_of_lt_of_le (hoks x hx) (sw_size encE 12 w blk m dk os)) (fun k s x hb => ⟨(hlow k s x hb).1, Nat.lt_of_lt_of_le (hlow k s x hb).2 (sw_size encE 12 w blk m dk os)⟩) (by simp) (by simp)
    · refine this.mono fun e w' he => ?_
      obtain ⟨v, rfl, g1, g2, g3, g4, g5, g6, g7, g8⟩ := he
      cases g8
      exact ⟨rfl, grown_of g1 g2.tape g2.drawn g3 g4 (fun x hx => g5 x hx (by simp))⟩
    · have hA : ∀ a : El w ok β, VR (sortWorldK encE 12 w blk 0 m dk os) ok β (.a a.1.2) (.agg (encE a).toArray) := by
        intro a
        refine .a _ _ (by rw [a.2.2.2.2.len]; exact a.2.1.symm) (fun j d v hj hv => ?_) a.2.2.1
        obtain ⟨v', q1, q2, q3⟩ := a.2.2.2.1 j d hj
        have hv : a.1.1[j]? = some v := hv
        rw [hv] at q1
        injection q1 with q1
        subst q1
        exact hup _ (same m dk os) (kept m dk os) ok (fun _ h => h) _ _ q3
      match j with
      | 0 => simp at hj hv; subst hj hv; exact hA a
      | 1 => simp at hj hv; subst hj hv; exact hA b
      | j + 2 => simp at hj
  have R : RowK encE 12 w blk 0 d := ⟨fun x => x.2.1, fun x => x.2.2.1, hH, hxlt⟩
  have hmain := AnyQ.pdqsortCmpFunc_all Tryz.pdqTm 12 isAggTm sizeTm encE cfE 134 #[] (swoE w ok β) blk 0 c d w enters134 hcmp R (n + 1) 0 d.size lim d w (by omega) rfl (SWK.start hH) (Nat.zero_le _) (Nat.le_refl _) (by omega) hlim (Or.inl rfl)
  obtain ⟨hperm, hsort⟩ := pdq_sorts (ltOf cfE) (swoE w ok β) d 0 d.size lim true true (Nat.zero_le _) (Nat.le_refl _) (Or.inl rfl)
  generalize pdq (ltOf cfE) d 0 d.size lim true true = d' at hmain hperm hsort
  have hperm' : (d'.toList.map (·.1.2)).Perm es := by
    have e1 : d.toList.map (·.1.2) = es := by
      apply List.ext_getElem?
      intro i
      rw [List.getElem?_map]
      by_cases hi : i < n
      · rw [(hf i hi).2, Array.getElem?_toList, Array.getElem?_eq_getElem (by omega), Option.map_some, ← getElem!_pos d i (by omega), hdi i hi]
      · rw [List.getElem?_eq_none (by rw [Array.length_toList]; omega), List.getElem?_eq_none (by omega)]; rfl
    rw [← e1]
    refine List.Perm.map _ ?_
    have := hperm.2.2
    rw [hds, show n = d'.size by rw [hperm.1, hds]] at this
    rw [Array.extract_size] at this
    rw [hperm.1, Array.extract_size] at this
    exact this
  have hds' : d'.size = n := by rw [hperm.1, hds]
  have hsorted : (d'.toList.map (·.1.2)).Pairwise (fun a b => ¬ cmpL (mO a) (mO b) < 0) := by
    rw [List.pairwise_map, List.pairwise_iff_getElem]
    intro i j hi hj hij
    rw [Array.length_toList] at hi hj
    have := hsort i j (Nat.zero_le _) hij (by omega)
    have := of_decide_eq_false this
    rw [getElem!_pos d' i hi, getElem!_pos d' j hj] at this
    simp only [Array.getElem_toList]
    exact this
  have heq : es' = d'.toList.map (·.1.2) := perm_unique _ _ (hp.trans hperm'.symm) hs hsorted
  rw [hds] at hmain
  refine Calls.mono (P := Tryz.prog) (R := fun e w' => e = .returned (.tuple #[]) ∧ SWK encE 12 w blk 0 d' w') ?_ ?_
  · have e0 : (0 : Nat) * 12 = 0 := rfl
    exact hmain
  · rintro e w' ⟨rfl, m, os, rfl⟩
    refine ⟨_, rfl, rfl, ⟨rfl, Nat.le_add_right _ _⟩, rfl, sw_size _ _ _ _ _ _ _, fun x hx hne => ?_, fun x vs' e' hx hv' => ?_, fun u hu x hb' => ?_, .t [] [] rfl (by simp)⟩
    · exact sw_other encE 12 w blk m d' os hx (fun e => hne _ (List.mem_singleton.2 rfl) (e ▸ hb))
    · by_cases hxb : x = blk
      · subst hxb
        exact ⟨_, sw_row encE 12 w x m d' os hv', putCells_size _ _ _⟩
      · exact ⟨vs', by rw [sw_other encE 12 w blk m d' os hx hxb]; exact hv', rfl⟩
    · rw [List.mem_singleton] at hu
      subst hu
      have hb' : β key st = some x := hb'
      rw [hb] at hb'
      injection hb' with hb'
      subst hb'
      refine ⟨_, _, sw_row encE 12 w blk m d' os hvs, fun e he => hsz12 e (hp.subset he), ?_⟩
      intro q dq hq
      have hlen' : es'.length = n := by rw [hp.length_eq, hN]
      have h12' : ∀ e ∈ es', e.length = 12 := fun e he => hsz12 e (hp.subset he)
      have hqlt : q < n * 12 := by have := (List.getElem?_eq_some_iff.1 hq).1; rw [flatten_length h12', hlen'] at this; exact this
      have hqi : q / 12 < n := by omega
      have e4 : q = q / 12 * 12 + q % 12 := by omega
      rw [e4, flatten_get _ _ h12' (by omega)] at hq
      have e5 : es'[q / 12]? = some (d'[q / 12]!).1.2 := by
        rw [heq, List.getElem?_map, Array.getElem?_toList, Array.getElem?_eq_getElem (by omega), Option.map_some, getElem!_pos d' _ (by omega)]
      rw [e5] at hq
      obtain ⟨v, q1, q2, q3⟩ := (d'[q / 12]!).2.2.2.1 _ dq hq
      refine ⟨v, ?_, q2, hup _ (same m d' os) (kept m d' os) _ (fun x hx => .inl hx) _ _ q3⟩
      rw [Array.getElem?_toList, putCells_get _ _ _ (by rw [size_flatK, hds']; exact hqlt) (by omega), get_flatK _ _ _ _ (by rw [hds']; exact hqlt)]
      have hl12 := (d'[q / 12]!).2.1
      have : (encE d'[q / 12]!)[q % 12]! = v := by
        unfold encE
        rw [getElem!_pos _ _ (by rw [hl12]; omega)]
        rw [List.getElem?_eq_getElem (by rw [hl12]; omega)] at q1
        injection q1
      rw [this]
end Go.Vm.G
namespace Go.Vm.G
open Go Go.Vm
open Nat renaming reduceBEq → sB, reduceLeDiff → sL, reduceAdd → sA
open Int renaming reduceEq → sE, reduceNe → sN
theorem w190 (x : Nat) (hx : x < 4294967296) : FnR Go.Proofs.Tryz.prog 190 [.i .u64 x] [] (.i .i64 (blen x : Nat)) := by
  refine fnr190 (by simp) rfl (by simp) List.nodup_nil fun F out hS => ?_
  unfold ir190
  have u8 : ∀ m : Nat, m < 256 → IntKind.wrap .u8 (m : Int) = (m : Int) := fun m hm => by rw [IntKind.wrap_u8']; omega
  have bl : ∀ m : Nat, m < 256 → blen m ≤ 8 := by
    intro m hm
    by_cases h : m = 0
    · rw [h]; decide
    · obtain ⟨g1, g2, g3⟩ := blen_spec h
      apply Classical.byContradiction
      intro hn
      have := Nat.pow_le_pow_right (show 0 < 2 by decide) (show 8 ≤ blen m - 1 by omega)
      omega
  have i64 : ∀ m : Nat, m ≤ 64 → IntKind.wrap .i64 (m : Int) = (m : Int) := fun m hm => IntWalk.i64_in _ (by omega)
  have ad : ∀ a b : Nat, a + b ≤ 64 → IntKind.wrap .i64 ((a : Int) + (b : Int)) = ((a + b : Nat) : Int) := fun a b h => by rw [← Int.natCast_add]; exact i64 _ h
  have c0 : decide (((x : Nat) : Int) ≥ 4294967296) = false := decide_eq_false (by omega)
  by_cases h1 : 65536 ≤ x
  · have c1 : decide (((x : Nat) : Int) ≥ 65536) = true := decide_eq_true (by omega)
    have s1 := shr_c .u64 .u64 x 16 16 rfl (by decide)
    have d1 : blen x = 16 + blen (x / 2 ^ 16) := blen_div (j := 16) (by omega)
    have hy : x / 2 ^ 16 < 65536 := by omega
    generalize x / 2 ^ 16 = y at *
    by_cases h2 : 256 ≤ y
    · have c2 : decide (((y : Nat) : Int) ≥ 256) = true := decide_eq_true (by omega)
      have s2 := shr_c .u64 .u64 y 8 8 rfl (by decide)
      have d2 : blen y = 8 + blen (y / 2 ^ 8) := blen_div (j := 8) (by omega)
      have hw : y / 2 ^ 8 < 256 := by omega
      generalize y / 2 ^ 8 = w at *
      have b1 := bl w hw
      have a1 : IntKind.wrap .i64 ((16 : Int) + 8) = ((24 : Nat) : Int) := by decide
      simp only [go_sem, sB, reduceCtorEq, sL, sA, sE, sN, c0, c1, s1, c2, s2, u8 w hw]
      rw [tab_len _ (by decide +kernel) hw]
      simp only [go_sem, sB, reduceCtorEq, sL, sA, sE, sN, i64 (blen w) (by omega), show IntKind.wrap .i64 ((0 : Int) + 16) = 16 from by decide, a1, ad 24 (blen w) (by omega), rv190, fin_t]
      rw [d1, d2, ← Nat.add_assoc]
      exact .refl _
    · have c2 : decide (((y : Nat) : Int) ≥ 256) = false := decide_eq_false (by omega)
      have b1 := bl y (by omega)
      have a2 : IntKind.wrap .i64 ((16 : Int) + (blen y : Int)) = ((16 + blen y : Nat) : Int) := ad 16 (blen y) (by omega)
      simp only [go_sem, sB, reduceCtorEq, sL, sA, sE, sN, c0, c1, s1, c2, u8 y (by omega)]
      rw [tab_len _ (by decide +kernel) (show y < 256 by omega)]
      simp only [go_sem, sB, reduceCtorEq, sL, sA, sE, sN, i64 (blen y) (by omega), show IntKind.wrap .i64 ((0 : Int) + 16) = 16 from by decide, a2, rv190, fin_t]
      rw [d1]
      exact .refl _
  · have c1 : decide (((x : Nat) : Int) ≥ 65536) = false := decide_eq_false (by omega)
    by_cases h2 : 256 ≤ x
    · have c2 : decide (((x : Nat) : Int) ≥ 256) = true := decide_eq_true (by omega)
      have s2 := shr_c .u64 .u64 x 8 8 rfl (by decide)
      have d2 : blen x = 8 + blen (x / 2 ^ 8) := blen_div (j := 8) (by omega)
      have hw : x / 2 ^ 8 < 256 := by omega
      generalize x / 2 ^ 8 = w at *
      have b1 := bl w hw
      have a1 : IntKind.wrap .i64 ((0 : Int) + 8) = ((8 : Nat) : Int) := by decide
      simp only [go_sem, sB, reduceCtorEq, sL, sA, sE, sN, c0, c1, c2, s2, u8 w hw]
      rw [tab_len _ (by decide +kernel) hw]
      simp only [go_sem, sB, reduceCtorEq, sL, sA, sE, sN, i64 (blen w) (by omega), a1, ad 8 (blen w) (by omega), rv190, fin_t]
      rw [d2]
      exact .refl _
    · have c2 : decide (((x : Nat) : Int) ≥ 256) = false := decide_eq_false (by omega)
      have b1 := bl x (by omega)
      have a2 : IntKind.wrap .i64 ((0 : Int) + (blen x : Int)) = ((blen x : Nat) : Int) := by rw [Int.zero_add]; exact i64 _ (by omega)
      simp only [go_sem, sB, reduceCtorEq, sL, sA, sE, sN, c0, c1, c2, u8 x (by omega)]
      rw [tab_len _ (by decide +kernel) (show x < 256 by omega)]
      simp only [go_sem, sB, reduceCtorEq, sL, sA, sE, sN, i64 (blen x) (by omega), a2, rv190, fin_t]
      exact .refl _
theorem w162 (x : Nat) (hx : x < 4294967296) : FnR Go.Proofs.Tryz.prog 162 [.i .u64 x] [] (.i .i64 (blen x : Nat)) := by
  refine fnr162 (by simp) rfl (by simp) List.nodup_nil fun F out hS => ?_
  unfold ir162
  simp only [go_sem, sB, reduceCtorEq, sL, sA, sE, sN]
  refine callO_intro (w190 x hx) ?_
  simp only [go_sem, sB, reduceCtorEq, sL, sA, sE, sN, rv162, fin_t]
  exact .refl _
theorem w133 {es es' : List (List D)} (hes : ∀ e ∈ es, okEl e) (hp : es'.Perm es) (hs : es'.Pairwise (fun a b => 0 < cmpL (mO a) (mO b))) (hnr : nrLL es' = true) (hn : es.length < 4294967296) (key : Key) (st : Nat) :
    FnR Go.Proofs.Tryz.prog 133 [.w key st 12 0 es.length, .f 134 [] []] [⟨key, st, .row 12 es, .row 12 es'⟩] (.t []) := by
  refine fnr133 (by simp) rfl (by simp [Obj.nr, hnr]) (by simp) fun F out hS => ?_
  have hF : key.1 ≠ F := by have := hS.low _ (List.mem_singleton.2 rfl); simp only at this; omega
  have ho := hS.old _ (List.mem_singleton.2 rfl)
  simp only at ho
  have e1 : IntKind.wrap .u64 ((es.length : Nat) : Int) = ((es.length : Nat) : Int) := by rw [IntKind.wrap_u64]; omega
  have hb := blen_le32 hn
  unfold ir133
  simp only [go_sem, sB, reduceCtorEq, sL, sA, sE, sN, e1]
  refine callO_intro (w162 _ hn) ?_
  simp only [go_sem, sB, reduceCtorEq, sL, sA, sE, sN]
  refine callRO_one (fn161 hes hp hs (by omega) key st (blen es.length) (by omega)) (by simp only [go_sem, sB, reduceCtorEq, sL, sA, sE, sN, look_out hF, ho]) (by simp) ?_
  simp only [go_sem, sB, reduceCtorEq, sL, sA, sE, sN, set_out hF, rv133, fin_n, outOf_one]
theorem callRO_none {P : Program} {fr : Nat} {f : FuncId} {args : List D} {dst : Option Nat} {st : St} {K : St → Prop} {d : D} (h : FnR P f args [] d) (hk : K (st.put dst d)) : @callRO P fr f args dst st ⟨K⟩ := ⟨[], d, h, by simp, List.nodup_nil, hk⟩
theorem w181_0 (f : Bool) : FnR Go.Proofs.Tryz.prog 181 [.sl 12 f [], .i .i64 0, .i .i64 0, .f 134 [] []] [] (.t []) := by
  refine fnr181 (by simp) rfl (by simp) List.nodup_nil fun F out hS => ?_
  unfold ir181
  have e1 : IntKind.wrap .i64 ((0 : Int) + 1) = 1 := by decide
  simp only [go_sem, sB, reduceCtorEq, sL, sA, sE, sN, e1]
  refine Loop.stepW ?_
  simp only [go_sem, sB, reduceCtorEq, sL, sA, sE, sN, wb181_1, show decide ((1 : Int) < 0) = false from rfl, rv181, fin_n]
  rfl
theorem w161_0 (f : Bool) : FnR Go.Proofs.Tryz.prog 161 [.sl 12 f [], .i .i64 0, .i .i64 0, .i .i64 0, .f 134 [] []] [] (.t []) := by
  refine fnr161 (by simp) rfl (by simp) List.nodup_nil fun F out hS => ?_
  unfold ir161
  have e1 : IntKind.wrap .i64 ((0 : Int) - 0) = 0 := by decide
  simp only [go_sem, sB, reduceCtorEq, sL, sA, sE, sN, e1]
  refine Loop.stepW ?_
  simp only [go_sem, sB, reduceCtorEq, sL, sA, sE, sN, wb161_0, e1, show decide ((0 : Int) ≤ 12) = true from rfl]
  refine callRO_none (w181_0 f) ?_
  simp only [go_sem, sB, reduceCtorEq, sL, sA, sE, sN, rv161, fin_nr]
  rfl
theorem w133_0 (f : Bool) : FnR Go.Proofs.Tryz.prog 133 [.sl 12 f [], .f 134 [] []] [] (.t []) := by
  refine fnr133 (by simp) rfl (by simp) List.nodup_nil fun F out hS => ?_
  unfold ir133
  have e1 : IntKind.wrap .u64 ((0 : Nat) : Int) = ((0 : Nat) : Int) := by decide
  simp only [go_sem, sB, reduceCtorEq, sL, sA, sE, sN, e1]
  refine callO_intro (w162 0 (by omega)) ?_
  simp only [go_sem, sB, reduceCtorEq, sL, sA, sE, sN]
  refine callRO_none (w161_0 f) ?_
  simp only [go_sem, sB, reduceCtorEq, sL, sA, sE, sN, rv133, fin_n]
  rfl
def eK (l : List Tm) : List (D × D) := l.map fun t => (.a (eM t.1), rW t.2)
def putM : List Tm → List Int → Rat → List Tm
  | [], m, c => [(m, c)]
  | t :: l, m, c => if m = t.1 then (m, c) :: l else t :: putM l m c
def getM : List Tm → List Int → Option Rat
  | [], _ => none
  | t :: l, m => if m = t.1 then some t.2 else getM l m
def addM (l : List Tm) (m : List Int) (c : Rat) : List Tm := putM l m (match getM l m with | some o => o + c | none => c)
theorem keyM {a b : List Int} (ha : a.length = 8) (hb : b.length = 8) : keyEq 8 (.a (eM a)) (.a (eM b)) = some (decide (a = b)) := by
  simp only [keyEq, len8 ha, len8 hb, and_self, if_true, intsEq_eM a b (by omega)]
theorem mfind_eK {m : List Int} (hm : m.length = 8) : ∀ (l : List Tm) (i : Nat), (∀ t ∈ l, t.1.length = 8) →
    (getM l m = none → mfind 8 (.a (eM m)) (eK l) i = some none) ∧ (∀ q, getM l m = some q → ∃ j, mfind 8 (.a (eM m)) (eK l) i = some (some (j, rW q)))
  | [], i, _ => by simp [getM, eK, mfind]
  | t :: l, i, hl => by
    have ih := mfind_eK hm l (i + 1) (fun u hu => hl u (by simp [hu]))
    have ht := hl t (by simp)
    simp only [getM]
    by_cases h : m = t.1
    · have e : mfind 8 (.a (eM m)) (eK (t :: l)) i = some (some (i, rW t.2)) := by
        simp only [eK, List.map_cons, mfind, keyM hm ht, decide_eq_true h]
      rw [if_pos h, e]
      refine ⟨by simp, fun q hq => ⟨i, ?_⟩⟩
      injection hq with hq
      rw [hq]
    · have e : mfind 8 (.a (eM m)) (eK (t :: l)) i = mfind 8 (.a (eM m)) (eK l) (i + 1) := by
        simp only [eK, List.map_cons, mfind, keyM hm ht, decide_eq_false h]
      rw [if_neg h, e]
      exact ih
theorem mput_eK {m : List Int} (hm : m.length = 8) (c : Rat) : ∀ (l : List Tm), (∀ t ∈ l, t.1.length = 8) → mput 8 (.a (eM m)) (rW c) (eK l) = some (eK (putM l m c))
  | [], _ => by simp [putM, eK, mput]
  | t :: l, hl => by
    have ih := mput_eK hm c l (fun u hu => hl u (by simp [hu]))
    have ht := hl t (by simp)
    by_cases h : m = t.1
    · simp only [eK, List.map_cons, mput, keyM hm ht, decide_eq_true h, putM, if_pos h]
    · simp only [eK, List.map_cons, mput, keyM hm ht, decide_eq_false h, putM, if_neg h] at ih ⊢
      rw [ih]
      rfl
theorem nrL_eK1 : ∀ (l : List Tm), nrL ((eK l).map (·.1)) = true ∧ nrL ((eK l).map (·.2)) = true
  | [] => ⟨rfl, rfl⟩
  | t :: l => by
    have := nrL_eK1 l
    simp only [eK, List.map_cons, nrL, D.nr, nrL_eM, nr_rW, Bool.true_and] at this ⊢
    exact this
theorem nr_map (l : List Tm) : Obj.nr (.map (eK l)) = true := by
  have := nrL_eK1 l
  simp only [Obj.nr, this.1, this.2, Bool.and_self]
theorem getM_lq {A : Nat} : ∀ {l : List Tm} {m : List Int} {q : Rat}, PB A l → getM l m = some q → LQ q ≤ A
  | [], _, _, _, h => by simp [getM] at h
  | t :: l, m, q, hp, h => by
    simp only [getM] at h
    split at h
    · injection h with h
      rw [← h]; exact hp.head.2
    · exact getM_lq hp.tail h
theorem w75 (l : List Tm) (c : Rat) (m : List Int) {A : Nat} (hl : PB A l) (hm : m.length = 8) (hc : LQ c ≤ A) (hA : A ≤ 549755813888) (key : Key) (z : Nat) :
    FnR Go.Proofs.Tryz.prog 75 [.m key z, rW c, .a (eM m)] [⟨key, z, .map (eK l), .map (eK (addM l m c))⟩] (.t []) := by
  refine fnr75 (by simp) rfl (by simp [nr_map]) (by simp) fun F out hS => ?_
  have hF : key.1 ≠ F := by have := hS.low _ (List.mem_singleton.2 rfl); simp only at this; omega
  have ho := hS.old _ (List.mem_singleton.2 rfl)
  simp only at ho
  have bm : ∀ z, boxC (some (z, .box (eM m))) z 0 8 = some (eM m) := fun z => by rw [boxC_s _ _ _ _ (by rw [len8 hm]; decide), List.drop_zero, take8 hm]
  have bc : ∀ z q, boxC (some (z, .box (rC q))) z 0 4 = some (rC q) := fun z q => by rw [boxC_s _ _ _ _ (by rw [rC_len]; decide), List.drop_zero, takeC]
  have hk : keyEq 8 (.a (eM m)) (.a (eM m)) = some true := by rw [keyM hm hm]; simp
  unfold ir75
  cases hg : getM l m with
  | none =>
    have h1 := (mfind_eK hm l 0 hl.len).1 hg
    have e : addM l m c = putM l m c := by simp only [addM, hg]
    rw [e]
    simp only [go_sem, sB, reduceCtorEq, sL, sA, sE, sN, rW_C, mg_m, look_out hF, ho, bm, bc, mgO_none hk h1 (vz := [.b false, .sl 1 true [], .b false, .sl 1 true []]) (agg := true) rfl]
    refine msO_intro (es := eK l) (es' := eK (putM l m c)) ?_ hk (mput_eK hm c l hl.len) ?_
    · rw [look_out hF]; exact ho
    · simp only [go_sem, sB, reduceCtorEq, sL, sA, sE, sN, set_out hF, rv75, fin_n, outOf_one]
  | some q =>
    obtain ⟨j, h1⟩ := (mfind_eK hm l 0 hl.len).2 q hg
    have hq := getM_lq hl hg
    have e : addM l m c = putM l m (q + c) := by simp only [addM, hg]
    rw [e]
    simp only [go_sem, sB, reduceCtorEq, sL, sA, sE, sN, rW_C, mg_m, look_out hF, ho, bm, bc, mgO_some hk h1, rC_len, takeC, dropC]
    refine callO_intro (q80 q c (by omega) (by omega)) ?_
    simp only [go_sem, sB, reduceCtorEq, sL, sA, sE, sN, rW_C, rC_len, takeC, dropC, bm, bc]
    refine msO_intro (es := eK l) (es' := eK (putM l m (q + c))) ?_ hk (mput_eK hm (q + c) l hl.len) ?_
    · rw [look_out hF]; exact ho
    · simp only [go_sem, sB, reduceCtorEq, sL, sA, sE, sN, set_out hF, rv75, fin_n, outOf_one]
def outS (l : List Tm) : List Nat → List Tm
  | [] => []
  | j :: s => (match l[j]? with | some t => if t.2 = 0 then [] else [t] | none => []) ++ outS l s
theorem outS_app (l : List Tm) : ∀ (s s' : List Nat), outS l (s ++ s') = outS l s ++ outS l s'
  | [], _ => rfl
  | j :: s, s' => by simp only [List.cons_append, outS, outS_app l s s', List.append_assoc]
theorem outS_len (l : List Tm) : ∀ (s : List Nat), (outS l s).length ≤ s.length
  | [] => by simp [outS]
  | j :: s => by
    have := outS_len l s
    simp only [outS, List.length_append, List.length_cons]
    have h : (match l[j]? with | some t => if t.2 = 0 then [] else [t] | none => []).length ≤ 1 := by
      split
      · split <;> simp
      · simp
    omega
theorem outS_range : ∀ (l : List Tm), outS l (List.range l.length) = l.filter (fun t => decide (t.2 ≠ 0)) := by
  have key : ∀ (l k : List Tm), outS (k ++ l) (List.range' k.length l.length) = l.filter (fun t => decide (t.2 ≠ 0)) := by
    intro l
    induction l with
    | nil => intro k; rfl
    | cons t l ih =>
      intro k
      have := ih (k ++ [t])
      rw [List.length_append, List.append_assoc] at this
      simp only [List.length_cons, List.length_nil, Nat.zero_add, List.singleton_append] at this
      rw [List.length_cons, List.range'_succ, outS, this]
      have e : (k ++ t :: l)[k.length]? = some t := by simp
      rw [e]
      by_cases h : t.2 = 0
      · simp [h]
      · simp [h]
  intro l
  have := key l []
  rw [List.range_eq_range']
  simpa using this
theorem outS_perm (l : List Tm) {s s' : List Nat} (h : s.Perm s') : (outS l s).Perm (outS l s') := by
  induction h with
  | nil => exact .refl _
  | cons j _ ih => simp only [outS]; exact ih.append_left _
  | swap i j s =>
    simp only [outS, ← List.append_assoc]
    exact List.perm_append_comm.append_right _
  | trans _ _ h1 h2 => exact h1.trans h2
theorem seen_perm {s : List Nat} {n : Nat} (hn : s.Nodup) (h1 : ∀ j ∈ s, j < n) (h2 : ∀ j, j < n → j ∈ s) : s.Perm (List.range n) := by
  refine (List.perm_ext_iff_of_nodup hn List.nodup_range).2 fun j => ?_
  rw [List.mem_range]
  exact ⟨h1 j, h2 j⟩
theorem nodup_len {s : List Nat} {n : Nat} (hn : s.Nodup) (h1 : ∀ j ∈ s, j < n) : s.length ≤ n := by
  have h : ((List.range n).filter (fun j => decide (j ∈ s))).Perm s := by
    refine (List.perm_ext_iff_of_nodup (List.nodup_range.filter _) hn).2 fun j => ?_
    simp only [List.mem_filter, List.mem_range, decide_eq_true_eq]
    exact ⟨fun h => h.2, fun h => ⟨h1 j h, h⟩⟩
  rw [← h.length_eq]
  have := List.length_filter_le (fun j => decide (j ∈ s)) (List.range n)
  rw [List.length_range] at this
  exact this
theorem eK_at {l : List Tm} {j : Nat} {kd vd : D} (h : (eK l)[j]? = some (kd, vd)) : ∃ t, l[j]? = some t ∧ kd = .a (eM t.1) ∧ vd = rW t.2 := by
  rw [eK, List.getElem?_map] at h
  cases ht : l[j]? with
  | none => rw [ht] at h; simp at h
  | some t => rw [ht] at h; simp at h; exact ⟨t, rfl, h.1.symm, h.2.symm⟩
theorem loop77 (l : List Tm) (hl : ∀ t ∈ l, t.1.length = 8) (hn : l.length ≤ 1000000000) (key : Key) (z : Nat) (F : Nat) (hF : key.1 ≠ F) (out : Sto) (ho : out key = some (z, .map (eK l))) (Q : Ex → St → Prop) (zi : Nat) :
    ∀ (k : Nat) (seen : List Nat) (d : D) (own : Nat → Option (Nat × Obj)) (nx : Nat), seen.length + k = l.length → seen.Nodup → (∀ j ∈ seen, j < l.length) → RowD F [22] own d 12 ((outS l seen).map eT) → own 8 = some (zi, .iter key z seen l.length) → OwnB own nx →
    (∀ r d own nx seen', seen'.Perm (List.range l.length) → r 3 = d → RowD F [22] own d 12 ((outS l seen').map eT) → OwnB own nx → Q (.exit 0) { r := r, own := own, out := out, nx := nx }) →
    Loop Go.Proofs.Tryz.prog F [3, 8] [8, 22] b77_0 { r := (upd (upd (fun _ => .u) 8 (.it (F, 8) zi)) 3 (d)), own := own, out := out, nx := nx } Q := by
  intro k
  have hlen : (eK l).length = l.length := by simp [eK]
  induction k with
  | zero =>
    intro seen d own nx hk hnd hs hR h8 hO h0
    refine Loop.stepW ?_
    simp only [go_sem, sB, reduceCtorEq, sL, sA, sE, sN, wb77_0]
    refine nxtO_intro (key := (F, 8)) (mk := key) (z := zi) (mz := z) (seen := seen) (es := eK l) rfl (by simp only [go_sem, sB, reduceCtorEq, sL, sA, sE, sN, h8]) (by rw [look_out hF]; exact ho) hlen (fun j kd vd hj hns => ?_) (fun hall => ?_)
    · exfalso
      obtain ⟨t, ht, _, _⟩ := eK_at hj
      have hjl := (List.getElem?_eq_some_iff.1 ht).1
      have : (j :: seen).Nodup := List.nodup_cons.2 ⟨hns, hnd⟩
      have h5 := nodup_len this (n := l.length) (fun x hx => by
        rcases List.mem_cons.1 hx with rfl | hx
        · exact hjl
        · exact hs x hx)
      rw [List.length_cons] at h5
      omega
    · simp only [go_sem, sB, reduceCtorEq, sL, sA, sE, sN]
      refine h0 _ d _ _ seen (seen_perm hnd hs hall) rfl (hR.on (by simp [upd])) ?_
      repeat' first | exact hO | exact OwnB.none _ | refine OwnB.updn ?_ (by first | omega | (dsimp only; omega)) | refine OwnB.updv (own := own) ?_ (hO.mono (by first | omega | (dsimp only; omega)))
  | succ k ih =>
    intro seen d own nx hk hnd hs hR h8 hO h0
    refine Loop.stepW ?_
    have z8' := hO _ _ _ h8
    simp only [go_sem, sB, reduceCtorEq, sL, sA, sE, sN, wb77_0]
    refine nxtO_intro (key := (F, 8)) (mk := key) (z := zi) (mz := z) (seen := seen) (es := eK l) rfl (by simp only [go_sem, sB, reduceCtorEq, sL, sA, sE, sN, h8]) (by rw [look_out hF]; exact ho) hlen (fun j kd vd hj hns => ?_) (fun hall => ?_)
    · obtain ⟨t, ht, rfl, rfl⟩ := eK_at hj
      have hjl := (List.getElem?_eq_some_iff.1 ht).1
      have hT := hl t (List.mem_of_getElem? ht)
      have hnd' : (seen ++ [j]).Nodup := by
        rw [List.nodup_append]
        refine ⟨hnd, by simp, ?_⟩
        intro a ha b hb
        rw [List.mem_singleton] at hb
        subst hb
        rintro rfl
        exact hns ha
      have hs' : ∀ x ∈ seen ++ [j], x < l.length := by
        intro x hx
        rcases List.mem_append.1 hx with hx | hx
        · exact hs x hx
        · rw [List.mem_singleton] at hx; rw [hx]; exact hjl
      have bm : ∀ z, boxC (some (z, .box (eM t.1))) z 0 8 = some (eM t.1) := fun z => by rw [boxC_s _ _ _ _ (by rw [len8 hT]; decide), List.drop_zero, take8 hT]
      have bc : ∀ z, boxC (some (z, .box (rC t.2))) z 0 4 = some (rC t.2) := fun z => by rw [boxC_s _ _ _ _ (by rw [rC_len]; decide), List.drop_zero, takeC]
      have hE := fun (L : Sto) (h1 : L (F, 8) = some (zi, .iter key z (seen ++ [j]) l.length)) (h2 : L key = some (z, .map (eK l))) => entryD_at (L := L) h1 h2 hlen hj
      have hoS : outS l (seen ++ [j]) = outS l seen ++ (if t.2 = 0 then [] else [t]) := by
        rw [outS_app]
        simp only [outS, ht, List.append_nil]
      have hlo : (outS l seen).length ≤ 1000000000 := by have := outS_len l seen; omega
      simp only [go_sem, sB, reduceCtorEq, sL, sA, sE, sN]
      rw [hE _ (by simp only [go_sem, sB, reduceCtorEq, sL, sA, sE, sN]) (by rw [look_out hF]; exact ho)]
      simp only [go_sem, sB, reduceCtorEq, sL, sA, sE, sN, rW_C, rC_len, len8 hT, bm, bc]
      refine callO_intro (q68 t.2) ?_
      by_cases g3 : t.2 = 0
      · have g4 : (t.2.num.sign != 0) = false := by rw [bne, sgn0 g3]; rfl
        rw [if_pos g3, List.append_nil] at hoS
        simp only [go_sem, sB, reduceCtorEq, sL, sA, sE, sN, g4]
        refine ih (seen ++ [j]) _ _ _ (by simp; omega) hnd' hs' ?_ ?_ ?_ h0
        · rw [hoS]; exact hR.on (by simp [upd])
        · rfl
        · repeat' first | exact hO | exact OwnB.none _ | refine OwnB.updn ?_ (by first | omega | (dsimp only; omega)) | refine OwnB.updv (own := own) ?_ (hO.mono (by first | omega | (dsimp only; omega)))
      · have g4 : (t.2.num.sign != 0) = true := by rw [bne, sgn1 g3]; rfl
        rw [if_neg g3] at hoS
        simp only [go_sem, sB, reduceCtorEq, sL, sA, sE, sN, g4, bm, bc, len8 hT, rC_len, z8, fillT2 _ _ hT, eT_mk, eT_len hT]
        refine appO_R (S := [22]) (es := (outS l seen).map eT) (hR.on (by simp [upd])) ?_ (by simp) (by simp; omega) (by simp; omega) (fun own' hb hoth hs2 => ?_)
        · dsimp only
          repeat' first | exact hO | exact OwnB.none _ | refine OwnB.updn ?_ (by first | omega | (dsimp only; omega)) | refine OwnB.updv (own := own) ?_ (hO.mono (by first | omega | (dsimp only; omega)))
        · have h8' := hoth 8 (by decide) (by decide)
          simp only [go_sem, sB, reduceCtorEq, sL, sA, sE, sN, map_app1] at h8' ⊢
          refine ih (seen ++ [j]) _ _ _ (by simp; omega) hnd' hs' ?_ ?_ ?_ h0
          · rw [hoS, ← map_app1]; exact .at (by simp) hs2 (by simp)
          · exact h8'
          · repeat' first | exact hb | exact OwnB.none _ | refine OwnB.updv (own := own') ?_ (hb.mono (by first | omega | (dsimp only; omega)))
    · exfalso
      have h5 := (seen_perm hnd hs hall).length_eq
      rw [List.length_range] at h5
      omega
theorem pw_map {r : List Tm} (h : r.Pairwise (fun a b => 0 < cmpL a.1 b.1)) : (r.map eT).Pairwise (fun a b => 0 < cmpL (mO a) (mO b)) := by
  rw [List.pairwise_map]
  simpa only [mO_eT] using h
theorem w77 (l r : List Tm) {A : Nat} (hl : PB A l) (hn : l.length ≤ 1000000000) (hr : r.Perm (l.filter (fun t => decide (t.2 ≠ 0)))) (hs : r.Pairwise (fun a b => 0 < cmpL a.1 b.1)) (key : Key) (z : Nat) :
    FnR Go.Proofs.Tryz.prog 77 [.m key z] [⟨key, z, .map (eK l), .map (eK l)⟩] (eP false r) := by
  refine fnr77 (by simp) (nr_eP _ _) (by simp [nr_map]) (by simp) fun F out hS => ?_
  have hF : key.1 ≠ F := by have := hS.low _ (List.mem_singleton.2 rfl); simp only at this; omega
  have ho := hS.old _ (List.mem_singleton.2 rfl)
  simp only at ho
  have hlen : (eK l).length = l.length := by simp [eK]
  have hu : ∀ (st : St), Fin F [⟨key, z, .map (eK l), .map (eK l)⟩] out rv77 (eP false r) .ret st = (Weak (eP false r) (st.r 2) ∧ st.out = updK out key (some (z, .map (eK l)))) := fun st => fin_tu
  have hupd : updK out key (some (z, .map (eK l))) = out := by
    funext k
    unfold updK
    split
    · rename_i h; rw [h, ho]
    · rfl
  unfold ir77
  simp only [go_sem, sB, reduceCtorEq, sL, sA, sE, sN]
  refine rgO_intro (es := eK l) (by rw [look_out hF]; exact ho) (by simp only [go_sem, sB, reduceCtorEq, sL, sA, sE, sN]) ?_
  simp only [go_sem, sB, reduceCtorEq, sL, sA, sE, sN, hlen]
  refine loop77 l hl.len hn key z F hF out ho _ _ l.length [] _ _ _ (by simp) List.nodup_nil (by simp) (.nil _ _ _ _) rfl ?_ (fun rg d own nx seen hp hd hR hO => ?_)
  · repeat' first | exact OwnB.none _ | refine OwnB.updn ?_ (by omega) | refine OwnB.upd0 ?_
  · have hperm : (r.map eT).Perm ((outS l seen).map eT) := by
      refine List.Perm.map _ (hr.trans ?_)
      rw [← outS_range]
      exact (outS_perm l hp).symm
    have hsm : (outS l seen).length ≤ 1000000000 := by have := outS_len l seen; have := hp.length_eq; rw [List.length_range] at this; omega
    have hmem : ∀ e ∈ (outS l seen).map eT, okEl e := by
      intro e he
      have he := hperm.symm.subset he
      obtain ⟨t, ht, rfl⟩ := List.mem_map.1 he
      have := hr.subset ht
      exact okEl_eT (hl.len t (List.mem_filter.1 this).1)
    have hR' := hR.on (own' := upd (fun _ => none) 22 (own 22)) (by simp [upd])
    rcases hR' with ⟨rfl, hnil⟩ | ⟨s, zr, hs1, rfl, hown⟩
    · have hr0 : r = [] := by
        have := hperm.length_eq
        rw [hnil] at this
        simpa using this
      subst hr0
      simp only [go_sem, sB, reduceCtorEq, sL, sA, sE, sN, hd]
      refine callRO_none (w133_0 true) ?_
      simp only [go_sem, sB, reduceCtorEq, sL, sA, sE, sN, hd, hu, hupd]
      exact weak_full _ _ _
    · rw [List.mem_singleton] at hs1
      subst hs1
      have hown' : own 22 = some (zr, .row 12 ((outS l seen).map eT)) := hown
      simp only [go_sem, sB, reduceCtorEq, sL, sA, sE, sN, hd]
      refine callRO_one (w133 hmem hperm (pw_map hs) (nrLL_eT r) (by rw [List.length_map]; omega) (F, 22) zr) (by simp only [go_sem, sB, reduceCtorEq, sL, sA, sE, sN, hown']) (by simp) ?_
      have hlr : ((outS l seen).map eT).length = (r.map eT).length := hperm.length_eq.symm
      simp only [go_sem, sB, reduceCtorEq, sL, sA, sE, sN, hd, hlr]
      rw [frzR_s _ _ _ _ _ _ _ _ (by omega)]
      simp only [go_sem, sB, reduceCtorEq, sL, sA, sE, sN, hu, hupd, List.take_length]
      exact .refl _
def mulIn (l : List Tm) (a : Tm) : List Tm → Option (List Tm)
  | [] => some l
  | b :: q => if (mMul a.1 b.1).all okE then mulIn (addM l (mMul a.1 b.1) (a.2 * b.2)) a q else none
def mulOut (l : List Tm) (q : List Tm) : List Tm → Option (List Tm)
  | [] => some l
  | a :: p => match mulIn l a q with
    | some l' => mulOut l' q p
    | none => none
theorem put_len (m : List Int) (c : Rat) : ∀ (l : List Tm), (putM l m c).length ≤ l.length + 1
  | [] => by simp [putM]
  | t :: l => by
    have := put_len m c l
    simp only [putM]
    split
    · simp
    · simp only [List.length_cons]; omega
theorem PB_put {A : Nat} {m : List Int} {c : Rat} (hm : m.length = 8) (hc : LQ c ≤ A) : ∀ {l : List Tm}, PB A l → PB A (putM l m c)
  | [], h => .cons hm hc h
  | t :: l, h => by
    simp only [putM]
    split
    · exact .cons hm hc h.tail
    · exact .cons h.head.1 h.head.2 (PB_put hm hc h.tail)
theorem PB_addM {A B : Nat} {m : List Int} {c : Rat} (hm : m.length = 8) (hc : LQ c ≤ B) {l : List Tm} (h : PB A l) : PB (A + B + 1) (addM l m c) := by
  unfold addM
  refine PB_put hm ?_ (h.mono (by omega))
  cases hg : getM l m with
  | none => simp only; omega
  | some o =>
    have := getM_lq h hg
    have := LQ_add o c
    simp only
    omega
theorem addM_len (l : List Tm) (m : List Int) (c : Rat) : (addM l m c).length ≤ l.length + 1 := put_len _ _ _
theorem loop18a (a : Tm) (p q : List Tm) (f g : Bool) {A : Nat} (ha : a.1.length = 8) (ka : a.1.all okE = true) (hA : LQ a.2 ≤ A) (hq : PB A q) (kq : PM q) (hlq : q.length ≤ 1000000000) (ii : D) (nn : D) (F : Nat) (out : Sto) (Q : Ex → St → Prop) (zm za : Nat) :
    ∀ (rest : List Tm) (k : Nat) (l : List Tm) (B : Nat) (nx : Nat), q.drop k = rest → k + rest.length = q.length → PB B l → B + rest.length * (2 * A + 1) ≤ 549755813888 → A ≤ 549755813888 →
    (∀ l', mulIn l a rest = some l' → PB (B + rest.length * (2 * A + 1)) l' → l'.length ≤ l.length + rest.length → ∀ r nx, r 1 = eP g q → r 6 = .m (F, 13) zm → r 14 = eP f p → r 15 = nn → r 16 = ii → Q (.exit 2) { r := r, own := upd (upd (fun _ => none) 13 (some (zm, .map (eK l')))) 8 (some (za, .box (eT a))), out := out, nx := nx }) →
    (mulIn l a rest = none → ∀ own nx, Q .ret { r := (upd (upd (fun _ => .u) 5 (.i .i64 2)) 4 (.sl 12 true [])), own := own, out := out, nx := nx }) →
    Loop Go.Proofs.Tryz.prog F [1, 6, 8, 14, 15, 16, 20, 21, 22] [8, 13] b18_0 { r := (upd (upd (upd (upd (upd (upd (upd (upd (upd (fun _ => .u) 22 (.i .i64 k)) 21 (.i .i64 q.length)) 20 (eP g q)) 16 (ii)) 15 (nn)) 14 (eP f p)) 8 (.p (F, 8) za 0)) 6 (.m (F, 13) zm)) 1 (eP g q)), own := upd (upd (fun _ => none) 13 (some (zm, .map (eK l)))) 8 (some (za, .box (eT a))), out := out, nx := nx } Q := by
  intro rest
  have bt : ∀ {t : Tm}, t.1.length = 8 → ∀ z, boxC (some (z, .box (eT t))) z 4 8 = some (eM t.1) := fun h z => by rw [boxC_s _ _ _ _ (by rw [eT_len h]; decide), dropT, take8 h]
  have bt' : ∀ {t : Tm}, t.1.length = 8 → ∀ z, boxC (some (z, .box (eT t))) z 0 4 = some (rC t.2) := fun h z => by rw [boxC_s _ _ _ _ (by rw [eT_len h]; decide), List.drop_zero, takeT4]
  induction rest with
  | nil =>
    intro k l B nx hd hk hl hB hA2 h0 h1
    refine Loop.stepW ?_
    have ek : k = q.length := by simpa using hk
    subst ek
    have c1 : decide (((q.length : Nat) : Int) < ((q.length : Nat) : Int)) = false := by simp
    simp only [go_sem, sB, reduceCtorEq, sL, sA, sE, sN, wb18_0, c1]
    exact h0 l rfl (hl.mono (by omega)) (by simp) _ _ rfl rfl rfl rfl rfl
  | cons b rest ih =>
    intro k l B nx hd hk hl hB hA2 h0 h1
    refine Loop.stepW ?_
    simp only [List.length_cons] at hk hB h0
    have hb : q[k]? = some b := by
      have := List.getElem?_drop (xs := q) (i := k) (j := 0)
      rw [hd] at this
      simpa using this.symm
    have e1 : IntKind.wrap .i64 (((k : Nat) : Int) + 1) = ((k + 1 : Nat) : Int) := by rw [IntWalk.i64_in _ (by omega)]; omega
    have c1 : decide (((k : Nat) : Int) < ((q.length : Nat) : Int)) = true := decide_eq_true (by omega)
    have hT := hq.get hb
    have hxq := ixsO_sl 12 g _ .i64 k _ (eP_at hb)
    have hl8 := mMul_len ha hT.1
    have hmulB : (rest.length + 1) * (2 * A + 1) = rest.length * (2 * A + 1) + (2 * A + 1) := by rw [Nat.add_mul, Nat.one_mul]
    simp only [mulIn] at h0 h1
    simp only [go_sem, sB, reduceCtorEq, sL, sA, sE, sN, wb18_0, eP, c1, hxq, takeT hT.1, eT_len hT.1, bt ha, bt hT.1]
    refine callO_intro (w74 _ _ ha hT.1 ka (kq.get hb)) ?_
    cases hf : (mMul a.1 b.1).all okE with
    | false =>
      rw [hf] at h0 h1
      simp only [go_sem, sB, reduceCtorEq, sL, sA, sE, sN, z8, len80, drop80, show ((2 : Int) != 0) = true from rfl]
      exact h1 rfl _ _
    | true =>
      rw [hf] at h0 h1
      simp only [if_true] at h0 h1
      have bn : ∀ z', boxC (some (z', .box (eM (mMul a.1 b.1)))) z' 0 8 = some (eM (mMul a.1 b.1)) := fun z' => by rw [boxC_s _ _ _ _ (by rw [len8 hl8]; decide), List.drop_zero, take8 hl8]
      simp only [go_sem, sB, reduceCtorEq, sL, sA, sE, sN, z8, len80, len8 hl8, drop80, show ((0 : Int) != 0) = false from rfl, bt' ha, bt' hT.1, bt ha, bt hT.1]
      refine callO_intro (q76 a.2 b.2 (by omega) (by have := hT.2; omega)) ?_
      have hq2 : LQ (a.2 * b.2) ≤ 2 * A := by have := LQ_mul a.2 b.2; have := hT.2; omega
      simp only [go_sem, sB, reduceCtorEq, sL, sA, sE, sN, bn]
      refine callRO_one (w75 l (a.2 * b.2) (mMul a.1 b.1) (A := max B (2 * A)) (hl.mono (Nat.le_max_left _ _)) hl8 (Nat.le_trans hq2 (Nat.le_max_right _ _)) (by omega) (F, 13) zm) (by simp only [go_sem, sB, reduceCtorEq, sL, sA, sE, sN]) (by simp) ?_
      simp only [go_sem, sB, reduceCtorEq, sL, sA, sE, sN, e1]
      refine ih (k + 1) (addM l (mMul a.1 b.1) (a.2 * b.2)) (B + 2 * A + 1) _ (by rw [drop_at hb] at hd; injection hd) (by omega) (PB_addM hl8 hq2 hl) (by omega) hA2 (fun l' e hl' hle r nx => h0 l' e (hl'.mono (by omega)) ?_ r nx) h1
      have := addM_len l (mMul a.1 b.1) (a.2 * b.2)
      omega
theorem loop18b (p q : List Tm) (f g : Bool) {A : Nat} (hp : PB A p) (kp : PM p) (hq : PB A q) (kq : PM q) (hlp : p.length ≤ 1000000000) (hlq : q.length ≤ 1000000000) (F : Nat) (out : Sto) (Q : Ex → St → Prop) (zm : Nat) :
    ∀ (rest : List Tm) (i : Nat) (l : List Tm) (B : Nat) (nx : Nat), p.drop i = rest → i + rest.length = p.length → PB B l → B + rest.length * (q.length * (2 * A + 1)) ≤ 549755813888 → A ≤ 549755813888 →
    (∀ l', mulOut l q rest = some l' → PB (B + rest.length * (q.length * (2 * A + 1))) l' → l'.length ≤ l.length + rest.length * q.length → ∀ r nx, r 6 = .m (F, 13) zm → Q (.exit 0) { r := r, own := upd (fun _ => none) 13 (some (zm, .map (eK l'))), out := out, nx := nx }) →
    (mulOut l q rest = none → ∀ own nx, Q .ret { r := (upd (upd (fun _ => .u) 5 (.i .i64 2)) 4 (.sl 12 true [])), own := own, out := out, nx := nx }) →
    Loop Go.Proofs.Tryz.prog F [1, 6, 14, 15, 16] [13] b18_1 { r := (upd (upd (upd (upd (upd (fun _ => .u) 16 (.i .i64 i)) 15 (.i .i64 p.length)) 14 (eP f p)) 6 (.m (F, 13) zm)) 1 (eP g q)), own := upd (fun _ => none) 13 (some (zm, .map (eK l))), out := out, nx := nx } Q := by
  intro rest
  induction rest with
  | nil =>
    intro i l B nx hd hi hl hB hA2 h0 h1
    refine Loop.stepW ?_
    have ei : i = p.length := by simpa using hi
    subst ei
    have c1 : decide (((p.length : Nat) : Int) < ((p.length : Nat) : Int)) = false := by simp
    simp only [go_sem, sB, reduceCtorEq, sL, sA, sE, sN, wb18_1, c1]
    exact h0 l rfl (hl.mono (by omega)) (by simp) _ _ rfl
  | cons a rest ih =>
    intro i l B nx hd hi hl hB hA2 h0 h1
    refine Loop.stepW ?_
    simp only [List.length_cons] at hi hB h0
    have hb : p[i]? = some a := by
      have := List.getElem?_drop (xs := p) (i := i) (j := 0)
      rw [hd] at this
      simpa using this.symm
    have e1 : IntKind.wrap .i64 (((i : Nat) : Int) + 1) = ((i + 1 : Nat) : Int) := by rw [IntWalk.i64_in _ (by omega)]; omega
    have c1 : decide (((i : Nat) : Int) < ((p.length : Nat) : Int)) = true := decide_eq_true (by omega)
    have hT := hp.get hb
    have hxp := ixsO_sl 12 f _ .i64 i _ (eP_at hb)
    have hm1 : (rest.length + 1) * (q.length * (2 * A + 1)) = rest.length * (q.length * (2 * A + 1)) + q.length * (2 * A + 1) := by rw [Nat.add_mul, Nat.one_mul]
    have hm2 : (rest.length + 1) * q.length = rest.length * q.length + q.length := by rw [Nat.add_mul, Nat.one_mul]
    simp only [mulOut] at h0 h1
    simp only [go_sem, sB, reduceCtorEq, sL, sA, sE, sN, wb18_1, eP, c1, hxp, takeT hT.1, eT_len hT.1, List.length_map]
    refine loop18a a p q f g hT.1 (kp.get hb) hT.2 hq kq hlq _ _ F out _ zm _ q 0 l B _ rfl (by omega) hl (by omega) hA2 (fun l' e hl' hle r nx r1 r6 r14 r15 r16 => ?_) (fun e own nx => ?_)
    · rw [e] at h0 h1
      simp only [go_sem, sB, reduceCtorEq, sL, sA, sE, sN, r1, r6, r14, r15, r16, e1]
      exact ih (i + 1) l' (B + q.length * (2 * A + 1)) _ (by rw [drop_at hb] at hd; injection hd) (by omega) hl' (by omega) hA2 (fun l'' e' hl'' hle' r nx => h0 l'' e' (hl''.mono (by omega)) (by omega) r nx) h1
    · rw [e] at h1
      simp only [go_sem, sB, reduceCtorEq, sL, sA, sE, sN]
      exact h1 rfl own nx
theorem w18 (p q : List Tm) (f g : Bool) {A : Nat} (hp : PB A p) (kp : PM p) (hq : PB A q) (kq : PM q) (hlp : p.length * q.length ≤ 1000000000) (hlp1 : p.length ≤ 1000000000) (hlq : q.length ≤ 1000000000) (hA : A ≤ 549755813888) (hB : p.length * (q.length * (2 * A + 1)) ≤ 549755813888)
    (l r : List Tm) (hl : mulOut [] q p = some l) (hr : r.Perm (l.filter (fun t => decide (t.2 ≠ 0)))) (hs : r.Pairwise (fun a b => 0 < cmpL a.1 b.1)) :
    FnR Go.Proofs.Tryz.prog 18 [eP f p, eP g q] [] (.t [eP false r, .i .i64 0]) := by
  refine fnr18 (by simp) (nr_t2 _ _ _) (by simp) List.nodup_nil fun F out hS => ?_
  unfold ir18
  simp only [go_sem, sB, reduceCtorEq, sL, sA, sE, sN, eP, eP_len]
  refine loop18b p q f g hp kp hq kq hlp1 hlq F out _ 1 p 0 [] 0 _ rfl (by omega) (.nil _) (by omega) hA (fun l' e hl' hle rg nx r6 => ?_) (fun e own nx => ?_)
  · rw [hl] at e
    injection e with e
    subst e
    simp only [go_sem, sB, reduceCtorEq, sL, sA, sE, sN, r6]
    refine callRO_one (w77 l r hl' (by simp at hle; omega) hr hs (F, 13) 1) (by simp only [go_sem, sB, reduceCtorEq, sL, sA, sE, sN]) (by simp) ?_
    simp only [go_sem, sB, reduceCtorEq, sL, sA, sE, sN, rv18, fin_t2]
    exact .refl _
  · rw [hl] at e
    simp at e
theorem LQ_small {q : Rat} (h1 : q.num.natAbs < 4294967296) (h2 : q.den < 4294967296) : LQ q ≤ 1 := by
  have a : LZ q.num ≤ 1 := L_le (by show _ < BB ^ 1; rw [Nat.pow_one]; exact h1)
  have b : L q.den ≤ 1 := L_le (by show _ < BB ^ 1; rw [Nat.pow_one]; exact h2)
  exact Nat.max_le.2 ⟨a, b⟩
def smallP (p : List Tm) : Bool := p.all fun t => decide (t.1.length = 8) && (decide (t.2.num.natAbs < 4294967296) && decide (t.2.den < 4294967296)) && t.1.all okE
theorem PB_small {p : List Tm} (h : smallP p = true) : PB 1 p := by
  refine ⟨fun t ht => ?_, fun t ht => ?_⟩
  · have := List.all_eq_true.1 h t ht
    simp only [Bool.and_eq_true, decide_eq_true_eq] at this
    exact this.1.1
  · have := List.all_eq_true.1 h t ht
    simp only [Bool.and_eq_true, decide_eq_true_eq] at this
    exact LQ_small this.1.2.1 this.1.2.2
theorem PM_small {p : List Tm} (h : smallP p = true) : PM p := by
  intro t ht
  have := List.all_eq_true.1 h t ht
  simp only [Bool.and_eq_true, decide_eq_true_eq] at this
  exact this.2
def s_a : List Tm := addP (xP 0) (cP 1)
def s_d : List Tm := difP (xP 0) (cP 1)
def s_q : List Tm := [([2, 0, 0, 0, 0, 0, 0, 0], 1), (m0, -1)]
def s_yy : List Tm := [([0, 2, 0, 0, 0, 0, 0, 0], 1)]
def s_l1 : List Tm := [([2, 0, 0, 0, 0, 0, 0, 0], 1), ([1, 0, 0, 0, 0, 0, 0, 0], 0), (m0, -1)]
def s_b : List Tm := addP (xP 0) s_yy
theorem san1 : mulOut [] s_d s_a = some s_l1 := by decide +kernel
theorem san2 : mulOut [] (xP 1) (xP 1) = some s_yy := by decide +kernel
theorem san3 : s_l1.filter (fun t => decide (t.2 ≠ 0)) = s_q := by decide +kernel
theorem san4 : s_yy.filter (fun t => decide (t.2 ≠ 0)) = s_yy := by decide +kernel
theorem san5 : subR (mulP (xP 0) (xP 0)).1 (cP 1) = s_q := by decide +kernel
theorem sm1 : smallP (xP 0) = true := by decide +kernel
theorem sm2 : smallP (xP 1) = true := by decide +kernel
theorem sm3 : smallP (cP 1) = true := by decide +kernel
theorem sm4 : smallP s_a = true := by decide +kernel
theorem sm5 : smallP s_d = true := by decide +kernel
theorem sm6 : smallP s_q = true := by decide +kernel
theorem sm7 : smallP s_b = true := by decide +kernel
theorem sm8 : smallP (mulP (xP 0) (xP 0)).1 = true := by decide +kernel
theorem sm9 : smallP s_yy = true := by decide +kernel
theorem san6 : s_b = [([1, 0, 0, 0, 0, 0, 0, 0], 1), ([0, 2, 0, 0, 0, 0, 0, 0], 1)] := by decide +kernel
theorem san7 : leadP [List.replicate 8 1] ([1, 0, 0, 0, 0, 0, 0, 0], 1) [([0, 2, 0, 0, 0, 0, 0, 0], 1)] = ([0, 2, 0, 0, 0, 0, 0, 0], 1) := by decide +kernel
theorem pw1 : s_q.Pairwise (fun a b => 0 < cmpL a.1 b.1) := by decide +kernel
theorem pw2 : s_yy.Pairwise (fun a b => 0 < cmpL a.1 b.1) := by decide +kernel
def rt (t : Tm) : RT := ⟨decide (t.2.num < 0), toW t.2.num.natAbs, false, toW t.2.den, t.1⟩
theorem eP_rt (f : Bool) (p : List Tm) : eP f p = .sl 12 f ((p.map rt).map tE) := by
  unfold eP
  rw [List.map_map]
  rfl
theorem top_toW {n : Nat} (h : n ≠ 0) : (toW n).getD ((toW n).length - 1) 0 ≠ 0 := by
  induction n using Nat.strongRecOn with
  | _ n ih =>
    rw [toW_pos h]
    by_cases h1 : n / BB = 0
    · rw [h1, toW_zero]
      have : n < BB := by
        rcases Nat.lt_or_ge n BB with h | h
        · exact h
        · have := Nat.div_pos h BB_pos; omega
      show n % BB ≠ 0
      rw [Nat.mod_eq_of_lt this]
      exact h
    · have hlt : n / BB < n := Nat.div_lt_self (Nat.pos_of_ne_zero h) (by decide)
      have := ih _ hlt h1
      have hl : (toW (n / BB)).length ≠ 0 := by rw [toW_pos h1]; simp
      generalize toW (n / BB) = l at *
      cases l with
      | nil => simp at hl
      | cons x l => simpa using this
theorem validI_toW (v : Bool) (n : Nat) (h : n = 0 → v = false) : validI v (toW n) = true := by
  unfold validI
  by_cases h0 : n = 0
  · rw [h0, toW_zero, h h0]; rfl
  · have : (toW n).length ≠ 0 := by rw [toW_pos h0]; simp
    rw [if_neg this]
    exact decide_eq_true (top_toW h0)
theorem validQ_rat (q : Rat) : validQ (decide (q.num < 0)) (toW q.num.natAbs) false (toW q.den) = true := by
  unfold validQ
  rw [validI_toW _ _ (fun h => decide_eq_false (by omega)), validI_toW _ _ (fun h => rfl), val_toW, val_toW]
  have h1 : (toW q.den).length ≠ 0 := by rw [toW_pos q.den_nz]; simp
  have h2 : Nat.gcd q.num.natAbs q.den = 1 := q.reduced
  simp [h1, h2]
theorem termOk_rt {t : Tm} (h0 : t.2 ≠ 0) (h1 : t.1.all okE = true) : termOk (rt t) = true := by
  unfold termOk
  have hn : t.2.num.natAbs ≠ 0 := by
    intro h
    exact h0 (Rat.num_eq_zero.1 (Int.natAbs_eq_zero.1 h))
  have hl : (toW t.2.num.natAbs).length ≠ 0 := by rw [toW_pos hn]; simp
  have e : (rt t).m.all okE = true := h1
  have e2 : validQ (rt t).nv (rt t).a (rt t).dv (rt t).b = true := validQ_rat t.2
  rw [e, e2, Bool.true_and, Bool.and_true]
  refine decide_eq_true ?_
  split
  · omega
  · rw [if_neg (show ¬ (rt t).a.length = 0 from hl)]; omega
theorem validP_rt : ∀ (p : List Tm) (u : Option Tm), (∀ t ∈ p, t.2 ≠ 0 ∧ t.1.all okE = true) → (u.toList ++ p).Pairwise (fun a b => 0 < cmpL a.1 b.1) → validP (u.map rt) (p.map rt) = true
  | [], u, _, _ => by cases u <;> rfl
  | t :: p, u, h, hs => by
    have ht := h t (by simp)
    have ih := validP_rt p (some t) (fun x hx => h x (by simp [hx])) (by
      cases u with
      | none => exact hs
      | some v => exact (List.pairwise_cons.1 hs).2)
    simp only [List.map_cons, validP, termOk_rt ht.1 ht.2, Bool.true_and]
    rw [show (some t).map rt = some (rt t) from rfl] at ih
    rw [ih, Bool.and_true]
    cases u with
    | none => rfl
    | some v => exact decide_eq_true ((List.pairwise_cons.1 hs).1 t (by simp))
theorem rt_ok {t : Tm} (h : t.1.length = 8) (hl : LQ t.2 ≤ 1099511627776) : (rt t).ok := by
  unfold LQ LZ L at hl
  exact ⟨Wd_toW _, Wd_toW _, by show (toW _).length ≤ _; omega, by show (toW _).length ≤ _; omega, h⟩
theorem w14c (p : List Tm) (f : Bool) {A : Nat} (hp : PB A p) (kp : PM p) (hA : A ≤ 1099511627776) (hl : p.length ≤ 1099511627776) (h0 : ∀ t ∈ p, t.2 ≠ 0) (hs : p.Pairwise (fun a b => 0 < cmpL a.1 b.1)) : FnR Go.Proofs.Tryz.prog 14 [eP f p] [] (.b true) := by
  have := w14 (p.map rt) f (fun t ht => by obtain ⟨u, hu, rfl⟩ := List.mem_map.1 ht; exact rt_ok (hp.len u hu) (by have := hp.lq u hu; omega)) (by simpa using hl)
  have e : validP none (p.map rt) = true := validP_rt p none (fun t ht => ⟨h0 t ht, kp t ht⟩) hs
  rw [← eP_rt, e] at this
  exact this
theorem w18_1 : FnR Go.Proofs.Tryz.prog 18 [eP false s_a, eP false s_d] [] (.t [eP false s_q, .i .i64 0]) :=
  w18 s_a s_d false false (A := 1) (PB_small sm4) (PM_small sm4) (PB_small sm5) (PM_small sm5) (by decide +kernel) (by decide +kernel) (by decide +kernel) (by decide) (by decide +kernel) s_l1 s_q san1 (by rw [san3]) pw1
theorem w18_2 : FnR Go.Proofs.Tryz.prog 18 [eP false (xP 1), eP false (xP 1)] [] (.t [eP false s_yy, .i .i64 0]) :=
  w18 (xP 1) (xP 1) false false (A := 1) (PB_small sm2) (PM_small sm2) (PB_small sm2) (PM_small sm2) (by decide +kernel) (by decide +kernel) (by decide +kernel) (by decide) (by decide +kernel) s_yy s_yy san2 (by rw [san4]) pw2
theorem w38_1 : FnR Go.Proofs.Tryz.prog 38 [eP false s_b, .sl 8 true [eM (List.replicate 8 1)]] [] (.t [.a (eT ([0, 2, 0, 0, 0, 0, 0, 0], 1)), .b true]) := by
  have h := sm7
  rw [san6] at h ⊢
  have := w38 [List.replicate 8 1] ([1, 0, 0, 0, 0, 0, 0, 0], 1) [([0, 2, 0, 0, 0, 0, 0, 0], 1)] true false (PB_small h) (PM_small h) (by
    intro w hw
    rw [List.mem_singleton] at hw
    subst hw
    exact ⟨rfl, by intro x hx; rw [List.eq_of_mem_replicate hx]; omega⟩) (by decide) (by decide)
  rw [san7] at this
  exact this
theorem san9 : FnR Go.Proofs.Tryz.prog 19 [eP false s_q, eP false (subR (mulP (xP 0) (xP 0)).1 (cP 1))] [] (.b true) := by
  have := w19 s_q s_q false false (A := 1) (PB_small sm6) (PB_small sm6) (by decide) (by decide)
  rw [san5]
  rw [decide_eq_true (rfl : s_q = s_q)] at this
  exact this
theorem eqx (p : List Tm) (h : smallP p = true) (hl : p.length ≤ 1000) : FnR Go.Proofs.Tryz.prog 19 [eP false p, eP false p] [] (.b true) := by
  have := w19 p p false false (A := 1) (PB_small h) (PB_small h) (by decide) (by omega)
  rw [decide_eq_true (rfl : p = p)] at this
  exact this
theorem w13 : FnR Go.Proofs.Tryz.prog 13 [] [] (.b true) := by
  refine fnr13 (by simp) rfl (by simp) List.nodup_nil fun F out hS => ?_
  have e1 : ((1 : Int) : Rat) = 1 := rfl
  unfold ir13
  simp only [go_sem, sB, reduceCtorEq, sL, sA, sE, sN]
  refine callO_intro (w25 0 (by omega)) ?_
  simp only [go_sem, sB, reduceCtorEq, sL, sA, sE, sN]
  refine callO_intro (w25 1 (by omega)) ?_
  simp only [go_sem, sB, reduceCtorEq, sL, sA, sE, sN]
  refine callO_intro (q23 1 (by omega) (by omega)) ?_
  rw [e1]
  simp only [go_sem, sB, reduceCtorEq, sL, sA, sE, sN]
  refine callO_intro (w22 1) ?_
  simp only [go_sem, sB, reduceCtorEq, sL, sA, sE, sN, show ((0 : Int) != 0) = false from rfl]
  refine callO_intro (w49 0 (by omega)) ?_
  simp only [go_sem, sB, reduceCtorEq, sL, sA, sE, sN]
  refine callO_intro (eqx (xP 0) sm1 (by decide)) ?_
  simp only [go_sem, sB, reduceCtorEq, sL, sA, sE, sN]
  refine callO_intro (w49 1 (by omega)) ?_
  simp only [go_sem, sB, reduceCtorEq, sL, sA, sE, sN]
  refine callO_intro (eqx (xP 1) sm2 (by decide)) ?_
  simp only [go_sem, sB, reduceCtorEq, sL, sA, sE, sN]
  refine callO_intro (w64 1 (by omega) (by omega)) ?_
  rw [e1]
  simp only [go_sem, sB, reduceCtorEq, sL, sA, sE, sN]
  refine callO_intro (eqx (cP 1) sm3 (by decide +kernel)) ?_
  simp only [go_sem, sB, reduceCtorEq, sL, sA, sE, sN]
  refine callO_intro (w20 (xP 0) (cP 1) false false (A := 1) (PB_small sm1) (PB_small sm3) (by decide) (by decide +kernel)) ?_
  simp only [go_sem, sB, reduceCtorEq, sL, sA, sE, sN]
  refine callO_intro (w21 (xP 0) (cP 1) false false (A := 1) (PB_small sm1) (PB_small sm3) (by decide) (by decide +kernel)) ?_
  simp only [go_sem, sB, reduceCtorEq, sL, sA, sE, sN]
  refine callO_intro w18_1 ?_
  simp only [go_sem, sB, reduceCtorEq, sL, sA, sE, sN]
  refine callO_intro (w17 false s_q) ?_
  simp only [go_sem, sB, reduceCtorEq, sL, sA, sE, sN]
  refine callO_intro w18_2 ?_
  simp only [go_sem, sB, reduceCtorEq, sL, sA, sE, sN]
  refine callO_intro (w17 false s_yy) ?_
  simp only [go_sem, sB, reduceCtorEq, sL, sA, sE, sN]
  refine callO_intro (w20 (xP 0) s_yy false false (A := 1) (PB_small sm1) (PB_small sm9) (by decide) (by decide +kernel)) ?_
  simp only [go_sem, sB, reduceCtorEq, sL, sA, sE, sN]
  refine callO_intro w65 ?_
  simp only [go_sem, sB, reduceCtorEq, sL, sA, sE, sN]
  refine callO_intro w38_1 ?_
  simp only [go_sem, sB, reduceCtorEq, sL, sA, sE, sN, eT_len (t := ([0, 2, 0, 0, 0, 0, 0, 0], 1)) rfl]
  refine callO_intro w66 ?_
  simp only [go_sem, sB, reduceCtorEq, sL, sA, sE, sN]
  refine callO_intro (w38_0 [] true true) ?_
  simp only [go_sem, sB, reduceCtorEq, sL, sA, sE, sN]
  refine callO_intro (w49 0 (by omega)) ?_
  simp only [go_sem, sB, reduceCtorEq, sL, sA, sE, sN]
  refine callO_intro (w49 0 (by omega)) ?_
  simp only [go_sem, sB, reduceCtorEq, sL, sA, sE, sN]
  refine callO_intro (w47 (xP 0) (xP 0) false false (A := 1) (PB_small sm1) (PB_small sm1) (PM_small sm1) (PM_small sm1) (by decide) (by decide)) ?_
  simp only [go_sem, sB, reduceCtorEq, sL, sA, sE, sN]
  refine callO_intro (w64 1 (by omega) (by omega)) ?_
  rw [e1]
  simp only [go_sem, sB, reduceCtorEq, sL, sA, sE, sN]
  refine callO_intro (w57 _ (cP 1) false false (A := 1) (PB_small sm8) (PB_small sm3) (PM_small sm3) (by decide) (by decide +kernel)) ?_
  simp only [go_sem, sB, reduceCtorEq, sL, sA, sE, sN]
  refine callO_intro san9 ?_
  simp only [go_sem, sB, reduceCtorEq, sL, sA, sE, sN]
  have hb : ∀ z, boxC (some (z, .box (eT ([0, 2, 0, 0, 0, 0, 0, 0], 1)))) z 4 8 = some [D.i .i64 0, .i .i64 2, .i .i64 0, .i .i64 0, .i .i64 0, .i .i64 0, .i .i64 0, .i .i64 0] := fun z => by
    rw [boxC_s _ _ _ _ (by rw [eT_len rfl]; decide)]; rfl
  have he : evEqa false 8 (.a [D.i .i64 0, .i .i64 2, .i .i64 0, .i .i64 0, .i .i64 0, .i .i64 0, .i .i64 0, .i .i64 0]) (.a [D.i .i64 0, .i .i64 2, .i .i64 0, .i .i64 0, .i .i64 0, .i .i64 0, .i .i64 0, .i .i64 0]) = some (.b true) := rfl
  simp only [go_sem, sB, reduceCtorEq, sL, sA, sE, sN, hb, he]
  refine callO_intro (w40 [] true (.nil 1) (by intro t ht; simp at ht) (by decide)) ?_
  simp only [go_sem, sB, reduceCtorEq, sL, sA, sE, sN, degP, show ((-1 : Int) == -1) = true from rfl]
  refine callO_intro (w14c s_q false (A := 1) (PB_small sm6) (PM_small sm6) (by decide) (by decide) (by decide +kernel) pw1) ?_
  simp only [go_sem, sB, reduceCtorEq, sL, sA, sE, sN, rv13, fin_t]
  exact .refl _
def ev (f : List Int → Rat) : List Tm → Rat
  | [] => 0
  | t :: p => t.2 * f t.1 + ev f p
def L8 (p : List Tm) : Prop := ∀ t ∈ p, t.1.length = 8
structure Can (p : List Tm) : Prop where
  len : ∀ t ∈ p, t.1.length = 8
  nz : ∀ t ∈ p, t.2 ≠ 0
  st : p.Pairwise (fun a b => 0 < cmpL a.1 b.1)
theorem Can.tail {t : Tm} {p : List Tm} (h : Can (t :: p)) : Can p := ⟨fun u hu => h.len u (by simp [hu]), fun u hu => h.nz u (by simp [hu]), (List.pairwise_cons.1 h.st).2⟩
theorem Can.nil : Can [] := ⟨by simp, by simp, List.Pairwise.nil⟩
theorem ev_perm (f : List Int → Rat) {p q : List Tm} (h : p.Perm q) : ev f p = ev f q := by
  induction h with
  | nil => rfl
  | cons t _ ih => simp only [ev, ih]
  | swap a b l => simp only [ev]; rw [← Rat.add_assoc, ← Rat.add_assoc, Rat.add_comm (b.2 * f b.1)]
  | trans _ _ h1 h2 => exact h1.trans h2
theorem ev_filter (f : List Int → Rat) : ∀ (p : List Tm), ev f (p.filter (fun t => decide (t.2 ≠ 0))) = ev f p
  | [] => rfl
  | t :: p => by
    rw [List.filter_cons]
    by_cases h : t.2 = 0
    · rw [if_neg (by simp [h]), ev_filter f p]
      simp [ev, h, Rat.zero_mul, Rat.zero_add]
    · rw [if_pos (by simp [h])]
      simp only [ev, ev_filter f p]
theorem ev_zero {f : List Int → Rat} : ∀ {p : List Tm}, (∀ t ∈ p, f t.1 = 0) → ev f p = 0
  | [], _ => rfl
  | t :: p, h => by
    have ih := ev_zero (f := f) (p := p) (fun u hu => h u (List.mem_cons_of_mem _ hu))
    simp only [ev, h t (by simp), ih, Rat.mul_zero, Rat.add_zero]
theorem ev_congr {f g : List Int → Rat} : ∀ {p : List Tm}, (∀ t ∈ p, f t.1 = g t.1) → ev f p = ev g p
  | [], _ => rfl
  | t :: p, h => by
    have ih := ev_congr (f := f) (g := g) (p := p) (fun u hu => h u (List.mem_cons_of_mem _ hu))
    simp only [ev, h t (by simp), ih]
theorem ev_addf (f g : List Int → Rat) : ∀ (p : List Tm), ev (fun m => f m + g m) p = ev f p + ev g p
  | [] => by simp [ev, Rat.add_zero]
  | t :: p => by
    simp only [ev, ev_addf f g p, Rat.mul_add]
    rw [Rat.add_assoc, Rat.add_assoc, ← Rat.add_assoc (t.2 * g t.1), Rat.add_comm (t.2 * g t.1) (ev f p), Rat.add_assoc]
theorem ev_mulf (c : Rat) (f : List Int → Rat) : ∀ (p : List Tm), ev (fun m => c * f m) p = c * ev f p
  | [] => by simp [ev, Rat.mul_zero]
  | t :: p => by
    simp only [ev, ev_mulf c f p, Rat.mul_add]
    rw [← Rat.mul_assoc, Rat.mul_comm t.2 c, Rat.mul_assoc]
theorem ev_swap (h : List Int → List Int → Rat) (q : List Tm) : ∀ (p : List Tm), ev (fun m => ev (fun n => h m n) q) p = ev (fun n => ev (fun m => h m n) p) q
  | [] => by rw [ev_zero (p := q) (fun t _ => rfl)]; rfl
  | t :: p => by
    simp only [ev]
    rw [ev_swap h q p, ← ev_mulf t.2, ← ev_addf]
def dlt (m : List Int) : List Int → Rat := fun n => if n = m then 1 else 0
theorem can_eq : ∀ {p q : List Tm}, Can p → Can q → (∀ f, ev f p = ev f q) → p = q
  | [], [], _, _, _ => rfl
  | [], u :: q, _, hq, h => by
    exfalso
    have h1 := h (dlt u.1)
    simp only [ev] at h1
    rw [ev_zero (p := q) (fun t ht => by
      have h2 := (List.pairwise_cons.1 hq.st).1 t ht
      unfold dlt
      rw [if_neg]
      intro e
      rw [e, cmpL_self] at h2
      omega)] at h1
    simp only [dlt, if_true, Rat.mul_one, Rat.add_zero] at h1
    exact hq.nz u (by simp) h1.symm
  | t :: p, [], hp, _, h => by
    exfalso
    have h1 := h (dlt t.1)
    simp only [ev] at h1
    rw [ev_zero (p := p) (fun u hu => by
      have h2 := (List.pairwise_cons.1 hp.st).1 u hu
      unfold dlt
      rw [if_neg]
      intro e
      rw [e, cmpL_self] at h2
      omega)] at h1
    simp only [dlt, if_true, Rat.mul_one, Rat.add_zero] at h1
    exact hp.nz t (by simp) h1
  | t :: p, u :: q, hp, hq, h => by
    have off : ∀ {v : Tm} {l : List Tm}, (∀ x ∈ l, 0 < cmpL v.1 x.1) → ev (dlt v.1) l = 0 := by
      intro v l hl
      refine ev_zero (fun x hx => ?_)
      have h2 := hl x hx
      unfold dlt
      rw [if_neg]
      intro e
      rw [e, cmpL_self] at h2
      omega
    have lt : t.1.length = 8 := hp.len t (by simp)
    have lu : u.1.length = 8 := hq.len u (by simp)
    have tp := (List.pairwise_cons.1 hp.st).1
    have uq := (List.pairwise_cons.1 hq.st).1
    have trans : ∀ {a b c : List Int}, a.length = 8 → b.length = 8 → c.length = 8 → 0 < cmpL a b → 0 < cmpL b c → 0 < cmpL a c := by
      intro a b c ha hb hc h1 h2
      rw [cmpL_anti b a] at h1
      rw [cmpL_anti c b] at h2
      have := cmpL_trans c b a (by omega) (by omega) (by omega) (by omega)
      rw [cmpL_anti c a]; omega
    have heads : t.1 = u.1 := by
      apply Classical.byContradiction
      intro hne
      have hne0 : cmpL t.1 u.1 ≠ 0 := fun e => hne (cmpL_eq _ _ (by omega) e)
      by_cases hgt : 0 < cmpL t.1 u.1
      · have h1 := h (dlt t.1)
        rw [off (v := t) (l := u :: q) (fun x hx => by
          rcases List.mem_cons.1 hx with rfl | hx
          · exact hgt
          · exact trans lt lu (hq.len x (by simp [hx])) hgt (uq x hx))] at h1
        simp only [ev] at h1
        rw [off tp] at h1
        simp only [dlt, if_true, Rat.mul_one, Rat.add_zero] at h1
        exact hp.nz t (by simp) h1
      · have hgt' : 0 < cmpL u.1 t.1 := by rw [cmpL_anti]; omega
        have h1 := h (dlt u.1)
        rw [off (v := u) (l := t :: p) (fun x hx => by
          rcases List.mem_cons.1 hx with rfl | hx
          · exact hgt'
          · exact trans lu lt (hp.len x (by simp [hx])) hgt' (tp x hx))] at h1
        simp only [ev] at h1
        rw [off uq] at h1
        simp only [dlt, if_true, Rat.mul_one, Rat.add_zero] at h1
        exact hq.nz u (by simp) h1.symm
    have hc : t.2 = u.2 := by
      have h1 := h (dlt t.1)
      simp only [ev] at h1
      rw [off tp] at h1
      rw [heads] at h1
      rw [off uq] at h1
      simpa only [dlt, if_true, Rat.mul_one, Rat.add_zero] using h1
    have htu : t = u := Prod.ext heads hc
    subst htu
    rw [can_eq hp.tail hq.tail (fun f => by
      have h1 := h f
      simp only [ev] at h1
      have := congrArg (fun x => -(t.2 * f t.1) + x) h1
      simp only [← Rat.add_assoc, Rat.neg_add_cancel, Rat.zero_add] at this
      exact this)]
theorem radd4 (a b c d : Rat) : a + b + (c + d) = a + c + (b + d) := by
  rw [Rat.add_assoc, Rat.add_assoc, ← Rat.add_assoc b c d, Rat.add_comm b c, Rat.add_assoc c b d]
theorem radd3 (a b c d : Rat) : a + b + c + d = a + c + (b + d) := by
  rw [Rat.add_assoc (a + b), radd4]
theorem ev_mrg (f : List Int → Rat) (k : Rat) (fb : Rat → Rat → Rat) (fo : Rat → Rat) (hb : ∀ x y, fb x y = x + k * y) (ho : ∀ y, fo y = k * y) : ∀ (n : Nat) (p q : List Tm), p.length + q.length ≤ n → L8 p → L8 q → ev f (mrg fb fo n p q) = ev f p + k * ev f q
  | 0, p, q, h, _, _ => by
    have e1 : p = [] := List.length_eq_zero_iff.1 (by omega)
    have e2 : q = [] := List.length_eq_zero_iff.1 (by omega)
    subst e1 e2
    simp [mrg, ev, Rat.mul_zero, Rat.add_zero]
  | n + 1, [], [], _, _, _ => by simp [mrg, ev, Rat.mul_zero, Rat.add_zero]
  | n + 1, [], b :: q, h, hp, hq => by
    have ih := ev_mrg f k fb fo hb ho n [] q (by simp at h ⊢; omega) hp (fun t ht => hq t (List.mem_cons_of_mem _ ht))
    simp only [mrg, ev, ih, ho, Rat.mul_add, Rat.mul_assoc, Rat.zero_add]
  | n + 1, a :: p, [], h, hp, hq => by
    have ih := ev_mrg f k fb fo hb ho n p [] (by simp at h ⊢; omega) (fun t ht => hp t (List.mem_cons_of_mem _ ht)) hq
    simp only [mrg, ev, ih, Rat.mul_zero, Rat.add_zero]
  | n + 1, a :: p, b :: q, h, hp, hq => by
    simp only [List.length_cons] at h
    have hp' : L8 p := fun t ht => hp t (List.mem_cons_of_mem _ ht)
    have hq' : L8 q := fun t ht => hq t (List.mem_cons_of_mem _ ht)
    have i1 := ev_mrg f k fb fo hb ho n p (b :: q) (by simp only [List.length_cons]; omega) hp' hq
    have i2 := ev_mrg f k fb fo hb ho n (a :: p) q (by simp only [List.length_cons]; omega) hp hq'
    have i3 := ev_mrg f k fb fo hb ho n p q (by omega) hp' hq'
    have la := hp a (by simp)
    have lb := hq b (by simp)
    simp only [mrg]
    split
    · simp only [ev] at i1 ⊢
      rw [i1, Rat.add_assoc]
    · split
      · simp only [ev] at i2 ⊢
        rw [i2, ho, Rat.mul_add, Rat.mul_assoc]
        rw [← Rat.add_assoc, ← Rat.add_assoc, Rat.add_comm (k * (b.2 * f b.1)), radd3, ← Rat.add_assoc]
      · rename_i h1 h2
        have hab : a.1 = b.1 := cmpL_eq _ _ (by omega) (by omega)
        split
        · rename_i h3
          rw [i3]
          simp only [ev]
          have h4 : a.2 * f a.1 + k * (b.2 * f b.1) = 0 := by
            rw [hb] at h3
            rw [← hab, ← Rat.mul_assoc, ← Rat.add_mul, h3, Rat.zero_mul]
          rw [Rat.mul_add, radd4, h4, Rat.zero_add]
        · simp only [ev]
          rw [i3, hb, Rat.add_mul, Rat.mul_add, hab, Rat.mul_assoc, radd4]
theorem ev_addP (f : List Int → Rat) {p q : List Tm} (hp : L8 p) (hq : L8 q) : ev f (addP p q) = ev f p + ev f q := by
  have := ev_mrg f 1 (· + ·) id (fun x y => by rw [Rat.one_mul]) (fun y => by rw [Rat.one_mul]; rfl) (p.length + q.length) p q (Nat.le_refl _) hp hq
  rw [Rat.one_mul] at this
  exact this
theorem ev_difP (f : List Int → Rat) {p q : List Tm} (hp : L8 p) (hq : L8 q) : ev f (difP p q) = ev f p - ev f q := by
  have := ev_mrg f (-1) (· - ·) (- ·) (fun x y => by rw [Rat.neg_mul, Rat.one_mul, Rat.sub_eq_add_neg]) (fun y => by rw [Rat.neg_mul, Rat.one_mul]) (p.length + q.length) p q (Nat.le_refl _) hp hq
  rw [Rat.neg_mul, Rat.one_mul, ← Rat.sub_eq_add_neg] at this
  exact this
theorem putM_ev (f : List Int → Rat) {m : List Int} : ∀ (l : List Tm) (c : Rat), (match getM l m with | some o => ev f (putM l m (o + c)) | none => ev f (putM l m c)) = ev f l + c * f m
  | [], c => by simp [getM, putM, ev, Rat.add_zero, Rat.zero_add]
  | t :: l, c => by
    have ih := putM_ev f (m := m) l c
    simp only [getM]
    by_cases h : m = t.1
    · rw [if_pos h]
      simp only [putM, if_pos h, ev]
      rw [← h, Rat.add_mul, Rat.add_assoc, Rat.add_assoc, Rat.add_comm (c * f m)]
    · rw [if_neg h]
      cases hg : getM l m with
      | none =>
        rw [hg] at ih
        simp only [putM, if_neg h, ev]
        simp only at ih
        rw [ih, Rat.add_assoc]
      | some o =>
        rw [hg] at ih
        simp only [putM, if_neg h, ev]
        simp only at ih
        rw [ih, Rat.add_assoc]
theorem ev_addM (f : List Int → Rat) (l : List Tm) (m : List Int) (c : Rat) : ev f (addM l m c) = ev f l + c * f m := by
  have := putM_ev f (m := m) l c
  unfold addM
  cases hg : getM l m with
  | none => rw [hg] at this; exact this
  | some o => rw [hg] at this; exact this
theorem ev_mulIn (f : List Int → Rat) (a : Tm) : ∀ (q l l' : List Tm), mulIn l a q = some l' → ev f l' = ev f l + a.2 * ev (fun n => f (mMul a.1 n)) q
  | [], l, l', h => by simp only [mulIn] at h; injection h with h; subst h; simp [ev, Rat.mul_zero, Rat.add_zero]
  | b :: q, l, l', h => by
    simp only [mulIn] at h
    split at h
    · rw [ev_mulIn f a q _ l' h, ev_addM]
      simp only [ev]
      rw [Rat.mul_add, Rat.mul_assoc, Rat.add_assoc]
    · simp at h
theorem ev_mulOut (f : List Int → Rat) (q : List Tm) : ∀ (p l l' : List Tm), mulOut l q p = some l' → ev f l' = ev f l + ev (fun m => ev (fun n => f (mMul m n)) q) p
  | [], l, l', h => by simp only [mulOut] at h; injection h with h; subst h; simp [ev, Rat.add_zero]
  | a :: p, l, l', h => by
    simp only [mulOut] at h
    cases hm : mulIn l a q with
    | none => rw [hm] at h; simp at h
    | some l1 =>
      rw [hm] at h
      rw [ev_mulOut f q p l1 l' h, ev_mulIn f a q l l1 hm]
      simp only [ev, Rat.add_assoc]
theorem gt_trans {a b c : List Int} (ha : a.length = 8) (hb : b.length = 8) (hc : c.length = 8) (h1 : 0 < cmpL a b) (h2 : 0 < cmpL b c) : 0 < cmpL a c := by
  rw [cmpL_anti b a] at h1
  rw [cmpL_anti c b] at h2
  have := cmpL_trans c b a (by omega) (by omega) (by omega) (by omega)
  rw [cmpL_anti c a]; omega
theorem mrg_can {fb : Rat → Rat → Rat} {fo : Rat → Rat} (ho : ∀ y, y ≠ 0 → fo y ≠ 0) : ∀ (n : Nat) (p q : List Tm), Can p → Can q → Can (mrg fb fo n p q)
  | 0, _, _, _, _ => Can.nil
  | n + 1, [], [], _, _ => Can.nil
  | n + 1, [], b :: q, hp, hq => by
    have ih := mrg_can (fb := fb) ho n [] q hp hq.tail
    have hg := (List.pairwise_cons.1 hq.st).1
    have key := mrg_all (P := fun t => 0 < cmpL b.1 t.1) (f := fb) (g := fo) (fun t h => h) (fun t u h _ => h) n [] q (by simp) hg
    simp only [mrg]
    exact ⟨fun t ht => (List.mem_cons.1 ht).elim (fun e => e ▸ hq.len b (by simp)) (ih.len t), fun t ht => (List.mem_cons.1 ht).elim (fun e => e ▸ ho _ (hq.nz b (by simp))) (ih.nz t), List.pairwise_cons.2 ⟨key, ih.st⟩⟩
  | n + 1, a :: p, [], hp, hq => by
    have ih := mrg_can (fb := fb) ho n p [] hp.tail hq
    have hg := (List.pairwise_cons.1 hp.st).1
    have key := mrg_all (P := fun t => 0 < cmpL a.1 t.1) (f := fb) (g := fo) (fun t h => h) (fun t u h _ => h) n p [] hg (by simp)
    simp only [mrg]
    exact ⟨fun t ht => (List.mem_cons.1 ht).elim (fun e => e ▸ hp.len a (by simp)) (ih.len t), fun t ht => (List.mem_cons.1 ht).elim (fun e => e ▸ hp.nz a (by simp)) (ih.nz t), List.pairwise_cons.2 ⟨key, ih.st⟩⟩
  | n + 1, a :: p, b :: q, hp, hq => by
    have i1 := mrg_can (fb := fb) ho n p (b :: q) hp.tail hq
    have i2 := mrg_can (fb := fb) ho n (a :: p) q hp hq.tail
    have i3 := mrg_can (fb := fb) ho n p q hp.tail hq.tail
    have ga := (List.pairwise_cons.1 hp.st).1
    have gb := (List.pairwise_cons.1 hq.st).1
    have la := hp.len a (by simp)
    have lb := hq.len b (by simp)
    have up : ∀ {m : List Int} {n : Nat} {p q : List Tm}, (∀ t ∈ p, 0 < cmpL m t.1) → (∀ t ∈ q, 0 < cmpL m t.1) → ∀ t ∈ mrg fb fo n p q, 0 < cmpL m t.1 :=
      fun h1 h2 => mrg_all (P := fun t => 0 < cmpL _ t.1) (fun t h => h) (fun t u h _ => h) _ _ _ h1 h2
    simp only [mrg]
    split
    · rename_i h1
      have key := up (m := a.1) (n := n) (p := p) (q := b :: q) ga (fun t ht => by
        rcases List.mem_cons.1 ht with rfl | ht
        · exact h1
        · exact gt_trans la lb (hq.len t (by simp [ht])) h1 (gb t ht))
      exact ⟨fun t ht => (List.mem_cons.1 ht).elim (fun e => e ▸ la) (i1.len t), fun t ht => (List.mem_cons.1 ht).elim (fun e => e ▸ hp.nz a (by simp)) (i1.nz t), List.pairwise_cons.2 ⟨key, i1.st⟩⟩
    · split
      · rename_i h1 h2
        have h3 : 0 < cmpL b.1 a.1 := by rw [cmpL_anti]; omega
        have key := up (m := b.1) (n := n) (p := a :: p) (q := q) (fun t ht => by
          rcases List.mem_cons.1 ht with rfl | ht
          · exact h3
          · exact gt_trans lb la (hp.len t (by simp [ht])) h3 (ga t ht)) gb
        exact ⟨fun t ht => (List.mem_cons.1 ht).elim (fun e => e ▸ lb) (i2.len t), fun t ht => (List.mem_cons.1 ht).elim (fun e => e ▸ ho _ (hq.nz b (by simp))) (i2.nz t), List.pairwise_cons.2 ⟨key, i2.st⟩⟩
      · rename_i h1 h2
        have hab : a.1 = b.1 := cmpL_eq _ _ (by omega) (by omega)
        split
        · exact i3
        · rename_i h3
          have key := up (m := a.1) (n := n) (p := p) (q := q) ga (fun t ht => hab ▸ gb t ht)
          exact ⟨fun t ht => (List.mem_cons.1 ht).elim (fun e => e ▸ la) (i3.len t), fun t ht => (List.mem_cons.1 ht).elim (fun e => e ▸ h3) (i3.nz t), List.pairwise_cons.2 ⟨key, i3.st⟩⟩
theorem can_add {p q : List Tm} (hp : Can p) (hq : Can q) : Can (addP p q) := mrg_can (fun y h => h) _ p q hp hq
theorem can_dif {p q : List Tm} (hp : Can p) (hq : Can q) : Can (difP p q) := mrg_can (fun y h => by intro h2; exact h (by have := congrArg (fun x => -x) h2; simpa using this)) _ p q hp hq
theorem sort_ins (t : Tm) (ht : t.1.length = 8) : ∀ (r : List Tm), L8 r → (∀ u ∈ r, u.1 ≠ t.1) → r.Pairwise (fun a b => 0 < cmpL a.1 b.1) → ∃ r' : List Tm, r'.Perm (t :: r) ∧ r'.Pairwise (fun a b => 0 < cmpL a.1 b.1)
  | [], _, _, _ => ⟨[t], .refl _, by simp⟩
  | u :: r, hr, hne, hs => by
    have lu := hr u (by simp)
    by_cases h : 0 < cmpL t.1 u.1
    · refine ⟨t :: u :: r, .refl _, List.pairwise_cons.2 ⟨fun x hx => ?_, hs⟩⟩
      rcases List.mem_cons.1 hx with rfl | hx
      · exact h
      · exact gt_trans ht lu (hr x (by simp [hx])) h ((List.pairwise_cons.1 hs).1 x hx)
    · obtain ⟨r', h1, h2⟩ := sort_ins t ht r (fun x hx => hr x (by simp [hx])) (fun x hx => hne x (by simp [hx])) (List.pairwise_cons.1 hs).2
      have hut : 0 < cmpL u.1 t.1 := by
        have h3 : cmpL t.1 u.1 ≠ 0 := fun e => hne u (by simp) (cmpL_eq _ _ (by omega) e).symm
        rw [cmpL_anti]; omega
      refine ⟨u :: r', (h1.cons u).trans (.swap _ _ _), List.pairwise_cons.2 ⟨fun x hx => ?_, h2⟩⟩
      rcases List.mem_cons.1 (h1.subset hx) with rfl | hx
      · exact hut
      · exact (List.pairwise_cons.1 hs).1 x hx
theorem sort_ex : ∀ (l : List Tm), L8 l → (l.map (·.1)).Nodup → ∃ r : List Tm, r.Perm l ∧ r.Pairwise (fun a b => 0 < cmpL a.1 b.1)
  | [], _, _ => ⟨[], .refl _, List.Pairwise.nil⟩
  | t :: l, hl, hn => by
    simp only [List.map_cons, List.nodup_cons] at hn
    obtain ⟨r, h1, h2⟩ := sort_ex l (fun x hx => hl x (by simp [hx])) hn.2
    obtain ⟨r', h3, h4⟩ := sort_ins t (hl t (by simp)) r (fun x hx => hl x (by simp [h1.subset hx])) (fun u hu e => hn.1 (by rw [← e]; exact List.mem_map.2 ⟨u, h1.subset hu, rfl⟩)) h2
    exact ⟨r', h3.trans (h1.cons t), h4⟩
theorem put_keys (m : List Int) (c : Rat) : ∀ (l : List Tm), (∀ t ∈ putM l m c, t.1 = m ∨ ∃ u ∈ l, u.1 = t.1) ∧ ((l.map (·.1)).Nodup → ((putM l m c).map (·.1)).Nodup)
  | [] => by simp [putM]
  | t :: l => by
    obtain ⟨h1, h2⟩ := put_keys m c l
    simp only [putM]
    by_cases h : m = t.1
    · rw [if_pos h]
      refine ⟨fun u hu => ?_, fun hn => ?_⟩
      · rcases List.mem_cons.1 hu with rfl | hu
        · exact .inl rfl
        · exact .inr ⟨u, by simp [hu], rfl⟩
      · rw [List.map_cons] at hn ⊢
        rw [h]; exact hn
    · rw [if_neg h]
      refine ⟨fun u hu => ?_, fun hn => ?_⟩
      · rcases List.mem_cons.1 hu with rfl | hu
        · exact .inr ⟨u, by simp, rfl⟩
        · rcases h1 u hu with e | ⟨v, hv, e⟩
          · exact .inl e
          · exact .inr ⟨v, by simp [hv], e⟩
      · rw [List.map_cons, List.nodup_cons] at hn ⊢
        refine ⟨fun hm => ?_, h2 hn.2⟩
        obtain ⟨u, hu, e⟩ := List.mem_map.1 hm
        rcases h1 u hu with e2 | ⟨v, hv, e2⟩
        · exact h (by rw [← e2, e])
        · exact hn.1 (List.mem_map.2 ⟨v, hv, by rw [e2, e]⟩)
structure Mid (M : List Int → Prop) (l : List Tm) : Prop where
  nd : (l.map (·.1)).Nodup
  all : ∀ t ∈ l, M t.1
theorem Mid.add {M : List Int → Prop} {l : List Tm} (h : Mid M l) {m : List Int} (hm : M m) (c : Rat) : Mid M (addM l m c) := by
  unfold addM
  obtain ⟨h1, h2⟩ := put_keys m (match getM l m with | some o => o + c | none => c) l
  refine ⟨h2 h.nd, fun t ht => ?_⟩
  rcases h1 t ht with e | ⟨u, hu, e⟩
  · rw [e]; exact hm
  · rw [← e]; exact h.all u hu
theorem mulIn_ex {M : List Int → Prop} (a : Tm) : ∀ (q l : List Tm), Mid M l → (∀ b ∈ q, (mMul a.1 b.1).all okE = true ∧ M (mMul a.1 b.1)) → ∃ l', mulIn l a q = some l' ∧ Mid M l'
  | [], l, h, _ => ⟨l, rfl, h⟩
  | b :: q, l, h, hq => by
    have hb := hq b (by simp)
    simp only [mulIn, hb.1, if_true]
    exact mulIn_ex a q _ (h.add hb.2 _) (fun x hx => hq x (by simp [hx]))
theorem mulOut_ex {M : List Int → Prop} (q : List Tm) : ∀ (p l : List Tm), Mid M l → (∀ a ∈ p, ∀ b ∈ q, (mMul a.1 b.1).all okE = true ∧ M (mMul a.1 b.1)) → ∃ l', mulOut l q p = some l' ∧ Mid M l'
  | [], l, h, _ => ⟨l, rfl, h⟩
  | a :: p, l, h, hp => by
    obtain ⟨l1, h1, h2⟩ := mulIn_ex a q l h (hp a (by simp))
    simp only [mulOut, h1]
    exact mulOut_ex q p l1 h2 (fun x hx => hp x (by simp [hx]))
theorem PB_mulIn {A : Nat} {a : Tm} (ha : a.1.length = 8) (hA : LQ a.2 ≤ A) : ∀ (q l l' : List Tm) (B : Nat), PB A q → PB B l → mulIn l a q = some l' → PB (B + q.length * (2 * A + 1)) l' ∧ l'.length ≤ l.length + q.length
  | [], l, l', B, _, hl, h => by
    simp only [mulIn] at h
    injection h with h
    subst h
    exact ⟨hl.mono (by omega), by simp⟩
  | b :: q, l, l', B, hq, hl, h => by
    simp only [mulIn] at h
    split at h
    · have hb := hq.head
      have h2 : LQ (a.2 * b.2) ≤ 2 * A := by have := LQ_mul a.2 b.2; omega
      obtain ⟨h3, h4⟩ := PB_mulIn ha hA q _ l' (B + 2 * A + 1) hq.tail (PB_addM (mMul_len ha hb.1) h2 hl) h
      have h5 := addM_len l (mMul a.1 b.1) (a.2 * b.2)
      have h6 : (q.length + 1) * (2 * A + 1) = q.length * (2 * A + 1) + (2 * A + 1) := by rw [Nat.add_mul, Nat.one_mul]
      rw [List.length_cons]
      exact ⟨h3.mono (by omega), by omega⟩
    · simp at h
theorem PB_mulOut {A : Nat} {q : List Tm} (hq : PB A q) : ∀ (p l l' : List Tm) (B : Nat), PB A p → PB B l → mulOut l q p = some l' → PB (B + p.length * (q.length * (2 * A + 1))) l' ∧ l'.length ≤ l.length + p.length * q.length
  | [], l, l', B, _, hl, h => by
    simp only [mulOut] at h
    injection h with h
    subst h
    exact ⟨hl.mono (by omega), by simp⟩
  | a :: p, l, l', B, hp, hl, h => by
    simp only [mulOut] at h
    cases hm : mulIn l a q with
    | none => rw [hm] at h; simp at h
    | some l1 =>
      rw [hm] at h
      have ha := hp.head
      obtain ⟨h1, h2⟩ := PB_mulIn ha.1 ha.2 q l l1 B hq hl hm
      obtain ⟨h3, h4⟩ := PB_mulOut hq p l1 l' _ hp.tail h1 h
      have h6 : (p.length + 1) * (q.length * (2 * A + 1)) = p.length * (q.length * (2 * A + 1)) + q.length * (2 * A + 1) := by rw [Nat.add_mul, Nat.one_mul]
      have h7 : (p.length + 1) * q.length = p.length * q.length + q.length := by rw [Nat.add_mul, Nat.one_mul]
      rw [List.length_cons]
      exact ⟨h3.mono (by omega), by omega⟩
structure Pl (e : Nat) (A n : Nat) (p : List Tm) : Prop where
  can : Can p
  ex : ∀ t ∈ p, ∀ x ∈ t.1, 0 ≤ x ∧ x ≤ (e : Int)
  lq : ∀ t ∈ p, LQ t.2 ≤ A
  ln : p.length ≤ n
theorem Pl.pb {e A n : Nat} {p : List Tm} (h : Pl e A n p) : PB A p := ⟨h.can.len, h.lq⟩
theorem Pl.l8 {e A n : Nat} {p : List Tm} (h : Pl e A n p) : L8 p := h.can.len
theorem Pl.pm {e A n : Nat} {p : List Tm} (h : Pl e A n p) (he : e ≤ 65535) : PM p := by
  intro t ht
  refine List.all_eq_true.2 fun x hx => ?_
  have := h.ex t ht x hx
  simp only [okE, decide_eq_true_eq]
  omega
theorem Pl.mono {e A n e' A' n' : Nat} {p : List Tm} (h : Pl e A n p) (h1 : e ≤ e') (h2 : A ≤ A') (h3 : n ≤ n') : Pl e' A' n' p :=
  ⟨h.can, fun t ht x hx => by have := h.ex t ht x hx; omega, fun t ht => Nat.le_trans (h.lq t ht) h2, Nat.le_trans h.ln h3⟩
theorem mMul_ex {a b : List Int} {e1 e2 : Nat} (ha : ∀ x ∈ a, 0 ≤ x ∧ x ≤ (e1 : Int)) (hb : ∀ x ∈ b, 0 ≤ x ∧ x ≤ (e2 : Int)) : ∀ x ∈ mMul a b, 0 ≤ x ∧ x ≤ ((e1 + e2 : Nat) : Int) := by
  unfold mMul
  induction a generalizing b with
  | nil => intro x hx; simp at hx
  | cons y a ih =>
    cases b with
    | nil => intro x hx; simp at hx
    | cons z b =>
      intro x hx
      rw [List.zipWith_cons_cons] at hx
      rcases List.mem_cons.1 hx with rfl | hx
      · have h1 := ha y (by simp)
        have h2 := hb z (by simp)
        omega
      · exact ih (fun w hw => ha w (by simp [hw])) (fun w hw => hb w (by simp [hw])) x hx
theorem Pl.add {e A1 A2 n1 n2 : Nat} {p q : List Tm} (hp : Pl e A1 n1 p) (hq : Pl e A2 n2 q) : Pl e (A1 + A2 + 1) (n1 + n2) (addP p q) :=
  ⟨can_add hp.can hq.can, mrg_all (P := fun t => ∀ x ∈ t.1, 0 ≤ x ∧ x ≤ (e : Int)) (fun t h => h) (fun t u h _ => h) _ p q hp.ex hq.ex, (PB_add hp.pb hq.pb).lq, by have := add_length p q; have := hp.ln; have := hq.ln; omega⟩
theorem dif_lq {A B : Nat} {p q : List Tm} (hp : PB A p) (hq : PB B q) : ∀ t ∈ difP p q, LQ t.2 ≤ A + B + 1 := by
  have hneg : ∀ x : Rat, LQ (-x) = LQ x := by
    intro x
    have e1 : (-x).num = -x.num := Rat.neg_num x
    have e2 : (-x).den = x.den := Rat.neg_den x
    unfold LQ LZ
    rw [e1, e2, Int.natAbs_neg]
  have key : ∀ n (p q : List Tm), PB A p → PB B q → ∀ t ∈ mrg (· - ·) (- ·) n p q, LQ t.2 ≤ A + B + 1 := by
    intro n
    induction n with
    | zero => intro p q _ _ t ht; simp [mrg] at ht
    | succ n ih =>
      intro p q hp hq t ht
      cases p with
      | nil =>
        cases q with
        | nil => simp [mrg] at ht
        | cons b q =>
          simp only [mrg, List.mem_cons] at ht
          rcases ht with rfl | ht
          · have := hq.head.2; simp only [hneg]; omega
          · exact ih [] q hp hq.tail t ht
      | cons a p =>
        cases q with
        | nil =>
          simp only [mrg, List.mem_cons] at ht
          rcases ht with rfl | ht
          · have := hp.head.2; omega
          · exact ih p [] hp.tail hq t ht
        | cons b q =>
          simp only [mrg] at ht
          have h1 := hp.head
          have h2 := hq.head
          have h3 := LQ_add a.2 (-b.2)
          rw [hneg, ← Rat.sub_eq_add_neg] at h3
          split at ht
          · rcases List.mem_cons.1 ht with rfl | ht
            · omega
            · exact ih p (b :: q) hp.tail hq t ht
          · split at ht
            · rcases List.mem_cons.1 ht with rfl | ht
              · simp only [hneg]; omega
              · exact ih (a :: p) q hp hq.tail t ht
            · split at ht
              · exact ih p q hp.tail hq.tail t ht
              · rcases List.mem_cons.1 ht with rfl | ht
                · simp only; omega
                · exact ih p q hp.tail hq.tail t ht
  exact key _ p q hp hq
theorem mul_ex {e1 e2 A n1 n2 : Nat} {p q : List Tm} (hp : Pl e1 A n1 p) (hq : Pl e2 A n2 q) (he : e1 + e2 ≤ 65535) (hn : n1 * n2 ≤ 1000000000) (h1 : n1 ≤ 1000000000) (h2 : n2 ≤ 1000000000) (hA : A ≤ 549755813888) (hB : n1 * (n2 * (2 * A + 1)) ≤ 549755813888) :
    ∃ r, Pl (e1 + e2) (n1 * (n2 * (2 * A + 1))) (n1 * n2) r ∧ (∀ f, ev f r = ev (fun m => ev (fun n => f (mMul m n)) q) p) ∧ ∀ f g, FnR Go.Proofs.Tryz.prog 18 [eP f p, eP g q] [] (.t [eP false r, .i .i64 0]) := by
  have hM : ∀ a ∈ p, ∀ b ∈ q, (mMul a.1 b.1).all okE = true ∧ ((mMul a.1 b.1).length = 8 ∧ ∀ x ∈ mMul a.1 b.1, 0 ≤ x ∧ x ≤ ((e1 + e2 : Nat) : Int)) := by
    intro a ha b hb
    have h3 := mMul_ex (hp.ex a ha) (hq.ex b hb)
    refine ⟨List.all_eq_true.2 fun x hx => ?_, mMul_len (hp.can.len a ha) (hq.can.len b hb), h3⟩
    have := h3 x hx
    simp only [okE, decide_eq_true_eq]
    omega
  obtain ⟨l, hl, hmid⟩ := mulOut_ex (M := fun m => m.length = 8 ∧ ∀ x ∈ m, 0 ≤ x ∧ x ≤ ((e1 + e2 : Nat) : Int)) q p [] ⟨by simp, by simp⟩ hM
  obtain ⟨hPB, hlen⟩ := PB_mulOut hq.pb p [] l 0 hp.pb (.nil 0) hl
  have hk1 : p.length * (q.length * (2 * A + 1)) ≤ n1 * (n2 * (2 * A + 1)) := Nat.mul_le_mul hp.ln (Nat.mul_le_mul_right _ hq.ln)
  have hk2 : p.length * q.length ≤ n1 * n2 := Nat.mul_le_mul hp.ln hq.ln
  have hfl : ∀ t ∈ l.filter (fun t => decide (t.2 ≠ 0)), t ∈ l := fun t ht => (List.mem_filter.1 ht).1
  have hnd : ((l.filter (fun t => decide (t.2 ≠ 0))).map (·.1)).Nodup := hmid.nd.sublist (List.Sublist.map _ List.filter_sublist)
  obtain ⟨r, hr1, hr2⟩ := sort_ex (l.filter (fun t => decide (t.2 ≠ 0))) (fun t ht => (hmid.all t (hfl t ht)).1) hnd
  have hmem : ∀ t ∈ r, t ∈ l ∧ t.2 ≠ 0 := fun t ht => by
    have := List.mem_filter.1 (hr1.subset ht)
    exact ⟨this.1, by simpa using this.2⟩
  refine ⟨r, ⟨⟨fun t ht => (hmid.all t (hmem t ht).1).1, fun t ht => (hmem t ht).2, hr2⟩, fun t ht => (hmid.all t (hmem t ht).1).2, fun t ht => ?_, ?_⟩, fun f => ?_, fun f g => ?_⟩
  · have := hPB.lq t (hmem t ht).1
    omega
  · have h3 := hr1.length_eq
    have h4 := List.length_filter_le (fun t : Tm => decide (t.2 ≠ 0)) l
    simp only [List.length_nil, Nat.zero_add] at hlen
    omega
  · rw [ev_perm f hr1, ev_filter, ev_mulOut f q p [] l hl]
    simp only [ev, Rat.zero_add]
  · exact w18 p q f g hp.pb (hp.pm (by omega)) hq.pb (hq.pm (by omega)) (by omega) (by have := hp.ln; omega) (by have := hq.ln; omega) hA (by omega) l r hl hr1 hr2
def e8 (r : List Int) : List D := r.map (.i .i8)
structure R5 (r : List Int) : Prop where
  len : r.length = 5
  bd : ∀ x ∈ r, -128 ≤ x ∧ x ≤ 127
theorem R5.get {r : List Int} (h : R5 r) (i : Nat) : -128 ≤ r.getD i 0 ∧ r.getD i 0 ≤ 127 := by
  rw [List.getD_eq_getElem?_getD]
  by_cases hi : i < r.length
  · rw [List.getElem?_eq_getElem hi]; exact h.bd _ (List.getElem_mem _)
  · rw [List.getElem?_eq_none (by omega)]; simp
theorem w97 (x : Int) (h1 : -128 ≤ x) (h2 : x ≤ 127) : FnR Go.Proofs.Tryz.prog 97 [.i .i8 x] [] (.i .i64 (x.natAbs : Int)) := by
  refine fnr97 (by simp) rfl (by simp) List.nodup_nil fun F out hS => ?_
  have e1 : IntKind.wrap .i64 x = x := IntWalk.i64_in _ (by omega)
  unfold ir97
  by_cases h : x < 0
  · have e2 : IntKind.wrap .i64 (0 - x) = (x.natAbs : Int) := by rw [IntWalk.i64_in _ (by omega)]; omega
    simp only [go_sem, sB, reduceCtorEq, sL, sA, sE, sN, decide_eq_true h, e1, e2, rv97, fin_t]
    exact .refl _
  · have e2 : x = (x.natAbs : Int) := by omega
    simp only [go_sem, sB, reduceCtorEq, sL, sA, sE, sN, decide_eq_false h, e1, rv97, fin_t]
    rw [← e2]
    exact .refl _
def mIt (r : List Int) (deg : Int) : Nat → List Int × Int
  | 0 => (m0, deg)
  | i + 1 => ((mIt r deg i).1.set i (Int.tmod ((r.getD (1 + i) 0).natAbs : Int) ((mIt r deg i).2 + 1)), (mIt r deg i).2 - Int.tmod ((r.getD (1 + i) 0).natAbs : Int) ((mIt r deg i).2 + 1))
theorem tmod_bd (a : Nat) (b : Int) (hb : 0 ≤ b) : 0 ≤ Int.tmod (a : Int) (b + 1) ∧ Int.tmod (a : Int) (b + 1) ≤ b := by
  have h1 := Int.tmod_nonneg (b + 1) (show (0 : Int) ≤ (a : Int) by omega)
  have h2 := Int.tmod_lt_of_pos (a : Int) (show 0 < b + 1 by omega)
  omega
theorem mIt_ok (r : List Int) (deg : Nat) : ∀ i, (mIt r deg i).1.length = 8 ∧ (∀ x ∈ (mIt r deg i).1, 0 ≤ x ∧ x ≤ (deg : Int)) ∧ 0 ≤ (mIt r deg i).2 ∧ (mIt r deg i).2 ≤ deg
  | 0 => ⟨rfl, by intro x hx; rw [show (mIt r deg 0).1 = m0 from rfl, m0] at hx; rw [List.eq_of_mem_replicate hx]; omega, by show (0 : Int) ≤ deg; omega, by show (deg : Int) ≤ deg; omega⟩
  | i + 1 => by
    obtain ⟨h1, h2, h3, h4⟩ := mIt_ok r deg i
    have h5 := tmod_bd (r.getD (1 + i) 0).natAbs _ h3
    refine ⟨by simp only [mIt, List.length_set, h1], fun x hx => ?_, by simp only [mIt]; omega, by simp only [mIt]; omega⟩
    simp only [mIt] at hx
    rcases List.mem_or_eq_of_mem_set hx with hx | rfl
    · exact h2 x hx
    · omega
theorem ixaO_q (len sz : Nat) (cs : List D) (n : Nat) (k' : IntKind) (h : n < len) : ixaO len sz (.q cs) (.i k' n) = some (.q (cs.drop (n * sz))) := by simp [ixaO, h]
theorem e8_at {r : List Int} {n : Nat} (h : n < r.length) : (e8 r).drop n = .i .i8 (r.getD n 0) :: (e8 r).drop (n + 1) := by
  have h' : n < (e8 r).length := by simpa [e8] using h
  rw [List.drop_eq_getElem_cons h']
  simp [e8, List.getD_eq_getElem?_getD, List.getElem?_eq_getElem h]
theorem loop33a (rows : List (List Int)) (f : Bool) (r : List Int) (k : Nat) (hk : rows[k]? = some r) (hr : R5 r) (hkk : k ≤ 1000000000) (n deg : Nat) (hn : n ≤ 4) (hd : deg ≤ 1000) (tm : D) (p9 : D) (F : Nat) (out : Sto) (Q : Ex → St → Prop) (z z' : Nat) :
    ∀ (c i : Nat) (nx : Nat), i + c = n →
    (∀ nx l, Q (.exit 2) { r := (upd (upd (upd (upd (upd (upd (upd (upd (upd (upd (fun _ => .u) 35 (.b false)) 13 (.i .i64 n)) 12 (.i .i64 l)) 11 (.p (F, 11) z' 0)) 10 (.i .i64 k)) 9 (p9)) 4 (.p (F, 4) z 0)) 3 (tm)) 2 (.i .i64 deg)) 1 (.i .i64 n)), own := upd (upd (fun _ => none) 11 (some (z', .box (eM (mIt r deg n).1)))) 4 (some (z, .box [.sl 5 f (rows.map e8)])), out := out, nx := nx }) →
    Loop Go.Proofs.Tryz.prog F [1, 2, 3, 4, 9, 10, 11, 12, 13] [4, 11] b33_0 { r := (upd (upd (upd (upd (upd (upd (upd (upd (upd (fun _ => .u) 13 (.i .i64 i)) 12 (.i .i64 (mIt r deg i).2)) 11 (.p (F, 11) z' 0)) 10 (.i .i64 k)) 9 (p9)) 4 (.p (F, 4) z 0)) 3 (tm)) 2 (.i .i64 deg)) 1 (.i .i64 n)), own := upd (upd (fun _ => none) 11 (some (z', .box (eM (mIt r deg i).1)))) 4 (some (z, .box [.sl 5 f (rows.map e8)])), out := out, nx := nx } Q := by
  intro c
  induction c with
  | zero =>
    intro i nx hi h0
    refine Loop.stepW ?_
    have ei : i = n := by omega
    subst ei
    have c1 : decide (((i : Nat) : Int) < ((i : Nat) : Int)) = false := by simp
    simp only [go_sem, sB, reduceCtorEq, sL, sA, sE, sN, wb33_0, c1]
    exact h0 _ _
  | succ c ih =>
    intro i nx hi h0
    refine Loop.stepW ?_
    have c1 : decide (((i : Nat) : Int) < ((n : Nat) : Int)) = true := decide_eq_true (by omega)
    have c2 : decide (((i : Nat) : Int) < 4) = true := decide_eq_true (by omega)
    have e1 : IntKind.wrap .i64 (((i : Nat) : Int) + 1) = ((i + 1 : Nat) : Int) := by rw [IntWalk.i64_in _ (by omega)]; omega
    have e1' : IntKind.wrap .i64 (1 + ((i : Nat) : Int)) = ((1 + i : Nat) : Int) := by rw [IntWalk.i64_in _ (by omega)]; omega
    obtain ⟨m1, m2, m3, m4⟩ := mIt_ok r deg i
    have hx : ixsO 5 (.sl 5 f (rows.map e8)) (.i .i64 k) = some (.q (e8 r)) := ixsO_sl 5 f _ .i64 k _ (by rw [List.getElem?_map, hk]; rfl)
    have hrd : (e8 r).drop (1 + i) = .i .i8 (r.getD (1 + i) 0) :: (e8 r).drop (1 + i + 1) := e8_at (by rw [hr.len]; omega)
    have hb := hr.get (1 + i)
    have ht := tmod_bd (r.getD (1 + i) 0).natAbs _ m3
    have e2 : IntKind.wrap .i64 ((mIt r deg i).2 + 1) = (mIt r deg i).2 + 1 := IntWalk.i64_in _ (by omega)
    have hi1 : 1 + i < 5 := by omega
    have hi8 : i < 8 := by omega
    have hm : mIt r deg (i + 1) = ((mIt r deg i).1.set i (Int.tmod ((r.getD (1 + i) 0).natAbs : Int) ((mIt r deg i).2 + 1)), (mIt r deg i).2 - Int.tmod ((r.getD (1 + i) 0).natAbs : Int) ((mIt r deg i).2 + 1)) := rfl
    have hg := w97 _ hb.1 hb.2
    generalize r.getD (1 + i) 0 = x at *
    have hrem := e_rem .i64 (x.natAbs : Int) ((mIt r deg i).2 + 1) (by omega)
    have e3 : IntKind.wrap .i64 ((mIt r deg i).2 - Int.tmod (x.natAbs : Int) ((mIt r deg i).2 + 1)) = (mIt r deg i).2 - Int.tmod (x.natAbs : Int) ((mIt r deg i).2 + 1) := IntWalk.i64_in _ (by omega)
    generalize hv : Int.tmod (x.natAbs : Int) ((mIt r deg i).2 + 1) = v at *
    have hst : boxS (some (z', .box (eM (mIt r deg i).1))) (F, 11) z' i [.i .i64 v] = some ((F, 11), z', .box (eM ((mIt r deg i).1.set i v))) := by
      rw [boxS_s _ _ _ _ _ (by rw [eM_len]; simp; omega), splM _ _ _ (by omega)]
    have hl2 : ((mIt r deg i).1.set i v).length = 8 := by rw [List.length_set]; exact m1
    have hld : boxC (some (z', .box (eM ((mIt r deg i).1.set i v)))) z' i 1 = some [.i .i64 v] := by
      rw [boxC_s _ _ _ _ (by rw [eM_len]; omega), eM_cell (by omega)]
      simp [List.getD_eq_getElem?_getD, List.getElem?_set, m1, hi8]
    simp only [go_sem, sB, reduceCtorEq, sL, sA, sE, sN, wb33_0, c1, c2, e1', hx, ixaO_q _ _ _ _ _ hi1, Nat.mul_one, hrd]
    refine callO_intro hg ?_
    simp only [go_sem, sB, reduceCtorEq, sL, sA, sE, sN, e2, hrem, ixaO_p _ _ _ _ _ _ _ hi8, Nat.mul_one, hst, hld, e3, e1]
    have ih' := ih (i + 1)
    rw [hm] at ih'
    exact ih' _ (by omega) h0
def mono5 (r : List Int) (n deg : Nat) : List Int := (mIt r deg n).1
def term5 (r : List Int) (n deg : Nat) : List Tm := (timP ((Int.tmod (r.getD 0 0) 4 : Int) : Rat) m0 [(mono5 r n deg, 1)]).1
def madeL (n deg : Nat) : List Tm → List (List Int) → List Tm
  | p, [] => p
  | p, r :: rs => madeL n deg (addP p (term5 r n deg)) rs
def madeP (rows : List (List Int)) (n deg terms : Nat) : List Tm := madeL n deg [] (rows.take terms)
theorem LQ_int {x : Int} (h : x.natAbs < 4294967296) : LQ (x : Rat) ≤ 1 := LQ_small (by show (Rat.num (x : Rat)).natAbs < _; rw [Rat.num_intCast]; exact h) (by rw [Rat.den_intCast]; omega)
theorem LQ_1 : LQ 1 ≤ 1 := LQ_small (by decide) (by decide)
theorem tm4 (x : Int) : -3 ≤ Int.tmod x 4 ∧ Int.tmod x 4 ≤ 3 := by
  have h1 := Int.tmod_lt_of_pos x (show (0 : Int) < 4 by omega)
  have h2 := Int.lt_tmod_of_pos x (show (0 : Int) < 4 by omega)
  omega
theorem mMul_0 : ∀ (m : List Int), m.length = 8 → mMul m0 m = m := by
  intro m h
  match m, h with
  | [a, b, c, d, e, f, g, k], _ => simp [mMul, m0, List.replicate]
theorem term5_pl (r : List Int) (n deg : Nat) (hd : deg ≤ 65535) : Pl deg 2 1 (term5 r n deg) := by
  obtain ⟨h1, h2, _, _⟩ := mIt_ok r deg n
  have h3 := tm4 (r.getD 0 0)
  unfold term5 timP
  split
  · exact ⟨Can.nil, by simp, by simp, by simp⟩
  · rename_i hc
    split
    · have e : mulT ((Int.tmod (r.getD 0 0) 4 : Int) : Rat) m0 [(mono5 r n deg, 1)] = [(mono5 r n deg, ((Int.tmod (r.getD 0 0) 4 : Int) : Rat) * 1)] := by
        simp only [mulT, List.map_cons, List.map_nil, mMul_0 _ h1, mono5]
      rw [e, Rat.mul_one]
      refine ⟨⟨fun t ht => ?_, fun t ht => ?_, by simp⟩, fun t ht => ?_, fun t ht => ?_, by simp⟩
      · rw [List.mem_singleton] at ht; subst ht; exact h1
      · rw [List.mem_singleton] at ht; subst ht; exact hc
      · rw [List.mem_singleton] at ht; subst ht; exact h2
      · rw [List.mem_singleton] at ht; subst ht
        exact Nat.le_trans (LQ_int (x := Int.tmod (r.getD 0 0) 4) (by omega)) (by omega)
    · exact ⟨Can.nil, by simp, by simp, by simp⟩
theorem madeL_pl (n deg : Nat) (hd : deg ≤ 65535) : ∀ (rs : List (List Int)) (p : List Tm) (k : Nat), Pl deg (3 * k) k p → Pl deg (3 * (k + rs.length)) (k + rs.length) (madeL n deg p rs)
  | [], p, k, h => h
  | r :: rs, p, k, h => by
    have h1 := h.add (term5_pl r n deg hd)
    have h2 := madeL_pl n deg hd rs _ (k + 1) (h1.mono (Nat.le_refl _) (by omega) (by omega))
    rw [List.length_cons, show k + (rs.length + 1) = k + 1 + rs.length by omega]
    exact h2
theorem madeP_pl (rows : List (List Int)) (n deg terms : Nat) (hd : deg ≤ 65535) : Pl deg (3 * terms) terms (madeP rows n deg terms) := by
  have := madeL_pl n deg hd (rows.take terms) [] 0 ⟨Can.nil, by simp, by simp, by simp⟩
  have hl : (rows.take terms).length ≤ terms := by rw [List.length_take]; omega
  exact this.mono (Nat.le_refl _) (by omega) (by omega)
theorem loop33b (rows : List (List Int)) (f : Bool) (hrows : ∀ r ∈ rows, R5 r) (n deg terms : Nat) (hn : n ≤ 4) (hd : deg ≤ 1000) (hterms : terms ≤ 1000) (F : Nat) (out : Sto) (Q : Ex → St → Prop) (z : Nat) :
    ∀ (rs : List (List Int)) (k : Nat) (p : List Tm) (g : Bool) (nx : Nat), (rows.take terms).drop k = rs → k + rs.length = (rows.take terms).length → Pl deg (3 * k) k p →
    (∀ nx g, Q (.exit 0) { r := (upd (upd (upd (upd (upd (upd (upd (fun _ => .u) 24 (.b false)) 10 (.i .i64 (rows.take terms).length)) 9 (eP g (madeL n deg p rs))) 4 (.p (F, 4) z 0)) 3 (.i .i64 terms)) 2 (.i .i64 deg)) 1 (.i .i64 n)), own := upd (fun _ => none) 4 (some (z, .box [.sl 5 f (rows.map e8)])), out := out, nx := nx }) →
    Loop Go.Proofs.Tryz.prog F [1, 2, 3, 4, 9, 10] [4] b33_1 { r := (upd (upd (upd (upd (upd (upd (fun _ => .u) 10 (.i .i64 k)) 9 (eP g p)) 4 (.p (F, 4) z 0)) 3 (.i .i64 terms)) 2 (.i .i64 deg)) 1 (.i .i64 n)), own := upd (fun _ => none) 4 (some (z, .box [.sl 5 f (rows.map e8)])), out := out, nx := nx } Q := by
  intro rs
  have htl : (rows.take terms).length = min terms rows.length := List.length_take
  induction rs with
  | nil =>
    intro k p g nx hd' hk hp h0
    refine Loop.stepW ?_
    have ek : k = (rows.take terms).length := by simpa using hk
    by_cases h : k < rows.length
    · have c1 : decide (((k : Nat) : Int) < ((rows.length : Nat) : Int)) = true := decide_eq_true (by omega)
      have c2 : decide (((k : Nat) : Int) < ((terms : Nat) : Int)) = false := decide_eq_false (by omega)
      simp only [go_sem, sB, reduceCtorEq, sL, sA, sE, sN, wb33_1, List.length_map, c1, c2]
      rw [ek]
      exact h0 _ g
    · have c1 : decide (((k : Nat) : Int) < ((rows.length : Nat) : Int)) = false := decide_eq_false (by omega)
      simp only [go_sem, sB, reduceCtorEq, sL, sA, sE, sN, wb33_1, List.length_map, c1]
      rw [ek]
      exact h0 _ g
  | cons r rs ih =>
    intro k p g nx hd' hk hp h0
    refine Loop.stepW ?_
    simp only [List.length_cons] at hk
    have hkr : (rows.take terms)[k]? = some r := by
      have := List.getElem?_drop (xs := rows.take terms) (i := k) (j := 0)
      rw [hd'] at this
      simpa using this.symm
    have hkt : k < terms := by omega
    have hr : rows[k]? = some r := by rw [List.getElem?_take, if_pos hkt] at hkr; exact hkr
    have hR := hrows r (List.mem_of_getElem? hr)
    have c1 : decide (((k : Nat) : Int) < ((rows.length : Nat) : Int)) = true := decide_eq_true (by omega)
    have c2 : decide (((k : Nat) : Int) < ((terms : Nat) : Int)) = true := decide_eq_true (by omega)
    have e1 : IntKind.wrap .i64 (((k : Nat) : Int) + 1) = ((k + 1 : Nat) : Int) := by rw [IntWalk.i64_in _ (by omega)]; omega
    simp only [go_sem, sB, reduceCtorEq, sL, sA, sE, sN, wb33_1, List.length_map, c1, c2, z8, len80, drop80]
    refine loop33a rows f r k hr hR (by omega) n deg hn hd _ _ F out _ z _ n 0 _ (by omega) (fun nx l => ?_)
    have hx : ixsO 5 (.sl 5 f (rows.map e8)) (.i .i64 k) = some (.q (e8 r)) := ixsO_sl 5 f _ .i64 k _ (by rw [List.getElem?_map, hr]; rfl)
    have hx0 : ixaO 5 1 (.q (e8 r)) (.i .i64 0) = some (.q (.i .i8 (r.getD 0 0) :: (e8 r).drop 1)) := by
      have h1 := ixaO_q 5 1 (e8 r) 0 .i64 (by omega)
      rw [Nat.zero_mul, e8_at (by rw [hR.len]; omega)] at h1
      exact h1
    have hrem := e_rem .i8 (r.getD 0 0) 4 (by omega)
    have ht := tm4 (r.getD 0 0)
    have e2 : IntKind.wrap .i64 (Int.tmod (r.getD 0 0) 4) = Int.tmod (r.getD 0 0) 4 := IntWalk.i64_in _ (by omega)
    have hml : (mIt r deg n).1.length = 8 := (mIt_ok r deg n).1
    have bm : ∀ z, boxC (some (z, .box (eM (mIt r deg n).1))) z 0 8 = some (eM (mIt r deg n).1) := fun z => by rw [boxC_s _ _ _ _ (by rw [len8 hml]; decide), List.drop_zero, take8 hml]
    simp only [go_sem, sB, reduceCtorEq, sL, sA, sE, sN, hx, hx0, hrem, e2]
    refine callO_intro (q23 _ (by omega) (by omega)) ?_
    simp only [go_sem, sB, reduceCtorEq, sL, sA, sE, sN]
    refine callO_intro (q23 1 (by omega) (by omega)) ?_
    rw [show ((1 : Int) : Rat) = 1 from rfl]
    have h12 : (eT ((mIt r deg n).1, (1 : Rat))).length = 12 := eT_len (t := ((mIt r deg n).1, (1 : Rat))) hml
    simp only [go_sem, sB, reduceCtorEq, sL, sA, sE, sN, rW_C, rC_len, bm, z8, fillT2 _ _ hml, h12]
    have hpl : PB 1 [((mIt r deg n).1, (1 : Rat))] := .cons hml LQ_1 (.nil 1)
    have hpm : PM [((mIt r deg n).1, (1 : Rat))] := by
      intro t ht'
      rw [List.mem_singleton] at ht'
      subst ht'
      refine List.all_eq_true.2 fun x hx' => ?_
      have := (mIt_ok r deg n).2.1 x hx'
      simp only [okE, decide_eq_true_eq]
      omega
    refine callO_intro (w98 _ [((mIt r deg n).1, (1 : Rat))] true hpl hpm (LQ_int (by omega)) (by omega) (by simp)) ?_
    simp only [go_sem, sB, reduceCtorEq, sL, sA, sE, sN]
    have h5 := term5_pl r n deg (by omega)
    refine callO_intro (w56 p (term5 r n deg) g false (A := 3 * k + 2) (hp.pb.mono (by omega)) (h5.pb.mono (by omega)) (by omega) (by have := hp.ln; have := h5.ln; omega)) ?_
    simp only [go_sem, sB, reduceCtorEq, sL, sA, sE, sN, e1]
    refine ih (k + 1) _ false _ (by rw [drop_at hkr] at hd'; injection hd') (by omega) ((hp.add h5).mono (Nat.le_refl _) (by omega) (by omega)) h0
theorem w33 (rows : List (List Int)) (f : Bool) (hrows : ∀ r ∈ rows, R5 r) (n deg terms : Nat) (hn : n ≤ 4) (hd : deg ≤ 1000) (hterms : terms ≤ 1000) :
    FnR Go.Proofs.Tryz.prog 33 [.a [.sl 5 f (rows.map e8)], .i .i64 n, .i .i64 deg, .i .i64 terms] [] (eP false (madeP rows n deg terms)) := by
  refine fnr33 (by simp) (nr_eP _ _) (by simp) List.nodup_nil fun F out hS => ?_
  unfold ir33
  simp only [go_sem, sB, reduceCtorEq, sL, sA, sE, sN]
  refine loop33b rows f hrows n deg terms hn hd hterms F out _ _ (rows.take terms) 0 [] true _ rfl (by omega) ⟨Can.nil, by simp, by simp, by simp⟩ (fun nx g => ?_)
  simp only [go_sem, sB, reduceCtorEq, sL, sA, sE, sN, rv33, fin_t]
  exact weak_full _ _ _
def IsProd (p q r : List Tm) : Prop := ∀ f, ev f r = ev (fun m => ev (fun n => f (mMul m n)) q) p
theorem mMul_comm : ∀ (a b : List Int), mMul a b = mMul b a
  | [], [] => rfl
  | [], _ :: _ => rfl
  | _ :: _, [] => rfl
  | x :: a, y :: b => by
    have := mMul_comm a b
    unfold mMul at this ⊢
    rw [List.zipWith_cons_cons, List.zipWith_cons_cons, this, Int.add_comm]
theorem mMul_assoc : ∀ (a b c : List Int), mMul (mMul a b) c = mMul a (mMul b c)
  | [], b, c => by simp [mMul]
  | _ :: _, [], c => by simp [mMul]
  | _ :: _, _ :: _, [] => by simp [mMul]
  | x :: a, y :: b, z :: c => by
    have := mMul_assoc a b c
    unfold mMul at this ⊢
    simp only [List.zipWith_cons_cons, this, Int.add_assoc]
theorem cmp_add : ∀ (a b c : List Int), a.length = b.length → b.length = c.length → cmpL (mMul a c) (mMul b c) = cmpL a b
  | [], [], [], _, _ => rfl
  | x :: a, y :: b, z :: c, h1, h2 => by
    have := cmp_add a b c (by simpa using h1) (by simpa using h2)
    unfold mMul at this ⊢
    rw [List.zipWith_cons_cons, List.zipWith_cons_cons]
    simp only [cmpL]
    by_cases q1 : x < y
    · rw [if_pos q1, if_pos (by omega)]
    · by_cases q2 : y < x
      · rw [if_neg q1, if_pos q2, if_neg (by omega), if_pos (by omega)]
      · rw [if_neg q1, if_neg q2, if_neg (by omega), if_neg (by omega)]
        exact this
theorem w16 (rows : List (List Int)) (f : Bool) (hrows : ∀ r ∈ rows, R5 r) : FnR Go.Proofs.Tryz.prog 16 [.a [.sl 5 f (rows.map e8)]] [] (eP false (madeP rows 4 5 6)) := by
  refine fnr16 (by simp) (nr_eP _ _) (by simp) List.nodup_nil fun F out hS => ?_
  unfold ir16
  simp only [go_sem, sB, reduceCtorEq, sL, sA, sE, sN]
  refine callO_intro (w33 rows f hrows 4 5 6 (by omega) (by omega) (by omega)) ?_
  simp only [go_sem, sB, reduceCtorEq, sL, sA, sE, sN, rv16, fin_t]
  exact .refl _
theorem same_tt {p : List Tm} (f g : Bool) {A : Nat} (hp : PB A p) (hA : A ≤ 140737488355328) (hl : p.length ≤ 1000000000000) : FnR Go.Proofs.Tryz.prog 19 [eP f p, eP g p] [] (.b true) := by
  have := w19 p p f g hp hp hA hl
  rwa [decide_eq_true (rfl : p = p)] at this
def decM (m : List Int) (i : Nat) : List Int := m.set i (m.getD i 0 - 1)
def parO (i : Nat) : List Tm → List Tm → List Tm
  | l, [] => l
  | l, t :: p => if 0 < t.1.getD i 0 then parO i (addM l (decM t.1 i) (t.2 * ((t.1.getD i 0 : Int) : Rat))) p else parO i l p
theorem splT {t : Tm} (ht : t.1.length = 8) (i : Nat) (hi : i < 8) (x : Int) : splice (eT t) (4 + i) [.i .i64 x] = eT (t.1.set i x, t.2) := by
  have h := splM i x t.1 (by omega)
  unfold splice at h ⊢
  have e1 : (eT t).take (4 + i) = rC t.2 ++ (eM t.1).take i := by
    unfold eT
    rw [List.take_append, List.take_of_length_le (by rw [rC_len]; omega), rC_len, Nat.add_sub_cancel_left]
  have e2 : (eT t).drop (4 + i + [D.i .i64 x].length) = (eM t.1).drop (i + [D.i .i64 x].length) := by
    unfold eT
    rw [List.drop_append, List.drop_of_length_le (by rw [rC_len]; simp; omega), rC_len, List.nil_append]
    congr 1
    simp; omega
  rw [e1, e2]
  unfold eT
  rw [← h]
  simp only [List.append_assoc]
theorem decM_len {m : List Int} (h : m.length = 8) (i : Nat) : (decM m i).length = 8 := by unfold decM; rw [List.length_set]; exact h
theorem loop24 (p : List Tm) (f : Bool) (i : Nat) (hi : i < 8) {A : Nat} (hp : PB A p) (kp : PM p) (hlp : p.length ≤ 1000000000) (F : Nat) (out : Sto) (Q : Ex → St → Prop) (zm : Nat) :
    ∀ (rest : List Tm) (k : Nat) (l : List Tm) (B : Nat) (nx : Nat), p.drop k = rest → k + rest.length = p.length → PB B l → B + rest.length * (A + 2) ≤ 549755813888 → A ≤ 549755813887 →
    (PB (B + rest.length * (A + 2)) (parO i l rest) → ∀ r nx, r 6 = .m (F, 16) zm → Q (.exit 0) { r := r, own := upd (fun _ => none) 16 (some (zm, .map (eK (parO i l rest)))), out := out, nx := nx }) →
    Loop Go.Proofs.Tryz.prog F [1, 6, 17, 18, 19] [16] b24_0 { r := (upd (upd (upd (upd (upd (fun _ => .u) 19 (.i .i64 k)) 18 (.i .i64 p.length)) 17 (eP f p)) 6 (.m (F, 16) zm)) 1 (.i .i64 i)), own := upd (fun _ => none) 16 (some (zm, .map (eK l))), out := out, nx := nx } Q := by
  intro rest
  induction rest with
  | nil =>
    intro k l B nx hd hk hl hB hA h0
    refine Loop.stepW ?_
    have ek : k = p.length := by simpa using hk
    subst ek
    have c1 : decide (((p.length : Nat) : Int) < ((p.length : Nat) : Int)) = false := by simp
    simp only [go_sem, sB, reduceCtorEq, sL, sA, sE, sN, wb24_0, c1]
    exact h0 (hl.mono (by omega)) _ _ rfl
  | cons t rest ih =>
    intro k l B nx hd hk hl hB hA h0
    refine Loop.stepW ?_
    simp only [List.length_cons] at hk hB h0
    have ht : p[k]? = some t := by
      have := List.getElem?_drop (xs := p) (i := k) (j := 0)
      rw [hd] at this
      simpa using this.symm
    have hmB : (rest.length + 1) * (A + 2) = rest.length * (A + 2) + (A + 2) := by rw [Nat.add_mul, Nat.one_mul]
    have e1 : IntKind.wrap .i64 (((k : Nat) : Int) + 1) = ((k + 1 : Nat) : Int) := by rw [IntWalk.i64_in _ (by omega)]; omega
    have c1 : decide (((k : Nat) : Int) < ((p.length : Nat) : Int)) = true := decide_eq_true (by omega)
    have hT := hp.get ht
    have hx := ixsO_sl 12 f _ .i64 k _ (eP_at ht)
    have hb := okE_get (kp.get ht) i
    have hld : ∀ z, boxC (some (z, .box (eT t))) z (4 + i) 1 = some [.i .i64 (t.1.getD i 0)] := fun z => by
      rw [boxC_s _ _ _ _ (by rw [eT_len hT.1]; omega)]
      have : (eT t).drop (4 + i) = (eM t.1).drop i := by
        unfold eT
        rw [List.drop_append, List.drop_of_length_le (by rw [rC_len]; omega), rC_len, List.nil_append, Nat.add_sub_cancel_left]
      rw [this, eM_cell (by omega)]
    simp only [parO] at h0
    have e2 : IntKind.wrap .i64 (t.1.getD i 0 - 1) = t.1.getD i 0 - 1 := IntWalk.i64_in _ (by omega)
    have hst : ∀ z, boxS (some (z, .box (eT t))) (F, 8) z (4 + i) [.i .i64 (t.1.getD i 0 - 1)] = some ((F, 8), z, .box (eT (decM t.1 i, t.2))) := fun z => by
      rw [boxS_s _ _ _ _ _ (by rw [eT_len hT.1]; simp; omega), splT hT.1 i hi]; rfl
    have hdl := decM_len hT.1 i
    have bt : ∀ z, boxC (some (z, .box (eT (decM t.1 i, t.2)))) z 4 8 = some (eM (decM t.1 i)) := fun z => by rw [boxC_s _ _ _ _ (by rw [eT_len (t := (decM t.1 i, t.2)) hdl]; decide), dropT, take8 hdl]
    have bt' : ∀ z, boxC (some (z, .box (eT (decM t.1 i, t.2)))) z 0 4 = some (rC t.2) := fun z => by rw [boxC_s _ _ _ _ (by rw [eT_len (t := (decM t.1 i, t.2)) hdl]; decide), List.drop_zero, takeT4]
    by_cases hg : 0 < t.1.getD i 0
    · rw [if_pos hg] at h0
      simp only [go_sem, sB, reduceCtorEq, sL, sA, sE, sN, wb24_0, eP, c1, hx, takeT hT.1, eT_len hT.1, ixaO_p _ _ _ _ _ _ _ hi, Nat.mul_one, hld, decide_eq_true (show t.1.getD i 0 > 0 from hg), e2, hst, bt']
      refine callO_intro (q85 (t.1.getD i 0) (by omega) (by omega)) ?_
      have hn : LQ ((t.1.getD i 0 : Int) : Rat) ≤ 1 := LQ_int (by omega)
      simp only [go_sem, sB, reduceCtorEq, sL, sA, sE, sN]
      refine callO_intro (q76 t.2 _ (by have := hT.2; omega) (by omega)) ?_
      have hm : LQ (t.2 * ((t.1.getD i 0 : Int) : Rat)) ≤ A + 1 := by have := LQ_mul t.2 ((t.1.getD i 0 : Int) : Rat); have := hT.2; omega
      simp only [go_sem, sB, reduceCtorEq, sL, sA, sE, sN, bt]
      refine callRO_one (w75 l _ (decM t.1 i) (A := max B (A + 1)) (hl.mono (Nat.le_max_left _ _)) hdl (Nat.le_trans hm (Nat.le_max_right _ _)) (by omega) (F, 16) zm) (by simp only [go_sem, sB, reduceCtorEq, sL, sA, sE, sN]) (by simp) ?_
      simp only [go_sem, sB, reduceCtorEq, sL, sA, sE, sN, e1]
      exact ih (k + 1) _ (B + (A + 1) + 1) _ (by rw [drop_at ht] at hd; injection hd) (by omega) (PB_addM hdl hm hl) (by omega) hA (fun h => h0 (h.mono (by omega)))
    · rw [if_neg hg] at h0
      simp only [go_sem, sB, reduceCtorEq, sL, sA, sE, sN, wb24_0, eP, c1, hx, takeT hT.1, eT_len hT.1, ixaO_p _ _ _ _ _ _ _ hi, Nat.mul_one, hld, decide_eq_false (show ¬ t.1.getD i 0 > 0 from hg), e1]
      exact ih (k + 1) l B _ (by rw [drop_at ht] at hd; injection hd) (by omega) hl (by omega) hA (fun h => h0 (h.mono (by omega)))
def dF (i : Nat) (f : List Int → Rat) : List Int → Rat := fun m => ((m.getD i 0 : Int) : Rat) * f (decM m i)
theorem ev_parO (i : Nat) (f : List Int → Rat) : ∀ (p l : List Tm), PM p → ev f (parO i l p) = ev f l + ev (dF i f) p
  | [], l, _ => by simp [parO, ev, Rat.add_zero]
  | t :: p, l, hp => by
    simp only [parO]
    split
    · rw [ev_parO i f p _ hp.tail, ev_addM]
      simp only [ev, dF]
      rw [Rat.mul_assoc, Rat.add_assoc]
    · rename_i h
      rw [ev_parO i f p l hp.tail]
      have h0 := okE_get hp.head i
      have e : t.1.getD i 0 = 0 := by omega
      simp only [ev, dF, e]
      have z : ((0 : Int) : Rat) = 0 := rfl
      rw [z, Rat.zero_mul, Rat.mul_zero, Rat.zero_add]
theorem parO_mid {M : List Int → Prop} (i : Nat) : ∀ (p l : List Tm), Mid M l → (∀ t ∈ p, 0 < t.1.getD i 0 → M (decM t.1 i)) → Mid M (parO i l p)
  | [], l, h, _ => h
  | t :: p, l, h, hp => by
    simp only [parO]
    split
    · rename_i hg
      exact parO_mid i p _ (h.add (hp t (by simp) hg) _) (fun u hu => hp u (by simp [hu]))
    · exact parO_mid i p l h (fun u hu => hp u (by simp [hu]))
theorem parO_len (i : Nat) : ∀ (p l : List Tm), (parO i l p).length ≤ l.length + p.length
  | [], l => by simp [parO]
  | t :: p, l => by
    simp only [parO]
    split
    · have := parO_len i p (addM l (decM t.1 i) (t.2 * ((t.1.getD i 0 : Int) : Rat)))
      have := addM_len l (decM t.1 i) (t.2 * ((t.1.getD i 0 : Int) : Rat))
      simp only [List.length_cons]; omega
    · have := parO_len i p l
      simp only [List.length_cons]; omega
theorem PB_parO (i : Nat) {A : Nat} : ∀ (p l : List Tm) (B : Nat), PB A p → PM p → PB B l → PB (B + p.length * (A + 2)) (parO i l p)
  | [], l, B, _, _, hl => hl.mono (by omega)
  | t :: p, l, B, hp, kp, hl => by
    have hmB : (p.length + 1) * (A + 2) = p.length * (A + 2) + (A + 2) := by rw [Nat.add_mul, Nat.one_mul]
    simp only [parO, List.length_cons]
    split
    · have hb := okE_get kp.head i
      have hn : LQ ((t.1.getD i 0 : Int) : Rat) ≤ 1 := LQ_int (by omega)
      have hm : LQ (t.2 * ((t.1.getD i 0 : Int) : Rat)) ≤ A + 1 := by have := LQ_mul t.2 ((t.1.getD i 0 : Int) : Rat); have := hp.head.2; omega
      exact (PB_parO i p _ _ hp.tail kp.tail (PB_addM (decM_len hp.head.1 i) hm hl)).mono (by omega)
    · exact (PB_parO i p l B hp.tail kp.tail hl).mono (by omega)
theorem par_ex {e A n : Nat} {p : List Tm} (hp : Pl e A n p) (he : e ≤ 65535) (hn : n ≤ 1000000000) (hB : n * (A + 2) ≤ 549755813888) (hA : A ≤ 549755813887) (i : Nat) (hi : i < 8) :
    ∃ r, Pl e (n * (A + 2)) n r ∧ (∀ f, ev f r = ev (dF i f) p) ∧ ∀ f, FnR Go.Proofs.Tryz.prog 24 [eP f p, .i .i64 (i : Int)] [] (.t [eP false r, .i .i64 0]) := by
  have hM : ∀ t ∈ p, 0 < t.1.getD i 0 → ((decM t.1 i).length = 8 ∧ ∀ x ∈ decM t.1 i, 0 ≤ x ∧ x ≤ (e : Int)) := by
    intro t ht hg
    refine ⟨decM_len (hp.can.len t ht) i, fun x hx => ?_⟩
    unfold decM at hx
    rcases List.mem_or_eq_of_mem_set hx with hx | rfl
    · exact hp.ex t ht x hx
    · have : t.1.getD i 0 ∈ t.1 := by
        have hlt : i < t.1.length := by rw [hp.can.len t ht]; exact hi
        rw [List.getD_eq_getElem?_getD, List.getElem?_eq_getElem hlt]
        exact List.getElem_mem hlt
      have := hp.ex t ht _ this
      omega
  have hmid := parO_mid (M := fun m => m.length = 8 ∧ ∀ x ∈ m, 0 ≤ x ∧ x ≤ (e : Int)) i p [] ⟨by simp, by simp⟩ hM
  have hPB := PB_parO i p [] 0 hp.pb (hp.pm he) (.nil 0)
  have hlen := parO_len i p []
  have hk1 : p.length * (A + 2) ≤ n * (A + 2) := Nat.mul_le_mul_right _ hp.ln
  have hev := fun f => ev_parO i f p [] (hp.pm he)
  generalize hL : parO i [] p = l at *
  have hfl : ∀ t ∈ l.filter (fun t => decide (t.2 ≠ 0)), t ∈ l := fun t ht => (List.mem_filter.1 ht).1
  have hnd : ((l.filter (fun t => decide (t.2 ≠ 0))).map (·.1)).Nodup := hmid.nd.sublist (List.Sublist.map _ List.filter_sublist)
  obtain ⟨r, hr1, hr2⟩ := sort_ex (l.filter (fun t => decide (t.2 ≠ 0))) (fun t ht => (hmid.all t (hfl t ht)).1) hnd
  have hmem : ∀ t ∈ r, t ∈ l ∧ t.2 ≠ 0 := fun t ht => by
    have := List.mem_filter.1 (hr1.subset ht)
    exact ⟨this.1, by simpa using this.2⟩
  refine ⟨r, ⟨⟨fun t ht => (hmid.all t (hmem t ht).1).1, fun t ht => (hmem t ht).2, hr2⟩, fun t ht => (hmid.all t (hmem t ht).1).2, fun t ht => ?_, ?_⟩, fun f => ?_, fun f => ?_⟩
  · have := hPB.lq t (hmem t ht).1
    omega
  · have h3 := hr1.length_eq
    have h4 := List.length_filter_le (fun t : Tm => decide (t.2 ≠ 0)) l
    simp only [List.length_nil, Nat.zero_add] at hlen
    have := hp.ln
    omega
  · rw [ev_perm f hr1, ev_filter, hev f]
    simp only [ev, Rat.zero_add]
  · refine fnr24 (by simp) (nr_t2 _ _ _) (by simp) List.nodup_nil fun F out hS => ?_
    have c1 : decide (((i : Nat) : Int) < 0) = false := decide_eq_false (by omega)
    have c2 : decide (((i : Nat) : Int) ≥ 8) = false := decide_eq_false (by omega)
    have hpl := hp.ln
    unfold ir24
    simp only [go_sem, sB, reduceCtorEq, sL, sA, sE, sN, eP, eP_len, c1, c2]
    refine loop24 p f i hi hp.pb (hp.pm he) (by omega) F out _ 2 p 0 [] 0 _ rfl (by omega) (.nil _) (by omega) hA (fun hl' rg nx r6 => ?_)
    rw [hL] at hl' ⊢
    simp only [go_sem, sB, reduceCtorEq, sL, sA, sE, sN, r6]
    refine callRO_one (w77 l r hl' (by simp at hlen; omega) hr1 hr2 (F, 16) 2) (by simp only [go_sem, sB, reduceCtorEq, sL, sA, sE, sN]) (by simp) ?_
    simp only [go_sem, sB, reduceCtorEq, sL, sA, sE, sN, rv24, fin_t2]
    exact .refl _
theorem w24x (f : Bool) (p : List Tm) (i : Int) (h : i < 0 ∨ 8 ≤ i) : FnR Go.Proofs.Tryz.prog 24 [eP f p, .i .i64 i] [] (.t [.sl 12 true [], .i .i64 1]) := by
  refine fnr24 (by simp) rfl (by simp) List.nodup_nil fun F out hS => ?_
  unfold ir24
  by_cases h0 : i < 0
  · simp only [go_sem, sB, reduceCtorEq, sL, sA, sE, sN, decide_eq_true h0, rv24, fin_t2]
    exact .refl _
  · have h8 : i ≥ 8 := by omega
    simp only [go_sem, sB, reduceCtorEq, sL, sA, sE, sN, decide_eq_false h0, decide_eq_true h8, rv24, fin_t2]
    exact .refl _
def cmpT (t u : Tm) : Int := if cmpL t.1 u.1 ≠ 0 then cmpL t.1 u.1 else cmpQ t.2 u.2
theorem w100 (t u : Tm) (ht : t.1.length = 8) (hu : u.1.length = 8) (lt : LQ t.2 ≤ 549755813888) (lu : LQ u.2 ≤ 549755813888) : FnR Go.Proofs.Tryz.prog 100 [.a (eT t), .a (eT u)] [] (.i .i64 (cmpT t u)) := by
  refine fnr100 (by simp) rfl (by simp) List.nodup_nil fun F out hS => ?_
  have bt : ∀ {t : Tm}, t.1.length = 8 → ∀ z, boxC (some (z, .box (eT t))) z 4 8 = some (eM t.1) := fun h z => by rw [boxC_s _ _ _ _ (by rw [eT_len h]; decide), dropT, take8 h]
  have bt' : ∀ {t : Tm}, t.1.length = 8 → ∀ z, boxC (some (z, .box (eT t))) z 0 4 = some (rC t.2) := fun h z => by rw [boxC_s _ _ _ _ (by rw [eT_len h]; decide), List.drop_zero, takeT4]
  unfold ir100
  simp only [go_sem, sB, reduceCtorEq, sL, sA, sE, sN, eT_len ht, eT_len hu, bt ht, bt hu]
  refine callO_intro (w70 _ _ ht hu) ?_
  by_cases h : cmpL t.1 u.1 = 0
  · have e : cmpT t u = cmpQ t.2 u.2 := if_neg (by simp [h])
    rw [e, h]
    simp only [go_sem, sB, reduceCtorEq, sL, sA, sE, sN, show ((0 : Int) != 0) = false from rfl, bt' ht, bt' hu]
    refine callO_intro (q101 t.2 u.2 lt lu) ?_
    simp only [go_sem, sB, reduceCtorEq, sL, sA, sE, sN, rv100, fin_t]
    exact .refl _
  · have e : cmpT t u = cmpL t.1 u.1 := if_pos h
    rw [e]
    simp only [go_sem, sB, reduceCtorEq, sL, sA, sE, sN, show (cmpL t.1 u.1 != 0) = true from bne_iff_ne.2 h, rv100, fin_t]
    exact .refl _
def cmpP : List Tm → List Tm → Int
  | [], [] => 0
  | [], _ :: _ => -1
  | _ :: _, [] => 1
  | t :: p, u :: q => if cmpT t u ≠ 0 then cmpT t u else cmpP p q
theorem loop99 (p q : List Tm) (f g : Bool) {A : Nat} (hp : PB A p) (hq : PB A q) (hA : A ≤ 549755813888) (hl : p.length ≤ 1000000000000) (hlq : q.length ≤ 1000000000000) (F : Nat) (out : Sto) (Q : Ex → St → Prop) :
    ∀ (c i : Nat) (nx : Nat), i + c = p.length → i ≤ q.length →
    (∀ r nx, p.length ≤ q.length → cmpP (p.drop i) (q.drop i) = (if p.length < q.length then -1 else 0) → r 0 = eP f p → r 1 = eP g q → Q (.exit 0) { r := r, own := fun _ => none, out := out, nx := nx }) →
    (∀ nx, Q .ret { r := (upd (fun _ => .u) 6 (.i .i64 (cmpP (p.drop i) (q.drop i)))), own := fun _ => none, out := out, nx := nx }) →
    Loop Go.Proofs.Tryz.prog F [0, 1, 2, 11, 12, 13] [] b99_0 { r := (upd (upd (upd (upd (upd (upd (fun _ => .u) 13 (.i .i64 i)) 12 (.i .i64 p.length)) 11 (eP f p)) 2 (.f 100 [] [])) 1 (eP g q)) 0 (eP f p)), own := fun _ => none, out := out, nx := nx } Q := by
  intro c
  induction c with
  | zero =>
    intro i nx hi hiq h0 h1
    refine Loop.stepW ?_
    have ei : i = p.length := by omega
    subst ei
    have c1 : decide (((p.length : Nat) : Int) < ((p.length : Nat) : Int)) = false := by simp
    simp only [go_sem, sB, reduceCtorEq, sL, sA, sE, sN, wb99_0, c1]
    refine h0 _ _ hiq ?_ rfl rfl
    rw [List.drop_length]
    by_cases h : p.length < q.length
    · obtain ⟨u, hu⟩ := get_ex h
      rw [if_pos h, drop_at hu]; rfl
    · rw [if_neg h, List.drop_of_length_le (by omega)]; rfl
  | succ c ih =>
    intro i nx hi hiq h0 h1
    refine Loop.stepW ?_
    obtain ⟨t, ht⟩ := get_ex (show i < p.length by omega)
    have hT := hp.get ht
    have c1 : decide (((i : Nat) : Int) < ((p.length : Nat) : Int)) = true := decide_eq_true (by omega)
    have e1 : IntKind.wrap .i64 (((i : Nat) : Int) + 1) = ((i + 1 : Nat) : Int) := by rw [IntWalk.i64_in _ (by omega)]; omega
    have hx := ixsO_sl 12 f _ .i64 i _ (eP_at ht)
    have b12 : ∀ {t : Tm}, t.1.length = 8 → ∀ z, boxC (some (z, .box (eT t))) z 0 12 = some (eT t) := fun h z => by rw [boxC_s _ _ _ _ (by rw [eT_len h]; decide), List.drop_zero, takeT h]
    rw [drop_at ht] at h0 h1
    by_cases hq2 : i < q.length
    · obtain ⟨u, hu⟩ := get_ex hq2
      have hU := hq.get hu
      have c2 : decide (((i : Nat) : Int) ≥ ((q.length : Nat) : Int)) = false := decide_eq_false (by omega)
      have hy := ixsO_sl 12 g _ .i64 i _ (eP_at hu)
      rw [drop_at hu] at h0 h1
      simp only [go_sem, sB, reduceCtorEq, sL, sA, sE, sN, wb99_0, eP, eP_len, c1, hx, takeT hT.1, eT_len hT.1, c2, hy, takeT hU.1, eT_len hU.1, b12 hT.1, b12 hU.1]
      refine callO_intro (w100 t u hT.1 hU.1 (by omega) (by omega)) ?_
      simp only [cmpP] at h0 h1
      by_cases hz : cmpT t u = 0
      · rw [if_neg (by simp [hz])] at h0 h1
        rw [hz]
        simp only [go_sem, sB, reduceCtorEq, sL, sA, sE, sN, show ((0 : Int) != 0) = false from rfl, e1]
        exact ih (i + 1) _ (by omega) (by omega) h0 h1
      · rw [if_pos hz] at h1
        simp only [go_sem, sB, reduceCtorEq, sL, sA, sE, sN, show (cmpT t u != 0) = true from bne_iff_ne.2 hz]
        exact h1 _
    · have c2 : decide (((i : Nat) : Int) ≥ ((q.length : Nat) : Int)) = true := decide_eq_true (by omega)
      rw [List.drop_of_length_le (show q.length ≤ i by omega)] at h1
      simp only [go_sem, sB, reduceCtorEq, sL, sA, sE, sN, wb99_0, eP, eP_len, c1, hx, takeT hT.1, eT_len hT.1, c2]
      exact h1 _
theorem w34 (p q : List Tm) (f g : Bool) {A : Nat} (hp : PB A p) (hq : PB A q) (hA : A ≤ 549755813888) (hl : p.length ≤ 1000000000000) (hlq : q.length ≤ 1000000000000) : FnR Go.Proofs.Tryz.prog 34 [eP f p, eP g q] [] (.i .i64 (cmpP p q)) := by
  have c99 : FnR Go.Proofs.Tryz.prog 99 [eP f p, eP g q, .f 100 [] []] [] (.i .i64 (cmpP p q)) := by
    refine fnr99 (by simp) rfl (by simp) List.nodup_nil fun F out hS => ?_
    unfold ir99
    simp only [go_sem, sB, reduceCtorEq, sL, sA, sE, sN, eP, eP_len]
    refine loop99 p q f g hp hq hA hl hlq F out _ p.length 0 _ (by omega) (by omega) (fun r nx hle he r0 r1 => ?_) (fun nx => ?_)
    · rw [List.drop_zero, List.drop_zero] at he
      rw [he]
      by_cases h : p.length < q.length
      · simp only [go_sem, sB, reduceCtorEq, sL, sA, sE, sN, r0, r1, eP, eP_len, decide_eq_true (show ((p.length : Nat) : Int) < ((q.length : Nat) : Int) by omega), rv99, fin_t, if_pos h]
        exact .refl _
      · simp only [go_sem, sB, reduceCtorEq, sL, sA, sE, sN, r0, r1, eP, eP_len, decide_eq_false (show ¬ ((p.length : Nat) : Int) < ((q.length : Nat) : Int) by omega), rv99, fin_t, if_neg h]
        exact .refl _
    · simp only [go_sem, sB, reduceCtorEq, sL, sA, sE, sN, rv99, fin_t]
      exact .refl _
  refine fnr34 (by simp) rfl (by simp) List.nodup_nil fun F out hS => ?_
  unfold ir34
  simp only [go_sem, sB, reduceCtorEq, sL, sA, sE, sN]
  refine callO_intro c99 ?_
  simp only [go_sem, sB, reduceCtorEq, sL, sA, sE, sN, rv34, fin_t]
  exact .refl _
theorem w35 (p q : List Tm) (f g : Bool) {A : Nat} (hp : PB A p) (hq : PB A q) (hA : A ≤ 549755813888) (hl : p.length ≤ 1000000000000) (hlq : q.length ≤ 1000000000000) : FnR Go.Proofs.Tryz.prog 35 [eP f p, eP g q] [] (.b (cmpP p q == 0)) := by
  refine fnr35 (by simp) rfl (by simp) List.nodup_nil fun F out hS => ?_
  unfold ir35
  simp only [go_sem, sB, reduceCtorEq, sL, sA, sE, sN]
  refine callO_intro (w34 p q f g hp hq hA hl hlq) ?_
  simp only [go_sem, sB, reduceCtorEq, sL, sA, sE, sN, rv35, fin_t]
  exact .refl _
theorem cmpQ_self (a : Rat) : cmpQ a a = 0 := by unfold cmpQ; rw [if_neg (Rat.lt_irrefl), if_pos rfl]
theorem cmpQ_eq {a b : Rat} (h : cmpQ a b = 0) : a = b := by
  unfold cmpQ at h
  split at h
  · omega
  · split at h
    · assumption
    · omega
theorem cmpT_self (t : Tm) : cmpT t t = 0 := by
  unfold cmpT
  rw [if_neg (by simp [cmpL_self])]
  exact cmpQ_self _
theorem cmpT_eq {t u : Tm} (ht : t.1.length = 8) (hu : u.1.length = 8) (h : cmpT t u = 0) : t = u := by
  unfold cmpT at h
  split at h
  · rename_i h1; exact absurd h h1
  · rename_i h1
    exact Prod.ext (cmpL_eq _ _ (by omega) (by omega)) (cmpQ_eq h)
theorem cmpP_self : ∀ (p : List Tm), cmpP p p = 0
  | [] => rfl
  | t :: p => by simp only [cmpP, cmpT_self, ne_eq, not_true_eq_false, if_false]; exact cmpP_self p
theorem cmpP_eq : ∀ {p q : List Tm}, L8 p → L8 q → cmpP p q = 0 → p = q
  | [], [], _, _, _ => rfl
  | [], _ :: _, _, _, h => by simp [cmpP] at h
  | _ :: _, [], _, _, h => by simp [cmpP] at h
  | t :: p, u :: q, hp, hq, h => by
    simp only [cmpP] at h
    split at h
    · rename_i h1; exact absurd h h1
    · rename_i h1
      rw [cmpT_eq (hp t (by simp)) (hq u (by simp)) (by omega), cmpP_eq (fun x hx => hp x (by simp [hx])) (fun x hx => hq x (by simp [hx])) h]
def pw (x : Rat) : Nat → Rat
  | 0 => 1
  | n + 1 => pw x n * x
structure Pt (X : Nat) (v : List Rat) : Prop where
  len : v.length = 8
  lq : ∀ x ∈ v, LQ x ≤ X
theorem Pt.get {X : Nat} {v : List Rat} (h : Pt X v) {i : Nat} (hi : i < 8) : LQ (v.getD i 0) ≤ X := by
  have := h.len
  rw [List.getD_eq_getElem?_getD, List.getElem?_eq_getElem (show i < v.length by omega)]
  exact h.lq _ (List.getElem_mem _)
theorem LQ_0 : LQ 0 ≤ 1 := LQ_small (by decide) (by decide)
def zz : List D := [.b false, .sl 1 true [], .b false, .sl 1 true []]
def zr (n : Nat) : List D := (List.replicate n zz).flatten
theorem cP_pl {A : Nat} {a : Rat} (h : LQ a ≤ A) : Pl 0 A 1 (cP a) := by
  unfold cP
  split
  · exact ⟨Can.nil, by simp, by simp, by simp⟩
  · rename_i h0
    refine ⟨⟨fun t ht => ?_, fun t ht => ?_, by simp⟩, fun t ht x hx => ?_, fun t ht => ?_, by simp⟩
    all_goals (rw [List.mem_singleton] at ht; subst ht)
    · rfl
    · exact h0
    · have : x ∈ List.replicate 8 (0 : Int) := hx
      rw [List.eq_of_mem_replicate this]; omega
    · exact h
theorem wd_self : ∀ (w a : List Int), wdot w a a = 0
  | [], _ => by simp [wdot]
  | _ :: _, [] => by simp [wdot]
  | w :: ws, x :: xs => by simp only [wdot, wd_self ws xs, Int.sub_self, Int.mul_zero, Int.add_zero]
theorem wd_anti : ∀ (w a b : List Int), wdot w b a = - wdot w a b
  | [], _, _ => by simp [wdot]
  | _ :: _, [], [] => by simp [wdot]
  | _ :: _, [], _ :: _ => by simp [wdot]
  | _ :: _, _ :: _, [] => by simp [wdot]
  | w :: ws, x :: xs, y :: ys => by
    simp only [wdot, wd_anti ws xs ys, Int.neg_add]
    rw [← Int.mul_neg, Int.neg_sub]
theorem wd_trans : ∀ (w a b c : List Int), a.length = b.length → b.length = c.length → wdot w a c = wdot w a b + wdot w b c
  | [], _, _, _, _, _ => by simp [wdot]
  | _ :: _, [], [], [], _, _ => by simp [wdot]
  | w :: ws, x :: xs, y :: ys, z :: zs, h1, h2 => by
    simp only [wdot, wd_trans ws xs ys zs (by simpa using h1) (by simpa using h2)]
    have : x - z = (x - y) + (y - z) := by omega
    rw [this, Int.mul_add]; omega
theorem og_self : ∀ (o : List (List Int)) (a : List Int), ordG o a a = 0
  | [], a => cmpL_self a
  | w :: o, a => by simp only [ordG, wd_self, Int.lt_irrefl, if_false]; exact og_self o a
theorem oc_og (o : List (List Int)) (a b : List Int) : ordC o a b = ordG o a b := by
  unfold ordC
  split
  · rename_i h; rw [h, og_self]
  · rfl
theorem og_anti : ∀ (o : List (List Int)) (a b : List Int), ordG o b a = - ordG o a b
  | [], a, b => cmpL_anti a b
  | w :: o, a, b => by
    simp only [ordG]
    rw [wd_anti w a b, og_anti o a b]
    by_cases h1 : wdot w a b < 0
    · rw [if_pos h1, if_neg (by omega), if_pos (by omega)]; rfl
    · by_cases h2 : 0 < wdot w a b
      · rw [if_neg h1, if_pos h2, if_pos (by omega)]
      · rw [if_neg h1, if_neg h2, if_neg (by omega), if_neg (by omega)]
theorem og_eq : ∀ (o : List (List Int)) (a b : List Int), a.length = b.length → ordG o a b = 0 → a = b
  | [], a, b, h, h0 => cmpL_eq a b h h0
  | w :: o, a, b, h, h0 => by
    simp only [ordG] at h0
    split at h0
    · omega
    · split at h0
      · omega
      · exact og_eq o a b h h0
theorem og_trans : ∀ (o : List (List Int)) (a b c : List Int), a.length = b.length → b.length = c.length → ordG o a b < 0 → ordG o b c < 0 → ordG o a c < 0
  | [], a, b, c, h1, h2, k1, k2 => cmpL_trans a b c h1 h2 k1 k2
  | w :: o, a, b, c, h1, h2, k1, k2 => by
    have ht := wd_trans w a b c h1 h2
    simp only [ordG] at k1 k2 ⊢
    by_cases a1 : wdot w a b < 0
    · by_cases b2 : 0 < wdot w b c
      · rw [if_neg (by omega), if_pos b2] at k2; omega
      · rw [if_pos (by omega)]; omega
    · rw [if_neg a1] at k1
      by_cases a2 : 0 < wdot w a b
      · rw [if_pos a2] at k1; omega
      · rw [if_neg a2] at k1
        by_cases b1 : wdot w b c < 0
        · rw [if_pos (by omega)]; omega
        · rw [if_neg b1] at k2
          by_cases b2 : 0 < wdot w b c
          · rw [if_pos b2] at k2; omega
          · rw [if_neg b2] at k2
            rw [if_neg (by omega), if_neg (by omega)]
            exact og_trans o a b c h1 h2 k1 k2
structure Top (o : List (List Int)) (p : List Tm) (t : Tm) : Prop where
  mem : t ∈ p
  top : ∀ u ∈ p, 0 ≤ ordG o t.1 u.1
theorem og_le (o : List (List Int)) {a b c : List Int} (h1 : a.length = b.length) (h2 : b.length = c.length) (k1 : 0 ≤ ordG o a b) (k2 : 0 ≤ ordG o b c) : 0 ≤ ordG o a c := by
  by_cases e1 : ordG o a b = 0
  · rw [og_eq o a b h1 e1]; exact k2
  · by_cases e2 : ordG o b c = 0
    · rw [← og_eq o b c h2 e2]; exact k1
    · have := og_trans o c b a h2.symm h1.symm (by rw [og_anti o b c]; omega) (by rw [og_anti o a b]; omega)
      rw [og_anti o c a]; omega
theorem lead_top (o : List (List Int)) : ∀ (p : List Tm) (t : Tm), L8 (t :: p) → Top o (t :: p) (leadP o t p)
  | [], t, _ => ⟨by simp [leadP], fun u hu => by rw [List.mem_singleton] at hu; subst hu; simp [leadP, og_self]⟩
  | u :: p, t, h => by
    have lt := h t (by simp)
    have lu := h u (by simp)
    simp only [leadP, oc_og]
    by_cases hc : 0 < ordG o u.1 t.1
    · rw [if_pos hc]
      obtain ⟨h1, h2⟩ := lead_top o p u (fun x hx => h x (by simp [List.mem_cons.1 hx]))
      refine ⟨List.mem_cons_of_mem _ h1, fun x hx => ?_⟩
      rcases List.mem_cons.1 hx with rfl | hx
      · have ll := h _ (List.mem_cons_of_mem _ h1)
        exact og_le o (by omega) (by omega) (h2 u (by simp)) (by omega)
      · exact h2 x hx
    · rw [if_neg hc]
      obtain ⟨h1, h2⟩ := lead_top o p t (fun x hx => h x (by rcases List.mem_cons.1 hx with e | e; exact e ▸ List.mem_cons_self; exact List.mem_cons_of_mem _ (List.mem_cons_of_mem _ e)))
      have hmem : leadP o t p ∈ t :: u :: p := by
        rcases List.mem_cons.1 h1 with e | e
        · rw [e]; simp
        · simp [e]
      refine ⟨hmem, fun x hx => ?_⟩
      rcases List.mem_cons.1 hx with rfl | hx
      · exact h2 _ (by simp)
      · rcases List.mem_cons.1 hx with rfl | hx
        · have ll := h _ hmem
          exact og_le o (b := t.1) (by omega) (by omega) (h2 t (by simp)) (by rw [og_anti o x.1 t.1]; omega)
        · exact h2 x (by simp [hx])
theorem ev_single (f : List Int → Rat) {a : Tm} : ∀ {p : List Tm}, Can p → a ∈ p → (∀ t ∈ p, t.1 ≠ a.1 → f t.1 = 0) → ev f p = a.2 * f a.1
  | t :: p, hp, ha, h => by
    have hg := (List.pairwise_cons.1 hp.st).1
    rcases List.mem_cons.1 ha with rfl | ha
    · simp only [ev]
      rw [ev_zero (f := f) (fun u hu => h u (by simp [hu]) (fun e => by have := hg u hu; rw [e, cmpL_self] at this; omega)), Rat.add_zero]
    · simp only [ev]
      rw [h t (by simp) (fun e => by have := hg a ha; rw [e, cmpL_self] at this; omega), Rat.mul_zero, Rat.zero_add]
      exact ev_single f hp.tail ha (fun u hu => h u (by simp [hu]))
theorem coef_mem {p : List Tm} (hp : Can p) {t : Tm} (ht : t ∈ p) : ev (dlt t.1) p = t.2 := by
  rw [ev_single (dlt t.1) hp ht (fun u _ hne => if_neg hne)]
  simp [dlt, Rat.mul_one]
theorem nrLL_o : ∀ (o : List (List Int)), nrLL (o.map eM) = true
  | [] => rfl
  | w :: o => by simp only [List.map_cons, nrLL, nrL_eM, nrLL_o o, Bool.and_self]
theorem bM {m : List Int} (h : m.length = 8) (z : Nat) : boxC (some (z, .box (eM m))) z 0 8 = some (eM m) := by rw [boxC_s _ _ _ _ (by rw [len8 h]; decide), List.drop_zero, take8 h]
theorem bMc {m : List Int} (h : m.length = 8) {i : Nat} (hi : i < 8) (z : Nat) : boxC (some (z, .box (eM m))) z i 1 = some [.i .i64 (m.getD i 0)] := by rw [boxC_s _ _ _ _ (by rw [eM_len]; omega), eM_cell (by omega)]
theorem stM {m : List Int} (h : m.length = 8) {i : Nat} (hi : i < 8) (k : Key) (z : Nat) (x : Int) : boxS (some (z, .box (eM m))) k z i [.i .i64 x] = some (k, z, .box (eM (m.set i x))) := by
  rw [boxS_s _ _ _ _ _ (by rw [eM_len]; simp; omega), splM _ _ _ (by omega)]
theorem w149 (k : Nat) (hk : k < 8) (w : Int) : FnR Go.Proofs.Tryz.prog 149 [.i .i64 (k : Int), .i .i64 w] [] (.a (eM (m0.set k w))) := by
  refine fnr149 (by simp) (nrL_eM _) (by simp) List.nodup_nil fun F out hS => ?_
  have hl : (m0.set k w).length = 8 := by rw [List.length_set]; rfl
  unfold ir149
  simp only [go_sem, sB, reduceCtorEq, sL, sA, sE, sN, z8, len80, drop80, ixaO_p _ _ _ _ _ _ _ hk, Nat.mul_one, stM (m := m0) rfl hk, bM hl, len8 hl, take8 hl, rv149, fin_c]
  exact ⟨_, rfl, .refl _⟩
def wt : List Int → List Int → Int
  | w :: ws, x :: xs => w * x + wt ws xs
  | _, _ => 0
theorem wd_wt : ∀ (w a b : List Int), a.length = b.length → wdot w a b = wt w a - wt w b
  | [], _, _, _ => by simp [wdot, wt]
  | _ :: _, [], [], _ => by simp [wdot, wt]
  | w :: ws, x :: xs, y :: ys, h => by
    simp only [wdot, wt, wd_wt ws xs ys (by simpa using h), Int.mul_sub]; omega
theorem loop109 (w m : List Int) (hw : okRow w) (hm : m.length = 8) (km : m.all okE = true) (F : Nat) (out : Sto) (Q : Ex → St → Prop) (z z' : Nat) : ∀ (k i : Nat) (acc : Int) (nx : Nat), i + k = 8 → -(i * 65535000) ≤ acc → acc ≤ i * 65535000 →
    (∀ r nx, r 5 = .i .i64 (acc + wt (w.drop i) (m.drop i)) → Q (.exit 0) { r := r, own := upd (upd (fun _ => none) 3 (some (z', .box (eM m)))) 2 (some (z, .box (eM w))), out := out, nx := nx }) →
    Loop Go.Proofs.Tryz.prog F [2, 3, 5, 6] [2, 3] b109_0 { r := (upd (upd (upd (upd (fun _ => .u) 6 (.i .i64 i)) 5 (.i .i64 acc)) 3 (.p (F, 3) z' 0)) 2 (.p (F, 2) z 0)), own := upd (upd (fun _ => none) 3 (some (z', .box (eM m)))) 2 (some (z, .box (eM w))), out := out, nx := nx } Q := by
  intro k
  induction k with
  | zero =>
    intro i acc nx hi h1 h2 h0
    refine Loop.stepW ?_
    have : i = 8 := by omega
    subst this
    have c1 : decide (((8 : Nat) : Int) < 8) = false := by decide
    have hd : wt (w.drop 8) (m.drop 8) = 0 := by
      rw [List.drop_eq_nil_iff.2 (show w.length ≤ 8 by rw [hw.1]; omega)]
      rfl
    rw [hd, Int.add_zero] at h0
    simp only [go_sem, sB, reduceCtorEq, sL, sA, sE, sN, wb109_0, c1]
    exact h0 _ _ rfl
  | succ k ih =>
    intro i acc nx hi h1 h2 h0
    refine Loop.stepW ?_
    have hi8 : i < 8 := by omega
    have c1 : decide (((i : Nat) : Int) < 8) = true := decide_eq_true (by omega)
    rw [cons_at (show i < w.length by rw [hw.1]; omega), cons_at (show i < m.length by omega)] at h0
    simp only [wt, ← Int.add_assoc] at h0
    have e1 : IntKind.wrap .i64 (((i : Nat) : Int) + 1) = ((i + 1 : Nat) : Int) := by rw [IntWalk.i64_in _ (by omega)]; omega
    have bw := bMc hw.1 hi8
    have bm := bMc hm hi8
    have q1 := okE_get km i
    have q3 := okRow_get hw i
    generalize m.getD i 0 = x at *
    generalize w.getD i 0 = v at *
    have q4 := mul_bnd q3.1 q3.2 (show -65535 ≤ x by omega) (by omega)
    have e3 : IntKind.wrap .i64 (v * x) = v * x := IntWalk.i64_in _ (by omega)
    have e4 : IntKind.wrap .i64 (acc + v * x) = acc + v * x := IntWalk.i64_in _ (by omega)
    simp only [go_sem, sB, reduceCtorEq, sL, sA, sE, sN, wb109_0, c1, ixaO_p _ _ _ _ _ _ _ hi8, Nat.mul_one, bw, bm, e1, e3, e4]
    exact ih (i + 1) _ _ (by omega) (by omega) (by omega) h0
theorem w109 (w m : List Int) (hw : okRow w) (hm : m.length = 8) (km : m.all okE = true) : FnR Go.Proofs.Tryz.prog 109 [.a (eM w), .a (eM m)] [] (.i .i64 (wt w m)) := by
  refine fnr109 (by simp) rfl (by simp) List.nodup_nil fun F out hS => ?_
  unfold ir109
  simp only [go_sem, sB, reduceCtorEq, sL, sA, sE, sN]
  refine loop109 w m hw hm km F out _ _ _ 8 0 0 _ rfl (by omega) (by omega) (fun r nx r5 => ?_)
  rw [Int.zero_add, List.drop_zero, List.drop_zero] at r5
  simp only [go_sem, sB, reduceCtorEq, sL, sA, sE, sN, r5, rv109, fin_t]
  exact .refl _
theorem loop41 (a b : List Int) (o : List (List Int)) (f : Bool) (ha : a.length = 8) (hb : b.length = 8) (ka : a.all okE = true) (kb : b.all okE = true) (ho : okO o) (hl : o.length ≤ 1000000000) (F : Nat) (out : Sto) (Q : Ex → St → Prop) (z z' : Nat) :
    ∀ (l : List (List Int)) (i : Nat) (nx : Nat), o.drop i = l → i + l.length = o.length →
    (∀ r nx, ordG l a b = cmpL a b → r 4 = .p (F, 4) z 0 → r 5 = .p (F, 5) z' 0 → Q (.exit 0) { r := r, own := upd (upd (fun _ => none) 5 (some (z', .box (eM b)))) 4 (some (z, .box (eM a))), out := out, nx := nx }) →
    (∀ r own nx, r 6 = .i .i64 (ordG l a b) → Q .ret { r := r, own := own, out := out, nx := nx }) →
    Loop Go.Proofs.Tryz.prog F [0, 4, 5, 7] [4, 5] b41_0 { r := (upd (upd (upd (upd (fun _ => .u) 7 (.i .i64 i)) 5 (.p (F, 5) z' 0)) 4 (.p (F, 4) z 0)) 0 (.sl 8 f (o.map eM))), own := upd (upd (fun _ => none) 5 (some (z', .box (eM b)))) 4 (some (z, .box (eM a))), out := out, nx := nx } Q := by
  intro l
  induction l with
  | nil =>
    intro i nx hd hi h0 h1
    refine Loop.stepW ?_
    have ei : i = o.length := by simpa using hi
    subst ei
    have c1 : decide (((o.length : Nat) : Int) < ((o.length : Nat) : Int)) = false := by simp
    simp only [go_sem, sB, reduceCtorEq, sL, sA, sE, sN, wb41_0, List.length_map, c1]
    exact h0 _ _ rfl rfl rfl
  | cons w l ih =>
    intro i nx hd hi h0 h1
    refine Loop.stepW ?_
    simp only [List.length_cons] at hi
    have ht : o[i]? = some w := by
      have := List.getElem?_drop (xs := o) (i := i) (j := 0)
      rw [hd] at this
      simpa using this.symm
    have hw := ho w (List.mem_of_getElem? ht)
    have e1 : IntKind.wrap .i64 (((i : Nat) : Int) + 1) = ((i + 1 : Nat) : Int) := by rw [IntWalk.i64_in _ (by omega)]; omega
    have c1 : decide (((i : Nat) : Int) < ((o.length : Nat) : Int)) = true := decide_eq_true (by omega)
    have hxp := ixsO_sl 8 f (o.map eM) .i64 i (eM w) (by rw [List.getElem?_map, ht]; rfl)
    have ba := bM ha
    have bb := bM hb
    simp only [go_sem, sB, reduceCtorEq, sL, sA, sE, sN, wb41_0, List.length_map, c1, hxp, take8 hw.1, len8 hw.1, ba, bb]
    refine callO_intro (w109 w a hw ha ka) ?_
    simp only [go_sem, sB, reduceCtorEq, sL, sA, sE, sN, wb41_0, c1, hxp, take8 hw.1, len8 hw.1, ba, bb]
    refine callO_intro (w109 w b hw hb kb) ?_
    have hwd := wd_wt w a b (by omega)
    simp only [ordG] at h0 h1
    by_cases g1 : wdot w a b < 0
    · simp only [if_pos g1] at h1
      simp only [go_sem, sB, reduceCtorEq, sL, sA, sE, sN, decide_eq_true (show wt w a < wt w b by omega)]
      exact h1 _ _ _ rfl
    · by_cases g2 : 0 < wdot w a b
      · simp only [if_neg g1, if_pos g2] at h1
        simp only [go_sem, sB, reduceCtorEq, sL, sA, sE, sN, decide_eq_false (show ¬ wt w a < wt w b by omega), decide_eq_true (show wt w a > wt w b by omega)]
        exact h1 _ _ _ rfl
      · simp only [if_neg g1, if_neg g2] at h0 h1
        simp only [go_sem, sB, reduceCtorEq, sL, sA, sE, sN, decide_eq_false (show ¬ wt w a < wt w b by omega), decide_eq_false (show ¬ wt w a > wt w b by omega), e1]
        exact ih (i + 1) _ (by rw [drop_at ht] at hd; injection hd) (by omega) h0 h1
theorem w41 (o : List (List Int)) (f : Bool) (a b : List Int) (ha : a.length = 8) (hb : b.length = 8) (ka : a.all okE = true) (kb : b.all okE = true) (ho : okO o) (hl : o.length ≤ 1000000000) :
    FnR Go.Proofs.Tryz.prog 41 [.sl 8 f (o.map eM), .a (eM a), .a (eM b)] [] (.i .i64 (ordG o a b)) := by
  refine fnr41 (by simp) rfl (by simp) List.nodup_nil fun F out hS => ?_
  have ba := bM ha
  have bb := bM hb
  unfold ir41
  simp only [go_sem, sB, reduceCtorEq, sL, sA, sE, sN]
  refine loop41 a b o f ha hb ka kb ho hl F out _ _ _ o 0 _ rfl (by omega) (fun r nx hn r4 r5 => ?_) (fun r own nx r6 => ?_)
  · simp only [go_sem, sB, reduceCtorEq, sL, sA, sE, sN, r4, r5, ba, bb]
    refine callO_intro (w73 a b ha hb) ?_
    simp only [go_sem, sB, reduceCtorEq, sL, sA, sE, sN, rv41, fin_t, hn]
    exact .refl _
  · simp only [go_sem, sB, reduceCtorEq, sL, sA, sE, sN, rv41, fin_t, r6]
    exact .refl _
def revR : Nat → List (List Int)
  | 0 => []
  | k + 1 => m0.set (k + 1) (-1) :: revR k
def ones : List Int := List.replicate 8 1
theorem map_app8 (rows : List (List Int)) (w : List Int) : rows.map eM ++ [eM w] = (rows ++ [w]).map eM := by simp
theorem loop102 (F : Nat) (out : Sto) (Q : Ex → St → Prop) :
    ∀ (k : Nat) (rows : List (List Int)) (own : Nat → Option (Nat × Obj)) (z nx : Nat), k ≤ 7 → rows.length + k ≤ 20 → own 12 = some (z, .row 8 (rows.map eM)) → OwnB own nx →
    (∀ r d own nx, RowD F [12] own d 8 ((rows ++ revR k).map eM) → r 1 = d → Q (.exit 0) { r := r, own := own, out := out, nx := nx }) →
    Loop Go.Proofs.Tryz.prog F [1, 2] [12] b102_0 { r := (upd (upd (fun _ => .u) 2 (.i .i64 k)) 1 (.w (F, 12) z 8 0 rows.length)), own := own, out := out, nx := nx } Q := by
  intro k
  induction k with
  | zero =>
    intro rows own z nx hk hr h12 hO h0
    refine Loop.stepW ?_
    simp only [go_sem, sB, reduceCtorEq, sL, sA, sE, sN, wb102_0, show decide (((0 : Nat) : Int) > 0) = false from rfl]
    refine h0 _ _ _ _ ?_ rfl
    rw [revR, List.append_nil]
    exact .at (by simp) (by simp [upd, h12]) (by simp)
  | succ k ih =>
    intro rows own z nx hk hr h12 hO h0
    refine Loop.stepW ?_
    have e1 : IntKind.wrap .i64 (((k + 1 : Nat) : Int) - 1) = ((k : Nat) : Int) := by rw [IntWalk.i64_in _ (by omega)]; omega
    have hl : (m0.set (k + 1) (-1)).length = 8 := by rw [List.length_set]; rfl
    simp only [go_sem, sB, reduceCtorEq, sL, sA, sE, sN, wb102_0, decide_eq_true (show (((k + 1 : Nat) : Int) > 0) by omega), h12]
    refine callO_intro (w149 (k + 1) (by omega) (-1)) ?_
    simp only [go_sem, sB, reduceCtorEq, sL, sA, sE, sN, len8 hl, h12]
    have z12 := hO _ _ _ h12
    refine appO_R (S := [12]) (es := rows.map eM) (.at (by simp) (by simp [upd, h12]) (by simp)) (by dsimp only; repeat' first | exact OwnB.none _ | refine OwnB.updn ?_ (by omega) | refine OwnB.upd0 ?_ | refine OwnB.updv (own := own) ?_ (hO.mono (by omega))) (by simp) (by simp; omega) (by simp; omega) (fun own' hb hoth hs => ?_)
    rw [map_app8] at hs
    simp only [go_sem, sB, reduceCtorEq, sL, sA, sE, sN, e1, List.length_map]
    refine ih (rows ++ [m0.set (k + 1) (-1)]) _ _ _ (by omega) (by simp; omega) ?_ ?_ (fun r d own nx hR hd => ?_) |> fun h => by simpa only [List.length_append, List.length_cons, List.length_nil, List.length_map] using h
    · simpa [upd] using hs
    · exact (OwnB.none _).updv (hb.mono (by dsimp only; omega))
    · refine h0 r d own nx ?_ hd
      rw [revR]
      simpa [List.append_assoc] using hR
def revO : List (List Int) := ones :: revR 7
theorem w102 : FnR Go.Proofs.Tryz.prog 102 [] [] (.sl 8 false (revO.map eM)) := by
  refine fnr102 (by simp) (nrLL_o _) (by simp) List.nodup_nil fun F out hS => ?_
  have hl : (m0.set 7 (-1)).length = 8 := rfl
  have e1 : IntKind.wrap .i64 (7 - 1) = ((6 : Nat) : Int) := IntWalk.i64_in _ (by omega)
  have hw := w149 7 (by omega) (-1)
  unfold ir102
  simp only [go_sem, sB, reduceCtorEq, sL, sA, sE, sN]
  refine callO_intro w65 ?_
  simp only [go_sem, sB, reduceCtorEq, sL, sA, sE, sN]
  refine Loop.stepW ?_
  simp only [go_sem, sB, reduceCtorEq, sL, sA, sE, sN, wb102_0, show decide ((7 : Int) > 0) = true from rfl]
  refine callO_intro hw ?_
  simp only [go_sem, sB, reduceCtorEq, sL, sA, sE, sN, len8 hl]
  refine appO_sl (P := Go.Proofs.Tryz.prog) (by simp) (by simp) (by simp) (by simp only [go_sem, sB, reduceCtorEq, sL, sA, sE, sN]) ?_
  simp only [go_sem, sB, reduceCtorEq, sL, sA, sE, sN, e1]
  refine loop102 F out _ 6 [ones, m0.set 7 (-1)] _ 5 _ (by omega) (by simp) ?_ ?_ (fun r d own nx hR hd => ?_)
  · rfl
  · exact (OwnB.none _).updn (by omega)
  · simp only [go_sem, sB, reduceCtorEq, sL, sA, sE, sN, hd]
    refine frz_R (S := [12]) (hR.on (by simp [upd])) rfl (fun f' own' nx' => ?_)
    simp only [go_sem, sB, reduceCtorEq, sL, sA, sE, sN, rv102, fin_t]
    exact weak_full _ _ _
theorem andu1 (n : Nat) (h : n < 256) : bits .and .u8 (n : Int) 1 = ((n % 2 : Nat) : Int) := by
  have := u8_and_nat n 1 h (by omega)
  rw [Nat.and_one_is_mod] at this
  exact this
theorem w150 (mask k : Nat) (hm : mask < 256) (hk : k < 8) : FnR Go.Proofs.Tryz.prog 150 [.i .u8 (mask : Int), .i .i64 (k : Int)] [] (.b (decide (mask / 2 ^ k % 2 = 1))) := by
  refine fnr150 (by simp) rfl (by simp) List.nodup_nil fun F out hS => ?_
  have e0 : IntKind.wrap .u64 ((k : Nat) : Int) = ((k : Nat) : Int) := IntWalk.u64_in _ (by omega)
  have e1 := shr_c .u8 .u64 mask k (k : Int) rfl (by show k ≤ 8; omega)
  have hlt : mask / 2 ^ k < 256 := Nat.lt_of_le_of_lt (Nat.div_le_self _ _) hm
  have e2 := andu1 _ hlt
  have e3 : (((mask / 2 ^ k % 2 : Nat) : Int) == 1) = decide (mask / 2 ^ k % 2 = 1) := by
    by_cases h : mask / 2 ^ k % 2 = 1
    · rw [h]; rfl
    · rw [decide_eq_false h, beq_eq_false_iff_ne]; omega
  unfold ir150
  simp only [go_sem, sB, reduceCtorEq, sL, sA, sE, sN, e0, e1, e2, e3, rv150, fin_t]
  exact .refl _
def elR (mask : Nat) : Nat → List Int
  | 0 => m0
  | k + 1 => if mask / 2 ^ k % 2 = 1 then (elR mask k).set k 1 else elR mask k
theorem elR_len (mask : Nat) : ∀ k, (elR mask k).length = 8
  | 0 => rfl
  | k + 1 => by simp only [elR]; split <;> simp [elR_len mask k]
theorem elR_ok (mask : Nat) : ∀ k, ∀ x ∈ elR mask k, -1000 ≤ x ∧ x ≤ 1000
  | 0, x, hx => by have := List.eq_of_mem_replicate (show x ∈ List.replicate 8 (0 : Int) from hx); omega
  | k + 1, x, hx => by
    simp only [elR] at hx
    split at hx
    · rcases List.mem_or_eq_of_mem_set hx with hx | rfl
      · exact elR_ok mask k x hx
      · omega
    · exact elR_ok mask k x hx
theorem loop103 (mask : Nat) (hm : mask < 256) (F : Nat) (out : Sto) (Q : Ex → St → Prop) (z : Nat) : ∀ (c i : Nat) (nx : Nat), i + c = 8 →
    (∀ r nx, r 3 = .p (F, 3) z 0 → Q (.exit 0) { r := r, own := upd (fun _ => none) 3 (some (z, .box (eM (elR mask 8)))), out := out, nx := nx }) →
    Loop Go.Proofs.Tryz.prog F [0, 3, 4] [3] b103_0 { r := (upd (upd (upd (fun _ => .u) 4 (.i .i64 i)) 3 (.p (F, 3) z 0)) 0 (.i .u8 (mask : Int))), own := upd (fun _ => none) 3 (some (z, .box (eM (elR mask i)))), out := out, nx := nx } Q := by
  intro c
  induction c with
  | zero =>
    intro i nx hi h0
    refine Loop.stepW ?_
    have : i = 8 := by omega
    subst this
    have c1 : decide (((8 : Nat) : Int) < 8) = false := by decide
    simp only [go_sem, sB, reduceCtorEq, sL, sA, sE, sN, wb103_0, c1]
    exact h0 _ _ rfl
  | succ c ih =>
    intro i nx hi h0
    refine Loop.stepW ?_
    have hi8 : i < 8 := by omega
    have c1 : decide (((i : Nat) : Int) < 8) = true := decide_eq_true (by omega)
    have e1 : IntKind.wrap .i64 (((i : Nat) : Int) + 1) = ((i + 1 : Nat) : Int) := by rw [IntWalk.i64_in _ (by omega)]; omega
    have ih' := ih (i + 1)
    simp only [elR] at ih'
    simp only [go_sem, sB, reduceCtorEq, sL, sA, sE, sN, wb103_0, c1]
    refine callO_intro (w150 mask i hm hi8) ?_
    by_cases h : mask / 2 ^ i % 2 = 1
    · rw [if_pos h] at ih'
      simp only [go_sem, sB, reduceCtorEq, sL, sA, sE, sN, decide_eq_true h, ixaO_p _ _ _ _ _ _ _ hi8, Nat.mul_one, stM (elR_len mask i) hi8, e1]
      exact ih' _ (by omega) h0
    · rw [if_neg h] at ih'
      simp only [go_sem, sB, reduceCtorEq, sL, sA, sE, sN, decide_eq_false h, e1]
      exact ih' _ (by omega) h0
def elO (mask : Nat) : List (List Int) := elR mask 8 :: revO
theorem w103 (mask : Nat) (hm : mask < 256) : FnR Go.Proofs.Tryz.prog 103 [.i .u8 (mask : Int)] [] (.sl 8 false ((elO mask).map eM)) := by
  refine fnr103 (by simp) (nrLL_o _) (by simp) List.nodup_nil fun F out hS => ?_
  have hl := elR_len mask 8
  unfold ir103
  simp only [go_sem, sB, reduceCtorEq, sL, sA, sE, sN, z8, len80, drop80]
  refine loop103 mask hm F out _ _ 8 0 _ rfl (fun r nx r3 => ?_)
  simp only [go_sem, sB, reduceCtorEq, sL, sA, sE, sN, r3, bM hl, len8 hl, take8 hl]
  refine callO_intro w102 ?_
  simp only [go_sem, sB, reduceCtorEq, sL, sA, sE, sN]
  refine appO_sl (P := Go.Proofs.Tryz.prog) (by simp [revO]) (by simp [revO, revR]) (by simp [revO, revR]) (by simp only [go_sem, sB, reduceCtorEq, sL, sA, sE, sN]) ?_
  have hle : 0 + (1 + (revO.map eM).length) ≤ (eM (elR mask 8) :: revO.map eM).length := by simp only [List.length_cons]; omega
  have htk : (eM (elR mask 8) :: revO.map eM).take (1 + (revO.map eM).length) = eM (elR mask 8) :: revO.map eM := List.take_of_length_le (by simp only [List.length_cons]; omega)
  simp only [go_sem, sB, reduceCtorEq, sL, sA, sE, sN, frzR_s _ _ _ _ _ _ _ _ hle, htk, rv103, fin_t]
  exact .refl _
theorem ok_rev : ∀ k, k ≤ 7 → okO (revR k)
  | 0, _ => fun w hw => by simp [revR] at hw
  | k + 1, h => fun w hw => by
    rcases List.mem_cons.1 hw with rfl | hw
    · refine ⟨by rw [List.length_set]; rfl, fun x hx => ?_⟩
      rcases List.mem_or_eq_of_mem_set hx with hx | rfl
      · have := List.eq_of_mem_replicate (show x ∈ List.replicate 8 (0 : Int) from hx); omega
      · omega
    · exact ok_rev k (by omega) w hw
theorem ok_ones : okRow ones := ⟨rfl, fun x hx => by have := List.eq_of_mem_replicate hx; omega⟩
theorem ok_revO : okO revO := fun w hw => (List.mem_cons.1 hw).elim (fun e => e ▸ ok_ones) (ok_rev 7 (by omega) w)
theorem ok_elO (mask : Nat) : okO (elO mask) := fun w hw => (List.mem_cons.1 hw).elim (fun e => e ▸ ⟨elR_len mask 8, elR_ok mask 8⟩) (ok_revO w)
theorem w36 (n : Int) (h1 : 0 ≤ n) (h2 : n ≤ 255) : ∃ (o : List (List Int)) (f : Bool), okO o ∧ o.length ≤ 9 ∧ FnR Go.Proofs.Tryz.prog 36 [.i .u8 n] [] (.sl 8 f (o.map eM)) := by
  have hrem := e_rem .u8 n 5 (by omega)
  have b1 := Int.tmod_lt_of_pos n (show (0 : Int) < 5 by omega)
  have b2 := Int.tmod_nonneg (5 : Int) h1
  have cases5 : Int.tmod n 5 = 0 ∨ Int.tmod n 5 = 1 ∨ Int.tmod n 5 = 2 ∨ Int.tmod n 5 = 3 ∨ Int.tmod n 5 = 4 := by omega
  rcases cases5 with h | h | h | h | h
  · refine ⟨[], true, fun w hw => by simp at hw, by simp, fnr36 (by simp) rfl (by simp) List.nodup_nil fun F out hS => ?_⟩
    unfold ir36
    simp only [go_sem, sB, reduceCtorEq, sL, sA, sE, sN, hrem, h, show ((0 : Int) == 1) = false from rfl, show ((0 : Int) == 2) = false from rfl, show ((0 : Int) == 3) = false from rfl, show ((0 : Int) == 4) = false from rfl]
    refine callO_intro w66 ?_
    simp only [go_sem, sB, reduceCtorEq, sL, sA, sE, sN, rv36, fin_t]
    exact .refl _
  · refine ⟨[ones], true, fun w hw => by rw [List.mem_singleton] at hw; exact hw ▸ ok_ones, by simp, fnr36 (by simp) rfl (by simp) List.nodup_nil fun F out hS => ?_⟩
    unfold ir36
    simp only [go_sem, sB, reduceCtorEq, sL, sA, sE, sN, hrem, h, show ((1 : Int) == 1) = true from rfl]
    refine callO_intro w65 ?_
    simp only [go_sem, sB, reduceCtorEq, sL, sA, sE, sN, rv36, fin_t]
    exact .refl _
  · refine ⟨revO, false, ok_revO, by simp [revO, revR], fnr36 (by simp) (nrLL_o _) (by simp) List.nodup_nil fun F out hS => ?_⟩
    unfold ir36
    simp only [go_sem, sB, reduceCtorEq, sL, sA, sE, sN, hrem, h, show ((2 : Int) == 1) = false from rfl, show ((2 : Int) == 2) = true from rfl]
    refine callO_intro w102 ?_
    simp only [go_sem, sB, reduceCtorEq, sL, sA, sE, sN, rv36, fin_t]
    exact .refl _
  · refine ⟨elO 1, false, ok_elO 1, by simp [elO, revO, revR], fnr36 (by simp) (nrLL_o _) (by simp) List.nodup_nil fun F out hS => ?_⟩
    unfold ir36
    simp only [go_sem, sB, reduceCtorEq, sL, sA, sE, sN, hrem, h, show ((3 : Int) == 1) = false from rfl, show ((3 : Int) == 2) = false from rfl, show ((3 : Int) == 3) = true from rfl]
    refine callO_intro (w103 1 (by omega)) ?_
    simp only [go_sem, sB, reduceCtorEq, sL, sA, sE, sN, rv36, fin_t]
    exact .refl _
  · refine ⟨elO 2, false, ok_elO 2, by simp [elO, revO, revR], fnr36 (by simp) (nrLL_o _) (by simp) List.nodup_nil fun F out hS => ?_⟩
    unfold ir36
    simp only [go_sem, sB, reduceCtorEq, sL, sA, sE, sN, hrem, h, show ((4 : Int) == 1) = false from rfl, show ((4 : Int) == 2) = false from rfl, show ((4 : Int) == 3) = false from rfl, show ((4 : Int) == 4) = true from rfl]
    refine callO_intro (w103 2 (by omega)) ?_
    simp only [go_sem, sB, reduceCtorEq, sL, sA, sE, sN, rv36, fin_t]
    exact .refl _
def zt : List D := [.b false, .sl 1 true [], .b false, .sl 1 true [], .i .i64 0, .i .i64 0, .i .i64 0, .i .i64 0, .i .i64 0, .i .i64 0, .i .i64 0, .i .i64 0]
theorem get_mid {α : Type} (xs ys : List α) (y : α) {i : Nat} (h : xs.length = i) : (xs ++ y :: ys)[i]? = some y := by
  rw [List.getElem?_append_right (by omega), h, Nat.sub_self]; rfl
theorem set_mid {α : Type} (xs ys : List α) (y v : α) {i : Nat} (h : xs.length = i) : (xs ++ y :: ys).set i v = (xs ++ [v]) ++ ys := by
  rw [List.set_append_right _ _ (by omega), h, Nat.sub_self]; simp
theorem loop42 (c : Rat) (m : List Int) (p : List Tm) (f : Bool) {A : Nat} (hm : m.length = 8) (km : m.all okE = true) (hp : PB A p) (kp : PM p) (hc : LQ c ≤ 549755813888) (hA : A ≤ 549755813888) (hl : p.length ≤ 1000000000) (F : Nat) (out : Sto) (Q : Ex → St → Prop) (z3 z4 z : Nat) :
    ∀ (l : List Tm) (i : Nat) (res : List Tm) (nx : Nat), p.drop i = l → i + l.length = p.length → res.length = i →
    (fitP m l = true → ∀ r nx, r 8 = .w (F, 18) z 12 0 p.length → Q (.exit 0) { r := r, own := upd (upd (upd (fun _ => none) 18 (some (z, .row 12 ((res ++ mulT c m l).map eT)))) 4 (some (z4, .box (eM m)))) 3 (some (z3, .box (rC c))), out := out, nx := nx }) →
    (fitP m l = false → ∀ r own nx, r 6 = .sl 12 true [] → r 7 = .i .i64 2 → Q .ret { r := r, own := own, out := out, nx := nx }) →
    Loop Go.Proofs.Tryz.prog F [3, 4, 8, 19, 20, 21] [3, 4, 18] b42_0 { r := (upd (upd (upd (upd (upd (upd (fun _ => .u) 21 (.i .i64 i)) 20 (.i .i64 p.length)) 19 (eP f p)) 8 (.w (F, 18) z 12 0 p.length)) 4 (.p (F, 4) z4 0)) 3 (.p (F, 3) z3 0)), own := upd (upd (upd (fun _ => none) 18 (some (z, .row 12 (res.map eT ++ List.replicate l.length zt)))) 4 (some (z4, .box (eM m)))) 3 (some (z3, .box (rC c))), out := out, nx := nx } Q := by
  intro l
  induction l with
  | nil =>
    intro i res nx hd hi hres h0 h1
    refine Loop.stepW ?_
    have ei : i = p.length := by simpa using hi
    subst ei
    have c1 : decide (((p.length : Nat) : Int) < ((p.length : Nat) : Int)) = false := by simp
    have e : res.map eT ++ List.replicate ([] : List Tm).length zt = (res ++ mulT c m []).map eT := by simp [mulT]
    rw [e]
    simp only [go_sem, sB, reduceCtorEq, sL, sA, sE, sN, wb42_0, c1]
    exact h0 rfl _ _ rfl
  | cons t l ih =>
    intro i res nx hd hi hres h0 h1
    refine Loop.stepW ?_
    simp only [List.length_cons] at hi
    have ht : p[i]? = some t := by
      have := List.getElem?_drop (xs := p) (i := i) (j := 0)
      rw [hd] at this
      simpa using this.symm
    have hin : i < p.length := by omega
    have e1 : IntKind.wrap .i64 (((i : Nat) : Int) + 1) = ((i + 1 : Nat) : Int) := by rw [IntWalk.i64_in _ (by omega)]; omega
    have c1 : decide (((i : Nat) : Int) < ((p.length : Nat) : Int)) = true := decide_eq_true (by omega)
    have hT := (hp.get ht).1
    have hxp := ixsO_sl 12 f _ .i64 i _ (eP_at ht)
    have hl8 := mMul_len hm hT
    have bt : ∀ z, boxC (some (z, .box (eT t))) z 4 8 = some (eM t.1) := fun z => by rw [boxC_s _ _ _ _ (by rw [eT_len hT]; decide), dropT, take8 hT]
    have bt' : ∀ z, boxC (some (z, .box (eT t))) z 0 4 = some (rC t.2) := fun z => by rw [boxC_s _ _ _ _ (by rw [eT_len hT]; decide), List.drop_zero, takeT4]
    rw [List.length_cons, List.replicate_succ]
    simp only [go_sem, sB, reduceCtorEq, sL, sA, sE, sN, wb42_0, eP, c1, hxp, takeT hT, eT_len hT, bM hm, bt]
    refine callO_intro (w74 m t.1 hm hT km (kp.get ht)) ?_
    cases hf : (mMul m t.1).all okE with
    | false =>
      have hff : fitP m (t :: l) = false := by simp [fitP, hf]
      simp only [go_sem, sB, reduceCtorEq, sL, sA, sE, sN, z8, len80, drop80, show ((2 : Int) != 0) = true from rfl]
      exact h1 hff _ _ _ rfl rfl
    | true =>
      have hfe : fitP m (t :: l) = fitP m l := by simp [fitP, hf]
      rw [hfe] at h0 h1
      simp only [go_sem, sB, reduceCtorEq, sL, sA, sE, sN, eP_len, z8, len80, len8 hl8, drop80, show ((0 : Int) != 0) = false from rfl, bt', takeC, rC_len, dropC]
      refine callO_intro (q76 c t.2 hc (by have := (hp.get ht).2; omega)) ?_
      have hg := get_mid (res.map eT) (List.replicate l.length zt) zt (i := i) (by simpa using hres)
      have hs := set_mid (res.map eT) (List.replicate l.length zt) zt (eT (mMul m t.1, c * t.2)) (i := i) (by simpa using hres)
      have h12 : (eT (mMul m t.1, c * t.2)).length = 12 := eT_len (t := (mMul m t.1, c * t.2)) hl8
      have hsp : splice zt 0 (eT (mMul m t.1, c * t.2)) = eT (mMul m t.1, c * t.2) := by
        unfold splice
        rw [h12]; simp [zt]
      simp only [go_sem, sB, reduceCtorEq, sL, sA, sE, sN, rW_C, rC_len, takeC, bM hl8, z8, fillT2 _ _ hl8, ixsO_w _ _ _ _ _ _ _ hin, rowS_s, hg, rowSE_s zt _ _ _ _ _ 0 _ (show 0 + (eT (mMul m t.1, c * t.2)).length ≤ zt.length by rw [h12]; decide), hsp, hs, e1, h12]
      have e2 : res.map eT ++ [eT (mMul m t.1, c * t.2)] = (res ++ [(mMul m t.1, c * t.2)]).map eT := by simp
      rw [e2]
      refine ih (i + 1) (res ++ [(mMul m t.1, c * t.2)]) _ (by rw [drop_at ht] at hd; injection hd) (by omega) (by simp; omega) (fun hf r nx r8 => ?_) h1
      have := h0 hf r nx r8
      simpa only [mulT, List.map_cons, app_assoc1] using this
theorem w42 (c : Rat) (m : List Int) (p : List Tm) (f : Bool) {A : Nat} (hm : m.length = 8) (km : m.all okE = true) (hp : PB A p) (kp : PM p) (hc : LQ c ≤ 549755813888) (hA : A ≤ 549755813888) (hl : p.length ≤ 1000000000) :
    FnR Go.Proofs.Tryz.prog 42 [rW c, .a (eM m), eP f p] [] (.t [eP false (timP c m p).1, .i .i64 (timP c m p).2]) := by
  refine fnr42 (by simp) (nr_t2 _ _ _) (by simp) List.nodup_nil fun F out hS => ?_
  unfold ir42
  simp only [go_sem, sB, reduceCtorEq, sL, sA, sE, sN, rW_C, rC_len, takeC, dropC]
  refine callO_intro (q68 c) ?_
  by_cases h : c = 0
  · have e : timP c m p = ([], 0) := if_pos h
    rw [e]
    simp only [go_sem, sB, reduceCtorEq, sL, sA, sE, sN, sgn0 h, rv42, fin_t2]
    exact .t (.cons (weak_full _ _ _) (.refl _))
  · have e : timP c m p = if fitP m p then (mulT c m p, 0) else ([], 2) := if_neg h
    rw [e]
    simp only [go_sem, sB, reduceCtorEq, sL, sA, sE, sN, sgn1 h, eP, eP_len]
    refine mkO_intro (Nat.le_refl _) (by omega) (by omega) ?_
    simp only [go_sem, sB, reduceCtorEq, sL, sA, sE, sN, eP_len]
    refine loop42 c m p f hm km hp kp hc hA hl F out _ _ _ _ p 0 [] _ rfl (by omega) rfl (fun hf r nx r8 => ?_) (fun hf r own nx r6 r7 => ?_)
    · rw [List.nil_append]
      have hle : 0 + p.length ≤ ((mulT c m p).map eT).length := by simp [mulT]
      have htk : ((mulT c m p).map eT).take p.length = (mulT c m p).map eT := List.take_of_length_le (by simp [mulT])
      simp only [go_sem, sB, reduceCtorEq, sL, sA, sE, sN, r8, frzR_s _ _ _ _ _ _ _ _ hle, htk, rv42, fin_t2, hf]
      exact .refl _
    · simp only [go_sem, sB, reduceCtorEq, sL, sA, sE, sN, r6, r7, rv42, fin_t2, hf]
      exact .t (.cons (weak_full _ _ _) (.refl _))
theorem LQ_inv (a : Rat) : LQ a⁻¹ ≤ LQ a := by
  by_cases h : a = 0
  · rw [h, Rat.inv_zero]; exact Nat.le_refl _
  · have hn : a.num ≠ 0 := fun e => h (Rat.num_eq_zero.1 e)
    have h1 := LQ_num (a.den : Int) a.num hn
    have h2 := LQ_den (a.den : Int) a.num hn
    rw [← Rat.inv_def] at h1 h2
    unfold LQ LZ at *
    rw [Int.natAbs_natCast] at h1
    omega
theorem w37_0 (o : List (List Int)) (f g : Bool) : FnR Go.Proofs.Tryz.prog 37 [eP g [], .sl 8 f (o.map eM)] [] (.sl 12 true []) := by
  refine fnr37 (by simp) rfl (by simp) List.nodup_nil fun F out hS => ?_
  unfold ir37
  simp only [go_sem, sB, reduceCtorEq, sL, sA, sE, sN]
  refine callO_intro (w38_0 o f g) ?_
  simp only [go_sem, sB, reduceCtorEq, sL, sA, sE, sN, rv37, fin_t]
  exact .refl _
theorem fit_0 (p : List Tm) (hp : L8 p) (kp : PM p) : fitP m0 p = true := by
  refine List.all_eq_true.2 fun t ht => ?_
  rw [mMul_0 _ (hp t ht)]; exact kp t ht
theorem w37 (o : List (List Int)) (t : Tm) (p : List Tm) (f g : Bool) {A : Nat} (hp : PB A (t :: p)) (kp : PM (t :: p)) (ho : okO o) (hlo : o.length ≤ 1000000000) (hl : (t :: p).length ≤ 1000000000) (hA : A ≤ 549755813888) (hz : ∀ u ∈ t :: p, u.2 ≠ 0) :
    FnR Go.Proofs.Tryz.prog 37 [eP g (t :: p), .sl 8 f (o.map eM)] [] (eP false (mulT (leadP o t p).2⁻¹ m0 (t :: p))) := by
  refine fnr37 (by simp) (nr_eP _ _) (by simp) List.nodup_nil fun F out hS => ?_
  have hlead := (lead_top o p t hp.len).mem
  have h8 := hp.len _ hlead
  have hq := hp.lq _ hlead
  have hne := hz _ hlead
  have hl38 := w38 o t p f g hp kp ho (by omega) (by omega)
  generalize leadP o t p = a at *
  have ba : ∀ z, boxC (some (z, .box (eT a))) z 0 4 = some (rC a.2) := fun z => by rw [boxC_s _ _ _ _ (by rw [eT_len h8]; decide), List.drop_zero, takeT4]
  have hi := LQ_inv a.2
  have hi0 : a.2⁻¹ ≠ 0 := fun e => hne (by have := Rat.inv_inv a.2; rw [e, Rat.inv_zero] at this; exact this.symm)
  have hw := w42 a.2⁻¹ m0 (t :: p) g (A := A) rfl (by decide) hp kp (by omega) hA hl
  have e : timP a.2⁻¹ m0 (t :: p) = (mulT a.2⁻¹ m0 (t :: p), 0) := by
    unfold timP
    rw [if_neg hi0, if_pos (fit_0 _ hp.len kp)]
  rw [e] at hw
  unfold ir37
  simp only [go_sem, sB, reduceCtorEq, sL, sA, sE, sN]
  refine callO_intro hl38 ?_
  simp only [go_sem, sB, reduceCtorEq, sL, sA, sE, sN, eT_len h8, takeT h8, ba]
  refine callO_intro (q104 a.2 hne (by omega)) ?_
  simp only [go_sem, sB, reduceCtorEq, sL, sA, sE, sN, rW_C, rC_len, takeC, dropC, z8]
  refine callO_intro hw ?_
  simp only [go_sem, sB, reduceCtorEq, sL, sA, sE, sN, rv37, fin_t]
  exact .refl _
def supp (i : Nat) : List Int → Nat → Nat
  | [], a => a
  | x :: m, a => supp (i + 1) m (if 0 < x then a ||| 2 ^ i else a)
theorem supp_lt : ∀ (m : List Int) (i a : Nat), i + m.length ≤ 8 → a < 256 → supp i m a < 256
  | [], _, _, _, h => h
  | x :: m, i, a, hi, h => by
    rw [supp]
    rw [List.length_cons] at hi
    refine supp_lt m (i + 1) _ (by omega) ?_
    split
    · exact Nat.or_lt_two_pow (n := 8) h (Nat.pow_lt_pow_right (by omega) (by omega))
    · exact h
theorem loop110 (m : List Int) (hm : m.length = 8) (F : Nat) (out : Sto) (Q : Ex → St → Prop) : ∀ (c i a : Nat) (nx : Nat), i + c = 8 → a < 256 →
    (∀ r nx, r 3 = .i .u8 ((supp i (m.drop i) a : Nat) : Int) → Q (.exit 0) { r := r, own := fun _ => none, out := out, nx := nx }) →
    Loop Go.Proofs.Tryz.prog F [3, 6, 7] [] b110_0 { r := (upd (upd (upd (fun _ => .u) 7 (.i .i64 i)) 6 (.a (eM m))) 3 (.i .u8 (a : Int))), own := fun _ => none, out := out, nx := nx } Q := by
  intro c
  induction c with
  | zero =>
    intro i a nx hi ha h0
    refine Loop.stepW ?_
    have : i = 8 := by omega
    subst this
    have c1 : decide (((8 : Nat) : Int) < 8) = false := by decide
    rw [List.drop_of_length_le (by omega)] at h0
    simp only [go_sem, sB, reduceCtorEq, sL, sA, sE, sN, wb110_0, c1]
    exact h0 _ _ rfl
  | succ c ih =>
    intro i a nx hi ha h0
    refine Loop.stepW ?_
    have hi8 : i < 8 := by omega
    have c1 : decide (((i : Nat) : Int) < 8) = true := decide_eq_true (by omega)
    have e1 : IntKind.wrap .i64 (((i : Nat) : Int) + 1) = ((i + 1 : Nat) : Int) := by rw [IntWalk.i64_in _ (by omega)]; omega
    have hx := ixvO_m m 8 i .i64 hi8 (by omega)
    have hp2 : 2 ^ i < 256 := Nat.pow_lt_pow_right (n := 8) (by omega) hi8
    have hsh : evBin .shl (.i .u8 1) (.i .i64 ((i : Nat) : Int)) = some (.i .u8 ((2 ^ i : Nat) : Int)) := by
      rw [e_shl _ _ _ _ (by omega), Int.toNat_natCast, Nat.min_eq_left (show i ≤ IntKind.bits .u8 by show i ≤ 8; omega), Int.one_mul]
      rw [show ((2 : Int) ^ i) = ((2 ^ i : Nat) : Int) by simp]
      generalize 2 ^ i = q at hp2 ⊢
      rw [IntWalk.u8_in _ (by omega)]
    have hor := u8_or_nat a (2 ^ i) ha hp2
    have hlt : a ||| 2 ^ i < 256 := Nat.or_lt_two_pow (n := 8) ha hp2
    rw [cons_at (show i < m.length by omega), supp] at h0
    by_cases hg : 0 < m.getD i 0
    · rw [if_pos hg] at h0
      simp only [go_sem, sB, reduceCtorEq, sL, sA, sE, sN, wb110_0, c1, hx, decide_eq_true (show m.getD i 0 > 0 from hg), hsh, hor, e1]
      exact ih (i + 1) _ _ (by omega) hlt h0
    · rw [if_neg hg] at h0
      simp only [go_sem, sB, reduceCtorEq, sL, sA, sE, sN, wb110_0, c1, hx, decide_eq_false (show ¬ m.getD i 0 > 0 from hg), e1]
      exact ih (i + 1) _ _ (by omega) ha h0
theorem w110 (m : List Int) (hm : m.length = 8) : FnR Go.Proofs.Tryz.prog 110 [.a (eM m)] [] (.i .u8 ((supp 0 m 0 : Nat) : Int)) := by
  refine fnr110 (by simp) rfl (by simp) List.nodup_nil fun F out hS => ?_
  unfold ir110
  simp only [go_sem, sB, reduceCtorEq, sL, sA, sE, sN, len8 hm, take8 hm]
  refine loop110 m hm F out _ 8 0 0 _ rfl (by omega) (fun r nx r3 => ?_)
  rw [List.drop_zero] at r3
  simp only [go_sem, sB, reduceCtorEq, sL, sA, sE, sN, r3, rv110, fin_t]
  exact .refl _
def usesP : List Tm → Nat → Nat
  | [], a => a
  | t :: p, a => usesP p (a ||| supp 0 t.1 0)
theorem loop43 (p : List Tm) (f : Bool) {A : Nat} (hp : PB A p) (hlp : p.length ≤ 1000000000) (F : Nat) (out : Sto) (Q : Ex → St → Prop) : ∀ (l : List Tm) (i a : Nat) (nx : Nat), p.drop i = l → i + l.length = p.length → a < 256 →
    (∀ r nx, r 3 = .i .u8 ((usesP l a : Nat) : Int) → Q (.exit 0) { r := r, own := fun _ => none, out := out, nx := nx }) →
    Loop Go.Proofs.Tryz.prog F [3, 6, 7, 8] [] b43_0 { r := (upd (upd (upd (upd (fun _ => .u) 8 (.i .i64 i)) 7 (.i .i64 p.length)) 6 (eP f p)) 3 (.i .u8 (a : Int))), own := fun _ => none, out := out, nx := nx } Q := by
  intro l
  induction l with
  | nil =>
    intro i a nx hd hi ha h0
    refine Loop.stepW ?_
    have ei : i = p.length := by simpa using hi
    subst ei
    have c1 : decide (((p.length : Nat) : Int) < ((p.length : Nat) : Int)) = false := by simp
    simp only [go_sem, sB, reduceCtorEq, sL, sA, sE, sN, wb43_0, c1]
    exact h0 _ _ rfl
  | cons t l ih =>
    intro i a nx hd hi ha h0
    refine Loop.stepW ?_
    simp only [List.length_cons] at hi
    have ht : p[i]? = some t := by
      have := List.getElem?_drop (xs := p) (i := i) (j := 0)
      rw [hd] at this
      simpa using this.symm
    have e1 : IntKind.wrap .i64 (((i : Nat) : Int) + 1) = ((i + 1 : Nat) : Int) := by rw [IntWalk.i64_in _ (by omega)]; omega
    have c1 : decide (((i : Nat) : Int) < ((p.length : Nat) : Int)) = true := decide_eq_true (by omega)
    have hT := (hp.get ht).1
    have hxp := ixsO_sl 12 f _ .i64 i _ (eP_at ht)
    have bt : ∀ z, boxC (some (z, .box (eT t))) z 4 8 = some (eM t.1) := fun z => by rw [boxC_s _ _ _ _ (by rw [eT_len hT]; decide), dropT, take8 hT]
    have hs := supp_lt t.1 0 0 (by rw [hT]; omega) (by omega)
    have hor := u8_or_nat a (supp 0 t.1 0) ha hs
    simp only [go_sem, sB, reduceCtorEq, sL, sA, sE, sN, wb43_0, eP, c1, hxp, takeT hT, eT_len hT, bt]
    refine callO_intro (w110 t.1 hT) ?_
    simp only [go_sem, sB, reduceCtorEq, sL, sA, sE, sN, hor, e1]
    exact ih (i + 1) _ _ (by rw [drop_at ht] at hd; injection hd) (by omega) (Nat.or_lt_two_pow (n := 8) ha hs) h0
theorem w43 (p : List Tm) (f : Bool) {A : Nat} (hp : PB A p) (hlp : p.length ≤ 1000000000) : FnR Go.Proofs.Tryz.prog 43 [eP f p] [] (.i .u8 ((usesP p 0 : Nat) : Int)) := by
  refine fnr43 (by simp) rfl (by simp) List.nodup_nil fun F out hS => ?_
  unfold ir43
  simp only [go_sem, sB, reduceCtorEq, sL, sA, sE, sN, eP, eP_len]
  refine loop43 p f hp hlp F out _ p 0 0 _ rfl (by omega) (by omega) (fun r nx r3 => ?_)
  simp only [go_sem, sB, reduceCtorEq, sL, sA, sE, sN, r3, rv43, fin_t]
  exact .refl _
def vb (Qs : List (List Tm)) (m : List Int) (i : Nat) : Bool := decide (0 < m.getD i 0) && decide (Qs.getD i [] = [])
def vix (b : Nat → Bool) : Nat → Nat → Int
  | 0, _ => -1
  | c + 1, i => if b i then (i : Int) else vix b c (i + 1)
def van (Qs : List (List Tm)) (m : List Int) : Bool := decide (vix (vb Qs m) 8 0 ≥ 0)
structure SubOk (p : List Tm) (Qs : List (List Tm)) (R : Nat → Nat → List Tm) (N : Nat) (T : Tm → Nat → List Tm) : Prop where
  lenQ : Qs.length = 8
  R0 : ∀ i, R i 0 = cP 1
  Rs : ∀ i, i < 8 → ∀ n, n < N → Qs.getD i [] ≠ [] → ∀ f, FnR Go.Proofs.Tryz.prog 18 [eP f (R i n), eP false (Qs.getD i [])] [] (.t [eP false (R i (n + 1)), .i .i64 0])
  ex : ∀ t ∈ p, t.1.length = 8 ∧ ∀ i, i < 8 → ∃ n : Nat, t.1.getD i 0 = (n : Int) ∧ n ≤ N
  T0 : ∀ t ∈ p, T t 0 = cP t.2
  Ts : ∀ t ∈ p, van Qs t.1 = false → ∀ i, i < 8 → ∀ f g, FnR Go.Proofs.Tryz.prog 18 [eP f (T t i), eP g (R i (t.1.getD i 0).toNat)] [] (.t [eP false (T t (i + 1)), .i .i64 0])
open Classical in
noncomputable def prodP (p q : List Tm) : List Tm := if h : ∃ r, Can r ∧ IsProd p q r then Classical.choose h else []
theorem prodP_eq {p q r : List Tm} (hr : Can r) (h : IsProd p q r) : prodP p q = r := by
  have hex : ∃ r, Can r ∧ IsProd p q r := ⟨r, hr, h⟩
  unfold prodP
  rw [dif_pos hex]
  have := Classical.choose_spec hex
  exact can_eq this.1 hr (fun f => by rw [this.2 f, h f])
theorem ev_match {p : List Tm} (hp : Can p) {A : Nat} (hA : ∀ t ∈ p, LQ t.2 ≤ A) (f : List Int → Rat) (hf : ∀ m, f m = 0 ∨ f m = 1) (h1 : ∀ t ∈ p, ∀ u ∈ p, f t.1 = 1 → f u.1 = 1 → t.1 = u.1) : LQ (ev f p) ≤ A + 1 := by
  by_cases h : ∃ t ∈ p, f t.1 = 1
  · obtain ⟨t, ht, h2⟩ := h
    rw [ev_single f hp ht (fun u hu hne => (hf u.1).resolve_right (fun h3 => hne (h1 u hu t ht h3 h2))), h2, Rat.mul_one]
    exact Nat.le_succ_of_le (hA t ht)
  · rw [ev_zero (fun t ht => (hf t.1).resolve_right (fun h3 => h ⟨t, ht, h3⟩))]
    have := LQ_0; omega
theorem ev_sum_lq {A B : Nat} (f : List Int → Rat) : ∀ (q : List Tm), (∀ t ∈ q, LQ t.2 ≤ A) → (∀ t ∈ q, LQ (f t.1) ≤ B) → LQ (ev f q) ≤ q.length * (A + B + 1) + 1
  | [], _, _ => by have := LQ_0; simp only [ev]; omega
  | t :: q, h1, h2 => by
    have ih := ev_sum_lq f q (fun u hu => h1 u (by simp [hu])) (fun u hu => h2 u (by simp [hu]))
    have h3 := h1 t (by simp)
    have h4 := h2 t (by simp)
    have h5 := LQ_mul t.2 (f t.1)
    have h6 := LQ_add (t.2 * f t.1) (ev f q)
    have h7 : (q.length + 1) * (A + B + 1) = q.length * (A + B + 1) + (A + B + 1) := by rw [Nat.add_mul, Nat.one_mul]
    simp only [ev, List.length_cons]; omega
theorem prod_lq {p q r : List Tm} (hp : Can p) (hq : Can q) (hr : Can r) (h : IsProd p q r) {A1 A2 n2 : Nat} (h1 : ∀ t ∈ p, LQ t.2 ≤ A1) (h2 : ∀ t ∈ q, LQ t.2 ≤ A2) (hn : q.length ≤ n2) : ∀ t ∈ r, LQ t.2 ≤ n2 * (A1 + A2 + 2) + 1 := by
  intro t ht
  rw [← coef_mem hr ht, h, ev_swap (fun m n => dlt t.1 (mMul m n)) q p]
  have := ev_sum_lq (A := A2) (B := A1 + 1) (fun n => ev (fun m => dlt t.1 (mMul m n)) p) q h2 (fun u hu => ev_match hp h1 _ (fun m => by unfold dlt; split <;> simp) (fun a ha b hb e1 e2 => by
    have la := hp.len a ha
    have lb := hp.len b hb
    have lu := hq.len u hu
    have f1 : mMul a.1 u.1 = t.1 := by
      apply Classical.byContradiction
      intro hne
      simp only [dlt, if_neg hne] at e1
      exact absurd e1 (by decide)
    have f2 : mMul b.1 u.1 = t.1 := by
      apply Classical.byContradiction
      intro hne
      simp only [dlt, if_neg hne] at e2
      exact absurd e2 (by decide)
    have hc := cmp_add a.1 b.1 u.1 (by omega) (by omega)
    rw [f1, f2, cmpL_self] at hc
    exact cmpL_eq _ _ (by omega) hc.symm))
  have hm : q.length * (A2 + (A1 + 1) + 1) ≤ n2 * (A1 + A2 + 2) := by
    rw [show A2 + (A1 + 1) + 1 = A1 + A2 + 2 by omega]; exact Nat.mul_le_mul_right _ hn
  omega
theorem mul_c {e1 e2 A1 A2 n1 n2 M : Nat} {p q : List Tm} (hp : Pl e1 A1 n1 p) (hq : Pl e2 A2 n2 q) (he : e1 + e2 ≤ 65535) (hn : n1 * n2 ≤ 1000000000) (h1 : n1 ≤ 1000000000) (h2 : n2 ≤ 1000000000) (hA1 : A1 ≤ M) (hA2 : A2 ≤ M) (hM : M ≤ 549755813888) (hB : n1 * (n2 * (2 * M + 1)) ≤ 549755813888) :
    Pl (e1 + e2) (n2 * (A1 + A2 + 2) + 1) (n1 * n2) (prodP p q) ∧ IsProd p q (prodP p q) ∧ ∀ f g, FnR Go.Proofs.Tryz.prog 18 [eP f p, eP g q] [] (.t [eP false (prodP p q), .i .i64 0]) := by
  obtain ⟨r, lr, ir, cr⟩ := mul_ex (hp.mono (Nat.le_refl _) hA1 (Nat.le_refl _)) (hq.mono (Nat.le_refl _) hA2 (Nat.le_refl _)) he hn h1 h2 hM hB
  rw [prodP_eq lr.can ir]
  exact ⟨⟨lr.can, lr.ex, prod_lq hp.can hq.can lr.can ir hp.lq hq.lq hq.ln, lr.ln⟩, ir, cr⟩
def Mq (q : List Tm) (f : List Int → Rat) : List Int → Rat := fun m => ev (fun n => f (mMul m n)) q
def itM (q : List Tm) : Nat → (List Int → Rat) → (List Int → Rat)
  | 0, f => f
  | n + 1, f => Mq q (itM q n f)
theorem mq_comm (a b : List Tm) (f : List Int → Rat) : Mq a (Mq b f) = Mq b (Mq a f) := by
  funext m
  unfold Mq
  rw [ev_swap (fun n k => f (mMul (mMul m n) k)) b a]
  refine ev_congr fun t _ => ev_congr fun u _ => ?_
  rw [mMul_assoc, mMul_comm u.1 t.1, ← mMul_assoc]
theorem mq_prod {a b r : List Tm} (h : IsProd a b r) (f : List Int → Rat) : Mq r f = Mq a (Mq b f) := by
  funext m
  unfold Mq
  rw [h]
  refine ev_congr fun t _ => ev_congr fun u _ => ?_
  rw [mMul_assoc]
theorem it_comm (a q : List Tm) : ∀ (n : Nat) (f : List Int → Rat), Mq a (itM q n f) = itM q n (Mq a f)
  | 0, _ => rfl
  | n + 1, f => by simp only [itM]; rw [mq_comm, it_comm a q n f]
def Nn (m : List Int) : Prop := m.length = 8 ∧ ∀ x ∈ m, 0 ≤ x
def NnP (q : List Tm) : Prop := ∀ t ∈ q, Nn t.1
def EqN (f g : List Int → Rat) : Prop := ∀ m, Nn m → f m = g m
theorem Nn.mul {a b : List Int} (ha : Nn a) (hb : Nn b) : Nn (mMul a b) := by
  refine ⟨mMul_len ha.1 hb.1, fun x hx => ?_⟩
  obtain ⟨ha1, ha2⟩ := ha
  obtain ⟨hb1, hb2⟩ := hb
  have key : ∀ (a b : List Int), (∀ x ∈ a, 0 ≤ x) → (∀ x ∈ b, 0 ≤ x) → ∀ x ∈ mMul a b, 0 ≤ x := by
    intro a
    induction a with
    | nil => intro b _ _ x hx; simp [mMul] at hx
    | cons y a ih =>
      intro b h1 h2 x hx
      cases b with
      | nil => simp [mMul] at hx
      | cons z b =>
        have e : mMul (y :: a) (z :: b) = (y + z) :: mMul a b := rfl
        rw [e] at hx
        rcases List.mem_cons.1 hx with rfl | hx
        · have := h1 y (by simp); have := h2 z (by simp); omega
        · exact ih b (fun w hw => h1 w (by simp [hw])) (fun w hw => h2 w (by simp [hw])) x hx
  exact key a b ha2 hb2 x hx
theorem Pl.nn {e A n : Nat} {p : List Tm} (h : Pl e A n p) : NnP p := fun t ht => ⟨h.can.len t ht, fun x hx => (h.ex t ht x hx).1⟩
theorem mMul_0r {m : List Int} (h : m.length = 8) : mMul m m0 = m := by rw [mMul_comm]; exact mMul_0 m h
theorem mq_one (f : List Int → Rat) : EqN (Mq (cP 1) f) f := by
  intro m hm
  have e : cP 1 = [(m0, 1)] := if_neg (by decide)
  unfold Mq
  rw [e]
  simp only [ev]
  rw [mMul_0r hm.1, Rat.one_mul, Rat.add_zero]
noncomputable def powP (q : List Tm) : Nat → List Tm
  | 0 => cP 1
  | n + 1 => prodP (powP q n) q
noncomputable def chn (v q : List Tm) : Nat → List Tm
  | 0 => v
  | n + 1 => prodP (chn v q n) q
def sz (nQ AQ A0 : Nat) : Nat → Nat
  | 0 => A0
  | s + 1 => nQ * (sz nQ AQ A0 s + AQ + 2) + 1
def ps (m : List Int) : Nat → Nat
  | 0 => 0
  | i + 1 => ps m i + (m.getD i 0).toNat
structure Cap (eQ AQ nQ A0 S : Nat) : Prop where
  n1 : 1 ≤ nQ
  a1 : 1 ≤ A0
  ex : eQ * S ≤ 65535
  ln : nQ ^ S ≤ 1000000000
  aq : AQ ≤ sz nQ AQ A0 S
  m : sz nQ AQ A0 S ≤ 549755813888
  b : nQ ^ S * (2 * sz nQ AQ A0 S + 1) ≤ 549755813888
theorem sz_le {nQ AQ A0 : Nat} (h : 1 ≤ nQ) (s : Nat) : sz nQ AQ A0 s ≤ sz nQ AQ A0 (s + 1) := by
  have : 1 * (sz nQ AQ A0 s + AQ + 2) ≤ nQ * (sz nQ AQ A0 s + AQ + 2) := Nat.mul_le_mul_right _ h
  simp only [sz]; omega
theorem sz_mono {nQ AQ A0 : Nat} (h : 1 ≤ nQ) {s S : Nat} (hs : s ≤ S) : sz nQ AQ A0 s ≤ sz nQ AQ A0 S := by
  induction S with
  | zero => rw [show s = 0 by omega]; exact Nat.le_refl _
  | succ S ih =>
    by_cases h1 : s = S + 1
    · rw [h1]; exact Nat.le_refl _
    · exact Nat.le_trans (ih (by omega)) (sz_le h S)
theorem sz_a0 {nQ AQ A0 : Nat} (h : 1 ≤ A0) : ∀ s, sz nQ AQ 1 s ≤ sz nQ AQ A0 s
  | 0 => h
  | s + 1 => by
    have := sz_a0 (nQ := nQ) (AQ := AQ) h s
    simp only [sz]
    have : nQ * (sz nQ AQ 1 s + AQ + 2) ≤ nQ * (sz nQ AQ A0 s + AQ + 2) := Nat.mul_le_mul_left _ (by omega)
    omega
theorem Cap.pow {eQ AQ nQ A0 S : Nat} (c : Cap eQ AQ nQ A0 S) {s : Nat} (h : s ≤ S) : nQ ^ s ≤ nQ ^ S := Nat.pow_le_pow_right c.n1 h
section
variable {eQ AQ nQ A0 S : Nat}
theorem stepQ (c : Cap eQ AQ nQ A0 S) {B s : Nat} (hB : B ≤ A0) (hs : s + 1 ≤ S) {v q : List Tm} (hv : Pl (eQ * s) (sz nQ AQ B s) (nQ ^ s) v) (hq : Pl eQ AQ nQ q) (hBs : sz nQ AQ B s ≤ sz nQ AQ A0 S) :
    Pl (eQ * (s + 1)) (sz nQ AQ B (s + 1)) (nQ ^ (s + 1)) (prodP v q) ∧ IsProd v q (prodP v q) ∧ ∀ f g, FnR Go.Proofs.Tryz.prog 18 [eP f v, eP g q] [] (.t [eP false (prodP v q), .i .i64 0]) := by
  have hp := c.pow hs
  have hp0 : nQ ^ s * nQ = nQ ^ (s + 1) := (Nat.pow_succ ..).symm
  have hp1 : nQ ^ s * 1 ≤ nQ ^ s * nQ := Nat.mul_le_mul_left _ c.n1
  have hp2 : 1 * nQ ≤ nQ ^ s * nQ := Nat.mul_le_mul_right _ (Nat.pow_pos c.n1)
  have he : eQ * s + eQ = eQ * (s + 1) := by rw [Nat.mul_add, Nat.mul_one]
  have he2 : eQ * (s + 1) ≤ eQ * S := Nat.mul_le_mul_left _ hs
  have hb : nQ ^ (s + 1) * (2 * sz nQ AQ A0 S + 1) ≤ nQ ^ S * (2 * sz nQ AQ A0 S + 1) := Nat.mul_le_mul_right _ hp
  have cb := c.b
  have cl := c.ln
  have cx := c.ex
  have := mul_c (M := sz nQ AQ A0 S) hv hq (by omega) (by omega) (by omega) (by omega) hBs c.aq c.m (by rw [← Nat.mul_assoc, hp0]; omega)
  rw [he, hp0] at this
  exact this
theorem pow_c (c : Cap eQ AQ nQ A0 S) {q : List Tm} (hq : Pl eQ AQ nQ q) : ∀ n, n ≤ S → Pl (eQ * n) (sz nQ AQ 1 n) (nQ ^ n) (powP q n) ∧ ∀ f, EqN (Mq (powP q n) f) (itM q n f)
  | 0, _ => ⟨(cP_pl LQ_1).mono (by omega) (Nat.le_refl _) (by simp), fun f => mq_one f⟩
  | n + 1, h => by
    obtain ⟨h1, h2⟩ := pow_c c hq n (by omega)
    have hm : sz nQ AQ 1 n ≤ sz nQ AQ A0 S := Nat.le_trans (sz_a0 c.a1 n) (sz_mono c.n1 (by omega))
    obtain ⟨k1, k2, _⟩ := stepQ c c.a1 h h1 hq hm
    refine ⟨k1, fun f m hm => ?_⟩
    have e : powP q (n + 1) = prodP (powP q n) q := rfl
    rw [e, mq_prod k2 f]
    rw [h2 (Mq q f) m hm]
    simp only [itM]
    rw [it_comm]
end
theorem tim_ev {c : Rat} {m : List Int} {p : List Tm} (hf : fitP m p = true) (f : List Int → Rat) : ev f (timP c m p).1 = c * ev (fun n => f (mMul m n)) p ∧ (timP c m p).2 = 0 := by
  unfold timP
  by_cases h : c = 0
  · rw [if_pos h, h, Rat.zero_mul]; exact ⟨rfl, rfl⟩
  · rw [if_neg h, if_pos hf]
    refine ⟨?_, rfl⟩
    clear hf
    induction p with
    | nil => simp [mulT, ev, Rat.mul_zero]
    | cons t p ih =>
      have e : mulT c m (t :: p) = (mMul m t.1, c * t.2) :: mulT c m p := rfl
      rw [e]
      simp only [ev] at ih ⊢
      rw [ih, Rat.mul_add, Rat.mul_assoc]
theorem tim_can {c : Rat} {m : List Int} {p : List Tm} (hc : c ≠ 0) (hm : m.length = 8) (hp : Can p) : Can (timP c m p).1 := by
  unfold timP
  rw [if_neg hc]
  split
  · refine ⟨fun t ht => ?_, fun t ht => ?_, ?_⟩
    · obtain ⟨u, hu, rfl⟩ := List.mem_map.1 ht
      exact mMul_len hm (hp.len u hu)
    · obtain ⟨u, hu, rfl⟩ := List.mem_map.1 ht
      exact fun h => (Rat.mul_eq_zero.1 h).elim hc (hp.nz u hu)
    · refine List.pairwise_map.2 (List.Pairwise.imp_of_mem (fun {a b} ha hb h => ?_) hp.st)
      have la := hp.len a ha
      have lb := hp.len b hb
      rw [mMul_comm m a.1, mMul_comm m b.1, cmp_add _ _ _ (by omega) (by omega)]
      exact h
  · exact Can.nil
theorem mulR_c {q : List Tm} (hq : Can q) : ∀ (l res : List Tm), Can l → Can res → (∀ t ∈ l, fitP t.1 q = true) → (mulR res l q).2 = 0 ∧ Can (mulR res l q).1 ∧ ∀ f, ev f (mulR res l q).1 = ev f res + ev (Mq q f) l
  | [], res, _, hr, _ => ⟨rfl, hr, fun f => by simp [mulR, ev, Rat.add_zero]⟩
  | t :: l, res, hl, hr, hf => by
    have h0 := hf t (by simp)
    have hc := tim_can (hl.nz t (by simp)) (hl.len t (by simp)) hq
    have e0 := (tim_ev (c := t.2) h0 (fun _ => 0)).2
    simp only [mulR]
    rw [if_pos e0]
    obtain ⟨k1, k2, k3⟩ := mulR_c hq l (addP res (timP t.2 t.1 q).1) hl.tail (can_add hr hc) (fun u hu => hf u (by simp [hu]))
    refine ⟨k1, k2, fun f => ?_⟩
    rw [k3, ev_addP f hr.len hc.len, (tim_ev h0 f).1]
    simp only [ev, Mq]
    rw [Rat.add_assoc]
theorem fit_pl {e1 e2 A1 A2 n1 n2 : Nat} {p q : List Tm} (hp : Pl e1 A1 n1 p) (hq : Pl e2 A2 n2 q) (he : e1 + e2 ≤ 65535) : ∀ t ∈ p, fitP t.1 q = true := by
  intro t ht
  refine List.all_eq_true.2 fun u hu => List.all_eq_true.2 fun x hx => ?_
  have := mMul_ex (hp.ex t ht) (hq.ex u hu) x hx
  simp only [okE, decide_eq_true_eq]
  omega
theorem mulP_eq {e1 e2 A1 A2 n1 n2 : Nat} {p q : List Tm} (hp : Pl e1 A1 n1 p) (hq : Pl e2 A2 n2 q) (he : e1 + e2 ≤ 65535) : mulP p q = (prodP p q, 0) := by
  obtain ⟨k1, k2, k3⟩ := mulR_c hq.can p [] hp.can Can.nil (fit_pl hp hq he)
  refine Prod.ext (prodP_eq k2 fun f => ?_).symm k1
  show ev f (mulR [] p q).1 = _
  rw [k3 f]
  simp only [ev, Rat.zero_add]; rfl
theorem mul_r {e1 e2 A1 A2 n1 n2 M : Nat} {p q : List Tm} (hp : Pl e1 A1 n1 p) (hq : Pl e2 A2 n2 q) (he : e1 + e2 ≤ 65535) (hA1 : A1 ≤ M) (hA2 : A2 ≤ M) (hB : (n1 + 1) * (2 * M + 1) ≤ 549755813888) (hL : n1 + (n1 + 1) * n2 ≤ 1000000000000) :
    ∀ f g, FnR Go.Proofs.Tryz.prog 115 [eP f p, eP g q] [] (.t [eP false (prodP p q), .i .i64 0]) := by
  intro f g
  have hln := hp.ln
  have hlq := hq.ln
  have m1 : (p.length + 1) * (2 * M + 1) ≤ (n1 + 1) * (2 * M + 1) := Nat.mul_le_mul_right _ (by omega)
  have m2 : (p.length + 1) * q.length ≤ (n1 + 1) * n2 := Nat.mul_le_mul (by omega) hlq
  have := w115 p q f g (A := M) (hp.pb.mono hA1) (hq.pb.mono hA2) (hp.pm (by omega)) (hq.pm (by omega)) (by omega) (by omega)
  rw [mulP_eq hp hq he] at this
  exact this
theorem loop121 (m : List Int) (hm : m.length = 8) (km : m.all okE = true) (F : Nat) (out : Sto) (Q : Ex → St → Prop) (z : Nat) : ∀ (k i : Nat) (acc : Int) (nx : Nat), i + k = 8 → 0 ≤ acc → acc ≤ i * 65535 →
    (∀ r nx, r 3 = .i .i64 (acc + (m.drop i).sum) → Q (.exit 0) { r := r, own := upd (fun _ => none) 1 (some (z, .box (eM m))), out := out, nx := nx }) →
    Loop Go.Proofs.Tryz.prog F [1, 3, 4] [1] b121_0 { r := (upd (upd (upd (fun _ => .u) 4 (.i .i64 i)) 3 (.i .i64 acc)) 1 (.p (F, 1) z 0)), own := upd (fun _ => none) 1 (some (z, .box (eM m))), out := out, nx := nx } Q := by
  intro k
  induction k with
  | zero =>
    intro i acc nx hi ha hb h0
    refine Loop.stepW ?_
    have : i = 8 := by omega
    subst this
    have c1 : decide (((8 : Nat) : Int) < 8) = false := by decide
    have hd : m.drop 8 = [] := by rw [List.drop_eq_nil_iff]; omega
    rw [hd, List.sum_nil, Int.add_zero] at h0
    simp only [go_sem, sB, reduceCtorEq, sL, sA, sE, sN, wb121_0, c1]
    exact h0 _ _ rfl
  | succ k ih =>
    intro i acc nx hi ha hb h0
    refine Loop.stepW ?_
    have hi8 : i < 8 := by omega
    have c1 : decide (((i : Nat) : Int) < 8) = true := decide_eq_true (by omega)
    rw [cons_at (show i < m.length by omega), List.sum_cons, ← Int.add_assoc] at h0
    have e2 : IntKind.wrap .i64 (((i : Nat) : Int) + 1) = ((i + 1 : Nat) : Int) := by rw [IntWalk.i64_in _ (by omega)]; omega
    have hx := bMc hm hi8 z
    have hb2 := okE_get km i
    generalize m.getD i 0 = x at *
    have e3 : IntKind.wrap .i64 (acc + x) = acc + x := IntWalk.i64_in _ (by omega)
    simp only [go_sem, sB, reduceCtorEq, sL, sA, sE, sN, wb121_0, c1, ixaO_p _ _ _ _ _ _ _ hi8, Nat.mul_one, hx, e2, e3]
    exact ih (i + 1) _ _ (by omega) (by omega) (by omega) h0
theorem w121 (m : List Int) (hm : m.length = 8) (km : m.all okE = true) : FnR Go.Proofs.Tryz.prog 121 [.a (eM m)] [] (.i .i64 m.sum) := by
  refine fnr121 (by simp) rfl (by simp) List.nodup_nil fun F out hS => ?_
  unfold ir121
  simp only [go_sem, sB, reduceCtorEq, sL, sA, sE, sN]
  refine loop121 m hm km F out _ _ 8 0 0 _ (by omega) (by omega) (by omega) (fun r nx r3 => ?_)
  rw [Int.zero_add, List.drop_zero] at r3
  simp only [go_sem, sB, reduceCtorEq, sL, sA, sE, sN, r3, rv121, fin_t]
  exact .refl _
theorem loop61 (p : List Tm) (f : Bool) {A : Nat} (hp : PB A p) (kp : PM p) (hl : p.length ≤ 1000000000) (F : Nat) (out : Sto) (Q : Ex → St → Prop) :
    ∀ (l : List Tm) (i : Nat) (d : Int) (nx : Nat), p.drop i = l → i + l.length = p.length →
    (∀ r nx, r 3 = .i .i64 (degP d l) → Q (.exit 0) { r := r, own := fun _ => none, out := out, nx := nx }) →
    Loop Go.Proofs.Tryz.prog F [0, 3, 4] [] b61_0 { r := (upd (upd (upd (fun _ => .u) 4 (.i .i64 i)) 3 (.i .i64 d)) 0 (eP f p)), own := fun _ => none, out := out, nx := nx } Q := by
  intro l
  induction l with
  | nil =>
    intro i d nx hd hi h0
    refine Loop.stepW ?_
    have ei : i = p.length := by simpa using hi
    subst ei
    have c1 : decide (((p.length : Nat) : Int) < ((p.length : Nat) : Int)) = false := by simp
    simp only [go_sem, sB, reduceCtorEq, sL, sA, sE, sN, wb61_0, eP, eP_len, c1]
    exact h0 _ _ rfl
  | cons t l ih =>
    intro i d nx hd hi h0
    refine Loop.stepW ?_
    simp only [List.length_cons] at hi
    have ht : p[i]? = some t := by
      have := List.getElem?_drop (xs := p) (i := i) (j := 0)
      rw [hd] at this
      simpa using this.symm
    have e1 : IntKind.wrap .i64 (((i : Nat) : Int) + 1) = ((i + 1 : Nat) : Int) := by rw [IntWalk.i64_in _ (by omega)]; omega
    have c1 : decide (((i : Nat) : Int) < ((p.length : Nat) : Int)) = true := decide_eq_true (by omega)
    have hT := hp.get ht
    have hxp := ixsO_sl 12 f _ .i64 i _ (eP_at ht)
    simp only [go_sem, sB, reduceCtorEq, sL, sA, sE, sN, wb61_0, eP_len, eP, c1, hxp, dropT, eT_len hT.1, len8 hT.1, take8 hT.1]
    refine callO_intro (w121 t.1 hT.1 (kp.get ht)) ?_
    simp only [go_sem, sB, reduceCtorEq, sL, sA, sE, sN, e1]
    exact ih (i + 1) _ _ (by rw [drop_at ht] at hd; injection hd) (by omega) h0
theorem w61 (p : List Tm) (f : Bool) {A : Nat} (hp : PB A p) (kp : PM p) (hl : p.length ≤ 1000000000) : FnR Go.Proofs.Tryz.prog 61 [eP f p] [] (.i .i64 (degP (-1) p)) := by
  refine fnr61 (by simp) rfl (by simp) List.nodup_nil fun F out hS => ?_
  unfold ir61
  simp only [go_sem, sB, reduceCtorEq, sL, sA, sE, sN]
  refine loop61 p f hp kp hl F out _ p 0 _ _ rfl (by omega) (fun r nx r3 => ?_)
  simp only [go_sem, sB, reduceCtorEq, sL, sA, sE, sN, r3, rv61, fin_t]
  exact .refl _
structure RubOk (p : List Tm) (Qs : List (List Tm)) (T : Tm → Nat → List Tm) : Prop where
  lenQ : Qs.length = 8
  ex : ∀ t ∈ p, t.1.length = 8 ∧ ∀ i, i < 8 → ∃ n : Nat, t.1.getD i 0 = (n : Int) ∧ n ≤ 1000000
  T0 : ∀ t ∈ p, T t 0 = cP t.2
  Ts : ∀ t ∈ p, ∀ i, i < 8 → chn (T t i) (Qs.getD i []) (t.1.getD i 0).toNat = T t (i + 1)
  Rs : ∀ t ∈ p, ∀ i, i < 8 → ∀ j, j < (t.1.getD i 0).toNat → ∀ f g, FnR Go.Proofs.Tryz.prog 115 [eP f (chn (T t i) (Qs.getD i []) j), eP g (Qs.getD i [])] [] (.t [eP false (chn (T t i) (Qs.getD i []) (j + 1)), .i .i64 0])
def DG (S : Nat) (p : List Tm) : Prop := ∀ t ∈ p, ps t.1 8 ≤ S
theorem sum_mono' {p q : List Tm} {t : Tm} (ht : t ∈ addP p q) : (∃ u ∈ p, u.1 = t.1) ∨ ∃ u ∈ q, u.1 = t.1 :=
  mrg_all (P := fun t => (∃ u ∈ p, u.1 = t.1) ∨ ∃ u ∈ q, u.1 = t.1) (fun t h => h) (fun t u h _ => h) _ p q (fun t ht => .inl ⟨t, ht, rfl⟩) (fun t ht => .inr ⟨t, ht, rfl⟩) t ht
theorem DG.add {S : Nat} {p q : List Tm} (hp : DG S p) (hq : DG S q) : DG S (addP p q) := by
  intro t ht
  rcases sum_mono' ht with ⟨u, hu, e⟩ | ⟨u, hu, e⟩
  · rw [← e]; exact hp u hu
  · rw [← e]; exact hq u hu
def zs : List D := [.sl 12 true []]
def IsI (C : Nat) (x : Rat) : Prop := ∃ z : Int, x = (z : Rat) ∧ z.natAbs ≤ C
theorem IsI.add {C D : Nat} {x y : Rat} (hx : IsI C x) (hy : IsI D y) : IsI (C + D) (x + y) := by
  obtain ⟨a, rfl, ha⟩ := hx
  obtain ⟨b, rfl, hb⟩ := hy
  exact ⟨a + b, (Rat.intCast_add a b).symm, by omega⟩
theorem IsI.mul {C D : Nat} {x y : Rat} (hx : IsI C x) (hy : IsI D y) : IsI (C * D) (x * y) := by
  obtain ⟨a, rfl, ha⟩ := hx
  obtain ⟨b, rfl, hb⟩ := hy
  exact ⟨a * b, (Rat.intCast_mul a b).symm, by rw [Int.natAbs_mul]; exact Nat.mul_le_mul ha hb⟩
theorem IsI.mono {C D : Nat} {x : Rat} (hx : IsI C x) (h : C ≤ D) : IsI D x := by
  obtain ⟨a, e, ha⟩ := hx
  exact ⟨a, e, by omega⟩
theorem loop53 (q : List Tm) (g : Bool) (n : Nat) (hn : n ≤ 64) (hs : ∀ k, k < n → ∀ f, FnR Go.Proofs.Tryz.prog 18 [eP f (powP q k), eP g q] [] (.t [eP false (powP q (k + 1)), .i .i64 0])) (F : Nat) (out : Sto) (Q : Ex → St → Prop) : ∀ (c i : Nat) (f : Bool) (nx : Nat), i + c = n →
    (∀ r f nx, r 6 = eP f (powP q n) → r 7 = .i .i64 0 → Q (.exit 0) { r := r, own := fun _ => none, out := out, nx := nx }) →
    Loop Go.Proofs.Tryz.prog F [0, 1, 6, 7, 8] [] b53_0 { r := (upd (upd (upd (upd (upd (fun _ => .u) 8 (.i .i64 i)) 7 (.i .i64 0)) 6 (eP f (powP q i))) 1 (.i .i64 n)) 0 (eP g q)), own := fun _ => none, out := out, nx := nx } Q := by
  intro c
  induction c with
  | zero =>
    intro i f nx hi h0
    refine Loop.stepW ?_
    have : i = n := by omega
    subst this
    have c1 : decide (((i : Nat) : Int) < ((i : Nat) : Int)) = false := by simp
    simp only [go_sem, sB, reduceCtorEq, sL, sA, sE, sN, wb53_0, c1]
    exact h0 _ f _ rfl rfl
  | succ c ih =>
    intro i f nx hi h0
    refine Loop.stepW ?_
    have c1 : decide (((i : Nat) : Int) < ((n : Nat) : Int)) = true := decide_eq_true (by omega)
    have e1 : IntKind.wrap .i64 (((i : Nat) : Int) + 1) = ((i + 1 : Nat) : Int) := by rw [IntWalk.i64_in _ (by omega)]; omega
    simp only [go_sem, sB, reduceCtorEq, sL, sA, sE, sN, wb53_0, c1, show ((0 : Int) == 0) = true from rfl]
    refine callO_intro (hs i (by omega) f) ?_
    simp only [go_sem, sB, reduceCtorEq, sL, sA, sE, sN, e1]
    exact ih (i + 1) false _ (by omega) h0
theorem w53 (q : List Tm) (g : Bool) (n : Nat) (hn : n ≤ 64) (hs : ∀ k, k < n → ∀ f, FnR Go.Proofs.Tryz.prog 18 [eP f (powP q k), eP g q] [] (.t [eP false (powP q (k + 1)), .i .i64 0])) :
    FnR Go.Proofs.Tryz.prog 53 [eP g q, .i .i64 (n : Int)] [] (.t [eP false (powP q n), .i .i64 0]) := by
  refine fnr53 (by simp) (nr_t2 _ _ _) (by simp) List.nodup_nil fun F out hS => ?_
  have e1 : ((1 : Int) : Rat) = 1 := rfl
  unfold ir53
  simp only [go_sem, sB, reduceCtorEq, sL, sA, sE, sN, decide_eq_false (show ¬ ((n : Nat) : Int) < 0 by omega), decide_eq_false (show ¬ ((n : Nat) : Int) > 64 by omega)]
  refine callO_intro (q85 1 (by omega) (by omega)) ?_
  rw [e1]
  simp only [go_sem, sB, reduceCtorEq, sL, sA, sE, sN]
  refine callO_intro (w22 1) ?_
  simp only [go_sem, sB, reduceCtorEq, sL, sA, sE, sN]
  refine loop53 q g n hn hs F out _ n 0 false _ (by omega) (fun r f nx r6 r7 => ?_)
  simp only [go_sem, sB, reduceCtorEq, sL, sA, sE, sN, r6, r7, rv53, fin_t2]
  exact .t (.cons (weak_full _ _ _) (.refl _))
theorem w53x (q : List Tm) (g : Bool) (n : Int) (hn : n < 0 ∨ 64 < n) : FnR Go.Proofs.Tryz.prog 53 [eP g q, .i .i64 n] [] (.t [.sl 12 true [], .i .i64 1]) := by
  refine fnr53 (by simp) rfl (by simp) List.nodup_nil fun F out hS => ?_
  unfold ir53
  by_cases h0 : n < 0
  · simp only [go_sem, sB, reduceCtorEq, sL, sA, sE, sN, decide_eq_true h0, rv53, fin_t2]
    exact .refl _
  · simp only [go_sem, sB, reduceCtorEq, sL, sA, sE, sN, decide_eq_false h0, decide_eq_true (show n > 64 by omega), rv53, fin_t2]
    exact .refl _
theorem loop54 (q : List Tm) (g : Bool) (n : Nat) (hn : n ≤ 64) (hs : ∀ k, k < n → ∀ f, FnR Go.Proofs.Tryz.prog 115 [eP f (powP q k), eP g q] [] (.t [eP false (powP q (k + 1)), .i .i64 0])) (F : Nat) (out : Sto) (Q : Ex → St → Prop) : ∀ (c i : Nat) (f : Bool) (nx : Nat), i + c = n →
    (∀ r f nx, r 6 = eP f (powP q n) → Q (.exit 0) { r := r, own := fun _ => none, out := out, nx := nx }) →
    Loop Go.Proofs.Tryz.prog F [0, 1, 6, 7] [] b54_0 { r := (upd (upd (upd (upd (fun _ => .u) 7 (.i .i64 i)) 6 (eP f (powP q i))) 1 (.i .i64 n)) 0 (eP g q)), own := fun _ => none, out := out, nx := nx } Q := by
  intro c
  induction c with
  | zero =>
    intro i f nx hi h0
    refine Loop.stepW ?_
    have : i = n := by omega
    subst this
    have c1 : decide (((i : Nat) : Int) < ((i : Nat) : Int)) = false := by simp
    simp only [go_sem, sB, reduceCtorEq, sL, sA, sE, sN, wb54_0, c1]
    exact h0 _ f _ rfl
  | succ c ih =>
    intro i f nx hi h0
    refine Loop.stepW ?_
    have c1 : decide (((i : Nat) : Int) < ((n : Nat) : Int)) = true := decide_eq_true (by omega)
    have e1 : IntKind.wrap .i64 (((i : Nat) : Int) + 1) = ((i + 1 : Nat) : Int) := by rw [IntWalk.i64_in _ (by omega)]; omega
    simp only [go_sem, sB, reduceCtorEq, sL, sA, sE, sN, wb54_0, c1]
    refine callO_intro (hs i (by omega) f) ?_
    simp only [go_sem, sB, reduceCtorEq, sL, sA, sE, sN, show ((0 : Int) != 0) = false from rfl, e1]
    exact ih (i + 1) false _ (by omega) h0
theorem w54 (q : List Tm) (g : Bool) (n : Nat) (hn : n ≤ 64) (hs : ∀ k, k < n → ∀ f, FnR Go.Proofs.Tryz.prog 115 [eP f (powP q k), eP g q] [] (.t [eP false (powP q (k + 1)), .i .i64 0])) :
    FnR Go.Proofs.Tryz.prog 54 [eP g q, .i .i64 (n : Int)] [] (.t [eP false (powP q n), .i .i64 0]) := by
  refine fnr54 (by simp) (nr_t2 _ _ _) (by simp) List.nodup_nil fun F out hS => ?_
  have e1 : ((1 : Int) : Rat) = 1 := rfl
  unfold ir54
  simp only [go_sem, sB, reduceCtorEq, sL, sA, sE, sN, decide_eq_false (show ¬ ((n : Nat) : Int) < 0 by omega), decide_eq_false (show ¬ ((n : Nat) : Int) > 64 by omega)]
  refine callO_intro (w64 1 (by omega) (by omega)) ?_
  rw [e1]
  simp only [go_sem, sB, reduceCtorEq, sL, sA, sE, sN]
  refine loop54 q g n hn hs F out _ n 0 false _ (by omega) (fun r f nx r6 => ?_)
  simp only [go_sem, sB, reduceCtorEq, sL, sA, sE, sN, r6, rv54, fin_t2]
  exact .t (.cons (weak_full _ _ _) (.refl _))
theorem w54x (q : List Tm) (g : Bool) (n : Int) (hn : n < 0 ∨ 64 < n) : FnR Go.Proofs.Tryz.prog 54 [eP g q, .i .i64 n] [] (.t [.sl 12 true [], .i .i64 1]) := by
  refine fnr54 (by simp) rfl (by simp) List.nodup_nil fun F out hS => ?_
  unfold ir54
  by_cases h0 : n < 0
  · simp only [go_sem, sB, reduceCtorEq, sL, sA, sE, sN, decide_eq_true h0, rv54, fin_t2]
    exact .refl _
  · simp only [go_sem, sB, reduceCtorEq, sL, sA, sE, sN, decide_eq_false h0, decide_eq_true (show n > 64 by omega), rv54, fin_t2]
    exact .refl _
def prR (i : Nat) : List Tm → List Tm → List Tm
  | a, [] => a
  | a, t :: p => if 0 < t.1.getD i 0 then prR i (addP a [(decM t.1 i, t.2 * ((t.1.getD i 0 : Int) : Rat))]) p else prR i a p
theorem decM_bd {e : Nat} {m : List Int} (hx : ∀ x ∈ m, 0 ≤ x ∧ x ≤ (e : Int)) {i : Nat} (hi : i < m.length) (hg : 0 < m.getD i 0) : ∀ x ∈ decM m i, 0 ≤ x ∧ x ≤ (e : Int) := by
  intro x h
  unfold decM at h
  rcases List.mem_or_eq_of_mem_set h with h | rfl
  · exact hx x h
  · have : m.getD i 0 ∈ m := by
      rw [List.getD_eq_getElem?_getD, List.getElem?_eq_getElem hi]; exact List.getElem_mem _
    have := hx _ this
    omega
theorem one_plP {e A : Nat} {t : Tm} (h8 : t.1.length = 8) (hx : ∀ x ∈ t.1, 0 ≤ x ∧ x ≤ (e : Int)) (h0 : t.2 ≠ 0) (hA : LQ t.2 ≤ A) : Pl e A 1 [t] := by
  refine ⟨⟨fun u hu => ?_, fun u hu => ?_, by simp⟩, fun u hu => ?_, fun u hu => ?_, by simp⟩
  all_goals (rw [List.mem_singleton] at hu; subst hu)
  · exact h8
  · exact h0
  · exact hx
  · exact hA
theorem prR_c (i : Nat) (hi : i < 8) {e A : Nat} (he : e ≤ 65535) : ∀ (p a : List Tm) (k : Nat), Can p → (∀ t ∈ p, (∀ x ∈ t.1, 0 ≤ x ∧ x ≤ (e : Int)) ∧ LQ t.2 ≤ A) → Pl e (k * (A + 2)) k a → Pl e ((k + p.length) * (A + 2)) (k + p.length) (prR i a p) ∧ ∀ f, ev f (prR i a p) = ev f a + ev (dF i f) p
  | [], a, k, _, _, ha => ⟨by simpa [prR] using ha, fun f => by simp [prR, ev, Rat.add_zero]⟩
  | t :: p, a, k, cp, hp, ha => by
    obtain ⟨h1, h2⟩ := hp t (by simp)
    have h8 := cp.len t (by simp)
    have m1 : (k + 1) * (A + 2) = k * (A + 2) + (A + 2) := by rw [Nat.add_mul, Nat.one_mul]
    have ek : k + (t :: p).length = k + 1 + p.length := by rw [List.length_cons]; omega
    have hgm : t.1.getD i 0 ∈ t.1 := by
      rw [List.getD_eq_getElem?_getD, List.getElem?_eq_getElem (show i < t.1.length by omega)]; exact List.getElem_mem _
    have hgb := h1 _ hgm
    rw [ek]
    simp only [prR]
    by_cases hg : 0 < t.1.getD i 0
    · rw [if_pos hg]
      have hz : ((t.1.getD i 0 : Int) : Rat) ≠ 0 := fun h => by have := Rat.intCast_eq_zero_iff.1 h; omega
      have hn : LQ ((t.1.getD i 0 : Int) : Rat) ≤ 1 := LQ_int (by omega)
      have hm := LQ_mul t.2 ((t.1.getD i 0 : Int) : Rat)
      have hone : Pl e (A + 1) 1 [(decM t.1 i, t.2 * ((t.1.getD i 0 : Int) : Rat))] := one_plP (decM_len h8 i) (decM_bd h1 (by omega) hg) (fun h => (Rat.mul_eq_zero.1 h).elim (cp.nz t (by simp)) hz) (by show LQ (t.2 * _) ≤ _; omega)
      obtain ⟨k1, k2⟩ := prR_c i hi he p (addP a [(decM t.1 i, t.2 * ((t.1.getD i 0 : Int) : Rat))]) (k + 1) cp.tail (fun u hu => hp u (by simp [hu])) ((ha.add hone).mono (Nat.le_refl _) (by omega) (Nat.le_refl _))
      refine ⟨k1, fun f => ?_⟩
      rw [k2 f, ev_addP f ha.l8 hone.l8]
      simp only [ev, dF]
      rw [Rat.add_zero, Rat.add_assoc, Rat.mul_assoc]
    · rw [if_neg hg]
      obtain ⟨k1, k2⟩ := prR_c i hi he p a (k + 1) cp.tail (fun u hu => hp u (by simp [hu])) (ha.mono (Nat.le_refl _) (by omega) (by omega))
      refine ⟨k1, fun f => ?_⟩
      have e0 : t.1.getD i 0 = 0 := by omega
      have z : ((0 : Int) : Rat) = 0 := rfl
      rw [k2 f]
      simp only [ev, dF, e0]
      rw [z, Rat.zero_mul, Rat.mul_zero, Rat.zero_add]
theorem loop55 (p : List Tm) (f : Bool) (i : Nat) (hi : i < 8) {e A n : Nat} (hp : Pl e A n p) (he : e ≤ 65535) (hn : n ≤ 1000000000) (hB : n * (A + 2) ≤ 549755813000) (hA : A ≤ 549755813000) (F : Nat) (out : Sto) (Q : Ex → St → Prop) :
    ∀ (rest : List Tm) (k : Nat) (a : List Tm) (g : Bool) (nx : Nat), p.drop k = rest → k + rest.length = p.length → Pl e (k * (A + 2)) k a →
    (∀ r own g nx, r 6 = eP g (prR i a rest) → Q (.exit 0) { r := r, own := own, out := out, nx := nx }) →
    Loop Go.Proofs.Tryz.prog F [0, 1, 6, 7] [] b55_0 { r := (upd (upd (upd (upd (fun _ => .u) 7 (.i .i64 k)) 6 (eP g a)) 1 (.i .i64 i)) 0 (eP f p)), own := fun _ => none, out := out, nx := nx } Q := by
  have hln := hp.ln
  intro rest
  induction rest with
  | nil =>
    intro k a g nx hd hk ha h0
    refine Loop.stepW ?_
    have ek : k = p.length := by simpa using hk
    subst ek
    have c1 : decide (((p.length : Nat) : Int) < ((p.length : Nat) : Int)) = false := by simp
    simp only [go_sem, sB, reduceCtorEq, sL, sA, sE, sN, wb55_0, eP, eP_len, c1]
    exact h0 _ _ g _ rfl
  | cons t rest ih =>
    intro k a g nx hd hk ha h0
    refine Loop.stepW ?_
    simp only [List.length_cons] at hk
    have ht : p[k]? = some t := by
      have := List.getElem?_drop (xs := p) (i := k) (j := 0)
      rw [hd] at this
      simpa using this.symm
    have htp := List.mem_of_getElem? ht
    have e1 : IntKind.wrap .i64 (((k : Nat) : Int) + 1) = ((k + 1 : Nat) : Int) := by rw [IntWalk.i64_in _ (by omega)]; omega
    have c1 : decide (((k : Nat) : Int) < ((p.length : Nat) : Int)) = true := decide_eq_true (by omega)
    have hT8 := hp.l8 t htp
    have hTl := hp.lq t htp
    have hx := ixsO_sl 12 f _ .i64 k _ (eP_at ht)
    have m1 : (k + 1) * (A + 2) = k * (A + 2) + (A + 2) := by rw [Nat.add_mul, Nat.one_mul]
    have m2 : (k + 1) * (A + 2) ≤ n * (A + 2) := Nat.mul_le_mul_right _ (by omega)
    have hgm : t.1.getD i 0 ∈ t.1 := by
      rw [List.getD_eq_getElem?_getD, List.getElem?_eq_getElem (show i < t.1.length by omega)]; exact List.getElem_mem _
    have hgb := hp.ex t htp _ hgm
    have bc := bMc hT8 hi
    have hst := stM hT8 hi
    simp only [prR] at h0
    by_cases hg : 0 < t.1.getD i 0
    · rw [if_pos hg] at h0
      have hz : ((t.1.getD i 0 : Int) : Rat) ≠ 0 := fun h => by have := Rat.intCast_eq_zero_iff.1 h; omega
      have hnq : LQ ((t.1.getD i 0 : Int) : Rat) ≤ 1 := LQ_int (by omega)
      have hm := LQ_mul t.2 ((t.1.getD i 0 : Int) : Rat)
      have hdl := decM_len hT8 i
      have e2 : IntKind.wrap .i64 (t.1.getD i 0 - 1) = t.1.getD i 0 - 1 := IntWalk.i64_in _ (by omega)
      have hone : Pl e (A + 1) 1 [(decM t.1 i, t.2 * ((t.1.getD i 0 : Int) : Rat))] := one_plP hdl (decM_bd (hp.ex t htp) (by omega) hg) (fun h => (Rat.mul_eq_zero.1 h).elim (hp.can.nz t htp) hz) (by show LQ (t.2 * _) ≤ _; omega)
      have h12 : (eT (decM t.1 i, t.2 * ((t.1.getD i 0 : Int) : Rat))).length = 12 := eT_len (t := (decM t.1 i, t.2 * ((t.1.getD i 0 : Int) : Rat))) hdl
      have hdm : t.1.set i (t.1.getD i 0 - 1) = decM t.1 i := rfl
      simp only [go_sem, sB, reduceCtorEq, sL, sA, sE, sN, wb55_0, eP, eP_len, c1, hx, dropT, take8 hT8, eT_len hT8, len8 hT8, ixaO_p _ _ _ _ _ _ _ hi, Nat.mul_one, bc, decide_eq_true (show t.1.getD i 0 > 0 from hg), takeT4]
      refine callO_intro (q23 (t.1.getD i 0) (by omega) (by omega)) ?_
      simp only [go_sem, sB, reduceCtorEq, sL, sA, sE, sN]
      refine callO_intro (q32 t.2 _ (by omega) (by omega)) ?_
      simp only [go_sem, sB, reduceCtorEq, sL, sA, sE, sN, rW_C, rC_len, takeC, dropC, ixaO_p _ _ _ _ _ _ _ hi, Nat.mul_one, bc, e2, hst, hdm, bM hdl, z8, len8 hdl, fillT2 _ _ hdl, h12]
      refine callO_intro (w56 a [(decM t.1 i, t.2 * ((t.1.getD i 0 : Int) : Rat))] g true (A := (k + 1) * (A + 2)) (ha.pb.mono (by omega)) (hone.pb.mono (by omega)) (by omega) (by have := ha.ln; simp only [List.length_cons, List.length_nil]; omega)) ?_
      simp only [go_sem, sB, reduceCtorEq, sL, sA, sE, sN, e1]
      exact ih (k + 1) _ false _ (by rw [drop_at ht] at hd; injection hd) (by omega) ((ha.add hone).mono (Nat.le_refl _) (by omega) (by omega)) h0
    · rw [if_neg hg] at h0
      simp only [go_sem, sB, reduceCtorEq, sL, sA, sE, sN, wb55_0, eP, eP_len, c1, hx, dropT, take8 hT8, eT_len hT8, len8 hT8, ixaO_p _ _ _ _ _ _ _ hi, Nat.mul_one, bc, decide_eq_false (show ¬ t.1.getD i 0 > 0 from hg), e1]
      exact ih (k + 1) a g _ (by rw [drop_at ht] at hd; injection hd) (by omega) (ha.mono (Nat.le_refl _) (by omega) (by omega)) h0
theorem w55 {e A n : Nat} {p : List Tm} (f : Bool) (hp : Pl e A n p) (he : e ≤ 65535) (hn : n ≤ 1000000000) (hB : n * (A + 2) ≤ 549755813000) (hA : A ≤ 549755813000) (i : Nat) (hi : i < 8) {r : List Tm} (hr : Can r) (hf : ∀ f, ev f r = ev (dF i f) p) :
    FnR Go.Proofs.Tryz.prog 55 [eP f p, .i .i64 (i : Int)] [] (.t [eP false r, .i .i64 0]) := by
  obtain ⟨k1, k2⟩ := prR_c i hi he p [] 0 hp.can (fun t ht => ⟨hp.ex t ht, hp.lq t ht⟩) ⟨Can.nil, by simp, by simp, by simp⟩
  have e : prR i [] p = r := can_eq k1.can hr fun f => by rw [k2 f, hf f]; simp [ev, Rat.zero_add]
  refine fnr55 (by simp) (nr_t2 _ _ _) (by simp) List.nodup_nil fun F out hS => ?_
  unfold ir55
  simp only [go_sem, sB, reduceCtorEq, sL, sA, sE, sN, decide_eq_false (show ¬ ((i : Nat) : Int) < 0 by omega), decide_eq_false (show ¬ ((i : Nat) : Int) ≥ 8 by omega)]
  refine loop55 p f i hi hp he hn hB hA F out _ p 0 [] true _ rfl (by omega) ⟨Can.nil, by simp, by simp, by simp⟩ (fun r' own g nx r6 => ?_)
  rw [e] at r6
  simp only [go_sem, sB, reduceCtorEq, sL, sA, sE, sN, r6, rv55, fin_t2]
  exact .t (.cons (weak_full _ _ _) (.refl _))
theorem w55x (f : Bool) (p : List Tm) (i : Int) (h : i < 0 ∨ 8 ≤ i) : FnR Go.Proofs.Tryz.prog 55 [eP f p, .i .i64 i] [] (.t [.sl 12 true [], .i .i64 1]) := by
  refine fnr55 (by simp) rfl (by simp) List.nodup_nil fun F out hS => ?_
  unfold ir55
  by_cases h0 : i < 0
  · simp only [go_sem, sB, reduceCtorEq, sL, sA, sE, sN, decide_eq_true h0, rv55, fin_t2]
    exact .refl _
  · simp only [go_sem, sB, reduceCtorEq, sL, sA, sE, sN, decide_eq_false h0, decide_eq_true (show i ≥ 8 by omega), rv55, fin_t2]
    exact .refl _
theorem bT4 {t : Tm} (h : t.1.length = 8) (z : Nat) : boxC (some (z, .box (eT t))) z 4 8 = some (eM t.1) := by rw [boxC_s _ _ _ _ (by rw [eT_len h]; decide), dropT, take8 h]
theorem bT0 {t : Tm} (h : t.1.length = 8) (z : Nat) : boxC (some (z, .box (eT t))) z 0 4 = some (rC t.2) := by rw [boxC_s _ _ _ _ (by rw [eT_len h]; decide), List.drop_zero, takeT4]
theorem bT12 {t : Tm} (h : t.1.length = 8) (z : Nat) : boxC (some (z, .box (eT t))) z 0 12 = some (eT t) := by rw [boxC_s _ _ _ _ (by rw [eT_len h]; decide), List.drop_zero, takeT h]
theorem loop119 (o : List (List Int)) (p : List Tm) (f g : Bool) {A : Nat} (hp : PB A p) (kp : PM p) (ho : okO o) (hlo : o.length ≤ 1000000000) (hl : p.length ≤ 1000000000) (F : Nat) (out : Sto) (Q : Ex → St → Prop) (z z' : Nat) (zs : List D) :
    ∀ (l : List Tm) (i : Nat) (t : Tm) (nx : Nat), p.drop i = l → i + l.length = p.length → t.1.length = 8 → t.1.all okE = true →
    (∀ r nx, r 4 = .p (F, 4) z 0 → r 6 = .p (F, 6) z' 0 → Q (.exit 0) { r := r, own := upd (upd (fun _ => none) 6 (some (z', .box (eT (leadP o t l))))) 4 (some (z, .box zs)), out := out, nx := nx }) →
    Loop Go.Proofs.Tryz.prog F [0, 1, 4, 6, 7] [4, 6] b119_0 { r := (upd (upd (upd (upd (upd (fun _ => .u) 7 (.i .i64 i)) 6 (.p (F, 6) z' 0)) 4 (.p (F, 4) z 0)) 1 (.sl 8 f (o.map eM))) 0 (eP g p)), own := upd (upd (fun _ => none) 6 (some (z', .box (eT t)))) 4 (some (z, .box zs)), out := out, nx := nx } Q := by
  intro l
  induction l with
  | nil =>
    intro i t nx hd hi ht kt h0
    refine Loop.stepW ?_
    have ei : i = p.length := by simpa using hi
    subst ei
    have c1 : decide (((p.length : Nat) : Int) < ((p.length : Nat) : Int)) = false := by simp
    simp only [go_sem, sB, reduceCtorEq, sL, sA, sE, sN, wb119_0, eP, eP_len, c1]
    exact h0 _ _ rfl rfl
  | cons u l ih =>
    intro i t nx hd hi ht kt h0
    refine Loop.stepW ?_
    simp only [List.length_cons] at hi
    have hu : p[i]? = some u := by
      have := List.getElem?_drop (xs := p) (i := i) (j := 0)
      rw [hd] at this
      simpa using this.symm
    have e1 : IntKind.wrap .i64 (((i : Nat) : Int) + 1) = ((i + 1 : Nat) : Int) := by rw [IntWalk.i64_in _ (by omega)]; omega
    have c1 : decide (((i : Nat) : Int) < ((p.length : Nat) : Int)) = true := decide_eq_true (by omega)
    have hU := hp.get hu
    have hxp := ixsO_sl 12 g _ .i64 i _ (eP_at hu)
    have d12 : (eT t).drop 12 = [] := List.drop_of_length_le (by rw [eT_len ht]; omega)
    simp only [go_sem, sB, reduceCtorEq, sL, sA, sE, sN, wb119_0, eP_len, eP, c1, hxp, takeT hU.1, eT_len hU.1, dropT, take8 hU.1, len8 hU.1, bT4 ht]
    refine callO_intro (w41 o f u.1 t.1 hU.1 ht (kp.get hu) kt ho hlo) ?_
    simp only [leadP, oc_og] at h0
    by_cases hg : 0 < ordG o u.1 t.1
    · rw [if_pos hg] at h0
      simp only [go_sem, sB, reduceCtorEq, sL, sA, sE, sN, decide_eq_true (show ordG o u.1 t.1 > 0 from hg), hxp, takeT hU.1, eT_len hU.1, eT_len ht, e1, d12]
      exact ih (i + 1) u _ (by rw [drop_at hu] at hd; injection hd) (by omega) hU.1 (kp.get hu) h0
    · rw [if_neg hg] at h0
      simp only [go_sem, sB, reduceCtorEq, sL, sA, sE, sN, decide_eq_false (show ¬ ordG o u.1 t.1 > 0 from hg), e1]
      exact ih (i + 1) t _ (by rw [drop_at hu] at hd; injection hd) (by omega) ht kt h0
def zT : List D := [.b false, .sl 1 true [], .b false, .sl 1 true [], .i .i64 0, .i .i64 0, .i .i64 0, .i .i64 0, .i .i64 0, .i .i64 0, .i .i64 0, .i .i64 0]
theorem w119_0 (o : List (List Int)) (f g : Bool) : FnR Go.Proofs.Tryz.prog 119 [eP g [], .sl 8 f (o.map eM)] [] (.t [.a zT, .b false]) := by
  refine fnr119 (by simp) rfl (by simp) List.nodup_nil fun F out hS => ?_
  unfold ir119 zT
  have c1 : (((0 : Nat) : Int) == 0) = true := rfl
  simp only [go_sem, sB, reduceCtorEq, sL, sA, sE, sN, eP, eP_len, c1, rv119, fin_g, resAll, resL, resD, mkV]
  exact ⟨_, rfl, .refl _⟩
theorem w119 (o : List (List Int)) (t : Tm) (p : List Tm) (f g : Bool) {A : Nat} (hp : PB A (t :: p)) (kp : PM (t :: p)) (ho : okO o) (hlo : o.length ≤ 1000000000) (hl : (t :: p).length ≤ 1000000000) :
    FnR Go.Proofs.Tryz.prog 119 [eP g (t :: p), .sl 8 f (o.map eM)] [] (.t [.a (eT (leadP o t p)), .b true]) := by
  refine fnr119 (by simp) (by simp only [D.nr, nrL, Bool.and_true]; exact nrL_eT _) (by simp) List.nodup_nil fun F out hS => ?_
  have ht := hp.head.1
  have hT : (leadP o t p).1.length = 8 := lead_ok p t ht hp.tail.len
  have d12 : (eT (leadP o t p)).drop 12 = [] := List.drop_of_length_le (by rw [eT_len hT]; omega)
  have c1 : (((p.length + 1 : Nat) : Int) == 0) = false := by rw [beq_eq_false_iff_ne]; omega
  have hx : ixsO 12 (.sl 12 g (eT t :: p.map eT)) (.i .i64 0) = some (.q (eT t)) := ixsO_sl 12 g _ .i64 0 _ rfl
  unfold ir119
  simp only [go_sem, sB, reduceCtorEq, sL, sA, sE, sN, eP, eP_len, c1, hx, takeT ht, eT_len ht]
  have := loop119 o (t :: p) f g hp kp ho hlo hl F out
  refine this _ _ _ _ p 1 t _ rfl (by simp; omega) ht kp.head (fun r nx r4 r6 => ?_)
  simp only [go_sem, sB, reduceCtorEq, sL, sA, sE, sN, r4, r6, bT12 hT, eT_len hT, d12, takeT hT, rv119, fin_g, resAll, resL, resD, mkV]
  exact ⟨_, rfl, .refl _⟩
theorem w60_0 (o : List (List Int)) (f g : Bool) : FnR Go.Proofs.Tryz.prog 60 [eP g [], .sl 8 f (o.map eM)] [] (.sl 12 true []) := by
  refine fnr60 (by simp) rfl (by simp) List.nodup_nil fun F out hS => ?_
  unfold ir60
  simp only [go_sem, sB, reduceCtorEq, sL, sA, sE, sN]
  refine callO_intro (w119_0 o f g) ?_
  simp only [go_sem, sB, reduceCtorEq, sL, sA, sE, sN, zT, rv60, fin_t]
  exact .refl _
theorem w60 (o : List (List Int)) (t : Tm) (p : List Tm) (f g : Bool) {A : Nat} (hp : PB A (t :: p)) (kp : PM (t :: p)) (ho : okO o) (hlo : o.length ≤ 1000000000) (hl : (t :: p).length ≤ 1000000000) (hA : A ≤ 549755813888) (hz : ∀ u ∈ t :: p, u.2 ≠ 0) :
    FnR Go.Proofs.Tryz.prog 60 [eP g (t :: p), .sl 8 f (o.map eM)] [] (eP false (mulT (leadP o t p).2⁻¹ m0 (t :: p))) := by
  refine fnr60 (by simp) (nr_eP _ _) (by simp) List.nodup_nil fun F out hS => ?_
  have hlead := (lead_top o p t hp.len).mem
  have h8 := hp.len _ hlead
  have hq := hp.lq _ hlead
  have hne := hz _ hlead
  have hl119 := w119 o t p f g hp kp ho (by omega) (by omega)
  generalize leadP o t p = a at *
  have hi := LQ_inv a.2
  have hi0 : a.2⁻¹ ≠ 0 := fun e => hne (by have := Rat.inv_inv a.2; rw [e, Rat.inv_zero] at this; exact this.symm)
  have hw := w98 a.2⁻¹ (t :: p) g (A := A) hp kp (by omega) hA (by omega)
  have e : timP a.2⁻¹ m0 (t :: p) = (mulT a.2⁻¹ m0 (t :: p), 0) := by
    unfold timP
    rw [if_neg hi0, if_pos (fit_0 _ hp.len kp)]
  rw [e] at hw
  unfold ir60
  simp only [go_sem, sB, reduceCtorEq, sL, sA, sE, sN]
  refine callO_intro hl119 ?_
  simp only [go_sem, sB, reduceCtorEq, sL, sA, sE, sN, eT_len h8, takeT h8, bT0 h8]
  refine callO_intro (q120 a.2 hne (by omega)) ?_
  simp only [go_sem, sB, reduceCtorEq, sL, sA, sE, sN, rW_C, rC_len, takeC, dropC]
  refine callO_intro hw ?_
  simp only [go_sem, sB, reduceCtorEq, sL, sA, sE, sN, rv60, fin_t]
  exact .refl _
theorem loop153 (n : Nat) (hn : n < 8) (F : Nat) (out : Sto) (Q : Ex → St → Prop) : ∀ (c i : Nat) (nx : Nat), i + c = n →
    (∀ r nx, r 3 = .i .i64 ((2 ^ n : Nat) : Int) → Q (.exit 0) { r := r, own := fun _ => none, out := out, nx := nx }) →
    Loop Go.Proofs.Tryz.prog F [0, 3, 4] [] b153_0 { r := (upd (upd (upd (fun _ => .u) 4 (.i .i64 i)) 3 (.i .i64 ((2 ^ i : Nat) : Int))) 0 (.i .i64 n)), own := fun _ => none, out := out, nx := nx } Q := by
  intro c
  induction c with
  | zero =>
    intro i nx hi h0
    refine Loop.stepW ?_
    have : i = n := by omega
    subst this
    have c1 : decide (((i : Nat) : Int) < ((i : Nat) : Int)) = false := by simp
    simp only [go_sem, sB, reduceCtorEq, sL, sA, sE, sN, wb153_0, c1]
    exact h0 _ _ rfl
  | succ c ih =>
    intro i nx hi h0
    refine Loop.stepW ?_
    have c1 : decide (((i : Nat) : Int) < ((n : Nat) : Int)) = true := decide_eq_true (by omega)
    have e1 : IntKind.wrap .i64 (((i : Nat) : Int) + 1) = ((i + 1 : Nat) : Int) := by rw [IntWalk.i64_in _ (by omega)]; omega
    have hp2 : 2 ^ i < 256 := Nat.pow_lt_pow_right (n := 8) (by omega) (by omega)
    have e2 : IntKind.wrap .i64 (2 * ((2 ^ i : Nat) : Int)) = ((2 ^ (i + 1) : Nat) : Int) := by
      rw [Nat.pow_succ]
      generalize 2 ^ i = w at hp2 ⊢
      rw [IntWalk.i64_in _ (by omega)]; omega
    simp only [go_sem, sB, reduceCtorEq, sL, sA, sE, sN, wb153_0, c1, e1, e2]
    exact ih (i + 1) _ (by omega) h0
theorem w153 (n : Nat) (hn : n < 8) : FnR Go.Proofs.Tryz.prog 153 [.i .i64 (n : Int)] [] (.i .u8 ((2 ^ n : Nat) : Int)) := by
  refine fnr153 (by simp) rfl (by simp) List.nodup_nil fun F out hS => ?_
  unfold ir153
  simp only [go_sem, sB, reduceCtorEq, sL, sA, sE, sN]
  refine loop153 n hn F out _ n 0 _ (by omega) (fun r nx r3 => ?_)
  have hp2 : 2 ^ n < 256 := Nat.pow_lt_pow_right (n := 8) (by omega) hn
  have e2 : IntKind.wrap .u8 ((2 ^ n : Nat) : Int) = ((2 ^ n : Nat) : Int) := by
    generalize 2 ^ n = w at hp2 ⊢
    exact IntWalk.u8_in _ (by omega)
  simp only [go_sem, sB, reduceCtorEq, sL, sA, sE, sN, r3, e2, rv153, fin_t]
  exact .refl _
theorem or_pow {a i : Nat} (h : a < 2 ^ i) : a ||| 2 ^ i = a + 2 ^ i := by
  have := Nat.two_pow_add_eq_or_of_lt h 1
  rw [Nat.mul_one] at this
  rw [Nat.or_comm, ← this, Nat.add_comm]
theorem loop122 (m : List Int) (hm : m.length = 8) (F : Nat) (out : Sto) (Q : Ex → St → Prop) (z : Nat) : ∀ (c i a : Nat) (nx : Nat), i + c = 8 → a < 2 ^ i →
    (∀ r own nx, r 3 = .i .u8 ((supp i (m.drop i) a : Nat) : Int) → Q (.exit 0) { r := r, own := own, out := out, nx := nx }) →
    Loop Go.Proofs.Tryz.prog F [1, 3, 4] [1] b122_0 { r := (upd (upd (upd (fun _ => .u) 4 (.i .i64 i)) 3 (.i .u8 (a : Int))) 1 (.p (F, 1) z 0)), own := upd (fun _ => none) 1 (some (z, .box (eM m))), out := out, nx := nx } Q := by
  intro c
  induction c with
  | zero =>
    intro i a nx hi ha h0
    refine Loop.stepW ?_
    have : i = 8 := by omega
    subst this
    have c1 : decide (((8 : Nat) : Int) < 8) = false := by decide
    rw [List.drop_of_length_le (by omega)] at h0
    simp only [go_sem, sB, reduceCtorEq, sL, sA, sE, sN, wb122_0, c1]
    exact h0 _ _ _ rfl
  | succ c ih =>
    intro i a nx hi ha h0
    refine Loop.stepW ?_
    have hi8 : i < 8 := by omega
    have c1 : decide (((i : Nat) : Int) < 8) = true := decide_eq_true (by omega)
    have e1 : IntKind.wrap .i64 (((i : Nat) : Int) + 1) = ((i + 1 : Nat) : Int) := by rw [IntWalk.i64_in _ (by omega)]; omega
    have hb := bMc hm hi8
    have hp2 : 2 ^ i * 2 ≤ 256 := by rw [← Nat.pow_succ]; exact Nat.pow_le_pow_right (n := 2) (show 0 < 2 by omega) (show i + 1 ≤ 8 by omega)
    have hor := or_pow ha
    rw [cons_at (show i < m.length by omega), supp] at h0
    by_cases hg : 0 < m.getD i 0
    · rw [if_pos hg, hor] at h0
      have e2 : IntKind.wrap .u8 (((a : Nat) : Int) + ((2 ^ i : Nat) : Int)) = ((a + 2 ^ i : Nat) : Int) := by
        generalize 2 ^ i = w at hp2 ha ⊢
        rw [IntWalk.u8_in _ (by omega)]; omega
      simp only [go_sem, sB, reduceCtorEq, sL, sA, sE, sN, wb122_0, c1, ixaO_p _ _ _ _ _ _ _ hi8, Nat.mul_one, hb, decide_eq_true (show m.getD i 0 > 0 from hg)]
      refine callO_intro (w153 i hi8) ?_
      simp only [go_sem, sB, reduceCtorEq, sL, sA, sE, sN, e2, e1]
      exact ih (i + 1) _ _ (by omega) (by rw [Nat.pow_succ]; omega) h0
    · rw [if_neg hg] at h0
      simp only [go_sem, sB, reduceCtorEq, sL, sA, sE, sN, wb122_0, c1, ixaO_p _ _ _ _ _ _ _ hi8, Nat.mul_one, hb, decide_eq_false (show ¬ m.getD i 0 > 0 from hg), e1]
      exact ih (i + 1) _ _ (by omega) (by rw [Nat.pow_succ]; omega) h0
theorem w122 (m : List Int) (hm : m.length = 8) : FnR Go.Proofs.Tryz.prog 122 [.a (eM m)] [] (.i .u8 ((supp 0 m 0 : Nat) : Int)) := by
  refine fnr122 (by simp) rfl (by simp) List.nodup_nil fun F out hS => ?_
  unfold ir122
  simp only [go_sem, sB, reduceCtorEq, sL, sA, sE, sN]
  refine loop122 m hm F out _ _ 8 0 0 _ rfl (by decide) (fun r own nx r3 => ?_)
  rw [List.drop_zero] at r3
  simp only [go_sem, sB, reduceCtorEq, sL, sA, sE, sN, r3, rv122, fin_t]
  exact .refl _
theorem loop62 (p : List Tm) (f : Bool) {A : Nat} (hp : PB A p) (hlp : p.length ≤ 1000000000) (F : Nat) (out : Sto) (Q : Ex → St → Prop) : ∀ (l : List Tm) (i a : Nat) (nx : Nat), p.drop i = l → i + l.length = p.length → a < 256 →
    (∀ r nx, r 3 = .i .u8 ((usesP l a : Nat) : Int) → Q (.exit 0) { r := r, own := fun _ => none, out := out, nx := nx }) →
    Loop Go.Proofs.Tryz.prog F [0, 3, 4] [] b62_0 { r := (upd (upd (upd (fun _ => .u) 4 (.i .i64 i)) 3 (.i .u8 (a : Int))) 0 (eP f p)), own := fun _ => none, out := out, nx := nx } Q := by
  intro l
  induction l with
  | nil =>
    intro i a nx hd hi ha h0
    refine Loop.stepW ?_
    have ei : i = p.length := by simpa using hi
    subst ei
    have c1 : decide (((p.length : Nat) : Int) < ((p.length : Nat) : Int)) = false := by simp
    simp only [go_sem, sB, reduceCtorEq, sL, sA, sE, sN, wb62_0, eP, eP_len, c1]
    exact h0 _ _ rfl
  | cons t l ih =>
    intro i a nx hd hi ha h0
    refine Loop.stepW ?_
    simp only [List.length_cons] at hi
    have ht : p[i]? = some t := by
      have := List.getElem?_drop (xs := p) (i := i) (j := 0)
      rw [hd] at this
      simpa using this.symm
    have e1 : IntKind.wrap .i64 (((i : Nat) : Int) + 1) = ((i + 1 : Nat) : Int) := by rw [IntWalk.i64_in _ (by omega)]; omega
    have c1 : decide (((i : Nat) : Int) < ((p.length : Nat) : Int)) = true := decide_eq_true (by omega)
    have hT := (hp.get ht).1
    have hxp := ixsO_sl 12 f _ .i64 i _ (eP_at ht)
    have hs := supp_lt t.1 0 0 (by rw [hT]; omega) (by omega)
    have hor := u8_or_nat a (supp 0 t.1 0) ha hs
    simp only [go_sem, sB, reduceCtorEq, sL, sA, sE, sN, wb62_0, eP, eP_len, c1, hxp, dropT, take8 hT, len8 hT]
    refine callO_intro (w122 t.1 hT) ?_
    simp only [go_sem, sB, reduceCtorEq, sL, sA, sE, sN, hor, e1]
    exact ih (i + 1) _ _ (by rw [drop_at ht] at hd; injection hd) (by omega) (Nat.or_lt_two_pow (n := 8) ha hs) h0
theorem w62 (p : List Tm) (f : Bool) {A : Nat} (hp : PB A p) (hlp : p.length ≤ 1000000000) : FnR Go.Proofs.Tryz.prog 62 [eP f p] [] (.i .u8 ((usesP p 0 : Nat) : Int)) := by
  refine fnr62 (by simp) rfl (by simp) List.nodup_nil fun F out hS => ?_
  unfold ir62
  simp only [go_sem, sB, reduceCtorEq, sL, sA, sE, sN]
  refine loop62 p f hp hlp F out _ p 0 0 _ rfl (by omega) (by omega) (fun r nx r3 => ?_)
  simp only [go_sem, sB, reduceCtorEq, sL, sA, sE, sN, r3, rv62, fin_t]
  exact .refl _
theorem loop58 (p q : List Tm) (f g : Bool) {A : Nat} (hp : PB A p) (hq : PB A q) (hA : A ≤ 549755813888) (hl : p.length ≤ 1000000000000) (hlq : q.length ≤ 1000000000000) (F : Nat) (out : Sto) (Q : Ex → St → Prop) :
    ∀ (c i : Nat) (nx : Nat), i + c = p.length → i ≤ q.length →
    (∀ r nx, cmpP (p.drop i) (q.drop i) = (if p.length < q.length then -1 else if q.length < p.length then 1 else 0) → r 0 = eP f p → r 1 = eP g q → Q (.exit 0) { r := r, own := fun _ => none, out := out, nx := nx }) →
    (∀ r nx, r 4 = .i .i64 (cmpP (p.drop i) (q.drop i)) → Q .ret { r := r, own := fun _ => none, out := out, nx := nx }) →
    Loop Go.Proofs.Tryz.prog F [0, 1, 5] [] b58_0 { r := (upd (upd (upd (fun _ => .u) 5 (.i .i64 i)) 1 (eP g q)) 0 (eP f p)), own := fun _ => none, out := out, nx := nx } Q := by
  intro c
  induction c with
  | zero =>
    intro i nx hi hiq h0 h1
    refine Loop.stepW ?_
    have ei : i = p.length := by omega
    subst ei
    have c1 : decide (((p.length : Nat) : Int) < ((p.length : Nat) : Int)) = false := by simp
    simp only [go_sem, sB, reduceCtorEq, sL, sA, sE, sN, wb58_0, eP, eP_len, c1]
    refine h0 _ _ ?_ rfl rfl
    rw [List.drop_length]
    by_cases h : p.length < q.length
    · obtain ⟨u, hu⟩ := get_ex h
      rw [if_pos h, drop_at hu]; rfl
    · rw [if_neg h, if_neg (by omega), List.drop_of_length_le (by omega)]; rfl
  | succ c ih =>
    intro i nx hi hiq h0 h1
    refine Loop.stepW ?_
    obtain ⟨t, ht⟩ := get_ex (show i < p.length by omega)
    have hT := hp.get ht
    have c1 : decide (((i : Nat) : Int) < ((p.length : Nat) : Int)) = true := decide_eq_true (by omega)
    have e1 : IntKind.wrap .i64 (((i : Nat) : Int) + 1) = ((i + 1 : Nat) : Int) := by rw [IntWalk.i64_in _ (by omega)]; omega
    have hx := ixsO_sl 12 f _ .i64 i _ (eP_at ht)
    rw [drop_at ht] at h0 h1
    by_cases hq2 : i < q.length
    · obtain ⟨u, hu⟩ := get_ex hq2
      have hU := hq.get hu
      have c2 : decide (((i : Nat) : Int) < ((q.length : Nat) : Int)) = true := decide_eq_true (by omega)
      have hy := ixsO_sl 12 g _ .i64 i _ (eP_at hu)
      rw [drop_at hu] at h0 h1
      simp only [go_sem, sB, reduceCtorEq, sL, sA, sE, sN, wb58_0, eP, eP_len, c1, hx, c2, hy, dropT, take8 hT.1, len8 hT.1, take8 hU.1, len8 hU.1, eT_len hT.1, eT_len hU.1]
      refine callO_intro (w73 _ _ hT.1 hU.1) ?_
      simp only [cmpP] at h0 h1
      by_cases hz : cmpL t.1 u.1 = 0
      · have et : cmpT t u = cmpQ t.2 u.2 := if_neg (by simp [hz])
        simp only [et] at h0 h1
        rw [hz]
        simp only [go_sem, sB, reduceCtorEq, sL, sA, sE, sN, show ((0 : Int) != 0) = false from rfl, hx, hy, eT_len hT.1, eT_len hU.1, takeT4, rC_len]
        refine callO_intro (q118 t.2 u.2 (by omega) (by omega)) ?_
        by_cases hw : cmpQ t.2 u.2 = 0
        · rw [if_neg (by simp [hw])] at h0 h1
          rw [hw]
          simp only [go_sem, sB, reduceCtorEq, sL, sA, sE, sN, show ((0 : Int) != 0) = false from rfl, e1]
          exact ih (i + 1) _ (by omega) (by omega) h0 h1
        · rw [if_pos hw] at h1
          simp only [go_sem, sB, reduceCtorEq, sL, sA, sE, sN, show (cmpQ t.2 u.2 != 0) = true from bne_iff_ne.2 hw, hx, hy, eT_len hT.1, eT_len hU.1, takeT4, rC_len]
          refine callO_intro (q118 t.2 u.2 (by omega) (by omega)) ?_
          simp only [go_sem, sB, reduceCtorEq, sL, sA, sE, sN]
          exact h1 _ _ rfl
      · have et : cmpT t u = cmpL t.1 u.1 := if_pos hz
        simp only [et, if_pos hz] at h1
        simp only [go_sem, sB, reduceCtorEq, sL, sA, sE, sN, show (cmpL t.1 u.1 != 0) = true from bne_iff_ne.2 hz, hx, hy, dropT, take8 hT.1, len8 hT.1, take8 hU.1, len8 hU.1, eT_len hT.1, eT_len hU.1]
        refine callO_intro (w73 _ _ hT.1 hU.1) ?_
        simp only [go_sem, sB, reduceCtorEq, sL, sA, sE, sN]
        exact h1 _ _ rfl
    · have c2 : decide (((i : Nat) : Int) < ((q.length : Nat) : Int)) = false := decide_eq_false (by omega)
      rw [List.drop_of_length_le (show q.length ≤ i by omega)] at h0
      simp only [go_sem, sB, reduceCtorEq, sL, sA, sE, sN, wb58_0, eP, eP_len, c1, c2]
      refine h0 _ _ ?_ rfl rfl
      rw [if_neg (by omega), if_pos (by omega)]; rfl
theorem w58 (p q : List Tm) (f g : Bool) {A : Nat} (hp : PB A p) (hq : PB A q) (hA : A ≤ 549755813888) (hl : p.length ≤ 1000000000000) (hlq : q.length ≤ 1000000000000) : FnR Go.Proofs.Tryz.prog 58 [eP f p, eP g q] [] (.i .i64 (cmpP p q)) := by
  refine fnr58 (by simp) rfl (by simp) List.nodup_nil fun F out hS => ?_
  unfold ir58
  simp only [go_sem, sB, reduceCtorEq, sL, sA, sE, sN]
  refine loop58 p q f g hp hq hA hl hlq F out _ p.length 0 _ (by omega) (by omega) (fun r nx he r0 r1 => ?_) (fun r nx r4 => ?_)
  · rw [List.drop_zero, List.drop_zero] at he
    rw [he]
    by_cases h : p.length < q.length
    · simp only [go_sem, sB, reduceCtorEq, sL, sA, sE, sN, r0, r1, eP, eP_len, decide_eq_true (show ((p.length : Nat) : Int) < ((q.length : Nat) : Int) by omega), rv58, fin_t, if_pos h]
      exact .refl _
    · rw [if_neg h]
      by_cases h2 : q.length < p.length
      · simp only [go_sem, sB, reduceCtorEq, sL, sA, sE, sN, r0, r1, eP, eP_len, decide_eq_false (show ¬ ((p.length : Nat) : Int) < ((q.length : Nat) : Int) by omega), decide_eq_true (show ((p.length : Nat) : Int) > ((q.length : Nat) : Int) by omega), rv58, fin_t, if_pos h2]
        exact .refl _
      · simp only [go_sem, sB, reduceCtorEq, sL, sA, sE, sN, r0, r1, eP, eP_len, decide_eq_false (show ¬ ((p.length : Nat) : Int) < ((q.length : Nat) : Int) by omega), decide_eq_false (show ¬ ((p.length : Nat) : Int) > ((q.length : Nat) : Int) by omega), rv58, fin_t, if_neg h2]
        exact .refl _
  · rw [List.drop_zero, List.drop_zero] at r4
    simp only [go_sem, sB, reduceCtorEq, sL, sA, sE, sN, r4, rv58, fin_t]
    exact .refl _
theorem w59_0 (o : List (List Int)) (f g : Bool) : FnR Go.Proofs.Tryz.prog 59 [eP g [], .sl 8 f (o.map eM)] [] (.b true) := by
  refine fnr59 (by simp) rfl (by simp) List.nodup_nil fun F out hS => ?_
  unfold ir59
  simp only [go_sem, sB, reduceCtorEq, sL, sA, sE, sN]
  refine callO_intro (w38_0 o f g) ?_
  simp only [go_sem, sB, reduceCtorEq, sL, sA, sE, sN]
  refine callO_intro (w119_0 o f g) ?_
  have he : evEqa false 8 (.a [D.i .i64 0, .i .i64 0, .i .i64 0, .i .i64 0, .i .i64 0, .i .i64 0, .i .i64 0, .i .i64 0]) (.a [D.i .i64 0, .i .i64 0, .i .i64 0, .i .i64 0, .i .i64 0, .i .i64 0, .i .i64 0, .i .i64 0]) = some (.b true) := rfl
  simp only [go_sem, sB, reduceCtorEq, sL, sA, sE, sN, zT, he, show (false == false) = true from rfl, rv59, fin_t]
  exact .refl _
theorem w59 (o : List (List Int)) (t : Tm) (p : List Tm) (f g : Bool) {A : Nat} (hp : PB A (t :: p)) (kp : PM (t :: p)) (ho : okO o) (hlo : o.length ≤ 1000000000) (hl : (t :: p).length ≤ 1000000000) (hA : A ≤ 140737488355328) :
    FnR Go.Proofs.Tryz.prog 59 [eP g (t :: p), .sl 8 f (o.map eM)] [] (.b true) := by
  refine fnr59 (by simp) rfl (by simp) List.nodup_nil fun F out hS => ?_
  have hlead := (lead_top o p t hp.len).mem
  have h8 := hp.len _ hlead
  have hq := hp.lq _ hlead
  have k38 := w38 o t p f g hp kp ho (by omega) (by omega)
  have k119 := w119 o t p f g hp kp ho (by omega) (by omega)
  generalize leadP o t p = a at *
  have k78 := w78 a a h8 h8 (by omega)
  rw [decide_eq_true rfl] at k78
  unfold ir59
  simp only [go_sem, sB, reduceCtorEq, sL, sA, sE, sN]
  refine callO_intro k38 ?_
  simp only [go_sem, sB, reduceCtorEq, sL, sA, sE, sN, eT_len h8, takeT h8]
  refine callO_intro k119 ?_
  simp only [go_sem, sB, reduceCtorEq, sL, sA, sE, sN, eT_len h8, takeT h8, bT12 h8, show (true == true) = true from rfl]
  refine callO_intro k78 ?_
  simp only [go_sem, sB, reduceCtorEq, sL, sA, sE, sN, rv59, fin_t]
  exact .refl _
end Go.Vm.G

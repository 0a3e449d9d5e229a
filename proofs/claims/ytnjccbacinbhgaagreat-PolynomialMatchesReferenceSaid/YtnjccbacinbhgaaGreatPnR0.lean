/- A part of the proof of: All functions return the results of the reference (PolynomialMatchesReference), for every input. -/
import Derived.Test.YtnjccbacinbhgaaGreatPnA1
import Derived.WalkKit
import Derived.ProofKit
import Derived.OpenShut
import Derived.JoinedCond
import Derived.Carry
import Derived.Deep.Slices
set_option linter.unusedSimpArgs false
set_option linter.unusedVariables false
namespace Go.Vm
open Go Go.RowKit Go.Deep
inductive Ty where
  | b
  | i (k : IntKind)
  | sl (e : Ty)
  | st (ts : List Ty)
  | ar (n : Nat) (e : Ty)
mutual
def Ty.sz : Ty → Nat
  | .b => 1
  | .i _ => 1
  | .sl _ => 1
  | .st ts => szL ts
  | .ar n e => n * e.sz
def szL : List Ty → Nat
  | [] => 0
  | t :: ts => t.sz + szL ts
end
mutual
def fit (P : Program) : Ty → TypeId → Bool
  | .b, t => match P.underlying t with
    | some .bool => true
    | _ => false
  | .i k, t => match P.underlying t with
    | some (.int k') => k' == k
    | _ => false
  | .sl e, t => match P.underlying t with
    | some (.slice u) => fit P e u && (P.cellsOf u == e.sz && decide (0 < e.sz))
    | _ => false
  | .st ts, t => match P.underlying t with
    | some (.struct fs) => fitL P ts fs.toList 0 && P.cellsOf t == szL ts
    | _ => false
  | .ar n e, t => match P.underlying t with
    | some (.array m u) => (m == n && fit P e u) && (P.cellsOf u == e.sz && P.cellsOf t == n * e.sz)
    | _ => false
def fitL (P : Program) : List Ty → List Field → Nat → Bool
  | [], [], _ => true
  | ty :: ts, f :: fs, o => (fit P ty f.type && f.offset == o) && (P.cellsOf f.type == ty.sz && fitL P ts fs (o + ty.sz))
  | _, _, _ => false
end
mutual
def Sh : Ty → List D → Prop
  | .b, ds => ∃ v, ds = [.b v]
  | .i k, ds => ∃ n, ds = [.i k n] ∧ k.min ≤ n ∧ n ≤ k.max
  | .sl e, ds => ∃ es, ds = [.sl e.sz false es] ∧ ∀ x ∈ es, Sh e x
  | .st ts, ds => ShL ts ds
  | .ar n e, ds => ∃ xs : List (List D), xs.length = n ∧ ds = xs.flatten ∧ ∀ x ∈ xs, Sh e x
def ShL : List Ty → List D → Prop
  | [], ds => ds = []
  | t :: ts, ds => ∃ a b, ds = a ++ b ∧ Sh t a ∧ ShL ts b
end
theorem mapM_get {α β : Type} (f : α → Option β) : ∀ (l : List α) (xs : List β), l.mapM f = some xs → xs.length = l.length ∧ ∀ (i : Nat) (a : α), l[i]? = some a → ∃ x, xs[i]? = some x ∧ f a = some x
  | [], xs, h => by
    simp at h
    subst h
    simp
  | a :: l, xs, h => by
    rw [List.mapM_cons] at h
    cases hf : f a with
    | none => rw [hf] at h; simp at h
    | some x =>
      rw [hf] at h
      cases hl : l.mapM f with
      | none => rw [hl] at h; simp at h
      | some ys =>
        rw [hl] at h
        simp at h
        subst h
        obtain ⟨h1, h2⟩ := mapM_get f l ys hl
        refine ⟨by simp [h1], fun i b hb => ?_⟩
        cases i with
        | zero => simp at hb; subst hb; exact ⟨x, rfl, hf⟩
        | succ i => simp at hb; simpa using h2 i b hb
theorem cells?_get {w : World} {a : Addr} {n : Nat} {l : List Value} (h : w.cells? 0 a n = some l) : l.length = n ∧ ∀ i, i < n → w.cell? (a.add i) = l[i]? := by
  unfold World.cells? at h
  rw [if_pos (Nat.zero_le _)] at h
  obtain ⟨h1, h2⟩ := mapM_get _ _ _ h
  rw [List.length_range] at h1
  refine ⟨h1, fun i hi => ?_⟩
  obtain ⟨x, h3, h4⟩ := h2 i i (by simp [hi])
  rw [h3, h4]
theorem cell?_spot {w : World} {a : Addr} {v : Value} (h : w.cell? a = some v) : a.spot = none ∧ a.block < w.heap.size := by
  unfold World.cell? at h
  split at h
  · rename_i c e fr hb
    split at h
    · simp at h
    · rename_i hs
      refine ⟨by simpa using hs, (Array.getElem?_eq_some_iff.1 hb).1⟩
  · simp at h
section
variable {H : Type} {enc : TypeId × Value → H} {P : Program} {w : World} {β : BMap} {held : Bool}
abbrev okW (w : World) : Nat → Prop := fun x => x < w.heap.size
theorem CellsR.app {ok : Nat → Prop} {a b : List D} {vs : List Value} (h : CellsR w ok β a vs) (k : CellsR w ok β b (vs.drop a.length)) : CellsR w ok β (a ++ b) vs := by
  intro q d hq
  by_cases hl : q < a.length
  · rw [List.getElem?_append_left hl] at hq
    exact h q d hq
  · rw [List.getElem?_append_right (by omega)] at hq
    obtain ⟨v, h1, h2, h3⟩ := k _ d hq
    rw [List.getElem?_drop, show a.length + (q - a.length) = q by omega] at h1
    exact ⟨v, h1, h2, h3⟩
theorem CellsR.one {ok : Nat → Prop} {d : D} {v : Value} (h1 : v.oneCell' = true) (h : VR w ok β d v) : CellsR w ok β [d] [v] := by
  intro q d' hq
  cases q with
  | zero => simp at hq; subst hq; exact ⟨v, rfl, h1, h⟩
  | succ q => simp at hq
theorem CellsR.flat {ok : Nat → Prop} {sz : Nat} : ∀ {xs : List (List D)} {vs : List Value}, (∀ x ∈ xs, x.length = sz) → (∀ (i : Nat) (x : List D), xs[i]? = some x → CellsR w ok β x (vs.drop (i * sz))) → CellsR w ok β xs.flatten vs
  | [], vs, _, _ => by intro q d hq; simp at hq
  | x :: xs, vs, hl, h => by
    rw [List.flatten_cons]
    refine CellsR.app (by simpa using h 0 x rfl) ?_
    refine CellsR.flat (fun y hy => hl y (by simp [hy])) (fun i y hy => ?_)
    have := h (i + 1) y (by simpa using hy)
    rw [List.drop_drop, hl x (by simp), show sz + i * sz = (i + 1) * sz by rw [Nat.add_mul, Nat.one_mul]; omega]
    exact this
theorem read_slice {sp : Nat → Bool} {e : Ty} {u t : TypeId} {fuel : Nat} {cs : List Value} {x : DataW H × List MemPlace} (ht : P.underlying t = some (.slice u)) (hu : P.cellsOf u = e.sz) (h0 : 0 < e.sz)
    (ih : ∀ (fuel : Nat) (cs : List Value) (x : DataW H × List MemPlace), DataW.trod enc P w 0 sp held fuel u cs = some x → cs.length = e.sz ∧ ∃ ds : List D, ds.length = e.sz ∧ Sh e ds ∧ CellsR w (okW w) β ds cs)
    (h : DataW.trod enc P w 0 sp held fuel t cs = some x) : cs.length = 1 ∧ ∃ ds : List D, ds.length = 1 ∧ (∃ es, ds = [.sl e.sz false es] ∧ ∀ x ∈ es, Sh e x) ∧ CellsR w (okW w) β ds cs := by
  rcases open_slice ht h with ⟨rfl, _⟩ | ⟨a, len, cap, m, n, D, Pl, rfl, _, hlc, hcm, hm, _, hel⟩
  · refine ⟨rfl, [.sl e.sz false []], rfl, ⟨[], rfl, by simp⟩, CellsR.one rfl ?_⟩
    exact .sl e.sz false [] none 0 0 0 (fun _ => .bool true) (by simp) (by simp [maxLen]) (by simp) (by simp) (by simp) (fun _ => rfl) (by simp) (by simp)
  · have hlm : len ≤ m := by rw [hm]; split <;> omega
    have hex : ∀ i, i < len → ∃ ds : List Vm.D, ds.length = e.sz ∧ Sh e ds ∧ ∃ cs', w.cells? 0 (a.add (i * e.sz)) e.sz = some cs' ∧ CellsR w (okW w) β ds cs' := by
      intro i hi
      obtain ⟨cs', h1, h2⟩ := hel i (by omega)
      rw [hu] at h1
      obtain ⟨_, ds, h3, h4, h5⟩ := ih _ _ _ h2
      exact ⟨ds, h3, h4, cs', h1, h5⟩
    obtain ⟨f, hf⟩ := choose_lt hex
    have hlen : ((List.range len).map f).length = len := by simp
    have hz : ∀ x ∈ (List.range len).map f, x.length = e.sz := by
      intro x hx
      obtain ⟨i, hi, rfl⟩ := List.mem_map.1 hx
      exact (hf i (List.mem_range.1 hi)).1
    have hsp : 0 < len → a.spot = none ∧ a.block < w.heap.size := by
      intro hl
      obtain ⟨_, _, cs', h1, _⟩ := hf 0 hl
      obtain ⟨h2, h3⟩ := cells?_get h1
      have h4 := h3 0 h0
      rw [Nat.zero_mul] at h4
      have h5 : (a.add 0).add 0 = a := by simp [Addr.add]
      rw [h5, List.getElem?_eq_getElem (by omega)] at h4
      exact cell?_spot h4
    have key : ∀ (q : Nat) (d : Vm.D), ((List.range len).map f).flatten[q]? = some d → ∃ v, w.cell? ⟨a.block, a.off + q, none⟩ = some v ∧ v.oneCell' = true ∧ VR w (okW w) β d v := by
      intro q d hq
      have hqi : q = q / e.sz * e.sz + q % e.sz := by rw [Nat.mul_comm, Nat.div_add_mod]
      have hqm : q % e.sz < e.sz := Nat.mod_lt _ h0
      rw [hqi, flatten_get _ _ hz hqm] at hq
      have hi : q / e.sz < len := by
        apply Classical.byContradiction
        intro hn
        rw [List.getElem?_eq_none (by rw [hlen]; omega)] at hq
        simp at hq
      rw [List.getElem?_map, List.getElem?_range hi] at hq
      simp at hq
      obtain ⟨_, _, cs', h1, h5⟩ := hf _ hi
      obtain ⟨v, h6, h7, h8⟩ := h5 _ d hq
      obtain ⟨h2, h3⟩ := cells?_get h1
      have h4 := h3 _ hqm
      rw [h6, add_add, ← hqi] at h4
      refine ⟨v, ?_, h7, h8⟩
      rw [← h4]
      have hs := (hsp (Nat.lt_of_le_of_lt (Nat.zero_le _) hi)).1
      unfold Addr.add
      split
      · rename_i hq0
        obtain ⟨b, o, s⟩ := a
        simp only at hs
        subst hs
        rw [hq0]
        rfl
      · rfl
    refine ⟨rfl, [.sl e.sz false ((List.range len).map f)], rfl, ⟨_, rfl, fun x hx => ?_⟩, CellsR.one rfl ?_⟩
    · obtain ⟨i, hi, rfl⟩ := List.mem_map.1 hx
      exact (hf i (List.mem_range.1 hi)).2.1
    · have := VR.sl (w := w) (ok := okW w) (β := β) e.sz false ((List.range len).map f) (some a) cap a.block a.off
        (fun q => match w.cell? ⟨a.block, a.off + q, none⟩ with | some v => if v.oneCell' then v else .bool true | none => .bool true)
        (by rw [hlen]; exact hlc) hcm (by simp) hz (fun hne => ?_) (fun q => ?_) (fun q d hq => ?_) (fun q hq => ?_)
      · rw [hlen] at this; exact this
      · have hl : 0 < len := by
          rcases Nat.eq_zero_or_pos len with h | h
          · subst h; simp at hne
          · exact h
        obtain ⟨h1, h2⟩ := hsp hl
        refine ⟨?_, h2⟩
        obtain ⟨b, o, s⟩ := a
        simp only at h1
        subst h1
        rfl
      · split
        · split
          · assumption
          · rfl
        · rfl
      · obtain ⟨v, h1, h2, h3⟩ := key q d hq
        simp only [h1, h2, if_true]
        exact h3
      · obtain ⟨v, h1, h2, h3⟩ := key q _ (List.getElem?_eq_getElem hq)
        simp only [h1, h2, if_true]
mutual
theorem read {sp : Nat → Bool} : ∀ (ty : Ty) (t : TypeId) (fuel : Nat) (cs : List Value) (x : DataW H × List MemPlace), fit P ty t = true → DataW.trod enc P w 0 sp held fuel t cs = some x →
    cs.length = ty.sz ∧ ∃ ds : List D, ds.length = ty.sz ∧ Sh ty ds ∧ CellsR w (okW w) β ds cs
  | .b, t, 0, cs, x, _, h => by simp [DataW.trod] at h
  | .b, t, fuel + 1, cs, x, hf, h => by
    simp only [fit] at hf
    split at hf
    · rename_i ht
      cases cs with
      | nil => simp [DataW.trod, ht] at h
      | cons v l =>
        cases l with
        | cons _ _ => simp [DataW.trod, ht] at h
        | nil =>
          cases v with
          | bool v => exact ⟨rfl, [.b v], rfl, ⟨v, rfl⟩, CellsR.one rfl (.b v)⟩
          | _ => simp [DataW.trod, ht] at h
    · simp at hf
  | .i k, t, 0, cs, x, _, h => by simp [DataW.trod] at h
  | .i k, t, fuel + 1, cs, x, hf, h => by
    simp only [fit] at hf
    split at hf
    · rename_i k' ht
      have hk : k' = k := by simpa using hf
      subst hk
      cases cs with
      | nil => simp [DataW.trod, ht] at h
      | cons v l =>
        cases l with
        | cons _ _ => simp [DataW.trod, ht] at h
        | nil =>
          cases v with
          | int k2 n =>
            simp only [DataW.trod, ht] at h
            split at h
            · rename_i hc
              obtain ⟨rfl, hw⟩ := hc
              simp only [Lit.wf, Bool.and_eq_true, decide_eq_true_eq] at hw
              exact ⟨rfl, [.i k2 n], rfl, ⟨n, rfl, hw.1, hw.2⟩, CellsR.one rfl (.i k2 n)⟩
            · simp at h
          | _ => simp [DataW.trod, ht] at h
    · simp at hf
  | .sl e, t, fuel, cs, x, hf, h => by
    simp only [fit] at hf
    split at hf
    · rename_i u ht
      simp only [Bool.and_eq_true, beq_iff_eq, decide_eq_true_eq] at hf
      obtain ⟨h1, h2⟩ := read_slice (β := β) ht hf.2.1 hf.2.2 (fun fuel cs x hx => read e u fuel cs x hf.1 hx) h
      exact ⟨h1, h2⟩
    · simp at hf
  | .st ts, t, 0, cs, x, _, h => by simp [DataW.trod] at h
  | .st ts, t, fuel + 1, cs, x, hf, h => by
    simp only [fit] at hf
    split at hf
    · rename_i fs ht
      simp only [Bool.and_eq_true, beq_iff_eq] at hf
      have h' : (if cs.length = P.cellsOf t then (fs.toList.mapM fun f => DataW.trod enc P w 0 sp held fuel f.type ((cs.drop f.offset).take (P.cellsOf f.type))).map fun xs => (DataW.agg (xs.map (·.1)), xs.flatMap (·.2)) else none) = some x := by
        rw [← h]
        conv => rhs; unfold DataW.trod
        rw [ht]
      split at h'
      · rename_i hl
        cases hm : fs.toList.mapM fun f => DataW.trod enc P w 0 sp held fuel f.type ((cs.drop f.offset).take (P.cellsOf f.type)) with
        | none => rw [hm] at h'; simp at h'
        | some xs =>
          obtain ⟨ds, k1, k2, k3⟩ := readL ts fs.toList 0 fuel cs xs hf.1 hm
          refine ⟨by rw [hl, hf.2]; rfl, ds, k1, k2, ?_⟩
          rw [List.drop_zero] at k3
          exact k3
      · simp at h'
    · simp at hf
  | .ar n e, t, 0, cs, x, _, h => by simp [DataW.trod] at h
  | .ar n e, t, fuel + 1, cs, x, hf, h => by
    simp only [fit] at hf
    split at hf
    · rename_i m u ht
      simp only [Bool.and_eq_true, beq_iff_eq] at hf
      obtain ⟨⟨rfl, hfu⟩, hu, hct⟩ := hf
      have h' : (if cs.length = P.cellsOf t then ((List.range m).mapM fun i => DataW.trod enc P w 0 sp held fuel u ((cs.drop (i * P.cellsOf u)).take (P.cellsOf u))).map fun xs => (DataW.agg (xs.map (·.1)), xs.flatMap (·.2)) else none) = some x := by
        rw [← h]
        conv => rhs; unfold DataW.trod
        rw [ht]
      split at h'
      · rename_i hl
        cases hm : (List.range m).mapM fun i => DataW.trod enc P w 0 sp held fuel u ((cs.drop (i * P.cellsOf u)).take (P.cellsOf u)) with
        | none => rw [hm] at h'; simp at h'
        | some xs =>
          obtain ⟨_, g2⟩ := mapM_get _ _ _ hm
          have hex : ∀ i, i < m → ∃ ds : List D, ds.length = e.sz ∧ Sh e ds ∧ CellsR w (okW w) β ds (cs.drop (i * e.sz)) := by
            intro i hi
            obtain ⟨y, _, g3⟩ := g2 i i (by simp [hi])
            obtain ⟨_, ds, k1, k2, k3⟩ := read e u fuel _ y hfu g3
            refine ⟨ds, k1, k2, fun q d hq => ?_⟩
            obtain ⟨v, q1, q2, q3⟩ := k3 q d hq
            rw [hu, List.getElem?_take] at q1
            split at q1
            · exact ⟨v, q1, q2, q3⟩
            · simp at q1
          obtain ⟨f, hf'⟩ := choose_lt hex
          have hz : ∀ y ∈ (List.range m).map f, y.length = e.sz := by
            intro y hy
            obtain ⟨i, hi, rfl⟩ := List.mem_map.1 hy
            exact (hf' i (List.mem_range.1 hi)).1
          refine ⟨by rw [hl, hct]; rfl, ((List.range m).map f).flatten, by rw [flatten_length hz]; simp [Ty.sz], ⟨(List.range m).map f, by simp, rfl, fun y hy => ?_⟩, CellsR.flat hz (fun i y hy => ?_)⟩
          · obtain ⟨i, hi, rfl⟩ := List.mem_map.1 hy
            exact (hf' i (List.mem_range.1 hi)).2.1
          · rw [List.getElem?_map] at hy
            by_cases hi : i < m
            · rw [List.getElem?_range hi] at hy
              simp at hy
              subst hy
              exact (hf' i hi).2.2
            · rw [List.getElem?_eq_none (by simp; omega)] at hy
              simp at hy
      · simp at h'
    · simp at hf
theorem readL {sp : Nat → Bool} : ∀ (ts : List Ty) (fs : List Field) (o fuel : Nat) (cs : List Value) (xs : List (DataW H × List MemPlace)), fitL P ts fs o = true →
    fs.mapM (fun f => DataW.trod enc P w 0 sp held fuel f.type ((cs.drop f.offset).take (P.cellsOf f.type))) = some xs → ∃ ds : List D, ds.length = szL ts ∧ ShL ts ds ∧ CellsR w (okW w) β ds (cs.drop o)
  | [], [], o, fuel, cs, xs, _, _ => ⟨[], rfl, rfl, by intro q d hq; simp at hq⟩
  | [], _ :: _, o, fuel, cs, xs, hf, _ => by simp [fitL] at hf
  | _ :: _, [], o, fuel, cs, xs, hf, _ => by simp [fitL] at hf
  | ty :: ts, f :: fs, o, fuel, cs, xs, hf, h => by
    simp only [fitL, Bool.and_eq_true, beq_iff_eq] at hf
    obtain ⟨⟨h1, h2⟩, h3, h4⟩ := hf
    obtain ⟨g1, g2⟩ := mapM_get _ _ _ h
    obtain ⟨x, _, g3⟩ := g2 0 f rfl
    obtain ⟨e1, ds, e2, e3, e4⟩ := read ty f.type fuel _ x h1 g3
    rw [List.mapM_cons] at h
    rw [g3] at h
    cases hr : fs.mapM (fun f => DataW.trod enc P w 0 sp held fuel f.type ((cs.drop f.offset).take (P.cellsOf f.type))) with
    | none => rw [hr] at h; simp at h
    | some ys =>
      obtain ⟨ds', k1, k2, k3⟩ := readL ts fs (o + ty.sz) fuel cs ys h4 hr
      refine ⟨ds ++ ds', by simp [szL, e2, k1], ⟨ds, ds', rfl, e3, k2⟩, CellsR.app ?_ ?_⟩
      · intro q d hq
        obtain ⟨v, q1, q2, q3⟩ := e4 q d hq
        rw [h2, h3, List.getElem?_take] at q1
        split at q1
        · exact ⟨v, q1, q2, q3⟩
        · simp at q1
      · rw [e2, List.drop_drop]
        exact k3
end
end
end Go.Vm
namespace Go.Vm
open Go Go.RowKit Go.Deep Go.ChangeShapes Go.WideShapes Go.ChangeAt
def ShV : Ty → D → Prop
  | .st ts, d => ∃ ds, d = .a ds ∧ Sh (.st ts) ds
  | .ar n e, d => ∃ ds, d = .a ds ∧ Sh (.ar n e) ds
  | ty, d => Sh ty [d]
def ShAll : List Ty → List D → Prop
  | [], ds => ds = []
  | t :: ts, ds => ∃ d l, ds = d :: l ∧ ShV t d ∧ ShAll ts l
def fitAll (P : Program) : List Ty → List TypeId → Bool
  | [], [] => true
  | ty :: tys, t :: ts => fit P ty t && fitAll P tys ts
  | _, _ => false
section
variable {H : Type} {enc : TypeId × Value → H} {P : Program} {w : World} {β : BMap} {held : Bool}
theorem readV_agg {ty : Ty} {cs : Array Value} (h : ∃ ds : List D, ds.length = ty.sz ∧ Sh ty ds ∧ CellsR w (okW w) β ds cs.toList) (hl : cs.toList.length = ty.sz) : ∃ ds, VR w (okW w) β (.a ds) (.agg cs) ∧ Sh ty ds := by
  obtain ⟨ds, h1, h2, h3⟩ := h
  refine ⟨ds, ?_, h2⟩
  have := VR.a (w := w) (ok := okW w) (β := β) ds cs.toList (by omega) (fun j d v hj hv => ?_) (fun v hv => ?_)
  · simpa using this
  · obtain ⟨v', q1, _, q3⟩ := h3 j d hj
    rw [hv] at q1
    injection q1 with q1
    rw [q1]; exact q3
  · obtain ⟨j, hj, rfl⟩ := List.mem_iff_getElem.1 hv
    obtain ⟨v', q1, q2, _⟩ := h3 j _ (List.getElem?_eq_getElem (show j < ds.length by omega))
    rw [List.getElem?_eq_getElem hj] at q1
    injection q1 with q1
    rw [q1]; exact q2
theorem readV_one {ty : Ty} {v : Value} (hz : ty.sz = 1) (h : ∃ ds : List D, ds.length = ty.sz ∧ Sh ty ds ∧ CellsR w (okW w) β ds [v]) : ∃ d, VR w (okW w) β d v ∧ Sh ty [d] := by
  obtain ⟨ds, h1, h2, h3⟩ := h
  rw [hz] at h1
  match ds, h1 with
  | [d], _ =>
    obtain ⟨v', q1, _, q3⟩ := h3 0 d rfl
    simp at q1
    subst q1
    exact ⟨d, q3, h2⟩
theorem readV {sp : Nat → Bool} {ty : Ty} {t : TypeId} {base : Nat} {v : Value} {d : DataW H} {ps : List MemPlace} (hf : fit P ty t = true) (hval : Value.okWide P w .any base t v) (h : DataW.Trod enc P w 0 sp held t v d ps) :
    ∃ d, VR w (okW w) β d v ∧ ShV ty d := by
  obtain ⟨fuel, h⟩ := h
  obtain ⟨hl, hds⟩ := read (β := β) ty t fuel _ _ hf h
  cases ty with
  | b =>
    have hv : v.cells = #[v] := by
      simp only [fit] at hf
      split at hf
      · rename_i ht
        cases v with
        | agg _ => simp [Value.okWide, ht, Cell.okWide, Cell.ok] at hval
        | _ => rfl
      · simp at hf
    rw [hv] at hds
    exact readV_one rfl hds
  | i k =>
    have hv : v.cells = #[v] := by
      simp only [fit] at hf
      split at hf
      · rename_i ht
        cases v with
        | agg _ => simp [Value.okWide, ht, Cell.okWide, Cell.ok] at hval
        | _ => rfl
      · simp at hf
    rw [hv] at hds
    exact readV_one rfl hds
  | sl e =>
    have hv : v.cells = #[v] := by
      simp only [fit] at hf
      split at hf
      · rename_i ht
        cases v with
        | agg _ => simp [Value.okWide, ht, Cell.okWide, Cell.ok] at hval
        | _ => rfl
      · simp at hf
    rw [hv] at hds
    exact readV_one rfl hds
  | st ts =>
    simp only [fit] at hf
    split at hf
    · rename_i fs ht
      simp only [Value.okWide, ht] at hval
      obtain ⟨cs, rfl, _⟩ := hval
      obtain ⟨ds, h1, h2⟩ := readV_agg hds hl
      exact ⟨.a ds, h1, ds, rfl, h2⟩
    · simp at hf
  | ar n e =>
    simp only [fit] at hf
    split at hf
    · rename_i fs ht
      simp only [Value.okWide, ht] at hval
      obtain ⟨cs, rfl, _⟩ := hval
      obtain ⟨ds, h1, h2⟩ := readV_agg hds hl
      exact ⟨.a ds, h1, ds, rfl, h2⟩
    · simp at hf
theorem readAll {sp : Nat → Bool} {base : Nat} : ∀ (tys : List Ty) (ts : List TypeId) (vs : List Value) (ds : List (DataW H)) (ps : List MemPlace), fitAll P tys ts = true →
    (∀ (j : Nat) t v, ts[j]? = some t → vs[j]? = some v → Value.okWide P w .any base t v) → DataW.TrodAll enc P w 0 sp held ts vs ds ps →
    ds.length = vs.length ∧ ∃ Ds : List D, vs.length = Ds.length ∧ (∀ (j : Nat) (d : D) (v : Value), Ds[j]? = some d → vs[j]? = some v → VR w (okW w) β d v) ∧ ShAll tys Ds
  | [], [], [], [], ps, _, _, h => ⟨rfl, [], rfl, by simp, rfl⟩
  | [], [], _ :: _, ds, ps, _, _, h => by simp [DataW.TrodAll] at h
  | [], [], [], _ :: _, ps, _, _, h => by simp [DataW.TrodAll] at h
  | [], _ :: _, vs, ds, ps, hf, _, h => by simp [fitAll] at hf
  | _ :: _, [], vs, ds, ps, hf, _, h => by simp [fitAll] at hf
  | ty :: tys, t :: ts, [], ds, ps, hf, _, h => by simp [DataW.TrodAll] at h
  | ty :: tys, t :: ts, _ :: _, [], ps, hf, _, h => by simp [DataW.TrodAll] at h
  | ty :: tys, t :: ts, v :: vs, d :: ds, ps, hf, hv, h => by
    simp only [fitAll, Bool.and_eq_true] at hf
    obtain ⟨p, q, h1, h2, _⟩ := h
    obtain ⟨D0, g1, g2⟩ := readV (β := β) hf.1 (hv 0 t v rfl rfl) h1
    obtain ⟨k0, Ds, k1, k2, k3⟩ := readAll tys ts vs ds q hf.2 (fun j t' v' hj hv' => hv (j + 1) t' v' (by simpa using hj) (by simpa using hv')) h2
    refine ⟨by simp [k0], D0 :: Ds, by simp [k1], fun j d v hj hv' => ?_, D0, Ds, rfl, g2, k3⟩
    cases j with
    | zero => simp at hj hv'; subst hj hv'; exact g1
    | succ j => exact k2 j d v (by simpa using hj) (by simpa using hv')
theorem trodAll_stays (hl : laidOutB P = true) {W' : World} {sp' : Nat → Bool} : ∀ (ts : List TypeId) (vs : List Value) (ds : List (DataW H)) (ps : List MemPlace), (∀ t ∈ ts, P.readableRec t = true ∧ t < P.types.size) →
    DataW.TrodAll enc P w 0 (fun _ => true) true ts vs ds ps → (∀ p ∈ ps, w.sameAt W' p) → (∀ p ∈ ps, sp' p.block = true) → DataW.TrodAll enc P W' 0 sp' true ts vs ds ps
  | [], [], [], ps, _, h, _, _ => h
  | [], _ :: _, ds, ps, _, h, _, _ => by simp [DataW.TrodAll] at h
  | [], [], _ :: _, ps, _, h, _, _ => by simp [DataW.TrodAll] at h
  | _ :: _, [], ds, ps, _, h, _, _ => by simp [DataW.TrodAll] at h
  | _ :: _, _ :: _, [], ps, _, h, _, _ => by simp [DataW.TrodAll] at h
  | t :: ts, v :: vs, d :: ds, ps, ht, h, hs, hp => by
    obtain ⟨p, q, h1, h2, rfl⟩ := h
    have htt := ht t (by simp)
    exact ⟨p, q, WideElems.Trod_stays hl htt.1 htt.2 h1 (fun x hx => hs x (List.mem_append_left _ hx)) (fun x hx => hp x (List.mem_append_left _ hx)),
      trodAll_stays hl ts vs ds q (fun t ht' => ht t (by simp [ht'])) h2 (fun x hx => hs x (List.mem_append_right _ hx)) (fun x hx => hp x (List.mem_append_right _ hx)), rfl⟩
theorem law_contract {k : FuncId} {fn : Func} {tys : List Ty} {tb : TypeId} {s : ChangeSpec} {apart fresh handsOn : Bool} (hk : ∀ Ds : List D, ShAll tys Ds → FnR P k Ds [] (.b true))
    (hfit : fitAll P tys fn.params.toList = true) (hlaid : laidOutB P = true) (hread : fn.params.toList.all (fun t => P.readableRec t && decide (t < P.types.size)) = true)
    (hres : fn.resultTypes = #[tb]) (htb : P.underlying tb = some .bool) (hvars : s.vars = [])
    (hs : ∀ (ds : List (DataW H)), ds.length = fn.params.toList.length → s.fn H ds = { results := [.lit (.bool true)], args := ds })
    (W : World) (base : Nat) (args : Array Value) (ds gs : List (DataW H)) (before : List MemPlace)
    (hval : ∀ (j : Nat) t v, fn.params[j]? = some t → args[j]? = some v → Value.okWide P W .any base t v)
    (hW : DataW.Whole enc P fn.params.toList s.vars apart W args.toList ds gs before) :
    Calls P k args W fun e W' => ∃ v, e = .returned v ∧ s.post enc P fn apart fresh handsOn false W args v W' := by
  have hW' := hW
  obtain ⟨p, q, hA, hV, rfl, hfz, hnd⟩ := hW
  rw [hvars] at hV
  obtain ⟨rfl, rfl⟩ : gs = [] ∧ q = [] := by
    cases gs with
    | nil => exact ⟨rfl, hV⟩
    | cons g gs => simp [DataW.TrodVars] at hV
  obtain ⟨hlen, Ds, h1, h2, h3⟩ := readAll (β := fun _ _ => none) tys _ _ _ _ hfit (fun j t v hj hv => hval j t v (by simpa using hj) (by simpa using hv)) hA
  have hlen2 : ds.length = fn.params.toList.length := by
    have : ∀ (ts : List TypeId) (vs : List Value) (ds : List (DataW H)) (ps : List MemPlace), DataW.TrodAll enc P W 0 (fun _ => true) true ts vs ds ps → ds.length = ts.length := by
      intro ts
      induction ts with
      | nil =>
        intro vs ds ps h
        cases vs <;> cases ds <;> simp [DataW.TrodAll] at h ⊢
      | cons t ts ih =>
        intro vs ds ps h
        cases vs with
        | nil => simp [DataW.TrodAll] at h
        | cons v vs =>
          cases ds with
          | nil => simp [DataW.TrodAll] at h
          | cons d ds =>
            obtain ⟨_, _, _, h2, _⟩ := h
            simp [ih _ _ _ h2]
    exact this _ _ _ _ hA
  have hsp := hs ds hlen2
  have hcall := (hk Ds h3).2 W (fun _ _ => none) 0 (okW W) args.toList h1 h2 (fun x hx => hx) (by simp) (by simp) (by simp)
  rw [show args.toList.toArray = args by simp] at hcall
  refine hcall.mono fun e W' he => ?_
  obtain ⟨v, rfl, g1, g2, g3, g4, g5, g6, g7, g8⟩ := he
  have hsame : ∀ x, x < W.heap.size → W'.heap[x]? = W.heap[x]? := fun x hx => g5 x hx (by simp)
  have hB : Below W.heap.size W W' := ⟨g1, g2.tape, g3, g4, hsame⟩
  cases g8
  refine ⟨_, rfl, ?_⟩
  have hall := List.all_eq_true.1 hread
  have hold : ∀ x ∈ p ++ [], (fun b => decide (b < W.heap.size)) x.block = true := fun x hx => by simpa using hW'.lt x hx
  refine ⟨ds, [], p ++ [], [], p, [], hW', ?_, ?_, ?_, World.keptBut_mono (fun x hx => ⟨hx, ?_⟩) (hB.frame (· ∈ p ++ [])), fun h => by simp at h⟩
  · rw [List.append_nil, hsp, hres]
    exact trodAll_cons_mk (shut_bool htb _) trodAll_mk0
  · rw [List.append_nil, hsp]
    refine trodAll_stays hlaid _ _ _ _ (fun t ht => ?_) hA (fun x hx => hB.same (hW'.lt x (by simpa using hx))) (fun x hx => hold x (by simpa using hx))
    have := hall t ht
    simp only [Bool.and_eq_true, decide_eq_true_eq] at this
    exact this
  · rw [List.append_nil, hsp, hvars]
    rfl
  · rw [List.append_nil] at hx
    exact .inr (.inl hx)
end
end Go.Vm

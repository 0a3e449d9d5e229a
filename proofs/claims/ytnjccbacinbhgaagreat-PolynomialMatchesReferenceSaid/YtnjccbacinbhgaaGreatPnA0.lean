/- A part of the proof of: All functions return the results of the reference (PolynomialMatchesReference), for every input. -/
import Derived.WalkKit
set_option linter.unusedSimpArgs false
set_option linter.unusedVariables false
namespace Go.Vm
open Go Go.RowKit
abbrev Key := Nat × Nat
inductive D where
  | u
  | i (k : IntKind) (n : Int)
  | b (v : Bool)
  | ub
  | a (cs : List D)
  | t (vs : List D)
  | sl (sz : Nat) (full : Bool) (es : List (List D))
  | p (key : Key) (st off : Nat)
  | w (key : Key) (st sz lo len : Nat)
  | pr (key : Key) (st sz idx fo : Nat)
  | q (cs : List D)
  | m (key : Key) (st : Nat)
  | it (key : Key) (st : Nat)
  | f (fn : FuncId) (first cap : List D)
  deriving Inhabited
abbrev BMap := Key → Nat → Option Nat
def BLe (β β' : BMap) : Prop := ∀ k s x, β k s = some x → β' k s = some x
theorem BLe.refl (β : BMap) : BLe β β := fun _ _ _ h => h
theorem BLe.trans {a b c : BMap} (h : BLe a b) (h' : BLe b c) : BLe a c := fun k s x e => h' k s x (h k s x e)
inductive VR (w : World) (ok : Nat → Prop) (β : BMap) : D → Value → Prop
  | u (v : Value) : VR w ok β .u v
  | i (k : IntKind) (n : Int) : VR w ok β (.i k n) (.int k n)
  | b (v : Bool) : VR w ok β (.b v) (.bool v)
  | ub (v : Bool) : VR w ok β .ub (.bool v)
  | a (cs : List D) (vs : List Value) (hl : cs.length = vs.length) (h : ∀ (j : Nat) (d : D) (v : Value), cs[j]? = some d → vs[j]? = some v → VR w ok β d v)
      (h1 : ∀ v : Value, v ∈ vs → v.oneCell' = true) : VR w ok β (.a cs) (.agg vs.toArray)
  | t (cs : List D) (vs : List Value) (hl : cs.length = vs.length) (h : ∀ (j : Nat) (d : D) (v : Value), cs[j]? = some d → vs[j]? = some v → VR w ok β d v) :
      VR w ok β (.t cs) (.tuple vs.toArray)
  | sl (sz : Nat) (full : Bool) (es : List (List D)) (A : Option Addr) (c blk off : Nat) (cs : Nat → Value)
      (hc : es.length ≤ c) (hm : c ≤ maxLen) (hf : full = true → c = es.length) (hz : ∀ e ∈ es, e.length = sz)
      (hA : es ≠ [] → A = some ⟨blk, off, none⟩ ∧ ok blk)
      (h1 : ∀ q, (cs q).oneCell' = true)
      (h : ∀ (q : Nat) (d : D), es.flatten[q]? = some d → VR w ok β d (cs q)) (hr : ∀ q, q < es.flatten.length → w.cell? ⟨blk, off + q, none⟩ = some (cs q)) :
      VR w ok β (.sl sz full es) (.slice A es.length c)
  | p (key : Key) (st off blk : Nat) (hb : β key st = some blk) : VR w ok β (.p key st off) (.pointer (some ⟨blk, off, none⟩))
  | w (key : Key) (st sz lo len blk c : Nat) (hb : β key st = some blk) (hc : len ≤ c) (hm : c ≤ maxLen)
      (hs : ∃ (vs : Array Value) (e : TypeId), w.heap[blk]? = some (.cells vs e (0, 0)) ∧ (lo + c) * sz ≤ vs.size) :
      VR w ok β (.w key st sz lo len) (.slice (some ⟨blk, lo * sz, none⟩) len c)
  | pr (key : Key) (st sz idx fo blk : Nat) (hb : β key st = some blk) : VR w ok β (.pr key st sz idx fo) (.pointer (some ⟨blk, idx * sz + fo, none⟩))
  | q (cs : List D) (blk off : Nat) (vs : Nat → Value) (hok : ok blk) (h1 : ∀ q, (vs q).oneCell' = true)
      (h : ∀ (q : Nat) (d : D), cs[q]? = some d → VR w ok β d (vs q)) (hr : ∀ q, q < cs.length → w.cell? ⟨blk, off + q, none⟩ = some (vs q)) :
      VR w ok β (.q cs) (.pointer (some ⟨blk, off, none⟩))
  | m (key : Key) (st blk : Nat) (hb : β key st = some blk) : VR w ok β (.m key st) (.map (some blk))
  | it (key : Key) (st blk : Nat) (hb : β key st = some blk) : VR w ok β (.it key st) (.pointer (some ⟨blk, 0, none⟩))
  | f (fn : FuncId) (first cap : List D) (fs cs : List Value) (hl1 : first.length = fs.length) (hl2 : cap.length = cs.length)
      (h1 : ∀ (j : Nat) (d : D) (v : Value), first[j]? = some d → fs[j]? = some v → VR w ok β d v) (h2 : ∀ (j : Nat) (d : D) (v : Value), cap[j]? = some d → cs[j]? = some v → VR w ok β d v) :
      VR w ok β (.f fn first cap) (.func (.func fn) fs.toArray cs.toArray)
def SizeKept (β : BMap) (w w' : World) : Prop := ∀ (k : Key) (s x : Nat) (vs : Array Value) (e : TypeId), β k s = some x → w.heap[x]? = some (.cells vs e (0, 0)) → ∃ vs' : Array Value, w'.heap[x]? = some (.cells vs' e (0, 0)) ∧ vs'.size = vs.size
theorem VR.mono {w w' : World} {ok ok' : Nat → Prop} {β β' : BMap} (hok : ∀ x, ok x → ok' x ∧ w'.heap[x]? = w.heap[x]?) (hβ : BLe β β') (hs : SizeKept β w w') {d : D} {v : Value}
    (h : VR w ok β d v) : VR w' ok' β' d v := by
  induction h with
  | u v => exact .u v
  | i k n => exact .i k n
  | b v => exact .b v
  | ub v => exact .ub v
  | a cs vs hl h h1 ih => exact .a cs vs hl ih h1
  | t cs vs hl h ih => exact .t cs vs hl ih
  | sl sz full es A c blk off cs hc hm hf hz hA h1 h hr ih =>
    refine .sl sz full es A c blk off cs hc hm hf hz (fun hne => ⟨(hA hne).1, (hok _ (hA hne).2).1⟩) h1 ih (fun q hq => ?_)
    have hne : es ≠ [] := by rintro rfl; simp at hq
    rw [← hr q hq]
    exact World.cell?_of_block (w := w) (hok _ (hA hne).2).2
  | p key st off blk hb => exact .p key st off blk (hβ _ _ _ hb)
  | w key st sz lo len blk c hb hc hm hs' =>
    obtain ⟨vs, e, h1, h2⟩ := hs'
    obtain ⟨vs', h3, h4⟩ := hs _ _ _ _ _ hb h1
    exact .w key st sz lo len blk c (hβ _ _ _ hb) hc hm ⟨vs', e, h3, by omega⟩
  | pr key st sz idx fo blk hb => exact .pr key st sz idx fo blk (hβ _ _ _ hb)
  | q cs blk off vs hok' h1 h hr ih =>
    exact .q cs blk off vs (hok _ hok').1 h1 ih (fun q hq => by rw [← hr q hq]; exact World.cell?_of_block (w := w) (hok _ hok').2)
  | m key st blk hb => exact .m key st blk (hβ _ _ _ hb)
  | it key st blk hb => exact .it key st blk (hβ _ _ _ hb)
  | f fn first cap fs cs hl1 hl2 h1 h2 ih1 ih2 => exact .f fn first cap fs cs hl1 hl2 ih1 ih2
inductive Obj where
  | box (cs : List D)
  | row (sz : Nat) (es : List (List D))
  | map (es : List (D × D))
  | iter (key : Key) (st : Nat) (seen : List Nat) (n : Nat)
  | held (c : Option Go.Obj)
  | gone
  deriving Inhabited
def CellsR (w : World) (ok : Nat → Prop) (β : BMap) (cs : List D) (vs : List Value) : Prop :=
  ∀ (q : Nat) (d : D), cs[q]? = some d → ∃ v : Value, vs[q]? = some v ∧ v.oneCell' = true ∧ VR w ok β d v
def Match (w : World) (ok : Nat → Prop) (β : BMap) (x : Nat) : Obj → Prop
  | .box cs => ∃ (vs : Array Value) (e : TypeId), w.heap[x]? = some (.cells vs e (0, 0)) ∧ vs.size = cs.length ∧ CellsR w ok β cs vs.toList
  | .row sz es => ∃ (vs : Array Value) (e : TypeId), w.heap[x]? = some (.cells vs e (0, 0)) ∧ (∀ e ∈ es, e.length = sz) ∧ CellsR w ok β es.flatten vs.toList
  | .map es => ∃ ents : Array MapEntry, w.heap[x]? = some (.map ents es.length) ∧ ents.size = es.length ∧ ∀ (j : Nat) (kd vd : D), es[j]? = some (kd, vd) → ∃ ent : MapEntry, ents[j]? = some ent ∧ ent.born = j ∧ VR w ok β kd ent.key ∧ VR w ok β vd ent.val
  | .iter key st seen n => ∃ m, β key st = some m ∧ w.heap[x]? = some (.mapIter (some m) n seen.toArray n)
  | .held c => w.heap[x]? = c
  | .gone => True
abbrev Sto := Key → Option (Nat × Obj)
def okOf (β : BMap) (σ : Sto) (w : World) (x : Nat) : Prop := x < w.heap.size ∧ ∀ k s o, σ k = some (s, o) → o ≠ .gone → β k s ≠ some x
structure Sim (β : BMap) (σ : Sto) (w : World) : Prop where
  inj : ∀ k s o k' s' o' x, σ k = some (s, o) → σ k' = some (s', o') → o ≠ .gone → o' ≠ .gone → β k s = some x → β k' s' = some x → k = k'
  live : ∀ k s o, σ k = some (s, o) → ∀ x, β k s = some x → Match w (okOf β σ w) β x o
  low : ∀ k s x, β k s = some x → x < w.heap.size
  tot : ∀ k s o, σ k = some (s, o) → ∃ x, β k s = some x
theorem CellsR.mono {w w' : World} {ok ok' : Nat → Prop} {β β' : BMap} {cs : List D} {vs : List Value} (hv : ∀ d v, VR w ok β d v → VR w' ok' β' d v)
    (h : CellsR w ok β cs vs) : CellsR w' ok' β' cs vs := fun q d hq => by
  obtain ⟨v, h1, h2, h3⟩ := h q d hq
  exact ⟨v, h1, h2, hv _ _ h3⟩
theorem Match.mono {w w' : World} {ok ok' : Nat → Prop} {β β' : BMap} {x : Nat} {o : Obj} (hv : ∀ d v, VR w ok β d v → VR w' ok' β' d v) (hβ : BLe β β')
    (hx : w'.heap[x]? = w.heap[x]?) (h : Match w ok β x o) : Match w' ok' β' x o := by
  cases o with
  | box cs => obtain ⟨vs, e, h1, h2, h3⟩ := h; exact ⟨vs, e, hx.trans h1, h2, h3.mono hv⟩
  | row sz es => obtain ⟨vs, e, h1, h2, h3⟩ := h; exact ⟨vs, e, hx.trans h1, h2, h3.mono hv⟩
  | map es =>
    obtain ⟨ents, h1, h2, h3⟩ := h
    refine ⟨ents, hx.trans h1, h2, fun j kd vd hj => ?_⟩
    obtain ⟨ent, q1, q2, q3, q4⟩ := h3 j kd vd hj
    exact ⟨ent, q1, q2, hv _ _ q3, hv _ _ q4⟩
  | iter key st seen n => obtain ⟨m, h1, h2⟩ := h; exact ⟨m, hβ _ _ _ h1, hx.trans h2⟩
  | held c => exact hx.trans h
  | gone => trivial
mutual
def D.nr : D → Bool
  | .a cs => nrL cs
  | .t cs => nrL cs
  | .sl _ _ es => nrLL es
  | .q cs => nrL cs
  | .f _ x y => nrL x && nrL y
  | .p .. | .pr .. | .w .. | .m .. | .it .. => false
  | .u | .i .. | .b .. | .ub => true
def nrL : List D → Bool
  | [] => true
  | d :: ds => d.nr && nrL ds
def nrLL : List (List D) → Bool
  | [] => true
  | e :: es => nrL e && nrLL es
end
theorem nrL_get : ∀ {ds : List D}, nrL ds = true → ∀ {j : Nat} {d : D}, ds[j]? = some d → d.nr = true
  | [], _, j, d, hd => by simp at hd
  | x :: ds, h, j, d, hd => by
    simp only [nrL, Bool.and_eq_true] at h
    cases j with
    | zero => simp at hd; subst hd; exact h.1
    | succ j => exact nrL_get h.2 (j := j) (by simpa using hd)
theorem nrLL_flat : ∀ {es : List (List D)}, nrLL es = true → nrL es.flatten = true
  | [], _ => rfl
  | e :: es, h => by
    simp only [nrLL, Bool.and_eq_true] at h
    rw [List.flatten_cons]
    have : ∀ (x y : List D), nrL x = true → nrL y = true → nrL (x ++ y) = true := by
      intro x y hx hy
      induction x with
      | nil => exact hy
      | cons a x ih => simp only [nrL, Bool.and_eq_true] at hx; simp only [List.cons_append, nrL, Bool.and_eq_true]; exact ⟨hx.1, ih hx.2⟩
    exact this _ _ h.1 (nrLL_flat h.2)
theorem VR.any {w : World} {ok : Nat → Prop} {β : BMap} {d : D} {v : Value} (h : VR w ok β d v) (hd : d.nr = true) (β' : BMap) : VR w ok β' d v := by
  induction h with
  | u v => exact .u v
  | i k n => exact .i k n
  | b v => exact .b v
  | ub v => exact .ub v
  | a cs vs hl h h1 ih => exact .a cs vs hl (fun j d v e1 e2 => ih j d v e1 e2 (nrL_get (by simpa [D.nr] using hd) e1)) h1
  | t cs vs hl h ih => exact .t cs vs hl (fun j d v e1 e2 => ih j d v e1 e2 (nrL_get (by simpa [D.nr] using hd) e1))
  | sl sz full es A c blk off cs hc hm hf hz hA h1 h hr ih =>
    exact .sl sz full es A c blk off cs hc hm hf hz hA h1 (fun q d e => ih q d e (nrL_get (nrLL_flat (by simpa [D.nr] using hd)) e)) hr
  | q cs blk off vs hok h1 h hr ih => exact .q cs blk off vs hok h1 (fun q d e => ih q d e (nrL_get (by simpa [D.nr] using hd) e)) hr
  | f fn first cap fs cs hl1 hl2 h1 h2 ih1 ih2 =>
    simp only [D.nr, Bool.and_eq_true] at hd
    exact .f fn first cap fs cs hl1 hl2 (fun j d v e1 e2 => ih1 j d v e1 e2 (nrL_get hd.1 e1)) (fun j d v e1 e2 => ih2 j d v e1 e2 (nrL_get hd.2 e1))
  | _ => simp [D.nr] at hd
def Obj.nr : Obj → Bool
  | .box cs => nrL cs
  | .row _ es => nrLL es
  | .map es => nrL (es.map (·.1)) && nrL (es.map (·.2))
  | .iter .. => false
  | .held _ => true
  | .gone => true
theorem CellsR.any {w : World} {ok : Nat → Prop} {β : BMap} {cs : List D} {vs : List Value} (h : CellsR w ok β cs vs) (hd : nrL cs = true) (β' : BMap) : CellsR w ok β' cs vs := fun q d hq => by
  obtain ⟨v, h1, h2, h3⟩ := h q d hq
  exact ⟨v, h1, h2, h3.any (nrL_get hd hq) β'⟩
theorem Match.any {w : World} {ok : Nat → Prop} {β : BMap} {x : Nat} {o : Obj} (h : Match w ok β x o) (hd : o.nr = true) (β' : BMap) : Match w ok β' x o := by
  cases o with
  | box cs => obtain ⟨vs, e, h1, h2, h3⟩ := h; exact ⟨vs, e, h1, h2, h3.any hd β'⟩
  | row sz es => obtain ⟨vs, e, h1, h2, h3⟩ := h; exact ⟨vs, e, h1, h2, h3.any (nrLL_flat hd) β'⟩
  | map es =>
    obtain ⟨ents, h1, h2, h3⟩ := h
    simp only [Obj.nr, Bool.and_eq_true] at hd
    refine ⟨ents, h1, h2, fun j kd vd hj => ?_⟩
    obtain ⟨ent, q1, q2, q3, q4⟩ := h3 j kd vd hj
    exact ⟨ent, q1, q2, q3.any (nrL_get hd.1 (j := j) (by simp [hj])) β', q4.any (nrL_get hd.2 (j := j) (by simp [hj])) β'⟩
  | iter => simp [Obj.nr] at hd
  | held c => exact h
  | gone => trivial
def aggOf (P : Program) (t : TypeId) : Option Bool := (P.underlying t).map fun | .struct _ | .array _ _ => true | _ => false
def szOf (P : Program) (t : TypeId) : Option Nat := (P.info? t).map (·.size)
def bytesOf (P : Program) (t : TypeId) : Option Nat := (P.info? t).map (·.bytes)
def zeroOf (P : Program) (t : TypeId) : Option Value := (P.info? t).bind (·.zero)
section
variable {P : Program} {w : World}
theorem run_isAgg {t : TypeId} {b : Bool} (h : aggOf P t = some b) : (isAgg t).run P w = .ok b w := by
  unfold aggOf at h
  cases hu : P.underlying t with
  | none => simp [hu] at h
  | some d =>
    unfold isAgg
    rw [Sem.run_bind, run_underlying hu w]
    rw [hu] at h
    cases d <;> simp_all
theorem run_sizeOf {t : TypeId} {n : Nat} (h : szOf P t = some n) : (sizeOf t).run P w = .ok n w := by
  unfold szOf at h
  cases hi : P.info? t with
  | none => simp [hi] at h
  | some i => simp [hi] at h; simp [sizeOf, typeInfo, hi, h]
theorem run_zeroValue {t : TypeId} {z : Value} (h : zeroOf P t = some z) : (zeroValue t).run P w = .ok z w := by
  unfold zeroOf at h
  cases hi : P.info? t with
  | none => simp [hi] at h
  | some i => simp [hi] at h; simp [zeroValue, typeInfo, hi, h]
end
def D.cells? : D → Option (List D)
  | .u => none
  | .t _ => none
  | .a cs => some cs
  | d => some [d]
def mkV (agg : Bool) (cs : List D) : Option D := if agg then some (.a cs) else match cs with
  | [d] => some d
  | _ => none
section
variable {w : World} {ok : Nat → Prop} {β : BMap}
theorem VR.oneCell {d : D} {v : Value} (h : VR w ok β d v) (h1 : d ≠ .u) (h2 : ∀ cs, d ≠ .a cs) (h3 : ∀ cs, d ≠ .t cs) : v.oneCell' = true := by
  cases h <;> first | rfl | exact absurd rfl h1 | exact absurd rfl (h2 _) | exact absurd rfl (h3 _)
theorem Value.cells_one {v : Value} (h : v.oneCell' = true) : v.cells = #[v] := by cases v <;> first | rfl | simp [Value.oneCell'] at h
theorem VR.cells {d : D} {v : Value} {cs : List D} (h : VR w ok β d v) (hc : d.cells? = some cs) : v.cells.size = cs.length ∧ CellsR w ok β cs v.cells.toList := by
  have single : d.cells? = some [d] → d ≠ .u → (∀ cs, d ≠ .a cs) → (∀ cs, d ≠ .t cs) → v.cells.size = cs.length ∧ CellsR w ok β cs v.cells.toList := by
    intro he g1 g2 g3
    rw [he] at hc
    injection hc with hc
    subst hc
    have ho := h.oneCell g1 g2 g3
    rw [Value.cells_one ho]
    refine ⟨rfl, fun q d' hq => ?_⟩
    cases q with
    | zero => simp at hq; subst hq; exact ⟨v, rfl, ho, h⟩
    | succ q => simp at hq
  cases d with
  | u => simp [D.cells?] at hc
  | t => simp [D.cells?] at hc
  | a ds =>
    simp [D.cells?] at hc
    subst hc
    cases h with
    | a _ vs hl h h1 =>
      refine ⟨by simp [Value.cells, hl], fun q d hq => ?_⟩
      have hlt : q < vs.length := by
        have := (List.getElem?_eq_some_iff.1 hq).1
        omega
      exact ⟨vs[q], by simp [Value.cells, hlt], h1 _ (List.getElem_mem _), h q d _ hq (List.getElem?_eq_getElem hlt)⟩
  | _ => exact single rfl (by simp) (by simp) (by simp)
theorem CellsR.take {cs : List D} {vs : List Value} (h : CellsR w ok β cs vs) (o n : Nat) (hl : o + n ≤ cs.length) : CellsR w ok β ((cs.drop o).take n) ((vs.drop o).take n) := by
  intro q d hq
  rw [List.getElem?_take] at hq
  split at hq
  · rename_i hqn
    rw [List.getElem?_drop] at hq
    obtain ⟨v, h1, h2, h3⟩ := h _ d hq
    exact ⟨v, by rw [List.getElem?_take, if_pos hqn, List.getElem?_drop]; exact h1, h2, h3⟩
  · simp at hq
theorem VR.mk {agg : Bool} {cs : List D} {vs : List Value} {d : D} (hl : vs.length = cs.length) (h : CellsR w ok β cs vs) (hd : mkV agg cs = some d) :
    VR w ok β d (if agg then .agg vs.toArray else vs.headD undef) := by
  unfold mkV at hd
  cases agg with
  | true =>
    simp at hd
    subst hd
    refine .a cs vs hl.symm (fun j d v hj hv => ?_) (fun v hv => ?_)
    · obtain ⟨v', h1, _, h3⟩ := h j d hj
      rw [hv] at h1
      injection h1 with h1
      subst h1
      exact h3
    · obtain ⟨j, hj, rfl⟩ := List.mem_iff_getElem.1 hv
      obtain ⟨v', h1, h2, _⟩ := h j cs[j] (List.getElem?_eq_getElem (by omega))
      rw [List.getElem?_eq_getElem hj] at h1
      injection h1 with h1
      rw [h1]; exact h2
  | false =>
    simp at hd
    cases cs with
    | nil => simp at hd
    | cons c cs =>
      cases cs with
      | cons _ _ => simp at hd
      | nil =>
        simp at hd
        subst hd
        obtain ⟨v', h1, _, h3⟩ := h 0 c rfl
        cases vs with
        | nil => simp at h1
        | cons x vs => simp at h1; subst h1; simpa using h3
end
def okConst : Value → D → Bool
  | .int k n, .i k' m => k == k' && n == m
  | .bool x, .b y => x == y
  | .slice none 0 0, .sl _ true [] => true
  | .tuple cs, .t [] => cs.size == 0
  | _, .u => true
  | _, _ => false
theorem okConst_vr {v : Value} {d : D} (h : okConst v d = true) (w : World) (ok : Nat → Prop) (β : BMap) : VR w ok β d v := by
  unfold okConst at h
  split at h
  · simp at h; obtain ⟨rfl, rfl⟩ := h; exact .i _ _
  · simp at h; subst h; exact .b _
  · exact .sl _ true [] none 0 0 0 (fun _ => .bool true) (by simp) (by simp [maxLen]) (by simp) (by simp) (by simp) (fun _ => rfl) (by simp) (by simp)
  · rename_i cs
    have : cs = #[] := by
      have h' : cs.size = 0 := by simpa using h
      exact Array.eq_empty_of_size_eq_zero h'
    subst this
    exact .t [] [] rfl (by simp)
  · exact .u _
  · simp at h
inductive Arg where
  | t (s : Nat)
  | k (d : D)
  deriving Inhabited
abbrev Regs := Nat → D
def Arg.get (r : Regs) : Arg → D
  | .t s => r s
  | .k d => d
def chkArg : Operand → Arg → Bool
  | .tmp t, .t s => t == s
  | .const v, .k d => okConst v d
  | .func f, .k (.f g [] []) => f == g
  | .global _, .k .u => true
  | _, _ => false
theorem chkArg_vr {x : Operand} {y : Arg} (h : chkArg x y = true) {w : World} {ok : Nat → Prop} {β : BMap} {r : Regs} {a : Act} (hr : ∀ s, VR w ok β (r s) (a.tmps.getD s undef)) :
    VR w ok β (y.get r) (a.eval x) := by
  unfold chkArg at h
  split at h
  · simp at h; subst h; exact hr _
  · exact okConst_vr h _ _ _
  · simp at h; subst h; exact .f _ [] [] [] [] rfl rfl (by simp) (by simp)
  · exact .u _
  · simp at h
structure St where
  r : Regs
  own : Nat → Option (Nat × Obj)
  out : Sto
  nx : Nat
def St.look (fr : Nat) (st : St) : Sto := fun k => if k.1 = fr then st.own k.2 else st.out k
def upd {α : Type} (f : Nat → α) (s : Nat) (x : α) : Nat → α := fun j => if j = s then x else f j
def St.put (st : St) (dst : Option Nat) (d : D) : St := match dst with
  | some s => { st with r := upd st.r s d }
  | none => st
structure Rel (N fr : Nat) (st : St) (β : BMap) (a : Act) (w : World) : Prop where
  size : a.tmps.size = N
  defers : a.defers = []
  regs : ∀ s, VR w (okOf β (st.look fr) w) β (st.r s) (a.tmps.getD s undef)
  sim : Sim β (st.look fr) w
  fresh : ∀ k s x, β k s = some x → k.1 ≤ fr ∧ (k.1 = fr → s ≤ st.nx ∧ (s = st.nx → ∃ o, st.own k.2 = some (st.nx, o)))
structure Tp (w w' : World) : Prop where
  tape : w'.tape = w.tape
  drawn : w.drawn ≤ w'.drawn
theorem Tp.refl (w : World) : Tp w w := ⟨rfl, Nat.le_refl _⟩
theorem Tp.trans {w w' w'' : World} (h : Tp w w') (k : Tp w' w'') : Tp w w'' := ⟨k.tape.trans h.tape, Nat.le_trans h.drawn k.drawn⟩
theorem Tp.same {w w' : World} (h : w'.tape = w.tape) (k : w'.drawn = w.drawn) : Tp w w' := ⟨h, by omega⟩
structure Trans (β : BMap) (σ : Sto) (w : World) (β' : BMap) (σ' : Sto) (w' : World) : Prop where
  le : BLe β β'
  os : w'.os = w.os
  tape : Tp w w'
  output : w'.output = w.output
  size : w.heap.size ≤ w'.heap.size
  okm : ∀ x, okOf β σ w x → okOf β' σ' w' x ∧ w'.heap[x]? = w.heap[x]?
  kept : SizeKept β w w'
theorem SizeKept.refl (β : BMap) (w : World) : SizeKept β w w := fun _ _ _ vs _ _ h => ⟨vs, h, rfl⟩
theorem Trans.refl (β : BMap) (σ : Sto) (w : World) : Trans β σ w β σ w := ⟨.refl β, rfl, .refl w, rfl, Nat.le_refl _, fun _ h => ⟨h, rfl⟩, .refl β w⟩
theorem Trans.trans {β β' β'' : BMap} {σ σ' σ'' : Sto} {w w' w'' : World} (h : Trans β σ w β' σ' w') (k : Trans β' σ' w' β'' σ'' w'') : Trans β σ w β'' σ'' w'' :=
  ⟨h.le.trans k.le, k.os.trans h.os, h.tape.trans k.tape, k.output.trans h.output, Nat.le_trans h.size k.size,
   fun x hx => ⟨(k.okm x (h.okm x hx).1).1, ((k.okm x (h.okm x hx).1).2).trans (h.okm x hx).2⟩,
   fun q s x vs e hb hv => by
    obtain ⟨vs1, h1, h2⟩ := h.kept q s x vs e hb hv
    obtain ⟨vs2, h3, h4⟩ := k.kept q s x vs1 e (h.le _ _ _ hb) h1
    exact ⟨vs2, h3, h4.trans h2⟩⟩
theorem Trans.vr {β β' : BMap} {σ σ' : Sto} {w w' : World} (h : Trans β σ w β' σ' w') {d : D} {v : Value} (hv : VR w (okOf β σ w) β d v) : VR w' (okOf β' σ' w') β' d v :=
  hv.mono h.okm h.le h.kept
theorem Trans.drew (β : BMap) (σ : Sto) (w : World) : Trans β σ w β σ w.drew := ⟨.refl β, rfl, ⟨rfl, Nat.le_succ _⟩, rfl, Nat.le_refl _, fun _ h => ⟨h, rfl⟩, fun _ _ _ vs _ _ h => ⟨vs, h, rfl⟩⟩
theorem getD_set (ts : Array Value) (s j : Nat) (v : Value) (h : s < ts.size) : (ts.setIfInBounds s v).getD j undef = if j = s then v else ts.getD j undef := by
  simp only [Array.getD_eq_getD_getElem?, Array.getElem?_setIfInBounds]
  by_cases hj : s = j
  · subst hj; simp [h]
  · simp [hj, Ne.symm hj]
section
variable {N fr : Nat} {st : St} {β : BMap} {a : Act} {w : World}
theorem look_put (dst : Option Nat) (d : D) : (st.put dst d).look fr = st.look fr := by cases dst <;> rfl
theorem Rel.put (h : Rel N fr st β a w) {dst : Option Nat} (hd : ∀ s, dst = some s → s < N) {d : D} {v : Value} (hv : VR w (okOf β (st.look fr) w) β d v) :
    Rel N fr (st.put dst d) β (a.put dst v) w := by
  cases dst with
  | none => exact h
  | some s =>
    refine ⟨by simpa [Act.put] using h.size, h.defers, fun j => ?_, h.sim, h.fresh⟩
    show VR _ _ _ (upd st.r s d j) _
    simp only [Act.put]
    rw [getD_set _ _ _ _ (by rw [h.size]; exact hd s rfl)]
    unfold upd
    split
    · exact hv
    · exact h.regs j
theorem Rel.go {st' : St} {β' : BMap} {w' : World} (h : Rel N fr st β a w) (hr : st'.r = st.r) (ht : Trans β (st.look fr) w β' (st'.look fr) w') (hs : Sim β' (st'.look fr) w')
    (hf : ∀ k s x, β' k s = some x → k.1 ≤ fr ∧ (k.1 = fr → s ≤ st'.nx ∧ (s = st'.nx → ∃ o, st'.own k.2 = some (st'.nx, o)))) : Rel N fr st' β' a w' :=
  ⟨h.size, h.defers, fun s => by rw [hr]; exact ht.vr (h.regs s), hs, hf⟩
theorem Sim.drew {σ : Sto} (h : Sim β σ w) : Sim β σ w.drew :=
  ⟨h.inj, fun k s o hk x hx => Match.mono (w := w) (w' := w.drew) (ok := okOf β σ w) (ok' := okOf β σ w.drew) (β := β) (β' := β) (fun d v hv => VR.mono (w := w) (w' := w.drew) (ok := okOf β σ w) (ok' := okOf β σ w.drew) (fun _ hx => ⟨hx, rfl⟩) (.refl β) (fun _ _ _ vs _ _ h => ⟨vs, h, rfl⟩) hv) (.refl β) rfl (h.live k s o hk x hx), h.low, h.tot⟩
theorem Rel.drew (h : Rel N fr st β a w) : Rel N fr st β a w.drew := h.go rfl (.drew _ _ _) h.sim.drew h.fresh
end
def Post (N fr : Nat) (K : St → Prop) (β : BMap) (σ : Sto) (w : World) (a' : Act) (w' : World) : Prop :=
  ∃ st' β', K st' ∧ Rel N fr st' β' a' w' ∧ Trans β σ w β' (st'.look fr) w'
def cellsAt (L : Sto) (d : D) (n : Nat) : Option (List D) := match d with
  | .q cs => if n ≤ cs.length then some (cs.take n) else none
  | .p key st off => match L key with
    | some (st', .box cs) => if st = st' ∧ off + n ≤ cs.length then some ((cs.drop off).take n) else none
    | _ => none
  | .pr key st sz idx fo => match L key with
    | some (st', .row sz' es) => if st = st' ∧ sz = sz' then match es[idx]? with
        | some e => if fo + n ≤ e.length then some ((e.drop fo).take n) else none
        | none => none else none
    | _ => none
  | _ => none
theorem flatten_length {α : Type} {sz : Nat} : ∀ {es : List (List α)}, (∀ e ∈ es, e.length = sz) → es.flatten.length = es.length * sz
  | [], _ => by simp
  | e :: es, h => by
    rw [List.flatten_cons, List.length_append, flatten_length (es := es) (fun x hx => h x (List.mem_cons_of_mem _ hx)), h e List.mem_cons_self, List.length_cons, Nat.succ_mul]
    omega
theorem flatten_get {α : Type} {sz : Nat} : ∀ {es : List (List α)} (i q : Nat), (∀ e ∈ es, e.length = sz) → q < sz → es.flatten[i * sz + q]? = (es[i]?).bind (·[q]?)
  | [], i, q, _, _ => by simp
  | e :: es, 0, q, h, hq => by
    have he := h e List.mem_cons_self
    rw [List.flatten_cons, Nat.zero_mul, Nat.zero_add, List.getElem?_append_left (by omega)]
    simp
  | e :: es, i + 1, q, h, hq => by
    have he := h e List.mem_cons_self
    rw [List.flatten_cons, Nat.succ_mul, List.getElem?_append_right (by omega), show i * sz + sz + q - e.length = i * sz + q by omega, flatten_get i q (fun x hx => h x (List.mem_cons_of_mem _ hx)) hq]
    simp
theorem flatten_drop {α : Type} {sz : Nat} {es : List (List α)} (h : ∀ e ∈ es, e.length = sz) {i : Nat} {e : List α} (he : es[i]? = some e) (fo n : Nat) (hl : fo + n ≤ e.length) :
    (es.flatten.drop (i * sz + fo)).take n = (e.drop fo).take n := by
  have hes : e.length = sz := h e (List.mem_of_getElem? he)
  apply List.ext_getElem?
  intro q
  rw [List.getElem?_take, List.getElem?_take]
  split
  · rename_i hq
    rw [List.getElem?_drop, List.getElem?_drop, Nat.add_assoc, flatten_get _ _ h (by omega), he]
    rfl
  · rfl
theorem add_none (b o n : Nat) : (⟨b, o, none⟩ : Addr).add n = ⟨b, o + n, none⟩ := by unfold Addr.add; split <;> simp_all
section
variable {P : Program} {w : World} {ok : Nat → Prop} {β : BMap}
theorem cellsAt_vr {σ : Sto} (hS : Sim β σ w) {d : D} {v : Value} {n : Nat} {cs : List D} (hv : VR w (okOf β σ w) β d v) (hc : cellsAt σ d n = some cs) :
    ∃ blk off vs, v = .pointer (some ⟨blk, off, none⟩) ∧ vs.length = n ∧ cs.length = n ∧ CellsR w (okOf β σ w) β cs vs ∧ ∀ q u, vs[q]? = some u → w.cell? ⟨blk, off + q, none⟩ = some u := by
  unfold cellsAt at hc
  split at hc
  · rename_i cs0
    cases hv with
    | q _ blk off vs hok h1 h hr =>
      split at hc
      · rename_i hn
        injection hc with hc
        subst hc
        refine ⟨blk, off, (List.range n).map vs, rfl, by simp, by simp; omega, fun q d hq => ?_, fun q u hu => ?_⟩
        · rw [List.getElem?_take] at hq
          split at hq
          · rename_i hqn
            exact ⟨vs q, by simp [hqn], h1 q, h q d hq⟩
          · simp at hq
        · have hqn : q < n := by
            have := (List.getElem?_eq_some_iff.1 hu).1
            simpa using this
          simp [hqn] at hu
          subst hu
          exact hr q (by omega)
      · simp at hc
  · rename_i key st off
    cases hv with
    | p _ _ _ blk hb =>
      split at hc
      · rename_i st' cs0 hL
        split at hc
        · rename_i hcond
          obtain ⟨rfl, hn⟩ := hcond
          injection hc with hc
          subst hc
          obtain ⟨vs, e, h1, h2, h3⟩ := hS.live _ _ _ hL _ hb
          refine ⟨blk, off, (vs.toList.drop off).take n, rfl, by simp; omega, by simp; omega, h3.take off n hn, fun q u hu => ?_⟩
          rw [List.getElem?_take] at hu
          split at hu
          · rw [List.getElem?_drop] at hu
            simp only [World.cell?, h1]
            simpa using hu
          · simp at hu
        · simp at hc
      · simp at hc
  · rename_i key st sz idx fo
    cases hv with
    | pr _ _ _ _ _ blk hb =>
      split at hc
      · rename_i st' sz' es hL
        split at hc
        · rename_i hcond
          obtain ⟨rfl, rfl⟩ := hcond
          split at hc
          · rename_i e he
            split at hc
            · rename_i hn
              injection hc with hc
              subst hc
              obtain ⟨vs, ty, h1, h2, h3⟩ := hS.live _ _ _ hL _ hb
              have hfl := flatten_length h2
              have hlen : e.length = sz := h2 e (List.mem_of_getElem? he)
              have hi : idx < es.length := (List.getElem?_eq_some_iff.1 he).1
              have hle : idx * sz + sz ≤ es.length * sz := by rw [← Nat.succ_mul]; exact Nat.mul_le_mul_right _ hi
              have h4 := h3.take (idx * sz + fo) n (by omega)
              rw [flatten_drop h2 he fo n hn] at h4
              have hvl : es.flatten.length ≤ vs.toList.length := by
                rcases Nat.eq_zero_or_pos es.flatten.length with h0 | h0
                · omega
                · obtain ⟨v, hv, _⟩ := h3 (es.flatten.length - 1) _ (List.getElem?_eq_getElem (by omega))
                  have := (List.getElem?_eq_some_iff.1 hv).1
                  omega
              refine ⟨blk, idx * sz + fo, (vs.toList.drop (idx * sz + fo)).take n, rfl, by rw [List.length_take, List.length_drop]; omega, by rw [List.length_take, List.length_drop]; omega, h4, fun q u hu => ?_⟩
              rw [List.getElem?_take] at hu
              split at hu
              · rw [List.getElem?_drop] at hu
                simp only [World.cell?, h1]
                simpa using hu
              · simp at hu
            · simp at hc
          · simp at hc
        · simp at hc
      · simp at hc
  · simp at hc
theorem run_loadAt {σ : Sto} (hS : Sim β σ w) {d e : D} {v : Value} {t : TypeId} {n : Nat} {agg : Bool} {cs : List D} (hagg : aggOf P t = some agg) (hsz : szOf P t = some n)
    (hv : VR w (okOf β σ w) β d v) (hc : cellsAt σ d n = some cs) (he : mkV agg cs = some e) : ∃ u, (Instr.loadAt t v).run P w = .ok u w ∧ VR w (okOf β σ w) β e u := by
  obtain ⟨blk, off, vs, rfl, hl, hlc, hR, hcell⟩ := cellsAt_vr hS hv hc
  have hmk := VR.mk (by omega) hR he
  cases agg with
  | true =>
    refine ⟨.agg vs.toArray, ?_, by simpa using hmk⟩
    have hload := run_loadCells_list (P := P) w ⟨blk, off, none⟩ vs (fun j u hu => by rw [add_none]; exact hcell j u hu)
    rw [hl] at hload
    simp [Instr.loadAt, Instr.sureAddr, loadVar, run_isAgg hagg, run_sizeOf hsz, hload]
  | false =>
    have hcs : cs.length = 1 := by
      unfold mkV at he
      simp at he
      cases cs with
      | nil => simp at he
      | cons c cs => cases cs with
        | nil => rfl
        | cons _ _ => simp at he
    cases vs with
    | nil => simp at hl; omega
    | cons u vs =>
      refine ⟨u, ?_, by simpa using hmk⟩
      have := hcell 0 u rfl
      rw [Nat.add_zero] at this
      simp [Instr.loadAt, Instr.sureAddr, loadVar, run_isAgg hagg, this]
end
inductive IOp where
  | mv (x : Arg)
  | pick (c a b : Arg)
  | un (op : UnOp) (x : Arg)
  | bin (op : BinOp) (x y : Arg)
  | eqa (neg : Bool) (len : Nat) (x y : Arg)
  | eqb (neg : Bool) (x y : Arg)
  | conv (k : IntKind) (x : Arg)
  | build (z : List D) (parts : List (Nat × Nat × Arg))
  | load (n : Nat) (agg : Bool) (x : Arg)
  | fld (off : Nat) (x : Arg)
  | ixa (len sz : Nat) (x i : Arg)
  | ixs (sz : Nat) (x i : Arg)
  | fldv (off n : Nat) (agg : Bool) (x : Arg)
  | ext (j : Nat) (x : Arg)
  | len (x : Arg)
  | mx (x y : Arg)
  | mn (x y : Arg)
  | slc (sz : Nat) (x : Arg) (lo hi m : Option Arg)
  | nilc (x : Arg)
  | mkf (f : FuncId) (caps : List Arg)
  | bsl (sz : Nat) (parts : List Arg)
  -- they change the state
  | alloc (z : List D)
  | box (x : Arg)
  | store (n : Nat) (x y : Arg)
  | mk (sz bytes : Nat) (z : List D) (n c : Arg)
  | app (sz bytes : Nat) (x y : Arg)
  | cpy (sz : Nat) (x y : Arg)
  | sla (len : Nat) (x : Arg)
  | call (f : FuncId) (args : List Arg)
  | callv (x : Arg) (args : List Arg)
  | callR (f : FuncId) (args : List Arg)
  | callvR (x : Arg) (args : List Arg)
  | mkmap
  | mapget (len : Nat) (vz : List D) (agg ok : Bool) (m k : Arg)
  | mapset (len : Nat) (m k v : Arg)
  | range (m : Arg)
  | next (kagg vagg : Bool) (i : Arg)
  | entry (i : Arg)
  | ixv (len sz : Nat) (agg : Bool) (x i : Arg)
  | tab (l : List Nat) (i : Arg)
  | nilq (neg : Bool) (x : Arg)
  | callN (f : FuncId) (args : List Arg)
  | bad
  deriving Inhabited
def evCmp (op : BinOp) (x y : Int) : Option D := match op with
  | .eql => some (.b (x == y))
  | .neq => some (.b (x != y))
  | .lss => some (.b (decide (x < y)))
  | .leq => some (.b (decide (x ≤ y)))
  | .gtr => some (.b (decide (x > y)))
  | .geq => some (.b (decide (x ≥ y)))
  | _ => none
def intsEq : List D → List D → Option Bool
  | [], [] => some true
  | .i k n :: xs, .i k' m :: ys => if k = k' then if n = m then intsEq xs ys else some false else none
  | _, _ => none
def evBin (op : BinOp) (x y : D) : Option D := match x, y with
  | .i k a, .i k' b => match op with
    | .shl => if b < 0 then none else some (.i k (k.wrap (a * 2 ^ (min b.toNat k.bits))))
    | .shr => if b < 0 then none else some (.i k (a.fdiv (2 ^ (min b.toNat k.bits))))
    | .add => if k = k' then some (.i k (k.wrap (a + b))) else none
    | .sub => if k = k' then some (.i k (k.wrap (a - b))) else none
    | .mul => if k = k' then some (.i k (k.wrap (a * b))) else none
    | .quo => if k = k' ∧ b ≠ 0 then some (.i k (k.wrap (a.tdiv b))) else none
    | .rem => if k = k' ∧ b ≠ 0 then some (.i k (a.tmod b)) else none
    | .and => if k = k' then some (.i k (bits .and k a b)) else none
    | .or => if k = k' then some (.i k (bits .or k a b)) else none
    | .xor => if k = k' then some (.i k (bits .xor k a b)) else none
    | .andNot => if k = k' then some (.i k (bits .andNot k a b)) else none
    | op => if k = k' then evCmp op a b else none
  | _, _ => none
def evEqb (neg : Bool) (x y : D) : Option D := match x, y with
  | .b x, .b y => some (.b ((x == y) != neg))
  | _, _ => none
def evEqa (neg : Bool) (len : Nat) (x y : D) : Option D := match x, y with
  | .a xs, .a ys => if xs.length = len ∧ ys.length = len then (intsEq xs ys).map fun e => .b (e != neg) else none
  | _, _ => none
def evUn (op : UnOp) (x : D) : Option D := match op, x with
  | .not, .b v => some (.b !v)
  | .neg, .i k n => some (.i k (k.wrap (0 - n)))
  | .xor, .i k n => some (.i k (bits .xor k (if k.signed then -1 else k.max) n))
  | _, _ => none
def keyEq (len : Nat) (x y : D) : Option Bool := match x, y with
  | .a xs, .a ys => if xs.length = len ∧ ys.length = len then intsEq xs ys else none
  | _, _ => none
def mfind (len : Nat) (k : D) : List (D × D) → Nat → Option (Option (Nat × D))
  | [], _ => some none
  | (a, v) :: es, i => match keyEq len k a with
    | some true => some (some (i, v))
    | some false => mfind len k es (i + 1)
    | none => none
def mapgetD (L : Sto) (len : Nat) (vz : List D) (agg ok : Bool) (m k : D) : Option D := match m with
  | .m key st => match L key with
    | some (st', .map es) => if st = st' ∧ keyEq len k k = some true then match mfind len k es 0 with
        | some (some (_, v)) => some (if ok then .t [v, .b true] else v)
        | some none => (mkV agg vz).map fun z => if ok then .t [z, .b false] else z
        | none => none
      else none
    | _ => none
  | _ => none
def entryD (L : Sto) (d : D) : Option D := match d with
  | .it key z => match L key with
    | some (z', .iter mk mz seen n) => match L mk with
      | some (mz', .map es) => if z = z' ∧ mz = mz' ∧ es.length = n then match seen.getLast? with
          | some j => (es[j]?).map fun p => .t [p.1, p.2]
          | none => none
        else none
      | _ => none
    | _ => none
  | _ => none
def splice {α : Type} (z : List α) (off : Nat) (cs : List α) : List α := z.take off ++ cs ++ z.drop (off + cs.length)
def fillD (r : Regs) : List D → List (Nat × Nat × Arg) → Option (List D)
  | z, [] => some z
  | z, (off, n, x) :: rest => match (x.get r).cells? with
    | some cs => if cs.length = n ∧ off + n ≤ z.length then fillD r (splice z off cs) rest else none
    | none => none
def partsD (r : Regs) (sz : Nat) : List Arg → Option (List (List D))
  | [] => some []
  | x :: rest => match (x.get r).cells? with
    | some cs => if cs.length = sz then (partsD r sz rest).map (cs :: ·) else none
    | none => none
def bnd (r : Regs) (dflt : Nat) (upto : Nat) : Option Arg → Option Nat
  | none => some dflt
  | some x => match x.get r with
    | .i _ n => if 0 ≤ n ∧ n ≤ upto then some n.toNat else none
    | _ => none
def bndM (r : Regs) (n : Nat) : Option Arg → Option (Option Nat)
  | none => some none
  | some m => (bnd r n n (some m)).map some
def fullOf : Option Nat → Bool → Nat → Nat → Bool
  | some m, _, h, _ => decide (h = m)
  | none, full, h, n => full && decide (h = n)
def evSlc (sz : Nat) (d : D) (l h : Nat) (m : Option Nat) : Option D := match d with
  | .sl sz' full es => if sz = sz' ∧ l ≤ h ∧ h ≤ es.length then
      some (.sl sz (fullOf m full h es.length) ((es.drop l).take (h - l))) else none
  | .w k st sz' lo n => if sz = sz' ∧ l ≤ h ∧ h ≤ n ∧ (l = 0 ∨ l < h) then some (.w k st sz (lo + l) (h - l)) else none
  | _ => none
def lenD : D → Option Nat
  | .sl _ _ es => some es.length
  | .w _ _ _ _ n => some n
  | _ => none
def ev (L : Sto) (r : Regs) : IOp → Option D
  | .mv x => some (x.get r)
  | .pick c a b => match c.get r with
    | .b v => some (if v then a.get r else b.get r)
    | _ => none
  | .un op x => evUn op (x.get r)
  | .bin op x y => evBin op (x.get r) (y.get r)
  | .eqa neg len x y => evEqa neg len (x.get r) (y.get r)
  | .eqb neg x y => evEqb neg (x.get r) (y.get r)
  | .conv k x => match x.get r with
    | .i _ n => some (.i k (k.wrap n))
    | _ => none
  | .build z parts => (fillD r z parts).map .a
  | .load n agg x => match cellsAt L (x.get r) n with
    | some cs => mkV agg cs
    | none => none
  | .fld off x => match x.get r with
    | .p k s o => some (.p k s (o + off))
    | .pr k s sz i fo => some (.pr k s sz i (fo + off))
    | .q cs => some (.q (cs.drop off))
    | _ => none
  | .ixa len sz x i => match i.get r with
    | .i _ n => if 0 ≤ n ∧ n < len then match x.get r with
        | .p k s o => some (.p k s (o + n.toNat * sz))
        | .pr k s sz' i fo => some (.pr k s sz' i (fo + n.toNat * sz))
        | .q cs => some (.q (cs.drop (n.toNat * sz)))
        | _ => none else none
    | _ => none
  | .ixs sz x i => match i.get r with
    | .i _ n => if 0 ≤ n then match x.get r with
        | .sl sz' _ es => if sz = sz' then match es[n.toNat]? with
            | some e => some (.q e)
            | none => none else none
        | .w k s sz' lo len => if sz = sz' ∧ n.toNat < len then some (.pr k s sz (lo + n.toNat) 0) else none
        | _ => none else none
    | _ => none
  | .fldv off n agg x => match x.get r with
    | .a cs => if off + n ≤ cs.length then mkV agg ((cs.drop off).take n) else none
    | _ => none
  | .ext j x => match x.get r with
    | .t cs => cs[j]?
    | _ => none
  | .len x => match lenD (x.get r) with
    | some n => some (.i .i64 n)
    | none => none
  | .mx x y => match x.get r, y.get r with
    | .i k a, .i k' b => if k = k' then some (.i k (if b > a then b else a)) else none
    | _, _ => none
  | .mn x y => match x.get r, y.get r with
    | .i k a, .i k' b => if k = k' then some (.i k (if b < a then b else a)) else none
    | _, _ => none
  | .slc sz x lo hi m => match lenD (x.get r) with
    | some n => match bndM r n m with
      | some mm => match bnd r n (mm.getD n) hi with
        | some h => match bnd r 0 h lo with
          | some l => evSlc sz (x.get r) l h mm
          | none => none
        | none => none
      | none => none
    | none => none
  | .sla len x => match x.get r with
    | .q cs => if len ≤ cs.length then some (.sl 1 true ((cs.take len).map fun d => [d])) else none
    | _ => none
  | .nilc x => match x.get r with
    | .p k s o => some (.p k s o)
    | .pr k s sz i fo => some (.pr k s sz i fo)
    | .q cs => some (.q cs)
    | .f g a b => some (.f g a b)
    | _ => none
  | .mkf f caps => some (.f f [] (caps.map (·.get r)))
  | .bsl sz parts => (partsD r sz parts).map (.sl sz true)
  | .ixv len sz agg x i => match i.get r with
    | .i _ n => if 0 ≤ n ∧ n < len then match x.get r with
        | .a cs => if n.toNat * sz + sz ≤ cs.length then mkV agg ((cs.drop (n.toNat * sz)).take sz) else none
        | _ => none else none
    | _ => none
  | .tab l i => match i.get r with
    | .i _ n => if 0 ≤ n then (l[n.toNat]?).map fun (b : Nat) => .i .u8 b else none
    | _ => none
  | .entry i => entryD L (i.get r)
  | .mapget len vz agg ok m k => mapgetD L len vz agg ok (m.get r) (k.get r)
  | .nilq neg x => match x.get r with
    | .sl _ _ [] => some .ub
    | .sl _ _ (_ :: _) => some (.b neg)
    | .w _ _ _ _ _ => some (.b neg)
    | _ => none
  | _ => none
def eqAll (P : Program) : List Operand → List Arg → Bool
  | [], [] => true
  | x :: xs, y :: ys => chkArg x y && eqAll P xs ys
  | _, _ => false
def optArg : Option Operand → Option Arg → Bool
  | none, none => true
  | some x, some y => chkArg x y
  | _, _ => false
def constsD : List Value → List D → Bool
  | [], [] => true
  | v :: vs, d :: ds => okConst v d && v.oneCell' && constsD vs ds
  | _, _ => false
def structParts (fs : Array Field) (P : Program) : List (Nat × Operand) → List (Nat × Nat × Arg) → Bool
  | [], [] => true
  | (i, x) :: xs, (off, n, y) :: ys => (match fs[i]? with
      | some f => f.offset == off && szOf P f.type == some n
      | none => false) && chkArg x y && structParts fs P xs ys
  | _, _ => false
def arrParts (sz : Nat) : List (Nat × Operand) → List (Nat × Nat × Arg) → Bool
  | [], [] => true
  | (i, x) :: xs, (off, n, y) :: ys => (i * sz == off && n == sz) && chkArg x y && arrParts sz xs ys
  | _, _ => false
def seqParts : Nat → List (Nat × Operand) → List Arg → Bool
  | _, [], [] => true
  | k, (i, x) :: xs, y :: ys => i == k && chkArg x y && seqParts (k + 1) xs ys
  | _, _, _ => false
def intElem (P : Program) (e : TypeId) : Bool := match P.underlying e with
  | some (.int _) => true
  | _ => false
def chkOp (P : Program) : Op → IOp → Bool
  | .move x, .mv y => chkArg x y
  | .assign x, .mv y => chkArg x y
  | .pick c a b, .pick c' a' b' => chkArg c c' && chkArg a a' && chkArg b b'
  | .unOp op _ x, .un op' y => op == op' && chkArg x y
  | .binOp op t x y _, .bin op' x' y' => op == op' && chkArg x x' && chkArg y y'
  | .binOp op t x y _, .eqb neg x' y' => op == (if neg then .neq else .eql) && chkArg x x' && chkArg y y' && (match P.underlying t with
      | some .bool => true
      | _ => false)
  | .binOp op t x y _, .eqa neg len x' y' => op == (if neg then .neq else .eql) && chkArg x x' && chkArg y y' && (match P.underlying t with
      | some (.array n e) => n == len && intElem P e && szOf P e == some 1 && aggOf P e == some false && !P.eqGuardType P.depth t
      | _ => false)
  | .convert s d x, .conv k y => chkArg x y && (match P.underlying s, P.underlying d with
      | some (.int _), some (.int k') => k == k'
      | _, _ => false)
  | .build t ps, .build z ps' => (match zeroOf P t with
      | some v => constsD v.cells.toList z
      | none => false) && (match P.underlying t with
      | some (.struct fs) => structParts fs P ps.toList ps' && fs.all fun f => (szOf P f.type).isSome
      | some (.array _ e) => match szOf P e with
        | some n => arrParts n ps.toList ps'
        | none => false
      | _ => false)
  | .load t x, .load n agg y => chkArg x y && szOf P t == some n && aggOf P t == some agg
  | .fieldAddr t x i, .fld off y => chkArg x y && (match P.underlying t with
      | some (.struct fs) => match fs[i]? with
        | some f => f.offset == off && (match szOf P f.type with
          | some n => n != 0
          | none => false)
        | none => false
      | _ => false)
  | .indexAddr t x i, .ixa len sz y j => chkArg x y && chkArg i j && (match P.underlying t with
      | some (.array n e) => n == len && szOf P e == some sz
      | _ => false)
  | .indexAddr t x i, .ixs sz y j => chkArg x y && chkArg i j && (match P.underlying t with
      | some (.slice e) => szOf P e == some sz
      | _ => false)
  | .field t x i, .fldv off n agg y => chkArg x y && (match P.underlying t with
      | some (.struct fs) => match fs[i]? with
        | some f => f.offset == off && szOf P f.type == some n && aggOf P f.type == some agg
        | none => false
      | _ => false)
  | .extract x j, .ext j' y => j == j' && chkArg x y
  | .call { callee := .builtin .len, args, argTypes }, .len y => (match args.toList, argTypes.toList with
      | [x], [t] => chkArg x y && (match P.underlying t with
        | some (.slice _) => true
        | _ => false)
      | _, _ => false)
  | .call { callee := .builtin .max, args, .. }, .mx y z => (match args.toList with
      | [a, b] => chkArg a y && chkArg b z
      | _ => false)
  | .call { callee := .builtin .min, args, .. }, .mn y z => (match args.toList with
      | [a, b] => chkArg a y && chkArg b z
      | _ => false)
  | .slice t x lo hi m, .slc sz y lo' hi' m' => chkArg x y && optArg lo lo' && optArg hi hi' && optArg m m' && (match P.underlying t with
      | some (.slice e) => szOf P e == some sz
      | _ => false) && (m'.isNone || hi'.isSome)
  | .slice t x none none none, .sla len y => chkArg x y && (match P.underlying t with
      | some (.array n e) => n == len && szOf P e == some 1 && decide (n ≤ 16777216)
      | _ => false)
  | .nilCheck x, .nilc y => chkArg x y
  | .makeFunc (.func f) first caps, .mkf g caps' => f == g && first.size == 0 && eqAll P caps.toList caps'
  | .buildSlice t n ps, .bsl sz ps' => (match P.underlying t with
      | some (.slice e) => szOf P e == some sz && (n * sz == 0 || (match zeroOf P e with
          | some z => z.cells.size == sz
          | none => false))
      | _ => false) && decide (n * sz ≤ 16777216) && decide (n ≤ 16777216) && ps'.length == n && seqParts 0 ps.toList ps'
  | .index t x i, .ixv len sz agg y j => chkArg x y && chkArg i j && (match P.underlying t with
      | some (.array n e) => n == len && szOf P e == some sz && aggOf P e == some agg
      | _ => false)
  | .index t (.const (.string s)) i, .tab l j => chkArg i j && (match P.underlying t with
      | some .string => s.data.toList.map (·.toNat) == l
      | _ => false)
  | .binOp op t x (.const (.slice none 0 0)) _, .nilq neg y => op == (if neg then .neq else .eql) && chkArg x y && (match P.underlying t with
      | some (.slice _) => true
      | _ => false)
  | _, .bad => true
  | _, _ => false
section
variable {P : Program} {w : World} {ok : Nat → Prop} {β : BMap}
theorem VR.inv_i {k : IntKind} {n : Int} {v : Value} (h : VR w ok β (.i k n) v) : v = .int k n := by cases h; rfl
theorem VR.inv_b {x : Bool} {v : Value} (h : VR w ok β (.b x) v) : v = .bool x := by cases h; rfl
theorem evCmp_sound {op : BinOp} {a b : Int} {d : D} (h : evCmp op a b = some d) : ∃ v, (Op.intCmp op a b).run P w = .ok v w ∧ VR w ok β d v := by
  unfold evCmp at h
  cases op <;> simp at h <;> subst h <;> exact ⟨_, by simp only [Op.intCmp]; rfl, .b _⟩
theorem run_eqGuard_int {op : BinOp} {t : TypeId} {ox oy : Operand} {k k' : IntKind} {a b : Int} : (eqGuard op t ox oy (.int k a) (.int k' b)).run P w = .ok () w := by
  unfold eqGuard
  split <;> simp
theorem evBin_sound {op : BinOp} {t : TypeId} {x y : D} {d : D} {u v : Value} {ox oy : Operand} (hx : VR w ok β x u) (hy : VR w ok β y v) (h : evBin op x y = some d) :
    ∃ z, (do eqGuard op t ox oy u v; binOp op t u v : Sem Value).run P w = .ok z w ∧ VR w ok β d z := by
  unfold evBin at h
  split at h
  · rename_i k a k' b
    obtain rfl := hx.inv_i
    obtain rfl := hy.inv_i
    simp only [Sem.run_bind, run_eqGuard_int, Result.andThen_ok]
    have cmp : (op ≠ .shl ∧ op ≠ .shr ∧ op ≠ .add ∧ op ≠ .sub ∧ op ≠ .mul ∧ op ≠ .quo ∧ op ≠ .rem ∧ op ≠ .and ∧ op ≠ .or ∧ op ≠ .xor ∧ op ≠ .andNot) →
        (if k = k' then evCmp op a b else none) = some d → ∃ z, (binOp op t (.int k a) (.int k' b)).run P w = .ok z w ∧ VR w ok β d z := by
      intro hne hq
      split at hq
      · rename_i hk
        subst hk
        obtain ⟨z, h1, h2⟩ := evCmp_sound (P := P) (w := w) (ok := ok) (β := β) hq
        refine ⟨z, ?_, h2⟩
        clear h hq
        cases op <;> first | (simp at hne; done) | (simpa [binOp] using h1)
      · simp at hq
    cases op <;> simp only [] at h
    case shl =>
      split at h
      · simp at h
      · rename_i hb
        injection h with h; subst h
        exact ⟨_, by simp only [binOp, Op.shift, hb, if_false]; rfl, .i _ _⟩
    case shr =>
      split at h
      · simp at h
      · rename_i hb
        injection h with h; subst h
        exact ⟨_, by simp only [binOp, Op.shift, hb, if_false]; rfl, .i _ _⟩
    case quo =>
      split at h
      · rename_i hk
        obtain ⟨rfl, hb⟩ := hk
        injection h with h; subst h
        exact ⟨_, by simp only [binOp, Op.intDiv, hb, if_false, ne_eq, not_true_eq_false]; rfl, .i _ _⟩
      · simp at h
    case rem =>
      split at h
      · rename_i hk
        obtain ⟨rfl, hb⟩ := hk
        injection h with h; subst h
        exact ⟨_, by simp only [binOp, Op.intDiv, hb, if_false, ne_eq, not_true_eq_false]; rfl, .i _ _⟩
      · simp at h
    case eql => exact cmp (by simp) h
    case neq => exact cmp (by simp) h
    case lss => exact cmp (by simp) h
    case leq => exact cmp (by simp) h
    case gtr => exact cmp (by simp) h
    case geq => exact cmp (by simp) h
    all_goals
      split at h
      · rename_i hk
        subst hk
        injection h with h
        subst h
        exact ⟨_, by simp only [binOp, Op.intArith, Op.intBits, ne_eq, not_true_eq_false, if_false]; rfl, .i _ _⟩
      · simp at h
  · simp at h
theorem evUn_sound {op : UnOp} {x d : D} {u : Value} (hx : VR w ok β x u) (h : evUn op x = some d) : ∃ z, (Op.unary op u).run P w = .ok z w ∧ VR w ok β d z := by
  unfold evUn at h
  split at h
  · obtain rfl := hx.inv_b
    injection h with h; subst h
    exact ⟨_, by simp only [Op.unary]; rfl, .b _⟩
  · obtain rfl := hx.inv_i
    injection h with h; subst h
    exact ⟨_, by simp only [Op.unary, Op.intArith]; rfl, .i _ _⟩
  · obtain rfl := hx.inv_i
    injection h with h; subst h
    exact ⟨_, by simp only [Op.unary, intBits_xor]; rfl, .i _ _⟩
  · simp at h
theorem evEqb_sound {neg : Bool} {t : TypeId} {x y : D} {d : D} {u v : Value} {ox oy : Operand} (ht : P.underlying t = some .bool) (hx : VR w ok β x u) (hy : VR w ok β y v) (h : evEqb neg x y = some d) :
    ∃ z, (do eqGuard (if neg then .neq else .eql) t ox oy u v; binOp (if neg then .neq else .eql) t u v : Sem Value).run P w = .ok z w ∧ VR w ok β d z := by
  unfold evEqb at h
  split at h
  · rename_i p q
    obtain rfl := hx.inv_b
    obtain rfl := hy.inv_b
    injection h with h; subst h
    have hg : ∀ op, (eqGuard op t ox oy (.bool p) (.bool q)).run P w = .ok () w := by
      intro op
      unfold eqGuard
      split <;> simp
    have he : (Op.equal t (.bool p) (.bool q)).run P w = .ok (p == q) w := by
      simp [Op.equal, Op.maxDepth, run_equalIn_bool' w 9999 t p q ht]
    cases neg with
    | true => exact ⟨_, by simp [hg, binOp, he], .b _⟩
    | false => exact ⟨_, by simp [hg, binOp, he], .b _⟩
  · simp at h
theorem intsEq_loop {e : TypeId} {k0 : IntKind} (he : P.underlying e = some (.int k0)) (hagg : aggOf P e = some false) (m : Nat) {us vs : Array Value} : ∀ (xs ys : List D) (b : Bool) (i : Nat), intsEq xs ys = some b →
    (∀ (j : Nat) (d : D), xs[j]? = some d → ∃ v, us[i + j]? = some v ∧ VR w ok β d v) → (∀ (j : Nat) (d : D), ys[j]? = some d → ∃ v, vs[i + j]? = some v ∧ VR w ok β d v) →
    (forIn (List.range' i xs.length 1) ((none, ()) : Option Bool × Unit) fun i __s => do
        let a ← part e us (i * 1)
        let c ← part e vs (i * 1)
        let r ← Op.equalIn (m + 1) e a c
        if (!r) = true then pure (ForInStep.done (some false, ())) else pure (ForInStep.yield ((none, ()) : Option Bool × Unit))).run P w = .ok (if b then (none, ()) else (some false, ())) w
  | [], [], b, i, h, _, _ => by simp [intsEq] at h; subst h; simp
  | [], y :: ys, b, i, h, _, _ => by simp [intsEq] at h
  | x :: xs, [], b, i, h, _, _ => by cases x <;> simp [intsEq] at h
  | x :: xs, y :: ys, b, i, h, hx, hy => by
    obtain ⟨u, hu1, hu2⟩ := hx 0 x rfl
    obtain ⟨v, hv1, hv2⟩ := hy 0 y rfl
    unfold intsEq at h
    split at h
    · rename_i heq _; simp at heq
    · rename_i k n xs' k' m' ys' hxe hye
      injection hxe with hxe hxs
      injection hye with hye hys
      subst hxe hxs hye hys
      obtain rfl := hu2.inv_i
      obtain rfl := hv2.inv_i
      simp only [Nat.add_zero] at hu1 hv1
      have p1 : (part e us (i * 1)).run P w = .ok (.int k n) w := by simp [part, run_isAgg hagg, hu1]
      have p2 : (part e vs (i * 1)).run P w = .ok (.int k' m') w := by simp [part, run_isAgg hagg, hv1]
      split at h
      · rename_i hk
        subst hk
        have p3 : (Op.equalIn (m + 1) e (.int k n) (.int k m')).run P w = .ok (n == m') w := run_equalIn_int w m e k k0 n m' he
        rw [List.length_cons, List.range'_succ, List.forIn_cons]
        simp only [Sem.run_bind, p1, p2, p3, Result.andThen_ok]
        split at h
        · rename_i hnm
          subst hnm
          simp only [beq_self_eq_true, Bool.not_true, Bool.false_eq_true, if_false, Sem.run_pure, Result.andThen_ok]
          exact intsEq_loop he hagg m _ _ b (i + 1) h (fun j d hj => by have := hx (j + 1) d (by simpa using hj); rwa [show i + (j + 1) = i + 1 + j by omega] at this)
            (fun j d hj => by have := hy (j + 1) d (by simpa using hj); rwa [show i + (j + 1) = i + 1 + j by omega] at this)
        · rename_i hnm
          injection h with h
          subst h
          have : (n == m') = false := by simpa using hnm
          simp [this]
      · simp at h
    · simp at h
theorem run_equalIn_array {len : Nat} {t e : TypeId} {us vs : Array Value} {b : Bool} (ht : P.underlying t = some (.array len e)) (hs : szOf P e = some 1) (m : Nat)
    (hl : (forIn (List.range' 0 len 1) ((none, ()) : Option Bool × Unit) fun i __s => do
        let a ← part e us (i * 1)
        let c ← part e vs (i * 1)
        let r ← Op.equalIn m e a c
        if (!r) = true then pure (ForInStep.done (some false, ())) else pure (ForInStep.yield ((none, ()) : Option Bool × Unit))).run P w = .ok (if b then (none, ()) else (some false, ())) w) :
    (Op.equalIn (m + 1) t (.agg us) (.agg vs)).run P w = .ok b w := by
  simp only [Op.equalIn, Sem.run_bind, run_underlying ht, Result.andThen_ok, run_sizeOf hs]
  rw [Std.Legacy.Range.forIn_eq_forIn_range']
  simp only [Std.Legacy.Range.size, Nat.sub_zero, Nat.add_sub_cancel, Nat.div_one]
  rw [hl]
  cases b <;> simp
theorem run_equal_array {len : Nat} {t e : TypeId} {us vs : Array Value} {b : Bool} (ht : P.underlying t = some (.array len e)) (hs : szOf P e = some 1)
    (hl : (forIn (List.range' 0 len 1) ((none, ()) : Option Bool × Unit) fun i __s => do
        let a ← part e us (i * 1)
        let c ← part e vs (i * 1)
        let r ← Op.equalIn (9998 + 1) e a c
        if (!r) = true then pure (ForInStep.done (some false, ())) else pure (ForInStep.yield ((none, ()) : Option Bool × Unit))).run P w = .ok (if b then (none, ()) else (some false, ())) w) :
    (Op.equal t (.agg us) (.agg vs)).run P w = .ok b w := run_equalIn_array ht hs (9998 + 1) hl
theorem evEqa_sound {neg : Bool} {len : Nat} {t e : TypeId} {k0 : IntKind} {x y : D} {d : D} {u v : Value} {ox oy : Operand} (ht : P.underlying t = some (.array len e)) (he : P.underlying e = some (.int k0)) (hs : szOf P e = some 1)
    (hagg : aggOf P e = some false) (hg : P.eqGuardType P.depth t = false) (hx : VR w ok β x u) (hy : VR w ok β y v) (h : evEqa neg len x y = some d) :
    ∃ z, (do eqGuard (if neg then .neq else .eql) t ox oy u v; binOp (if neg then .neq else .eql) t u v : Sem Value).run P w = .ok z w ∧ VR w ok β d z := by
  unfold evEqa at h
  split at h
  · rename_i xs ys
    cases hx with
    | a _ us hl1 hx1 hx2 => cases hy with
      | a _ vs hl2 hy1 hy2 =>
        split at h
        · rename_i hlen
          cases hb : intsEq xs ys with
          | none => simp [hb] at h
          | some b =>
            simp [hb] at h
            subst h
            have hq : (Op.equal t (.agg us.toArray) (.agg vs.toArray)).run P w = .ok b w := by
              have hl := intsEq_loop (P := P) (w := w) (ok := ok) (β := β) he hagg 9998 (us := us.toArray) (vs := vs.toArray) xs ys b 0 hb
                (fun j d hj => by
                  have hlt := (List.getElem?_eq_some_iff.1 hj).1
                  exact ⟨us[j]'(by omega), by simp [show j < us.length by omega], hx1 j d _ hj (List.getElem?_eq_getElem (by omega))⟩)
                (fun j d hj => by
                  have hlt := (List.getElem?_eq_some_iff.1 hj).1
                  exact ⟨vs[j]'(by omega), by simp [show j < vs.length by omega], hy1 j d _ hj (List.getElem?_eq_getElem (by omega))⟩)
              rw [hlen.1] at hl
              exact run_equal_array ht hs hl
            have hgd : ∀ op, (eqGuard op t ox oy (.agg us.toArray) (.agg vs.toArray)).run P w = .ok () w := fun op => run_eqGuard_agg w op t ox oy _ _ hg
            cases neg with
            | true => exact ⟨_, by simp [hgd, binOp, hq], .b _⟩
            | false => exact ⟨_, by simp [hgd, binOp, hq], .b _⟩
        · simp at h
  · simp at h
end
theorem splice_get {α : Type} (z : List α) (off : Nat) (cs : List α) (h : off + cs.length ≤ z.length) (q : Nat) :
    (splice z off cs)[q]? = if q < off then z[q]? else if q < off + cs.length then cs[q - off]? else z[q]? := by
  unfold splice
  by_cases h1 : q < off
  · rw [if_pos h1, List.append_assoc, List.getElem?_append_left (by rw [List.length_take]; omega), List.getElem?_take, if_pos h1]
  · rw [if_neg h1, List.append_assoc, List.getElem?_append_right (by rw [List.length_take]; omega), List.length_take, Nat.min_eq_left (by omega)]
    by_cases h2 : q < off + cs.length
    · rw [if_pos h2, List.getElem?_append_left (by omega)]
    · rw [if_neg h2, List.getElem?_append_right (by omega), List.getElem?_drop]
      congr 1
      omega
theorem splice_length {α : Type} (z : List α) (off : Nat) (cs : List α) (h : off + cs.length ≤ z.length) : (splice z off cs).length = z.length := by
  unfold splice
  simp only [List.length_append, List.length_take, List.length_drop]
  omega
theorem fold_splice (off : Nat) : ∀ (l : List Value) (k : Nat) (z : Array Value), off + k + l.length ≤ z.size →
    ((l.zipIdx k).foldl (fun cs x => cs.setIfInBounds (off + x.2) x.1) z).toList = splice z.toList (off + k) l
  | [], k, z, h => by simp [splice]
  | v :: l, k, z, h => by
    rw [List.length_cons] at h
    rw [List.zipIdx_cons, List.foldl_cons, fold_splice off l (k + 1) _ (by simp; omega)]
    apply List.ext_getElem?
    intro q
    rw [splice_get _ _ _ (by simp; omega), splice_get _ _ _ (by simp; omega)]
    simp only [Array.toList_setIfInBounds, List.getElem?_set, List.length_cons, Array.length_toList]
    by_cases h1 : q < off + k
    · have c1 : q < off + (k + 1) := by omega
      have c2 : ¬ (off + k = q) := by omega
      simp only [h1, c1, c2, if_true, if_false]
    · by_cases h2 : q = off + k
      · subst h2
        have c1 : off + k < off + (k + 1) := by omega
        have c2 : off + k < z.size := by omega
        have c3 : off + k < off + k + (l.length + 1) := by omega
        simp [c1, c2, c3]
      · have c2 : ¬ (off + k = q) := by omega
        have c1 : ¬ (q < off + (k + 1)) := by omega
        by_cases h3 : q < off + k + (l.length + 1)
        · have c3 : q < off + (k + 1) + l.length := by omega
          simp only [h1, h3, c1, c3, if_true, if_false]
          rw [show q - (off + k) = (q - (off + (k + 1))) + 1 by omega, List.getElem?_cons_succ]
        · have c3 : ¬ (q < off + (k + 1) + l.length) := by omega
          simp only [h1, h3, c1, c2, c3, if_false]
section
variable {P : Program} {w : World} {ok : Nat → Prop} {β : BMap}
theorem CellsR.splice {cs z : List D} {vs zs : List Value} {off : Nat} (h : CellsR w ok β cs vs) (hz : CellsR w ok β z zs) (hl : vs.length = cs.length) (hl' : zs.length = z.length) (ho : off + cs.length ≤ z.length) :
    CellsR w ok β (splice z off cs) (splice zs off vs) := by
  intro q d hq
  rw [splice_get _ _ _ ho] at hq
  rw [splice_get _ _ _ (by omega)]
  split at hq
  · rename_i h1; rw [if_pos h1]; exact hz q d hq
  · rename_i h1
    rw [if_neg h1]
    split at hq
    · rename_i h2; rw [if_pos (by omega)]; exact h _ d hq
    · rename_i h2; rw [if_neg (by omega)]; exact hz q d hq
theorem constsD_cells : ∀ {vs : List Value} {ds : List D}, constsD vs ds = true → vs.length = ds.length ∧ CellsR w ok β ds vs
  | [], [], _ => ⟨rfl, fun q d hq => by simp at hq⟩
  | [], d :: ds, h => by simp [constsD] at h
  | v :: vs, [], h => by simp [constsD] at h
  | v :: vs, d :: ds, h => by
    simp only [constsD, Bool.and_eq_true] at h
    obtain ⟨⟨h1, h2⟩, h3⟩ := h
    obtain ⟨i1, i2⟩ := constsD_cells h3
    refine ⟨by simp [i1], fun q e hq => ?_⟩
    cases q with
    | zero => simp at hq; subst hq; exact ⟨v, rfl, h2, okConst_vr h1 _ _ _⟩
    | succ q => exact i2 q e (by simpa using hq)
theorem fill_sound {r : Regs} {a : Act} (hr : ∀ s, VR w ok β (r s) (a.tmps.getD s undef)) {place : Nat → Option (Nat × Nat)} :
    ∀ (ps : List (Nat × Operand)) (ps' : List (Nat × Nat × Arg)) (z : List D) (zs : Array Value) (e : List D),
      (ps.length = ps'.length ∧ ∀ (j i off n : Nat) (x : Operand) (y : Arg), ps[j]? = some (i, x) → ps'[j]? = some (off, n, y) → place i = some (off, n) ∧ chkArg x y = true) →
      zs.size = z.length → CellsR w ok β z zs.toList → fillD r z ps' = some e →
      ∃ cells, Instr.fill place zs (ps.map fun x => (x.1, a.eval x.2)) = some cells ∧ cells.size = e.length ∧ CellsR w ok β e cells.toList
  | [], [], z, zs, e, _, hz, hR, h => by
    simp [fillD] at h
    subst h
    exact ⟨zs, rfl, hz, hR⟩
  | [], _ :: _, z, zs, e, hp, hz, hR, h => by simp at hp
  | _ :: _, [], z, zs, e, hp, hz, hR, h => by simp at hp
  | (i, x) :: ps, (off, n, y) :: ps', z, zs, e, hp, hz, hR, h => by
    obtain ⟨hpl, hp⟩ := hp
    obtain ⟨hpl0, hx⟩ := hp 0 i off n x y rfl rfl
    unfold fillD at h
    cases hc : (y.get r).cells? with
    | none => simp [hc] at h
    | some cs =>
      simp only [hc] at h
      split at h
      · rename_i hcond
        obtain ⟨hcl, hfit⟩ := hcond
        obtain ⟨q1, q2⟩ := (chkArg_vr hx hr).cells hc
        have hres := fold_splice off (a.eval x).cells.toList 0 zs (by simp; omega)
        have hfold : ((a.eval x).cells.zipIdx.foldl (fun cs x => cs.setIfInBounds (off + x.2) x.1) zs) = ((a.eval x).cells.toList.zipIdx 0).foldl (fun cs x => cs.setIfInBounds (off + x.2) x.1) zs := by
          rw [← Array.foldl_toList]
          congr 1
          simp
        have hsz : (((a.eval x).cells.zipIdx.foldl (fun cs x => cs.setIfInBounds (off + x.2) x.1) zs)).size = z.length := by
          rw [hfold, ← Array.length_toList, hres, Nat.add_zero, splice_length _ _ _ (by simp; omega)]
          simpa using hz
        obtain ⟨cells, g1, g2, g3⟩ := fill_sound hr ps ps' (splice z off cs) _ e ⟨by simpa using hpl, fun j i' off' n' x' y' h1 h2 => hp (j + 1) i' off' n' x' y' (by simpa using h1) (by simpa using h2)⟩
          (by rw [splice_length _ _ _ (by omega)]; exact hsz)
          (by
            rw [hfold, hres, Nat.add_zero]
            exact q2.splice hR (by simpa using q1) (by simpa using hz) (by omega)) h
        refine ⟨cells, ?_, g2, g3⟩
        rw [List.map_cons]
        unfold Instr.fill
        simp only [hpl0]
        rw [if_neg (by simp; omega)]
        exact g1
      · simp at h
theorem structParts_spec {fs : Array Field} : ∀ {ps : List (Nat × Operand)} {ps' : List (Nat × Nat × Arg)}, structParts fs P ps ps' = true → ps.length = ps'.length ∧
    ∀ (j i off n : Nat) (x : Operand) (y : Arg), ps[j]? = some (i, x) → ps'[j]? = some (off, n, y) → (∃ f, fs[i]? = some f ∧ f.offset = off ∧ szOf P f.type = some n) ∧ chkArg x y = true
  | [], [], _ => ⟨rfl, by simp⟩
  | [], _ :: _, h => by simp [structParts] at h
  | _ :: _, [], h => by simp [structParts] at h
  | (i, x) :: ps, (off, n, y) :: ps', h => by
    simp only [structParts, Bool.and_eq_true] at h
    obtain ⟨⟨h1, h2⟩, h3⟩ := h
    obtain ⟨i1, i2⟩ := structParts_spec h3
    refine ⟨by simp [i1], fun j i' off' n' x' y' e1 e2 => ?_⟩
    cases j with
    | zero =>
      simp at e1 e2
      obtain ⟨rfl, rfl⟩ := e1
      obtain ⟨rfl, rfl, rfl⟩ := e2
      refine ⟨?_, h2⟩
      split at h1
      · rename_i f hf
        simp at h1
        exact ⟨f, hf, h1.1, h1.2⟩
      · simp at h1
    | succ j => exact i2 j i' off' n' x' y' (by simpa using e1) (by simpa using e2)
theorem arrParts_spec {sz : Nat} : ∀ {ps : List (Nat × Operand)} {ps' : List (Nat × Nat × Arg)}, arrParts sz ps ps' = true → ps.length = ps'.length ∧
    ∀ (j i off n : Nat) (x : Operand) (y : Arg), ps[j]? = some (i, x) → ps'[j]? = some (off, n, y) → (i * sz = off ∧ n = sz) ∧ chkArg x y = true
  | [], [], _ => ⟨rfl, by simp⟩
  | [], _ :: _, h => by simp [arrParts] at h
  | _ :: _, [], h => by simp [arrParts] at h
  | (i, x) :: ps, (off, n, y) :: ps', h => by
    simp only [arrParts, Bool.and_eq_true] at h
    obtain ⟨⟨h1, h2⟩, h3⟩ := h
    obtain ⟨i1, i2⟩ := arrParts_spec h3
    refine ⟨by simp [i1], fun j i' off' n' x' y' e1 e2 => ?_⟩
    cases j with
    | zero =>
      simp at e1 e2
      obtain ⟨rfl, rfl⟩ := e1
      obtain ⟨rfl, rfl, rfl⟩ := e2
      exact ⟨by simpa using h1, h2⟩
    | succ j => exact i2 j i' off' n' x' y' (by simpa using e1) (by simpa using e2)
theorem run_build_struct {t : TypeId} {fs : Array Field} {z : Value} {parts : Array (Nat × Value)} {cells : Array Value} (ht : P.underlying t = some (.struct fs)) (hz : zeroOf P t = some z)
    (hfs : ∀ f ∈ fs, ∃ n, szOf P f.type = some n) (place : Nat → Option (Nat × Nat)) (hpl : ∀ i, place i = (fs[i]?).bind fun f => (szOf P f.type).map fun n => (f.offset, n))
    (hf : Instr.fill place z.cells parts.toList = some cells) : (Instr.build t parts).run P w = .ok (.agg cells) w := by
  have hm : ∀ (l : List Field), (∀ f ∈ l, ∃ n, szOf P f.type = some n) → (l.mapM fun f => (do pure (f.offset, ← sizeOf f.type) : Sem (Nat × Nat))).run P w = .ok (l.map fun f => (f.offset, (szOf P f.type).getD 0)) w := by
    intro l hl
    induction l with
    | nil => simp
    | cons f l ih =>
      obtain ⟨n, hn⟩ := hl f (by simp)
      rw [List.mapM_cons]
      simp only [Sem.run_bind, run_sizeOf hn, Result.andThen_ok, Sem.run_pure, ih (fun g hg => hl g (by simp [hg])), List.map_cons, hn, Option.getD_some]
  have hM : (fs.mapM fun f => (do pure (f.offset, ← sizeOf f.type) : Sem (Nat × Nat))).run P w = .ok (fs.map fun f => (f.offset, (szOf P f.type).getD 0)) w := by
    rw [Array.mapM_eq_mapM_toList]
    simp only [Sem.run_map, hm fs.toList (fun f hf => hfs f (by simpa using hf)), Result.andThen_ok]
    congr 1
    apply Array.ext'
    simp
  have hp : (fun i => (fs.map fun f => (f.offset, (szOf P f.type).getD 0))[i]?) = place := by
    funext i
    rw [hpl i, Array.getElem?_map]
    cases hfi : fs[i]? with
    | none => rfl
    | some f =>
      obtain ⟨n, hn⟩ := hfs f (Array.mem_of_getElem? hfi)
      simp [hn]
  unfold Instr.build
  simp only [Sem.run_bind, run_zeroValue hz, Result.andThen_ok, run_underlying ht, hM, hp, hf, Sem.run_pure]
theorem run_build_array {t e : TypeId} {m n : Nat} {z : Value} {parts : Array (Nat × Value)} {cells : Array Value} (ht : P.underlying t = some (.array m e)) (hz : zeroOf P t = some z) (he : szOf P e = some n)
    (hf : Instr.fill (fun i => some (i * n, n)) z.cells parts.toList = some cells) : (Instr.build t parts).run P w = .ok (.agg cells) w := by
  unfold Instr.build
  simp only [Sem.run_bind, run_zeroValue hz, Result.andThen_ok, run_underlying ht, run_sizeOf he, hf, Sem.run_pure]
end
section
variable {P : Program} {w : World} {ok : Nat → Prop} {β : BMap}
def Gives (P : Program) (β : BMap) (σ : Sto) (w : World) (o : Oper) (a : Act) (d : D) : Prop :=
  ∃ v w', (execOp a.eval o).run P w = .ok (.value v) w' ∧ VR w' (okOf β σ w') β d v ∧ Trans β σ w β σ w' ∧ Sim β σ w'
theorem VR.drop_q {cs : List D} {v : Value} (h : VR w ok β (.q cs) v) (n : Nat) : ∃ blk off, v = .pointer (some ⟨blk, off, none⟩) ∧ VR w ok β (.q (cs.drop n)) (.pointer (some ⟨blk, off + n, none⟩)) := by
  cases h with
  | q _ blk off vs hok h1 h hr =>
    refine ⟨blk, off, rfl, .q _ blk (off + n) (fun q => vs (n + q)) hok (fun q => h1 _) (fun q d hq => h _ d (by rw [List.getElem?_drop] at hq; exact hq)) (fun q hq => ?_)⟩
    rw [List.length_drop] at hq
    rw [← hr (n + q) (by omega), Nat.add_assoc]
theorem VR.elem {sz : Nat} {full : Bool} {es : List (List D)} {v : Value} (h : VR w ok β (.sl sz full es) v) {i : Nat} {e : List D} (he : es[i]? = some e) :
    ∃ blk off c, v = .slice (some ⟨blk, off, none⟩) es.length c ∧ VR w ok β (.q e) (.pointer (some ⟨blk, off + i * sz, none⟩)) := by
  cases h with
  | sl _ _ _ A c blk off cs hc hm hf hz hA h1 h hr =>
    have hi : i < es.length := (List.getElem?_eq_some_iff.1 he).1
    have hne : es ≠ [] := by rintro rfl; simp at hi
    obtain ⟨rfl, hok⟩ := hA hne
    have hes : e.length = sz := hz e (List.mem_of_getElem? he)
    have hfl := flatten_length hz
    have hle : i * sz + sz ≤ es.length * sz := by rw [← Nat.succ_mul]; exact Nat.mul_le_mul_right _ hi
    refine ⟨blk, off, c, rfl, .q _ blk (off + i * sz) (fun q => cs (i * sz + q)) hok (fun q => h1 _) (fun q d hq => h _ d ?_) (fun q hq => ?_)⟩
    · have hql := (List.getElem?_eq_some_iff.1 hq).1
      rw [flatten_get i q hz (by omega), he]
      exact hq
    · rw [Nat.add_assoc]
      exact hr _ (by omega)
theorem lenD_vr {d : D} {v : Value} {n : Nat} (h : VR w ok β d v) (hn : lenD d = some n) : ∃ A c, v = .slice A n c ∧ n ≤ c ∧ c ≤ maxLen := by
  cases d <;> simp [lenD] at hn
  · subst hn
    cases h with
    | sl _ _ _ A c blk off cs hc hm => exact ⟨A, c, rfl, hc, hm⟩
  · subst hn
    cases h with
    | w _ _ _ _ _ blk c hb hc hm => exact ⟨_, c, rfl, hc, hm⟩
theorem bnd_run {r : Regs} {a : Act} (hr : ∀ s, VR w ok β (r s) (a.tmps.getD s undef)) {x : Operand} {y : Arg} {dflt upto n y' : Nat} (hx : chkArg x y = true) (hb : bnd r dflt upto (some y) = some n) (hle : upto ≤ y') (code : BoundsCode) :
    (Instr.sliceBound (a.eval x) y' code).run P w = .ok n w ∧ n ≤ upto := by
  unfold bnd at hb
  simp only [] at hb
  split at hb
  · rename_i k m hm
    have hv := chkArg_vr hx hr
    rw [hm] at hv
    have := hv.inv_i
    rw [this]
    split at hb
    · rename_i hc
      injection hb with hb
      subst hb
      exact ⟨run_sliceBound w k m y' code hc.1 (by omega), by omega⟩
    · simp at hb
  · simp at hb
theorem evSlc_vr {sz : Nat} {d e : D} {A : Option Addr} {n c l h : Nat} {m : Option Nat} (hv : VR w ok β d (.slice A n c)) (he : evSlc sz d l h m = some e) (hm : ∀ x, m = some x → h ≤ x ∧ x ≤ c) :
    VR w ok β e (.slice (if m.getD c = l then A else A.map (·.add (l * sz))) (h - l) (m.getD c - l)) := by
  unfold evSlc at he
  split at he
  · rename_i sz' full es
    split at he
    · rename_i hcond
      obtain ⟨rfl, hlh, hhe⟩ := hcond
      injection he with he
      subst he
      generalize hv0 : Value.slice A n c = v0 at hv
      cases hv with
      | sl _ _ _ A' c' blk off cs hc hmx hf hz hA h1 h2 hr =>
        injection hv0 with e1 e2 e3
        subst e1 e2 e3
        have hlen : ((es.drop l).take (h - l)).length = h - l := by simp; omega
        have hmc : h ≤ m.getD c ∧ m.getD c ≤ c := by
          cases m with
          | none => simp; omega
          | some x => simpa using hm x rfl
        have hz' : ∀ e ∈ (es.drop l).take (h - l), e.length = sz := fun e he => hz e (List.mem_of_mem_drop (List.mem_of_mem_take he))
        have hg := VR.sl (w := w) (ok := ok) (β := β) sz (fullOf m full h es.length) ((es.drop l).take (h - l))
          (if m.getD c = l then A else A.map (·.add (l * sz))) (m.getD c - l) blk (off + l * sz) (fun q => cs (l * sz + q)) (by rw [hlen]; omega) (by omega)
          (fun hq => by
            rw [hlen]
            cases m with
            | none =>
              simp [fullOf] at hq
              have := hf hq.1
              simp
              omega
            | some x => simp [fullOf] at hq; simp; omega)
          hz'
          (fun hne => by
            have hpos : 0 < h - l := by
              rcases Nat.eq_zero_or_pos (h - l) with h0 | h0
              · exfalso; apply hne; apply List.eq_nil_of_length_eq_zero; omega
              · exact h0
            have hes : es ≠ [] := by rintro rfl; simp at hhe; omega
            obtain ⟨rfl, hok⟩ := hA hes
            rw [if_neg (by omega)]
            exact ⟨by simp [add_none], hok⟩)
          (fun q => h1 _)
          (fun q d hq => h2 _ d (by
            have hfl := flatten_length hz
            have hql := (List.getElem?_eq_some_iff.1 hq).1
            rw [flatten_length hz', hlen] at hql
            rcases Nat.eq_zero_or_pos sz with h0 | h0
            · subst h0; simp at hql
            · have hq2 : q / sz < h - l := (Nat.div_lt_iff_lt_mul h0).2 hql
              have hqe := Nat.div_add_mod q sz
              have hqm := Nat.mod_lt q h0
              rw [← hqe, Nat.mul_comm] at hq
              rw [flatten_get _ _ hz' hqm, List.getElem?_take, if_pos hq2, List.getElem?_drop] at hq
              rw [show l * sz + q = (l + q / sz) * sz + q % sz by rw [Nat.add_mul, Nat.add_assoc, Nat.mul_comm (q / sz) sz, hqe], flatten_get _ _ hz hqm]
              exact hq))
          (fun q hq => by
            rw [flatten_length hz', hlen] at hq
            rw [Nat.add_assoc]
            apply hr
            rw [flatten_length hz]
            have : (l + (h - l)) * sz ≤ es.length * sz := Nat.mul_le_mul_right _ (by omega)
            rw [Nat.add_mul] at this
            omega)
        rw [hlen] at hg
        exact hg
    · simp at he
  · rename_i k st sz' lo n'
    split at he
    · rename_i hcond
      obtain ⟨rfl, hlh, hhn, hl0⟩ := hcond
      injection he with he
      subst he
      generalize hv0 : Value.slice A n c = v0 at hv
      cases hv with
      | w _ _ _ _ _ blk c' hb hc hmx hs =>
        injection hv0 with e1 e2 e3
        subst e1 e2 e3
        have hmc : h ≤ m.getD c ∧ m.getD c ≤ c := by
          cases m with
          | none => simp; omega
          | some x => simpa using hm x rfl
        have haddr : (if m.getD c = l then (some ⟨blk, lo * sz, none⟩ : Option Addr) else (some (⟨blk, lo * sz, none⟩ : Addr)).map (·.add (l * sz))) = some ⟨blk, (lo + l) * sz, none⟩ := by
          rw [Nat.add_mul]
          split
          · rename_i hml
            have : l = 0 := by omega
            subst this
            simp
          · simp [add_none]
        rw [haddr]
        obtain ⟨vs, e, g1, g2⟩ := hs
        refine .w k st sz (lo + l) (h - l) blk _ hb (by omega) (by omega) ⟨vs, e, g1, Nat.le_trans (Nat.mul_le_mul_right _ ?_) g2⟩
        omega
    · simp at he
  · simp at he
end
section
variable {P : Program} {w : World} {β : BMap} {N fr : Nat} {st : St} {a : Act} {o : Oper} {d : D}
theorem Gives.here {σ : Sto} (hS : Sim β σ w) {s : Sem Value} (ho : execOp a.eval o = do pure (.value (← s))) {v : Value} (hr : s.run P w = .ok v w) (hv : VR w (okOf β σ w) β d v) : Gives P β σ w o a d :=
  ⟨v, w, by rw [ho]; simp [hr], hv, .refl _ _ _, hS⟩
theorem Gives.pure' {σ : Sto} (hS : Sim β σ w) {v : Value} (ho : execOp a.eval o = pure (.value v)) (hv : VR w (okOf β σ w) β d v) : Gives P β σ w o a d :=
  ⟨v, w, by rw [ho]; rfl, hv, .refl _ _ _, hS⟩
theorem run_fieldPlace {f : Field} {n : Nat} {b off : Nat} (hn : szOf P f.type = some n) (h0 : n ≠ 0) : (fieldPlace ⟨b, off, none⟩ f).run P w = .ok ⟨b, off + f.offset, none⟩ w := by
  unfold fieldPlace
  simp [run_sizeOf hn, h0, add_none]
theorem run_fieldAt {t : TypeId} {fs : Array Field} {f : Field} {i n b off : Nat} (ht : P.underlying t = some (.struct fs)) (hf : fs[i]? = some f) (hn : szOf P f.type = some n) (h0 : n ≠ 0) :
    (Instr.fieldAt t (.pointer (some ⟨b, off, none⟩)) i).run P w = .ok (.pointer (some ⟨b, off + f.offset, none⟩)) w := by
  simp [Instr.fieldAt, run_underlying ht, hf, Instr.sureAddr, run_fieldPlace hn h0]
theorem run_indexAt_array {t e : TypeId} {len sz b off : Nat} {k : IntKind} {n : Int} (ht : P.underlying t = some (.array len e)) (hs : szOf P e = some sz) (h0 : 0 ≤ n) (h1 : n < len) :
    (Instr.indexAt t (.pointer (some ⟨b, off, none⟩)) (.int k n)).run P w = .ok (.pointer (some ⟨b, off + n.toNat * sz, none⟩)) w := by
  simp [Instr.indexAt, asIntOf, run_underlying ht, Instr.sureAddr, h0, h1, run_sizeOf hs, add_none]
theorem run_indexAt_slice {t e : TypeId} {len sz b off c : Nat} {k : IntKind} {n : Int} (ht : P.underlying t = some (.slice e)) (hs : szOf P e = some sz) (h0 : 0 ≤ n) (h1 : n.toNat < len) :
    (Instr.indexAt t (.slice (some ⟨b, off, none⟩) len c) (.int k n)).run P w = .ok (.pointer (some ⟨b, off + n.toNat * sz, none⟩)) w := by
  have h2 : n < (len : Int) := by omega
  simp [Instr.indexAt, asIntOf, run_underlying ht, h0, h2, run_sizeOf hs, add_none]
theorem eqAll_vr {ok : Nat → Prop} {r : Regs} (hr : ∀ s, VR w ok β (r s) (a.tmps.getD s undef)) : ∀ {xs : List Operand} {ys : List Arg}, eqAll P xs ys = true → xs.length = ys.length ∧
    ∀ (j : Nat) (d : D) (v : Value), (ys.map (·.get r))[j]? = some d → (xs.map a.eval)[j]? = some v → VR w ok β d v
  | [], [], _ => ⟨rfl, by simp⟩
  | [], _ :: _, h => by simp [eqAll] at h
  | _ :: _, [], h => by simp [eqAll] at h
  | x :: xs, y :: ys, h => by
    simp only [eqAll, Bool.and_eq_true] at h
    obtain ⟨h1, h2⟩ := h
    obtain ⟨i1, i2⟩ := eqAll_vr hr h2
    refine ⟨by simp [i1], fun j d v hd hv => ?_⟩
    cases j with
    | zero => simp at hd hv; subst hd hv; exact chkArg_vr h1 hr
    | succ j => exact i2 j d v (by simpa using hd) (by simpa using hv)
theorem Trans.fresh {σ : Sto} (hS : Sim β σ w) (ob : Go.Obj) : Trans β σ w β σ (w.alloc ob) ∧ Sim β σ (w.alloc ob) ∧ okOf β σ (w.alloc ob) w.heap.size := by
  have hT : Trans β σ w β σ (w.alloc ob) :=
    ⟨.refl β, rfl, .same rfl rfl, rfl, by simp, fun x hx => ⟨⟨by simp; have := hx.1; omega, hx.2⟩, heap_alloc_old w ob hx.1⟩,
     fun k s x vs e hb hv => ⟨vs, by rw [heap_alloc_old w ob (hS.low _ _ _ hb)]; exact hv, rfl⟩⟩
  refine ⟨hT, ⟨hS.inj, fun k s o hk x hx => ?_, fun k s x hb => ?_, hS.tot⟩, ?_⟩
  · exact Match.mono (fun d v hv => hT.vr hv) (.refl β) (heap_alloc_old w ob (hS.low _ _ _ hx)) (hS.live k s o hk x hx)
  · have := hS.low k s x hb; simp; omega
  · refine ⟨by simp, fun k s o hk _ hb => ?_⟩
    have := hS.low _ _ _ hb
    omega
theorem partsD_sound {r : Regs} {ok : Nat → Prop} (hr : ∀ s, VR w ok β (r s) (a.tmps.getD s undef)) {sz : Nat} : ∀ (ps : List (Nat × Operand)) (ps' : List Arg) (k n : Nat) (es : List (List D)) (zs : Array Value),
    seqParts k ps ps' = true → partsD r sz ps' = some es → zs.size = (k + ps'.length) * sz →
      ∃ cells, Instr.fill (fun i => some (i * sz, sz)) zs (ps.map fun x => (x.1, a.eval x.2)) = some cells ∧ cells.size = zs.size ∧ cells.toList.take (k * sz) = zs.toList.take (k * sz) ∧
        CellsR w ok β es.flatten (cells.toList.drop (k * sz)) ∧ es.length = ps'.length ∧ ∀ e ∈ es, e.length = sz
  | [], [], k, n, es, zs, _, h, hz => by
    simp [partsD] at h
    subst h
    exact ⟨zs, rfl, rfl, rfl, fun q d hq => by simp at hq, rfl, by simp⟩
  | [], _ :: _, k, n, es, zs, hp, _, _ => by simp [seqParts] at hp
  | _ :: _, [], k, n, es, zs, hp, _, _ => by simp [seqParts] at hp
  | (i, x) :: ps, y :: ps', k, n, es, zs, hp, h, hz => by
    simp only [seqParts, Bool.and_eq_true, beq_iff_eq] at hp
    obtain ⟨⟨rfl, hx⟩, hp⟩ := hp
    unfold partsD at h
    cases hc : (y.get r).cells? with
    | none => simp [hc] at h
    | some cs =>
      simp only [hc] at h
      split at h
      · rename_i hcl
        cases hpd : partsD r sz ps' with
        | none => simp [hpd] at h
        | some es' =>
          simp [hpd] at h
          subst h
          obtain ⟨q1, q2⟩ := (chkArg_vr hx hr).cells hc
          have hmul : (i + 1) * sz ≤ (i + (ps'.length + 1)) * sz := Nat.mul_le_mul_right _ (by omega)
          rw [Nat.succ_mul] at hmul
          have hres := fold_splice (i * sz) (a.eval x).cells.toList 0 zs (by simp; simp at hz; omega)
          have hfold : ((a.eval x).cells.zipIdx.foldl (fun cs x => cs.setIfInBounds (i * sz + x.2) x.1) zs) = ((a.eval x).cells.toList.zipIdx 0).foldl (fun cs x => cs.setIfInBounds (i * sz + x.2) x.1) zs := by
            rw [← Array.foldl_toList]
            congr 1
            simp
          have hsz : (((a.eval x).cells.zipIdx.foldl (fun cs x => cs.setIfInBounds (i * sz + x.2) x.1) zs)).size = zs.size := by
            rw [hfold, ← Array.length_toList, hres, Nat.add_zero, splice_length _ _ _ (by simp; simp at hz; omega)]
            simp
          obtain ⟨cells, g1, g2, g3, g4, g5, g6⟩ := partsD_sound hr ps ps' (i + 1) n es' _ hp hpd (by rw [hsz, hz, List.length_cons]; congr 1; omega)
          have htk : cells.toList.take ((i + 1) * sz) = zs.toList.take (i * sz) ++ (a.eval x).cells.toList := by
            rw [g3, hfold, hres, Nat.add_zero]
            unfold splice
            rw [show (i + 1) * sz = (zs.toList.take (i * sz) ++ (a.eval x).cells.toList).length by simp; rw [Nat.succ_mul, Nat.min_eq_left (by simp at hz; omega)]; omega]
            exact List.take_left
          refine ⟨cells, ?_, by rw [g2, hsz], ?_, ?_, by simp [g5], fun e he => ?_⟩
          · rw [List.map_cons]
            unfold Instr.fill
            simp only []
            rw [if_neg (by simp; simp at hz; omega)]
            exact g1
          · have := congrArg (List.take (i * sz)) htk
            rw [List.take_take, Nat.min_eq_left (by rw [Nat.succ_mul]; omega)] at this
            rw [this, List.take_append_of_le_length (by simp; simp at hz; omega), List.take_take, Nat.min_self]
          · intro q d hq
            rw [List.flatten_cons] at hq
            have hdrop : ∀ q, q < sz → (cells.toList.drop (i * sz))[q]? = (a.eval x).cells.toList[q]? := by
              intro q hq
              rw [List.getElem?_drop, ← List.getElem?_take_of_lt (show i * sz + q < (i + 1) * sz by rw [Nat.succ_mul]; omega), htk, List.getElem?_append_right (by simp; omega), List.length_take, Nat.min_eq_left (by simp; simp at hz; omega)]
              congr 1
              omega
            by_cases hqs : q < sz
            · rw [List.getElem?_append_left (by omega)] at hq
              obtain ⟨v, r1, r2, r3⟩ := q2 q d hq
              exact ⟨v, by rw [hdrop q hqs]; exact r1, r2, r3⟩
            · rw [List.getElem?_append_right (by omega), hcl] at hq
              obtain ⟨v, r1, r2, r3⟩ := g4 _ d hq
              refine ⟨v, ?_, r2, r3⟩
              rw [List.getElem?_drop] at r1 ⊢
              rw [← r1]
              congr 1
              rw [Nat.succ_mul]
              omega
          · rcases List.mem_cons.1 he with rfl | he
            · exact hcl
            · exact g6 e he
      · simp at h
end
section
variable {P : Program} {w : World} {β : BMap} {N fr : Nat} {st : St} {a : Act} {o : Oper} {d : D}
theorem sliceBounds_run {r : Regs} {ok : Nat → Prop} (hr : ∀ s, VR w ok β (r s) (a.tmps.getD s undef)) {lo hi m : Option Operand} {lo' hi' m' : Option Arg} (hlo : optArg lo lo' = true) (hhi : optArg hi hi' = true) (hm : optArg m m' = true)
    (hmh : (m'.isNone || hi'.isSome) = true) {n c : Nat} (hc : n ≤ c) {mm : Option Nat} {h l : Nat}
    (e1 : bndM r n m' = some mm) (e2 : bnd r n (mm.getD n) hi' = some h) (e3 : bnd r 0 h lo' = some l) :
    (Instr.sliceBounds true n c (lo.map a.eval) (hi.map a.eval) (m.map a.eval)).run P w = .ok (l, h, mm.getD c) w ∧ ∀ x, mm = some x → h ≤ x ∧ x ≤ c := by
  have hlow : ∀ code, (match lo.map a.eval with | some v => Instr.sliceBound v h code | none => pure 0 : Sem Nat).run P w = .ok l w := by
    intro code
    cases lo with
    | none =>
      cases lo' with
      | none => simp [bnd] at e3; subst e3; rfl
      | some _ => simp [optArg] at hlo
    | some x =>
      cases lo' with
      | none => simp [optArg] at hlo
      | some y => exact (bnd_run hr (by simpa [optArg] using hlo) e3 (Nat.le_refl _) code).1
  cases m with
  | none =>
    cases m' with
    | some _ => simp [optArg] at hm
    | none =>
      simp [bndM] at e1
      subst e1
      refine ⟨?_, by simp⟩
      have hhigh : (match hi.map a.eval, (none : Option Value) with
          | some v, some _ => Instr.sliceBound v c .slice3B
          | some v, none => Instr.sliceBound v c .sliceAcap
          | none, none => pure n
          | none, some _ => stuck "Slice: max without high" : Sem Nat).run P w = .ok h w := by
        cases hi with
        | none =>
          cases hi' with
          | none => simp [bnd] at e2; subst e2; rfl
          | some _ => simp [optArg] at hhi
        | some x =>
          cases hi' with
          | none => simp [optArg] at hhi
          | some y => exact (bnd_run hr (by simpa [optArg] using hhi) e2 (by simpa using hc) _).1
      have := hlow .sliceB
      simp only [Option.map_none] at hhigh ⊢
      unfold Instr.sliceBounds
      simp only [Sem.run_bind, Sem.run_pure, Result.andThen_ok, if_true, Option.isSome_none, Bool.false_eq_true, if_false]
      cases hi with
      | none =>
        simp only [Option.map_none] at hhigh ⊢
        rw [Sem.run_bind, hhigh]
        simp only [Result.andThen_ok]
        cases lo <;> simp only [Option.map_none, Option.map_some] at this ⊢ <;> rw [Sem.run_bind, this] <;> rfl
      | some x =>
        simp only [Option.map_some] at hhigh ⊢
        rw [Sem.run_bind, hhigh]
        simp only [Result.andThen_ok]
        cases lo <;> simp only [Option.map_none, Option.map_some] at this ⊢ <;> rw [Sem.run_bind, this] <;> rfl
  | some x =>
    cases m' with
    | none => simp [optArg] at hm
    | some y =>
      simp [bndM] at e1
      obtain ⟨mx, e1, rfl⟩ := e1
      obtain ⟨b1, b2⟩ := bnd_run (P := P) hr (by simpa [optArg] using hm) e1 hc .slice3Acap
      cases hi with
      | none => cases hi' with
        | none => simp at hmh
        | some _ => simp [optArg] at hhi
      | some z =>
        cases hi' with
        | none => simp at hmh
        | some z' =>
          obtain ⟨b3, b4⟩ := bnd_run (P := P) hr (by simpa [optArg] using hhi) e2 (Nat.le_refl _) .slice3B
          simp only [Option.getD_some] at b3 b4
          refine ⟨?_, fun q hq => by injection hq with hq; omega⟩
          have := hlow .slice3C
          unfold Instr.sliceBounds
          simp only [Option.map_some, Sem.run_bind, if_true, b1, Result.andThen_ok, b3, Option.isSome_some]
          cases lo <;> simp only [Option.map_none, Option.map_some] at this ⊢ <;> rw [Sem.run_bind, this] <;> rfl
theorem ev_slc {t e : TypeId} {sz : Nat} {x : Operand} {y : Arg} {lo hi m : Option Operand} {lo' hi' m' : Option Arg} (h : Rel N fr st β a w) (ho : o.op = .slice t x lo hi m) (hx : chkArg x y = true)
    (hlo : optArg lo lo' = true) (hhi : optArg hi hi' = true) (hm : optArg m m' = true) (hmh : (m'.isNone || hi'.isSome) = true) (ht : P.underlying t = some (.slice e)) (hs : szOf P e = some sz)
    (he : ev (st.look fr) st.r (.slc sz y lo' hi' m') = some d) : Gives P β (st.look fr) w o a d := by
  have hv := chkArg_vr hx h.regs
  simp only [ev] at he
  cases hn : lenD (y.get st.r) with
  | none => simp [hn] at he
  | some n =>
    obtain ⟨A, c, hval, hnc, _⟩ := lenD_vr hv hn
    simp only [hn] at he
    cases e1 : bndM st.r n m' with
    | none => rw [e1] at he; simp at he
    | some mm =>
      rw [e1] at he
      simp only [] at he
      cases e2 : bnd st.r n (mm.getD n) hi' with
      | none => simp [e2] at he
      | some hh =>
        simp only [e2] at he
        cases e3 : bnd st.r 0 hh lo' with
        | none => simp [e3] at he
        | some l =>
          simp only [e3] at he
          obtain ⟨r1, r2⟩ := sliceBounds_run (P := P) h.regs hlo hhi hm hmh hnc e1 e2 e3
          rw [hval] at hv
          refine Gives.here h.sim (s := Instr.sliceAt t (a.eval x) (lo.map a.eval) (hi.map a.eval) (m.map a.eval)) (by unfold execOp; rw [ho]) (v := .slice (if mm.getD c = l then A else A.map (·.add (l * sz))) (hh - l) (mm.getD c - l)) ?_ (evSlc_vr hv he r2)
          rw [hval]
          simp [Instr.sliceAt, run_underlying ht, Instr.slice, r1, run_sizeOf hs]
theorem ev_build {t : TypeId} {z : List D} {ps : Array (Nat × Operand)} {ps' : List (Nat × Nat × Arg)} (h : Rel N fr st β a w) (ho : o.op = .build t ps) (hc : chkOp P (.build t ps) (.build z ps') = true)
    (he : ev (st.look fr) st.r (.build z ps') = some d) : Gives P β (st.look fr) w o a d := by
  simp only [chkOp, Bool.and_eq_true] at hc
  obtain ⟨hz, hc⟩ := hc
  cases hz0 : zeroOf P t with
  | none => simp [hz0] at hz
  | some v =>
    simp only [hz0] at hz
    obtain ⟨z1, z2⟩ := constsD_cells (w := w) (ok := okOf β (st.look fr) w) (β := β) hz
    simp only [ev] at he
    cases hf : fillD st.r z ps' with
    | none => simp [hf] at he
    | some e =>
      simp [hf] at he
      subst he
      have fin : ∀ cells, cells.size = e.length → CellsR w (okOf β (st.look fr) w) β e cells.toList → (Instr.build t (ps.map fun x => (x.1, a.eval x.2))).run P w = .ok (.agg cells) w → Gives P β (st.look fr) w o a (.a e) := by
        intro cells c1 c2 c3
        refine Gives.here h.sim (s := Instr.build t (ps.map fun x => (x.1, a.eval x.2))) (by unfold execOp; rw [ho]) c3 ?_
        have := VR.mk (agg := true) (d := .a e) (by simpa using c1) c2 (by simp [mkV])
        simpa using this
      split at hc
      · rename_i fs ht
        simp only [Bool.and_eq_true] at hc
        obtain ⟨hc, hfs⟩ := hc
        obtain ⟨p1, p2⟩ := structParts_spec hc
        obtain ⟨cells, g1, g2, g3⟩ := fill_sound (w := w) (ok := okOf β (st.look fr) w) (β := β) h.regs (place := fun i => (fs[i]?).bind fun f => (szOf P f.type).map fun n => (f.offset, n)) ps.toList ps' z v.cells e
          ⟨p1, fun j i off n x y e1 e2 => by
            obtain ⟨⟨f, q1, q2, q3⟩, q4⟩ := p2 j i off n x y e1 e2
            exact ⟨by simp [q1, q3, q2], q4⟩⟩ (by simpa using z1) z2 hf
        refine fin cells g2 g3 (run_build_struct ht hz0 (fun f hf => ?_) _ (fun i => rfl) (by simpa using g1))
        rw [Array.all_eq_true'] at hfs
        exact Option.isSome_iff_exists.1 (hfs f hf)
      · rename_i m e' ht
        cases hs : szOf P e' with
        | none => simp [hs] at hc
        | some n =>
          simp only [hs] at hc
          obtain ⟨p1, p2⟩ := arrParts_spec hc
          obtain ⟨cells, g1, g2, g3⟩ := fill_sound (w := w) (ok := okOf β (st.look fr) w) (β := β) h.regs (place := fun i => some (i * n, n)) ps.toList ps' z v.cells e
            ⟨p1, fun j i off n' x y e1 e2 => by
              obtain ⟨⟨q1, q2⟩, q3⟩ := p2 j i off n' x y e1 e2
              exact ⟨by simp [q1, q2], q3⟩⟩ (by simpa using z1) z2 hf
          exact fin cells g2 g3 (run_build_array ht hz0 hs (by simpa using g1))
      · simp at hc
end
section
variable {P : Program} {w : World} {β : BMap} {N fr : Nat} {st : St} {a : Act} {o : Oper} {d : D}
theorem ev_bsl {t : TypeId} {n sz : Nat} {ps : Array (Nat × Operand)} {ps' : List Arg} (h : Rel N fr st β a w) (ho : o.op = .buildSlice t n ps) (hc : chkOp P (.buildSlice t n ps) (.bsl sz ps') = true)
    (he : ev (st.look fr) st.r (.bsl sz ps') = some d) : Gives P β (st.look fr) w o a d := by
  simp only [chkOp, Bool.and_eq_true, decide_eq_true_eq, beq_iff_eq] at hc
  obtain ⟨⟨⟨⟨ht, hsmall⟩, hn24⟩, hlen⟩, hseq⟩ := hc
  split at ht
  · rename_i e hu
    simp only [Bool.and_eq_true, beq_iff_eq, Bool.or_eq_true] at ht
    obtain ⟨hs, hz⟩ := ht
    simp only [ev] at he
    cases hp : partsD st.r sz ps' with
    | none => simp [hp] at he
    | some es =>
      simp [hp] at he
      subst he
      have hsm : ¬ (n * sz > 2 ^ 24) := Nat.not_lt.2 hsmall
      have fin : ∀ z0 : Array Value, z0.size = n * sz → (∀ cells, Instr.fill (fun i => some (i * sz, sz)) z0 (ps.toList.map fun x => (x.1, a.eval x.2)) = some cells →
          (Instr.buildSlice t n (ps.map fun (i, x) => (i, a.eval x))).run P w = .ok (.slice (some ⟨w.heap.size, 0, none⟩) n n) (w.alloc (.cells cells e))) → Gives P β (st.look fr) w o a (.sl sz true es) := by
        intro z0 hz0 hrun
        obtain ⟨cells, g1, g2, g3, g4, g5, g6⟩ := partsD_sound (w := w) (β := β) h.regs ps.toList ps' 0 0 es z0 hseq hp (by rw [hz0, hlen, Nat.zero_add])
        replace hrun := hrun cells g1
        obtain ⟨hT, hS, hok⟩ := Trans.fresh h.sim (.cells cells e)
        refine ⟨.slice (some ⟨w.heap.size, 0, none⟩) n n, w.alloc (.cells cells e), ?_, ?_, hT, hS⟩
        · unfold execOp
          rw [ho]
          simp only [Sem.run_bind, hrun, Result.andThen_ok, Sem.run_pure]
        · have hl : es.length = n := by omega
          have hfl := flatten_length g6
          rw [Nat.zero_mul, List.drop_zero] at g4
          have hcs : cells.size = n * sz := by rw [g2, hz0]
          have hmax : n ≤ maxLen := Nat.le_trans hn24 (by decide)
          have := VR.sl (w := w.alloc (.cells cells e)) (ok := okOf β (st.look fr) (w.alloc (.cells cells e))) (β := β) sz true es (some ⟨w.heap.size, 0, none⟩) n w.heap.size 0 (fun q => if hq : q < cells.size then (if (cells[q]).oneCell' then cells[q] else .bool true) else .bool true)
            (by omega) hmax (fun _ => hl.symm) g6 (fun _ => ⟨rfl, hok⟩)
            (fun q => by
              show Value.oneCell' (if hq : q < cells.size then _ else _) = true
              split
              · split
                · assumption
                · rfl
              · rfl)
            (fun q d hq => by
              obtain ⟨v, r1, r2, r3⟩ := g4 q d hq
              have hql : q < cells.size := by have := (List.getElem?_eq_some_iff.1 r1).1; simpa using this
              have hv : cells[q] = v := by simpa [hql] using r1
              rw [dif_pos hql, hv, if_pos r2]
              exact hT.vr r3)
            (fun q hq => by
              have hql : q < cells.size := by rw [hcs, ← hl]; omega
              obtain ⟨v, r1, r2, r3⟩ := g4 q _ (List.getElem?_eq_getElem hq)
              have hv : cells[q] = v := by simpa [hql] using r1
              rw [dif_pos hql, hv, if_pos r2, Nat.zero_add, World.cell?_alloc_new]
              simp [hql, hv])
          rw [hl] at this
          exact this
      by_cases h0 : n * sz = 0
      · refine fin #[] (by simp [h0]) (fun cells hcl => ?_)
        unfold Instr.buildSlice
        simp only [Sem.run_bind, run_underlying hu, Result.andThen_ok, run_sizeOf hs, if_false, h0, show ¬ ((0 : Nat) > 2 ^ 24) by decide, if_true, Sem.run_pure]
        have hr0 : (Array.range 0).map (fun x => (#[] : Array Value)[x % (#[] : Array Value).size]!) = #[] := by simp
        rw [hr0, show (ps.map fun (i, x) => (i, a.eval x)).toList = ps.toList.map fun x => (x.1, a.eval x.2) by simp, hcl]
        simp [newRow]
      · have hz' : ∃ z, zeroOf P e = some z := by
          cases hq : zeroOf P e with
          | none => simp [hq, h0] at hz
          | some z => exact ⟨z, rfl⟩
        obtain ⟨z, hz1⟩ := hz'
        refine fin ((Array.range (n * sz)).map (z.cells[· % z.cells.size]!)) (by simp) (fun cells hcl => ?_)
        unfold Instr.buildSlice
        simp only [Sem.run_bind, run_underlying hu, Result.andThen_ok, run_sizeOf hs, hsm, if_false, h0, run_zeroValue hz1, Sem.run_pure]
        rw [show (ps.map fun (i, x) => (i, a.eval x)).toList = ps.toList.map fun x => (x.1, a.eval x.2) by simp, hcl]
        simp [newRow]
  · simp at ht
end
section
variable {P : Program} {w : World} {β : BMap} {N fr : Nat} {st : St} {a : Act} {o : Oper} {d : D}
theorem ev_sound {x : IOp} (h : Rel N fr st β a w) (hc : chkOp P o.op x = true) (he : ev (st.look fr) st.r x = some d) : Gives P β (st.look fr) w o a d := by
  generalize ho : o.op = op at hc
  unfold chkOp at hc
  split at hc
  case h_1 x y =>
    simp only [ev, Option.some.injEq] at he
    subst he
    exact Gives.pure' h.sim (by unfold execOp; rw [ho]) (chkArg_vr hc h.regs)
  case h_2 x y =>
    simp only [ev, Option.some.injEq] at he
    subst he
    exact Gives.pure' h.sim (by unfold execOp; rw [ho]) (chkArg_vr hc h.regs)
  case h_3 c x y c' x' y' =>
    simp only [Bool.and_eq_true] at hc
    simp only [ev] at he
    split at he
    · rename_i v hv
      injection he with he
      subst he
      have hcv := chkArg_vr hc.1.1 h.regs
      rw [hv] at hcv
      refine ⟨if v then a.eval x else a.eval y, w, by unfold execOp; rw [ho]; simp [hcv.inv_b, asBool], ?_, .refl _ _ _, h.sim⟩
      cases v
      · exact chkArg_vr hc.2 h.regs
      · exact chkArg_vr hc.1.2 h.regs
    · simp at he
  case h_4 op t x op' y =>
    simp only [Bool.and_eq_true, beq_iff_eq] at hc
    obtain ⟨rfl, hx⟩ := hc
    simp only [ev] at he
    obtain ⟨z, h1, h2⟩ := evUn_sound (P := P) (chkArg_vr hx h.regs) he
    exact Gives.here h.sim (s := Op.unary op (a.eval x)) (by unfold execOp; rw [ho]) h1 h2
  case h_5 op t x y yt op' x' y' =>
    simp only [Bool.and_eq_true, beq_iff_eq] at hc
    obtain ⟨⟨rfl, hx⟩, hy⟩ := hc
    simp only [ev] at he
    obtain ⟨z, h1, h2⟩ := evBin_sound (P := P) (t := t) (ox := x) (oy := y) (chkArg_vr hx h.regs) (chkArg_vr hy h.regs) he
    exact Gives.here h.sim (by unfold execOp; rw [ho]) h1 h2
  case h_6 op t x y yt neg x' y' =>
    simp only [Bool.and_eq_true, beq_iff_eq] at hc
    obtain ⟨⟨⟨rfl, hx⟩, hy⟩, ht⟩ := hc
    split at ht
    · rename_i ht'
      simp only [ev] at he
      obtain ⟨z, h1, h2⟩ := evEqb_sound (P := P) (ox := x) (oy := y) ht' (chkArg_vr hx h.regs) (chkArg_vr hy h.regs) he
      exact Gives.here h.sim (by unfold execOp; rw [ho]) h1 h2
    · simp at ht
  case h_7 op t x y yt neg len x' y' =>
    simp only [Bool.and_eq_true, beq_iff_eq] at hc
    obtain ⟨⟨⟨rfl, hx⟩, hy⟩, ht⟩ := hc
    split at ht
    · rename_i n e ht'
      simp only [Bool.and_eq_true, beq_iff_eq, Bool.not_eq_true'] at ht
      obtain ⟨⟨⟨⟨rfl, hi⟩, hs⟩, hag⟩, hg⟩ := ht
      unfold intElem at hi
      split at hi
      · rename_i k hk
        simp only [ev] at he
        obtain ⟨z, h1, h2⟩ := evEqa_sound (P := P) (ox := x) (oy := y) ht' hk hs hag hg (chkArg_vr hx h.regs) (chkArg_vr hy h.regs) he
        exact Gives.here h.sim (by unfold execOp; rw [ho]) h1 h2
      · simp at hi
    · simp at ht
  case h_8 s t x k y =>
    simp only [Bool.and_eq_true] at hc
    obtain ⟨hx, ht⟩ := hc
    split at ht
    · rename_i ks kd hs hd
      simp only [beq_iff_eq] at ht
      subst ht
      simp only [ev] at he
      split at he
      · rename_i k' n hv
        injection he with he
        subst he
        have hcv := chkArg_vr hx h.regs
        rw [hv] at hcv
        refine Gives.here h.sim (s := convert s t (a.eval x)) (by unfold execOp; rw [ho]) (v := .int k (k.wrap n)) ?_ (.i _ _)
        rw [hcv.inv_i]
        simp [convert, run_underlying hs, run_underlying hd, Conv.intToInt]
      · simp at he
    · simp at ht
  case h_9 t ps z ps' => exact ev_build h ho (by unfold chkOp; exact hc) he
  case h_10 t x n agg y =>
    simp only [Bool.and_eq_true, beq_iff_eq] at hc
    obtain ⟨⟨hx, hs⟩, hag⟩ := hc
    simp only [ev] at he
    split at he
    · rename_i cs hcs
      obtain ⟨u, h1, h2⟩ := run_loadAt (P := P) h.sim hag hs (chkArg_vr hx h.regs) hcs he
      exact Gives.here h.sim (s := Instr.loadAt t (a.eval x)) (by unfold execOp; rw [ho]) h1 h2
    · simp at he
  case h_11 t x i off y =>
    simp only [Bool.and_eq_true] at hc
    obtain ⟨hx, ht⟩ := hc
    split at ht
    · rename_i fs ht'
      split at ht
      · rename_i f hf
        simp only [Bool.and_eq_true, beq_iff_eq] at ht
        obtain ⟨rfl, hs⟩ := ht
        cases hsz : szOf P f.type with
        | none => simp [hsz] at hs
        | some n =>
          simp [hsz] at hs
          have hv := chkArg_vr hx h.regs
          simp only [ev] at he
          have go : ∀ b off, a.eval x = .pointer (some ⟨b, off, none⟩) → VR w (okOf β (st.look fr) w) β d (.pointer (some ⟨b, off + f.offset, none⟩)) → Gives P β (st.look fr) w o a d := by
            intro b off hval hv'
            refine Gives.here h.sim (s := Instr.fieldAt t (a.eval x) i) (by unfold execOp; rw [ho]) ?_ hv'
            rw [hval]
            exact run_fieldAt ht' hf hsz hs
          split at he
          · rename_i k s off hq
            injection he with he
            subst he
            rw [hq] at hv
            generalize hu : a.eval x = u at hv
            cases hv with
            | p _ _ _ blk hb => exact go blk off hu (.p _ _ _ _ hb)
          · rename_i k s sz' i' fo hq
            injection he with he
            subst he
            rw [hq] at hv
            generalize hu : a.eval x = u at hv
            cases hv with
            | pr _ _ _ _ _ blk hb => exact go blk _ hu (by rw [Nat.add_assoc]; exact .pr _ _ _ _ _ _ hb)
          · rename_i cs hq
            injection he with he
            subst he
            rw [hq] at hv
            obtain ⟨blk, off, hu, hv'⟩ := hv.drop_q f.offset
            exact go blk off hu hv'
          · simp at he
      · simp at ht
    · simp at ht
  case h_12 t x i len sz y j =>
    simp only [Bool.and_eq_true] at hc
    obtain ⟨⟨hx, hi⟩, ht⟩ := hc
    split at ht
    · rename_i n e ht'
      simp only [Bool.and_eq_true, beq_iff_eq] at ht
      obtain ⟨rfl, hs⟩ := ht
      have hv := chkArg_vr hx h.regs
      have hiv := chkArg_vr hi h.regs
      simp only [ev] at he
      split at he
      · rename_i k m hm
        rw [hm] at hiv
        have hie := hiv.inv_i
        split at he
        · rename_i hb
          have go : ∀ b off, a.eval x = .pointer (some ⟨b, off, none⟩) → VR w (okOf β (st.look fr) w) β d (.pointer (some ⟨b, off + m.toNat * sz, none⟩)) → Gives P β (st.look fr) w o a d := by
            intro b off hval hv'
            refine Gives.here h.sim (s := Instr.indexAt t (a.eval x) (a.eval i)) (by unfold execOp; rw [ho]) ?_ hv'
            rw [hval, hie]
            exact run_indexAt_array ht' hs hb.1 hb.2
          split at he
          · rename_i k s off hq
            injection he with he
            subst he
            rw [hq] at hv
            generalize hu : a.eval x = u at hv
            cases hv with
            | p _ _ _ blk hb => exact go blk off hu (.p _ _ _ _ hb)
          · rename_i k s sz' i' fo hq
            injection he with he
            subst he
            rw [hq] at hv
            generalize hu : a.eval x = u at hv
            cases hv with
            | pr _ _ _ _ _ blk hb => exact go blk _ hu (by rw [Nat.add_assoc]; exact .pr _ _ _ _ _ _ hb)
          · rename_i cs hq
            injection he with he
            subst he
            rw [hq] at hv
            obtain ⟨blk, off, hu, hv'⟩ := hv.drop_q (m.toNat * sz)
            exact go blk off hu hv'
          · simp at he
        · simp at he
      · simp at he
    · simp at ht
  case h_13 t x i sz y j =>
    simp only [Bool.and_eq_true] at hc
    obtain ⟨⟨hx, hi⟩, ht⟩ := hc
    split at ht
    · rename_i e ht'
      simp only [beq_iff_eq] at ht
      have hv := chkArg_vr hx h.regs
      have hiv := chkArg_vr hi h.regs
      simp only [ev] at he
      split at he
      · rename_i k m hm
        rw [hm] at hiv
        have hie := hiv.inv_i
        split at he
        · rename_i hb
          split at he
          · rename_i sz' full es hq
            split at he
            · rename_i hsz
              subst hsz
              split at he
              · rename_i el hel
                injection he with he
                subst he
                rw [hq] at hv
                obtain ⟨blk, off, c, hu, hv'⟩ := hv.elem hel
                refine Gives.here h.sim (s := Instr.indexAt t (a.eval x) (a.eval i)) (by unfold execOp; rw [ho]) ?_ hv'
                rw [hu, hie]
                exact run_indexAt_slice ht' ht hb (List.getElem?_eq_some_iff.1 hel).1
              · simp at he
            · simp at he
          · rename_i k s sz' lo len hq
            split at he
            · rename_i hcond
              obtain ⟨rfl, hlt⟩ := hcond
              injection he with he
              subst he
              rw [hq] at hv
              generalize hu : a.eval x = u at hv
              cases hv with
              | w _ _ _ _ _ blk c hb' hc' hm' hs' =>
                refine Gives.here h.sim (s := Instr.indexAt t (a.eval x) (a.eval i)) (by unfold execOp; rw [ho]) (v := .pointer (some ⟨blk, lo * sz + m.toNat * sz, none⟩)) ?_ ?_
                · rw [hu, hie]
                  exact run_indexAt_slice ht' ht hb hlt
                · rw [← Nat.add_mul]
                  exact .pr _ _ _ _ 0 _ hb'
            · simp at he
          · simp at he
        · simp at he
      · simp at he
    · simp at ht
  case h_14 t x i off n agg y =>
    simp only [Bool.and_eq_true] at hc
    obtain ⟨hx, ht⟩ := hc
    split at ht
    · rename_i fs ht'
      split at ht
      · rename_i f hf
        simp only [Bool.and_eq_true, beq_iff_eq] at ht
        obtain ⟨⟨rfl, hs⟩, hag⟩ := ht
        have hv := chkArg_vr hx h.regs
        simp only [ev] at he
        split at he
        · rename_i cs hq
          rw [hq] at hv
          split at he
          · rename_i hl
            obtain ⟨c1, c2⟩ := hv.cells (cs := cs) rfl
            generalize hu : a.eval x = u at hv
            cases hv with
            | a _ vs hl' hv1 hv2 =>
              have hR := c2.take f.offset n hl
              rw [hu] at hR c1
              simp only [Value.cells, List.size_toArray] at hR c1
              have hmk := VR.mk (vs := (vs.drop f.offset).take n) (by simp; omega) hR he
              refine Gives.here h.sim (s := Instr.field t (a.eval x) i) (by unfold execOp; rw [ho]) ?_ hmk
              rw [hu]
              cases agg with
              | true =>
                simp [Instr.field, run_underlying ht', hf, asAgg, part, run_isAgg hag, run_sizeOf hs]
              | false =>
                have hn1 : ((cs.drop f.offset).take n).length = 1 := by
                  unfold mkV at he
                  simp only [Bool.false_eq_true, if_false] at he
                  split at he
                  · rename_i q hq'; rw [hq']; rfl
                  · simp at he
                have hlt : f.offset < vs.length := by simp at hn1; omega
                have h1 : ((vs.drop f.offset).take n).headD undef = vs[f.offset] := by
                  cases n with
                  | zero => simp at hn1
                  | succ n => rw [List.drop_eq_getElem_cons hlt, List.take_succ_cons]; rfl
                simp only [Bool.false_eq_true, if_false]
                rw [h1]
                simp [Instr.field, run_underlying ht', hf, asAgg, part, run_isAgg hag, hlt]
          · simp at he
        · simp at he
      · simp at ht
    · simp at ht
  case h_15 x j j' y =>
    simp only [Bool.and_eq_true, beq_iff_eq] at hc
    obtain ⟨rfl, hx⟩ := hc
    have hv := chkArg_vr hx h.regs
    simp only [ev] at he
    split at he
    · rename_i cs hq
      rw [hq] at hv
      generalize hu : a.eval x = u at hv
      cases hv with
      | t _ vs hl hv1 =>
        have hlt : j < vs.length := by have := (List.getElem?_eq_some_iff.1 he).1; omega
        refine Gives.here h.sim (s := Instr.extract (a.eval x) j) (by unfold execOp; rw [ho]) (v := vs[j]) (by rw [hu]; simp [Instr.extract, hlt]) (hv1 j d _ he (List.getElem?_eq_getElem hlt))
    · simp at he
  case h_16 args argTypes y =>
    split at hc
    · rename_i x t hargs htys
      simp only [Bool.and_eq_true] at hc
      obtain ⟨hx, ht⟩ := hc
      split at ht
      · rename_i e ht'
        have hv := chkArg_vr hx h.regs
        simp only [ev] at he
        split at he
        · rename_i n hn
          injection he with he
          subst he
          obtain ⟨A, c, hu, _, _⟩ := lenD_vr hv hn
          have ha : args = #[x] := by cases args; simp at hargs; subst hargs; rfl
          have hty : argTypes = #[t] := by cases argTypes; simp at htys; subst htys; rfl
          subst ha hty
          refine ⟨.int .i64 n, w, ?_, .i _ _, .refl _ _ _, h.sim⟩
          unfold execOp
          rw [ho]
          simp [resolve, invoke, builtin, hu, Builtin.len_, run_underlying ht', goInt]
        · simp at he
      · simp at ht
    · simp at hc
  case h_17 args argTypes y z =>
    split at hc
    · rename_i x x' hargs
      simp only [Bool.and_eq_true] at hc
      have hv := chkArg_vr hc.1 h.regs
      have hv' := chkArg_vr hc.2 h.regs
      simp only [ev] at he
      split at he
      · rename_i k p k' q hp hq
        split at he
        · rename_i hk
          subst hk
          injection he with he
          subst he
          rw [hp] at hv
          rw [hq] at hv'
          have ha : args = #[x, x'] := by cases args; simp at hargs; subst hargs; rfl
          subst ha
          refine ⟨_, w, ?_, .i _ _, .refl _ _ _, h.sim⟩
          unfold execOp
          rw [ho]
          simp [resolve, invoke, builtin, hv.inv_i, hv'.inv_i, Builtin.max_, Builtin.max2]
        · simp at he
      · simp at he
    · simp at hc
  case h_18 args argTypes y z =>
    split at hc
    · rename_i x x' hargs
      simp only [Bool.and_eq_true] at hc
      have hv := chkArg_vr hc.1 h.regs
      have hv' := chkArg_vr hc.2 h.regs
      simp only [ev] at he
      split at he
      · rename_i k p k' q hp hq
        split at he
        · rename_i hk
          subst hk
          injection he with he
          subst he
          rw [hp] at hv
          rw [hq] at hv'
          have ha : args = #[x, x'] := by cases args; simp at hargs; subst hargs; rfl
          subst ha
          refine ⟨_, w, ?_, .i _ _, .refl _ _ _, h.sim⟩
          unfold execOp
          rw [ho]
          simp [resolve, invoke, builtin, hv.inv_i, hv'.inv_i, Builtin.min_, Builtin.min2]
        · simp at he
      · simp at he
    · simp at hc
  case h_19 t x lo hi m sz y lo' hi' m' =>
    simp only [Bool.and_eq_true] at hc
    obtain ⟨⟨⟨⟨⟨hx, hlo⟩, hhi⟩, hm⟩, ht⟩, hmh⟩ := hc
    split at ht
    · rename_i e ht'
      simp only [beq_iff_eq] at ht
      exact ev_slc h ho hx hlo hhi hm hmh ht' ht he
    · simp at ht
  case h_20 t x len y =>
    simp only [Bool.and_eq_true] at hc
    obtain ⟨hx, ht⟩ := hc
    split at ht
    · rename_i n e ht'
      simp only [Bool.and_eq_true, beq_iff_eq, decide_eq_true_eq] at ht
      obtain ⟨⟨rfl, hs⟩, hn⟩ := ht
      have hv := chkArg_vr hx h.regs
      simp only [ev] at he
      split at he
      · rename_i cs hq
        rw [hq] at hv
        split at he
        · rename_i hl
          injection he with he
          subst he
          generalize hu : a.eval x = u at hv
          cases hv with
          | q _ blk off vs hok h1 h2 hr =>
            refine Gives.here h.sim (s := Instr.sliceAt t (a.eval x) none none none) (by unfold execOp; rw [ho]; rfl) (v := .slice (some ⟨blk, off, none⟩) n n) ?_ ?_
            · rw [hu]
              simp [Instr.sliceAt, run_underlying ht', Instr.sureAddr, Instr.sliceBounds, run_sizeOf hs, add_none]
            · have hlen : ((cs.take n).map fun d => [d]).length = n := by simp; omega
              have hfl : ((cs.take n).map fun d => [d]).flatten = cs.take n := by
                generalize cs.take n = l
                induction l with
                | nil => rfl
                | cons x l ih => simp [ih]
              have := VR.sl (w := w) (ok := okOf β (st.look fr) w) (β := β) 1 true ((cs.take n).map fun d => [d]) (some ⟨blk, off, none⟩) n blk off vs (by omega) (Nat.le_trans hn (by decide)) (fun _ => hlen.symm)
                (fun e he => by obtain ⟨d, _, rfl⟩ := List.mem_map.1 he; rfl) (fun _ => ⟨rfl, hok⟩) h1
                (fun q d hqd => by
                  rw [hfl, List.getElem?_take] at hqd
                  split at hqd
                  · exact h2 q d hqd
                  · simp at hqd)
                (fun q hqd => by
                  rw [hfl, List.length_take] at hqd
                  exact hr q (by omega))
              rw [hlen] at this
              exact this
        · simp at he
      · simp at he
    · simp at ht
  case h_21 x y =>
    have hv := chkArg_vr hc h.regs
    simp only [ev] at he
    have go : ∀ d' : D, VR w (okOf β (st.look fr) w) β d' (a.eval x) → (match d' with | .p .. | .pr .. | .q .. | .f .. => True | _ => False) → Gives P β (st.look fr) w o a d' := by
      intro d' hv hd
      generalize hu : a.eval x = u at hv
      refine Gives.pure' h.sim (v := u) ?_ hv
      unfold execOp
      rw [ho]
      simp only [hu]
      cases hv <;> first | exact hd.elim | rfl
    split at he
    · rename_i hq; injection he with he; subst he; rw [hq] at hv; exact go _ hv trivial
    · rename_i hq; injection he with he; subst he; rw [hq] at hv; exact go _ hv trivial
    · rename_i hq; injection he with he; subst he; rw [hq] at hv; exact go _ hv trivial
    · rename_i hq; injection he with he; subst he; rw [hq] at hv; exact go _ hv trivial
    · simp at he
  case h_22 f first caps g caps' =>
    simp only [Bool.and_eq_true, beq_iff_eq] at hc
    obtain ⟨⟨rfl, hf⟩, hcs⟩ := hc
    simp only [ev, Option.some.injEq] at he
    subst he
    obtain ⟨q1, q2⟩ := eqAll_vr (P := P) h.regs hcs
    have hf0 : first = #[] := Array.eq_empty_of_size_eq_zero hf
    subst hf0
    refine Gives.here h.sim (s := Instr.makeFunc (.func f) ((#[] : Array Operand).map a.eval) (caps.map a.eval)) (by unfold execOp; rw [ho]) (v := .func (.func f) #[] (caps.map a.eval)) (by simp [Instr.makeFunc]) ?_
    have := VR.f (w := w) (ok := okOf β (st.look fr) w) (β := β) f [] (caps'.map (·.get st.r)) [] (caps.toList.map a.eval) rfl (by simp [q1]) (by simp) q2
    rw [show (caps.toList.map a.eval).toArray = caps.map a.eval by apply Array.ext'; simp] at this
    exact this
  case h_23 t n ps sz ps' => exact ev_bsl h ho (by unfold chkOp; exact hc) he
  case h_24 t x i len sz agg y j =>
    simp only [Bool.and_eq_true] at hc
    obtain ⟨⟨hx, hi⟩, ht⟩ := hc
    split at ht
    · rename_i n e ht'
      simp only [Bool.and_eq_true, beq_iff_eq] at ht
      obtain ⟨⟨rfl, hs⟩, hag⟩ := ht
      have hv := chkArg_vr hx h.regs
      have hvi := chkArg_vr hi h.regs
      simp only [ev] at he
      split at he
      · rename_i k m hq
        rw [hq] at hvi
        split at he
        · rename_i hm
          split at he
          · rename_i cs hqx
            rw [hqx] at hv
            split at he
            · rename_i hl
              obtain ⟨c1, c2⟩ := hv.cells (cs := cs) rfl
              generalize hu : a.eval x = u at hv
              cases hv with
              | a _ vs hl' hv1 hv2 =>
                have hR := c2.take (m.toNat * sz) sz hl
                rw [hu] at hR c1
                simp only [Value.cells, List.size_toArray] at hR c1
                have hmk := VR.mk (vs := (vs.drop (m.toNat * sz)).take sz) (by simp; omega) hR he
                refine Gives.here h.sim (s := Instr.index t (a.eval x) (a.eval i)) (by unfold execOp; rw [ho]) ?_ hmk
                rw [hu, hvi.inv_i]
                cases agg with
                | true =>
                  simp [Instr.index, asIntOf, run_underlying ht', part, run_isAgg hag, run_sizeOf hs, hm]
                | false =>
                  have hn1 : ((cs.drop (m.toNat * sz)).take sz).length = 1 := by
                    unfold mkV at he
                    simp only [Bool.false_eq_true, if_false] at he
                    split at he
                    · rename_i q hq'; rw [hq']; rfl
                    · simp at he
                  have hlt : m.toNat * sz < vs.length := by simp at hn1; omega
                  have h1 : ((vs.drop (m.toNat * sz)).take sz).headD undef = vs[m.toNat * sz] := by
                    cases sz with
                    | zero => simp at hn1
                    | succ n => rw [List.drop_eq_getElem_cons hlt, List.take_succ_cons]; rfl
                  simp only [Bool.false_eq_true, if_false]
                  rw [h1]
                  simp [Instr.index, asIntOf, run_underlying ht', part, run_isAgg hag, run_sizeOf hs, hm, hlt]
            · simp at he
          · simp at he
        · simp at he
      · simp at he
    · simp at ht
  case h_25 t s i l j =>
    simp only [Bool.and_eq_true] at hc
    obtain ⟨hi, ht⟩ := hc
    split at ht
    · rename_i ht'
      simp only [beq_iff_eq] at ht
      have hvi := chkArg_vr hi h.regs
      simp only [ev] at he
      split at he
      · rename_i k m hq
        rw [hq] at hvi
        split at he
        · rename_i hm
          cases hb : l[m.toNat]? with
          | none => rw [hb] at he; simp at he
          | some b =>
            rw [hb] at he
            simp only [Option.map_some, Option.some.injEq] at he
            subst he
            rw [← ht] at hb
            simp only [List.getElem?_map, Option.map_eq_some_iff] at hb
            obtain ⟨c, hc1, hc2⟩ := hb
            subst hc2
            refine Gives.here h.sim (s := Instr.index t (.string s) (a.eval i)) (by unfold execOp; rw [ho]; rfl) (v := .int .u8 (c.toNat : Int)) ?_ (.i _ _)
            rw [hvi.inv_i]
            have hs : s[m.toNat]? = some c := by
              have : m.toNat < s.data.size := by have := (List.getElem?_eq_some_iff.1 hc1).1; simpa using this
              have hc3 : s.data[m.toNat]? = some c := by simpa using hc1
              have hc4 : s.data[m.toNat] = c := by rw [Array.getElem?_eq_getElem this] at hc3; simpa using hc3
              have hsz : m.toNat < s.size := this
              rw [getElem?_pos s m.toNat hsz]
              exact congrArg some hc4
            simp [Instr.index, asIntOf, run_underlying ht', hm, hs]
        · simp at he
      · simp at he
    · simp at ht
  case h_26 op t x yt neg y =>
    simp only [Bool.and_eq_true, beq_iff_eq] at hc
    obtain ⟨⟨rfl, hx⟩, ht⟩ := hc
    split at ht
    · rename_i e ht'
      have hv := chkArg_vr hx h.regs
      have run : ∀ A (l c : Nat), (do eqGuard (if neg then .neq else .eql) t x (.const (.slice none 0 0)) (.slice A l c) (.slice none 0 0); binOp (if neg then .neq else .eql) t (.slice A l c) (.slice none 0 0) : Sem Value).run P w = .ok (.bool (A.isNone != neg)) w := by
        intro A l c
        have hg : ∀ op, (eqGuard op t x (.const (.slice none 0 0)) (.slice A l c) (.slice none 0 0)).run P w = .ok () w := by
          intro op
          unfold eqGuard
          split <;> simp
        have he : (Op.equal t (.slice A l c) (.slice none 0 0)).run P w = .ok A.isNone w := by
          unfold Op.equal Op.maxDepth Op.equalIn
          rw [Sem.run_bind, run_underlying ht' w]
          cases A <;> simp
        cases neg with
        | true => cases A <;> simp at he ⊢ <;> simp [hg, binOp, he]
        | false => cases A <;> simp at he ⊢ <;> simp [hg, binOp, he]
      simp only [ev] at he
      have hev : a.eval (.const (.slice none 0 0)) = .slice none 0 0 := rfl
      split at he
      · rename_i z f hq
        rw [hq] at hv
        injection he with he
        subst he
        generalize hu : a.eval x = u at hv
        cases hv with
        | sl _ _ _ A c blk off cs _ _ _ _ _ _ _ _ =>
          exact Gives.here h.sim (by unfold execOp; rw [ho]) (by rw [hu, hev]; exact run _ _ _) (.ub _)
      · rename_i z f e1 es hq
        rw [hq] at hv
        injection he with he
        subst he
        generalize hu : a.eval x = u at hv
        cases hv with
        | sl _ _ _ A c blk off cs _ _ _ _ hA _ _ _ =>
          obtain ⟨rfl, _⟩ := hA (by simp)
          have := run (some ⟨blk, off, none⟩) (e1 :: es).length c
          simp only [Option.isNone_some, Bool.false_bne] at this
          exact Gives.here h.sim (by unfold execOp; rw [ho]) (by rw [hu, hev]; exact this) (.b _)
      · rename_i q1 q2 q3 q4 q5 hq
        rw [hq] at hv
        injection he with he
        subst he
        generalize hu : a.eval x = u at hv
        cases hv with
        | w _ _ _ _ _ blk c hb hc' hm hs =>
          have := run (some ⟨blk, q4 * q3, none⟩) q5 c
          simp only [Option.isNone_some, Bool.false_bne] at this
          exact Gives.here h.sim (by unfold execOp; rw [ho]) (by rw [hu, hev]; exact this) (.b _)
      · simp at he
    · simp at ht
  case h_27 => simp [ev] at he
  case h_28 => simp at hc
end
theorem some_pair {α γ : Type} {a c : α} {b d : γ} (h : some (a, b) = some (c, d)) : a = c ∧ b = d := by simpa using h
def updK {α : Type} (f : Key → α) (k : Key) (x : α) : Key → α := fun j => if j = k then x else f j
def St.set (fr : Nat) (st : St) (k : Key) (v : Option (Nat × Obj)) : St :=
  if k.1 = fr then { st with own := upd st.own k.2 v } else { st with out := updK st.out k v }
theorem look_set (fr : Nat) (st : St) (k : Key) (v : Option (Nat × Obj)) : (st.set fr k v).look fr = updK (st.look fr) k v := by
  funext j
  by_cases hk : k.1 = fr
  · have e : st.set fr k v = { st with own := upd st.own k.2 v } := by unfold St.set; rw [if_pos hk]
    rw [e]
    show (if j.1 = fr then upd st.own k.2 v j.2 else st.out j) = if j = k then v else if j.1 = fr then st.own j.2 else st.out j
    by_cases hj : j = k
    · subst hj; rw [if_pos hk, if_pos rfl]; simp [upd]
    · by_cases hj1 : j.1 = fr
      · have : j.2 ≠ k.2 := fun h => hj (Prod.ext (hj1.trans hk.symm) h)
        rw [if_pos hj1, if_neg hj, if_pos hj1]
        simp [upd, this]
      · rw [if_neg hj1, if_neg hj, if_neg hj1]
  · have e : st.set fr k v = { st with out := updK st.out k v } := by unfold St.set; rw [if_neg hk]
    rw [e]
    show (if j.1 = fr then st.own j.2 else updK st.out k v j) = if j = k then v else if j.1 = fr then st.own j.2 else st.out j
    by_cases hj : j = k
    · subst hj; rw [if_neg hk, if_pos rfl]; simp [updK]
    · by_cases hj1 : j.1 = fr
      · rw [if_pos hj1, if_neg hj, if_pos hj1]
      · rw [if_neg hj1, if_neg hj, if_neg hj1]; simp [updK, hj]
theorem set_r (fr : Nat) (st : St) (k : Key) (v : Option (Nat × Obj)) : (st.set fr k v).r = st.r := by unfold St.set; split <;> rfl
theorem set_nx (fr : Nat) (st : St) (k : Key) (v : Option (Nat × Obj)) : (st.set fr k v).nx = st.nx := by unfold St.set; split <;> rfl
theorem set_own (fr : Nat) (st : St) (k : Key) (v : Option (Nat × Obj)) (s : Nat) : (st.set fr k v).own s = if (fr, s) = k then v else st.own s := by
  unfold St.set
  split
  · rename_i hk
    simp only [upd]
    by_cases h : s = k.2
    · subst h; simp [← hk]
    · have : ¬ ((fr, s) = k) := fun e => h (by rw [← e])
      simp [h, this]
  · rename_i hk
    have : ¬ ((fr, s) = k) := fun e => hk (by rw [← e])
    simp [this]
section
variable {P : Program} {w w' : World} {β : BMap} {N fr : Nat} {st : St} {a : Act} {σ : Sto}
theorem okOf_set {k : Key} {st : Nat} {o o' : Obj} (hk : σ k = some (st, o)) (hog : o ≠ .gone) (hs : w'.heap.size = w.heap.size) (x : Nat) (h : okOf β σ w x) : okOf β (updK σ k (some (st, o'))) w' x := by
  refine ⟨by rw [hs]; exact h.1, fun j s p hj hp => ?_⟩
  by_cases hjk : j = k
  · subst hjk
    have : some (st, o') = some (s, p) := by simpa [updK] using hj
    obtain ⟨h1, h2⟩ := some_pair this
    subst h1
    exact h.2 j st o hk hog
  · exact h.2 j s p (by simpa [updK, hjk] using hj) hp
theorem write_obj (hS : Sim β σ w) {k : Key} {st x : Nat} {o o' : Obj} (hk : σ k = some (st, o)) (hog : o ≠ .gone) (hb : β k st = some x) (hs : w'.heap.size = w.heap.size) (hos : w'.os = w.os) (htp : Tp w w') (hout : w'.output = w.output)
    (hother : ∀ y, y ≠ x → w'.heap[y]? = w.heap[y]?) (hkept : ∀ vs e, w.heap[x]? = some (.cells vs e (0, 0)) → ∃ vs' : Array Value, w'.heap[x]? = some (.cells vs' e (0, 0)) ∧ vs'.size = vs.size)
    (hm : (∀ d v, VR w (okOf β σ w) β d v → VR w' (okOf β (updK σ k (some (st, o'))) w') β d v) → Match w' (okOf β (updK σ k (some (st, o'))) w') β x o') :
    Trans β σ w β (updK σ k (some (st, o'))) w' ∧ Sim β (updK σ k (some (st, o'))) w' := by
  have hT : Trans β σ w β (updK σ k (some (st, o'))) w' := by
    refine ⟨.refl β, hos, htp, hout, by omega, fun y hy => ⟨okOf_set hk hog hs y hy, hother y ?_⟩, fun q s y vs e hq hv => ?_⟩
    · rintro rfl; exact hy.2 k st o hk hog hb
    · by_cases hyx : y = x
      · subst hyx; exact hkept vs e hv
      · exact ⟨vs, by rw [hother y hyx]; exact hv, rfl⟩
  refine ⟨hT, ⟨fun q s p q' s' p' y hq hq' hg hg' hbq hbq' => ?_, fun q s p hq y hby => ?_, fun q s y hb' => by rw [hs]; exact hS.low q s y hb', fun q s p hq => ?_⟩⟩
  · have get : ∀ q s p, updK σ k (some (st, o')) q = some (s, p) → p ≠ .gone → ∃ p', σ q = some (s, p') ∧ p' ≠ .gone := by
      intro q1 s1 p1 hq1 hp1
      by_cases h : q1 = k
      · subst h
        have : some (st, o') = some (s1, p1) := by simpa [updK] using hq1
        obtain ⟨h1, h2⟩ := some_pair this
        subst h1
        exact ⟨o, hk, hog⟩
      · exact ⟨p1, by simpa [updK, h] using hq1, hp1⟩
    obtain ⟨p1, h1, g1⟩ := get _ _ _ hq hg
    obtain ⟨p2, h2, g2⟩ := get _ _ _ hq' hg'
    exact hS.inj _ _ _ _ _ _ _ h1 h2 g1 g2 hbq hbq'
  · unfold updK at hq
    split at hq
    · rename_i h
      subst h
      obtain ⟨h1, h2⟩ := some_pair hq
      subst h1 h2
      rw [hb] at hby
      injection hby with hby
      subst hby
      exact hm (fun d v hv => hT.vr hv)
    · rename_i hqk
      by_cases hpg : p = .gone
      · subst hpg; trivial
      have hyx : y ≠ x := by
        rintro rfl
        exact hqk (hS.inj _ _ _ _ _ _ _ hq hk hpg hog hby hb)
      exact Match.mono (fun d v hv => hT.vr hv) (.refl β) (hother y hyx) (hS.live q s p hq y hby)
  · by_cases h : q = k
    · subst h
      have : some (st, o') = some (s, p) := by simpa [updK] using hq
      obtain ⟨h1, h2⟩ := some_pair this
      subst h1
      exact ⟨x, hb⟩
    · exact hS.tot q s p (by simpa [updK, h] using hq)
theorem Rel.write (h : Rel N fr st β a w) {k : Key} {s : Nat} {o o' : Obj} (hk : st.look fr k = some (s, o)) (hT : Trans β (st.look fr) w β (updK (st.look fr) k (some (s, o'))) w')
    (hS : Sim β (updK (st.look fr) k (some (s, o'))) w') : Rel N fr (st.set fr k (some (s, o'))) β a w' := by
  refine h.go (set_r _ _ _ _) (by rw [look_set]; exact hT) (by rw [look_set]; exact hS) (fun q z x hb => ?_)
  obtain ⟨h1, h2⟩ := h.fresh q z x hb
  refine ⟨h1, fun hq => ?_⟩
  obtain ⟨h3, h4⟩ := h2 hq
  rw [set_nx]
  refine ⟨h3, fun hz => ?_⟩
  obtain ⟨p, hp⟩ := h4 hz
  rw [set_own]
  split
  · rename_i hqk
    have : st.look fr k = some (st.nx, p) := by
      rw [← hqk]
      simpa [St.look] using hp
    rw [hk] at this
    obtain ⟨e1, e2⟩ := some_pair this
    exact ⟨o', by rw [e1]⟩
  · exact ⟨p, hp⟩
def bset (β : BMap) (k : Key) (s x : Nat) : BMap := fun j z => if j = k ∧ z = s then some x else β j z
theorem alloc_obj (h : Rel N fr st β a w) {s : Nat} (hs : ∀ o, st.own s ≠ some (st.nx, o)) {ob : Go.Obj} {o : Obj} (w2 : World) (hw2 : w2 = w ∨ w2 = w.drew) (nd : D)
    (hm : ∀ ok' β' w', (∀ d v, VR w (okOf β (st.look fr) w) β d v → VR w' ok' β' d v) → w'.heap[w.heap.size]? = some ob → Match w' ok' β' w.heap.size o) :
    let st' : St := { st with own := upd st.own s (some (st.nx, o)) }
    let β' := bset β (fr, s) st.nx w.heap.size
    Rel N fr st' β' a (w2.alloc ob) ∧ Trans β (st.look fr) w β' (st'.look fr) (w2.alloc ob) := by
  intro st' β'
  have hnone : ∀ x, β (fr, s) st.nx ≠ some x := by
    intro x hx
    obtain ⟨_, h2⟩ := h.fresh _ _ _ hx
    obtain ⟨p, hp⟩ := (h2 rfl).2 rfl
    exact hs p hp
  have hle : BLe β β' := by
    intro k z x hb
    show (if k = (fr, s) ∧ z = st.nx then some w.heap.size else β k z) = some x
    split
    · rename_i hc
      rw [hc.1, hc.2] at hb
      exact absurd hb (hnone x)
    · exact hb
  have hheap : w2.heap = w.heap := by rcases hw2 with rfl | rfl <;> rfl
  have hlook : st'.look fr = updK (st.look fr) (fr, s) (some (st.nx, o)) := by
    have := look_set fr st (fr, s) (some (st.nx, o))
    rw [← this]
    simp [St.set, st']
  have hold : ∀ y, y < w.heap.size → (w2.alloc ob).heap[y]? = w.heap[y]? := by
    intro y hy
    rw [heap_alloc_old w2 ob (by rw [hheap]; exact hy), hheap]
  have hnew : (w2.alloc ob).heap[w.heap.size]? = some ob := by rw [← hheap]; exact heap_alloc_new w2 ob
  have hT : Trans β (st.look fr) w β' (st'.look fr) (w2.alloc ob) := by
    refine ⟨hle, ?_, ?_, ?_, by simp [hheap], fun y hy => ⟨⟨by simp [hheap]; have := hy.1; omega, fun k z p hk hg hb => ?_⟩, hold y hy.1⟩, fun k z y vs e hb hv => ⟨vs, by rw [hold y (h.sim.low _ _ _ hb)]; exact hv, rfl⟩⟩
    · rcases hw2 with rfl | rfl <;> rfl
    · rcases hw2 with rfl | rfl
      · exact .same rfl rfl
      · exact ⟨rfl, Nat.le_succ _⟩
    · rcases hw2 with rfl | rfl <;> rfl
    · rw [hlook] at hk
      unfold updK at hk
      split at hk
      · rename_i hkk
        obtain ⟨e1, e2⟩ := some_pair hk
        subst hkk e1
        have : β' (fr, s) st.nx = some w.heap.size := by simp [β', bset]
        rw [this] at hb
        injection hb with hb
        have := hy.1
        omega
      · rename_i hkk
        have : β' k z = β k z := by simp [β', bset, hkk]
        rw [this] at hb
        exact hy.2 k z p hk hg hb
  have hvr : ∀ d v, VR w (okOf β (st.look fr) w) β d v → VR (w2.alloc ob) (okOf β' (st'.look fr) (w2.alloc ob)) β' d v := fun d v hv => hT.vr hv
  have hcase : ∀ k z x, β' k z = some x → (k = (fr, s) ∧ z = st.nx ∧ x = w.heap.size) ∨ (β k z = some x) := by
    intro k z x hb
    have : (if k = (fr, s) ∧ z = st.nx then some w.heap.size else β k z) = some x := hb
    split at this
    · rename_i hc
      injection this with this
      exact .inl ⟨hc.1, hc.2, this.symm⟩
    · exact .inr this
  have hS : Sim β' (st'.look fr) (w2.alloc ob) := by
    refine ⟨fun q z p q' z' p' y hq hq' hg hg' hb hb' => ?_, fun k z p hk y hb => ?_, fun k z x hb => ?_, fun k z p hk => ?_⟩
    · rw [hlook] at hq hq'
      rcases hcase _ _ _ hb with ⟨e1, e2, e3⟩ | hb1 <;> rcases hcase _ _ _ hb' with ⟨g1, g2, g3⟩ | hb2
      · rw [e1, g1]
      · have := h.sim.low _ _ _ hb2; omega
      · have := h.sim.low _ _ _ hb1; omega
      · have n1 : q ≠ (fr, s) := by
          rintro rfl
          simp [updK] at hq
          rw [← hq.1] at hb1
          exact hnone _ hb1
        have n2 : q' ≠ (fr, s) := by
          rintro rfl
          simp [updK] at hq'
          rw [← hq'.1] at hb2
          exact hnone _ hb2
        simp only [updK, n1, n2, if_false] at hq hq'
        exact h.sim.inj _ _ _ _ _ _ _ hq hq' hg hg' hb1 hb2
    · rw [hlook] at hk
      unfold updK at hk
      split at hk
      · rename_i hkk
        subst hkk
        obtain ⟨e1, e2⟩ := some_pair hk
        subst e1 e2
        rcases hcase _ _ _ hb with ⟨_, _, e3⟩ | hb1
        · subst e3; exact hm _ _ _ hvr hnew
        · exact absurd hb1 (hnone _)
      · rename_i hkk
        rcases hcase _ _ _ hb with ⟨e1, _, _⟩ | hb1
        · exact absurd e1 hkk
        · exact Match.mono hvr hle (hold y (h.sim.low _ _ _ hb1)) (h.sim.live k z p hk y hb1)
    · rcases hcase _ _ _ hb with ⟨_, _, e3⟩ | hb1
      · simp [hheap]; omega
      · have := h.sim.low _ _ _ hb1; simp [hheap]; omega
    · rw [hlook] at hk
      by_cases hkk : k = (fr, s)
      · subst hkk
        simp only [updK, if_true] at hk
        obtain ⟨e1, e2⟩ := some_pair hk
        exact ⟨w.heap.size, by rw [← e1]; simp [β', bset]⟩
      · simp only [updK, hkk, if_false] at hk
        obtain ⟨x, hx⟩ := h.sim.tot k z p hk
        exact ⟨x, hle _ _ _ hx⟩
  refine ⟨h.go rfl hT hS (fun k z x hb => ?_), hT⟩
  rcases hcase _ _ _ hb with ⟨e1, e2, _⟩ | hb1
  · subst e1
    refine ⟨Nat.le_refl _, fun _ => ⟨by show z ≤ st.nx; omega, fun _ => ⟨o, by simp [st', upd]⟩⟩⟩
  · obtain ⟨h1, h2⟩ := h.fresh _ _ _ hb1
    refine ⟨h1, fun hk => ⟨(h2 hk).1, fun hz => ?_⟩⟩
    obtain ⟨p, hp⟩ := (h2 hk).2 hz
    show ∃ o', upd st.own s (some (st.nx, o)) k.2 = some (st.nx, o')
    unfold upd
    split
    · exact ⟨o, rfl⟩
    · exact ⟨p, hp⟩
theorem take_new (h : Rel N fr st β a w) {s : Nat} (hs : ∀ o, st.own s ≠ some (st.nx, o)) {blk : Nat} {o : Obj} (w' : World) (hos : w'.os = w.os) (htp : Tp w w') (hout : w'.output = w.output) (hsz : w.heap.size ≤ w'.heap.size) (hold : ∀ y, y < w.heap.size → w'.heap[y]? = w.heap[y]?) (hb1 : w.heap.size ≤ blk) (hb2 : blk < w'.heap.size)
    (hm : Match w' (fun x => okOf β (st.look fr) w x ∨ (w.heap.size ≤ x ∧ x < w'.heap.size ∧ x ≠ blk)) β blk o) :
    let st' : St := { st with own := upd st.own s (some (st.nx, o)) }
    let β' := bset β (fr, s) st.nx blk
    Rel N fr st' β' a w' ∧ Trans β (st.look fr) w β' (st'.look fr) w' := by
  intro st' β'
  have hnone : ∀ x, β (fr, s) st.nx ≠ some x := by
    intro x hx
    obtain ⟨_, h2⟩ := h.fresh _ _ _ hx
    obtain ⟨p, hp⟩ := (h2 rfl).2 rfl
    exact hs p hp
  have hle : BLe β β' := by
    intro k z x hb
    show (if k = (fr, s) ∧ z = st.nx then some blk else β k z) = some x
    split
    · rename_i hc
      rw [hc.1, hc.2] at hb
      exact absurd hb (hnone x)
    · exact hb
  have hlook : st'.look fr = updK (st.look fr) (fr, s) (some (st.nx, o)) := by
    have := look_set fr st (fr, s) (some (st.nx, o))
    rw [← this]
    simp [St.set, st']
  have hT : Trans β (st.look fr) w β' (st'.look fr) w' := by
    refine ⟨hle, hos, htp, hout, hsz, fun y hy => ⟨⟨by have := hy.1; omega, fun k z p hk hg hb => ?_⟩, hold y hy.1⟩, fun k z y vs e hb hv => ⟨vs, by rw [hold y (h.sim.low _ _ _ hb)]; exact hv, rfl⟩⟩
    rw [hlook] at hk
    unfold updK at hk
    split at hk
    · rename_i hkk
      obtain ⟨e1, e2⟩ := some_pair hk
      subst hkk e1
      have : β' (fr, s) st.nx = some blk := by simp [β', bset]
      rw [this] at hb
      injection hb with hb
      have := hy.1
      omega
    · rename_i hkk
      have : β' k z = β k z := by simp [β', bset, hkk]
      rw [this] at hb
      exact hy.2 k z p hk hg hb
  have hvr : ∀ d v, VR w (okOf β (st.look fr) w) β d v → VR w' (okOf β' (st'.look fr) w') β' d v := fun d v hv => hT.vr hv
  have hcase : ∀ k z x, β' k z = some x → (k = (fr, s) ∧ z = st.nx ∧ x = blk) ∨ (β k z = some x) := by
    intro k z x hb
    have : (if k = (fr, s) ∧ z = st.nx then some blk else β k z) = some x := hb
    split at this
    · rename_i hc
      injection this with this
      exact .inl ⟨hc.1, hc.2, this.symm⟩
    · exact .inr this
  have hm' : Match w' (okOf β' (st'.look fr) w') β' blk o := by
    refine Match.mono (fun d v hv => hv.mono (fun x hx => ⟨?_, rfl⟩) hle (fun _ _ _ vs _ _ h => ⟨vs, h, rfl⟩)) hle rfl hm
    rcases hx with hx | ⟨x1, x2, x3⟩
    · exact (hT.okm x hx).1
    · refine ⟨x2, fun k z p hk hg hb => ?_⟩
      rcases hcase _ _ _ hb with ⟨_, _, e3⟩ | hb1
      · exact x3 e3
      · have := h.sim.low _ _ _ hb1; omega
  have hS : Sim β' (st'.look fr) w' := by
    refine ⟨fun q z p q' z' p' y hq hq' hg hg' hb hb' => ?_, fun k z p hk y hb => ?_, fun k z x hb => ?_, fun k z p hk => ?_⟩
    · rw [hlook] at hq hq'
      rcases hcase _ _ _ hb with ⟨e1, e2, e3⟩ | hb1 <;> rcases hcase _ _ _ hb' with ⟨g1, g2, g3⟩ | hb2
      · rw [e1, g1]
      · have := h.sim.low _ _ _ hb2; omega
      · have := h.sim.low _ _ _ hb1; omega
      · have n1 : q ≠ (fr, s) := by
          rintro rfl
          simp [updK] at hq
          rw [← hq.1] at hb1
          exact hnone _ hb1
        have n2 : q' ≠ (fr, s) := by
          rintro rfl
          simp [updK] at hq'
          rw [← hq'.1] at hb2
          exact hnone _ hb2
        simp only [updK, n1, n2, if_false] at hq hq'
        exact h.sim.inj _ _ _ _ _ _ _ hq hq' hg hg' hb1 hb2
    · rw [hlook] at hk
      unfold updK at hk
      split at hk
      · rename_i hkk
        subst hkk
        obtain ⟨e1, e2⟩ := some_pair hk
        subst e1 e2
        rcases hcase _ _ _ hb with ⟨_, _, e3⟩ | hb1
        · subst e3; exact hm'
        · exact absurd hb1 (hnone _)
      · rename_i hkk
        rcases hcase _ _ _ hb with ⟨e1, _, _⟩ | hb1
        · exact absurd e1 hkk
        · exact Match.mono hvr hle (hold y (h.sim.low _ _ _ hb1)) (h.sim.live k z p hk y hb1)
    · rcases hcase _ _ _ hb with ⟨_, _, e3⟩ | hb1
      · omega
      · have := h.sim.low _ _ _ hb1; omega
    · rw [hlook] at hk
      by_cases hkk : k = (fr, s)
      · subst hkk
        simp only [updK, if_true] at hk
        obtain ⟨e1, e2⟩ := some_pair hk
        exact ⟨blk, by rw [← e1]; simp [β', bset]⟩
      · simp only [updK, hkk, if_false] at hk
        obtain ⟨x, hx⟩ := h.sim.tot k z p hk
        exact ⟨x, hle _ _ _ hx⟩
  refine ⟨h.go rfl hT hS (fun k z x hb => ?_), hT⟩
  rcases hcase _ _ _ hb with ⟨e1, e2, _⟩ | hb1
  · subst e1
    refine ⟨Nat.le_refl _, fun _ => ⟨by show z ≤ st.nx; omega, fun _ => ⟨o, by simp [st', upd]⟩⟩⟩
  · obtain ⟨h1, h2⟩ := h.fresh _ _ _ hb1
    refine ⟨h1, fun hk => ⟨(h2 hk).1, fun hz => ?_⟩⟩
    obtain ⟨p, hp⟩ := (h2 hk).2 hz
    show ∃ o', upd st.own s (some (st.nx, o)) k.2 = some (st.nx, o')
    unfold upd
    split
    · exact ⟨o, rfl⟩
    · exact ⟨p, hp⟩
end
structure Up where
  key : Key
  st : Nat
  old : Obj
  new : Obj
def FnR (P : Program) (k : FuncId) (args : List D) (ups : List Up) (d : D) : Prop :=
  (∃ fn, P.funcs[k]? = some fn ∧ fn.body.isNone = false ∧ (fn.name == "runtime.NumGoroutine") = false) ∧
  ∀ (w : World) (β : BMap) (F : Nat) (ok : Nat → Prop) (vals : List Value), vals.length = args.length →
    (∀ (j : Nat) (d : D) (v : Value), args[j]? = some d → vals[j]? = some v → VR w ok β d v) →
    (∀ x, ok x → x < w.heap.size) → (∀ k s x, β k s = some x → k.1 < F ∧ x < w.heap.size) →
    (∀ u ∈ ups, ∃ x, β u.key u.st = some x ∧ ¬ ok x ∧ x < w.heap.size ∧ Match w ok β x u.old ∧ u.old ≠ .gone) →
    (∀ u ∈ ups, ∀ u' ∈ ups, ∀ x, β u.key u.st = some x → β u'.key u'.st = some x → u.key = u'.key) →
    Calls P k vals.toArray w fun e w' => ∃ v, e = .returned v ∧ w'.os = w.os ∧ Tp w w' ∧ w'.output = w.output ∧ w.heap.size ≤ w'.heap.size ∧
      (∀ x, x < w.heap.size → (∀ u ∈ ups, β u.key u.st ≠ some x) → w'.heap[x]? = w.heap[x]?) ∧
      (∀ x vs e, x < w.heap.size → w.heap[x]? = some (.cells vs e (0, 0)) → ∃ vs' : Array Value, w'.heap[x]? = some (.cells vs' e (0, 0)) ∧ vs'.size = vs.size) ∧
      (∀ u ∈ ups, ∀ x, β u.key u.st = some x → Match w' (fun x => ok x ∨ (w.heap.size ≤ x ∧ x < w'.heap.size)) β x u.new) ∧
      VR w' (fun x => ok x ∨ (w.heap.size ≤ x ∧ x < w'.heap.size)) β d v
def FnN (P : Program) (k : FuncId) (args : List D) (sz : Nat) (es : List (List D)) : Prop :=
  (∃ fn, P.funcs[k]? = some fn ∧ fn.body.isNone = false ∧ (fn.name == "runtime.NumGoroutine") = false) ∧
  ∀ (w : World) (β : BMap) (F : Nat) (ok : Nat → Prop) (vals : List Value), vals.length = args.length →
    (∀ (j : Nat) (d : D) (v : Value), args[j]? = some d → vals[j]? = some v → VR w ok β d v) →
    (∀ x, ok x → x < w.heap.size) → (∀ k s x, β k s = some x → k.1 < F ∧ x < w.heap.size) →
    Calls P k vals.toArray w fun e w' => ∃ blk c, e = .returned (.slice (some ⟨blk, 0, none⟩) es.length c) ∧ w'.os = w.os ∧ Tp w w' ∧ w'.output = w.output ∧ w.heap.size ≤ w'.heap.size ∧
      (∀ x, x < w.heap.size → w'.heap[x]? = w.heap[x]?) ∧ w.heap.size ≤ blk ∧ blk < w'.heap.size ∧ es.length ≤ c ∧ c ≤ maxLen ∧
      (∃ (vs : Array Value) (e : TypeId), w'.heap[blk]? = some (.cells vs e (0, 0)) ∧ c * sz ≤ vs.size) ∧
      Match w' (fun x => ok x ∨ (w.heap.size ≤ x ∧ x < w'.heap.size ∧ x ≠ blk)) β blk (.row sz es)
def elemsOf (L : Sto) (sz : Nat) : D → Option (List (List D))
  | .sl sz' _ es => if sz = sz' then some es else none
  | .w key st sz' lo len => match L key with
    | some (st', .row sz'' es) => if st = st' ∧ sz = sz' ∧ sz = sz'' ∧ lo + len ≤ es.length then some ((es.drop lo).take len) else none
    | _ => none
  | _ => none
def storeD (L : Sto) (d : D) (cs : List D) : Option (Key × Nat × Obj) := match d with
  | .p key st off => match L key with
    | some (st', .box old) => if st = st' ∧ off + cs.length ≤ old.length then some (key, st, .box (splice old off cs)) else none
    | _ => none
  | .pr key st sz idx fo => match L key with
    | some (st', .row sz' es) => if st = st' ∧ sz = sz' then match es[idx]? with
        | some e => if fo + cs.length ≤ e.length then some (key, st, .row sz (es.set idx (splice e fo cs))) else none
        | none => none else none
    | _ => none
  | _ => none
def mput (len : Nat) (k v : D) : List (D × D) → Option (List (D × D))
  | [] => some [(k, v)]
  | (a, u0) :: es => match keyEq len k a with
    | some true => some ((k, v) :: es)
    | some false => (mput len k v es).map ((a, u0) :: ·)
    | none => none
def putUps (fr : Nat) : List Up → St → St
  | [], st => st
  | u :: us, st => putUps fr us (st.set fr u.key (some (u.st, u.new)))
def St.newObj (fr : Nat) (st : St) (s : Nat) (o : Obj) (d : D) : St := { st with r := upd st.r s d, own := upd st.own s (some (st.nx, o)) }
def slotOk (st : St) (s : Nat) : Prop := match st.own s with
  | none => True
  | some (z, _) => z ≠ st.nx
def opCall (P : Program) (fr : Nat) (f : FuncId) (args : List D) (dst : Option Nat) (st : St) (K : St → Prop) : Prop :=
  ∃ ups d, FnR P f args ups d ∧ (∀ u ∈ ups, st.look fr u.key = some (u.st, u.old) ∧ u.old ≠ .gone) ∧ (ups.map (·.key)).Nodup ∧ K ((putUps fr ups st).put dst d)
def opCall0 (P : Program) (f : FuncId) (args : List D) (dst : Option Nat) (st : St) (K : St → Prop) : Prop := ∃ d, FnR P f args [] d ∧ K (st.put dst d)
def opCallN (P : Program) (fr : Nat) (f : FuncId) (args : List D) (dst : Option Nat) (st : St) (K : St → Prop) : Prop := match dst with
  | some s => ∃ sz es, FnN P f args sz es ∧ slotOk st s ∧ K (st.newObj fr s (.row sz es) (.w (fr, s) st.nx sz 0 es.length))
  | none => False
def opA (P : Program) (fr : Nat) (x : IOp) (dst : Option Nat) (st : St) (K : St → Prop) : Prop := match x with
  | .alloc z => match dst with
    | some s => st.own s = none ∧ K (st.newObj fr s (.box z) (.p (fr, s) st.nx 0))
    | none => False
  | .box x => match dst, (x.get st.r).cells? with
    | some s, some cs => st.own s = none ∧ K (st.newObj fr s (.box cs) (.p (fr, s) st.nx 0))
    | _, _ => False
  | .store n x y => match (y.get st.r).cells? with
    | some cs => cs.length = n ∧ match storeD (st.look fr) (x.get st.r) cs with
      | some (k, v) => K (st.set fr k (some v))
      | none => False
    | none => False
  | .mk sz bytes z n c => match dst, n.get st.r, c.get st.r with
    | some s, .i _ n, .i _ c => 0 ≤ n ∧ n ≤ c ∧ c * bytes ≤ 140737488355328 ∧ c ≤ 140737488355328 ∧ st.own s = none ∧ K (st.newObj fr s (.row sz (List.replicate n.toNat z)) (.w (fr, s) st.nx sz 0 n.toNat))
    | _, _, _ => False
  | .app sz bytes x y => match dst, elemsOf (st.look fr) sz (y.get st.r) with
    | some s, some ys => match x.get st.r with
      | .sl sz' full xs => sz = sz' ∧ match ys with
        | [] => K (st.put (some s) (.sl sz' full xs))
        | _ :: _ => full = true ∧ (xs.length + ys.length) * bytes ≤ 140737488355328 ∧ xs.length + ys.length ≤ 140737488355328 ∧ slotOk st s ∧ K (st.newObj fr s (.row sz (xs ++ ys)) (.w (fr, s) st.nx sz 0 (xs.length + ys.length)))
      | .w key z sz' lo len => match st.look fr key with
        | some (z', .row sz'' es) => z = z' ∧ sz = sz' ∧ sz = sz'' ∧ lo = 0 ∧ len = es.length ∧ match ys with
          | [] => K (st.put (some s) (.w key z sz' lo len))
          | _ :: _ => (es.length + ys.length) * bytes ≤ 140737488355328 ∧ es.length + ys.length ≤ 140737488355328 ∧ slotOk (st.set fr key (some (z, .gone))) s ∧
              K ((st.set fr key (some (z, .gone))).newObj fr s (.row sz (es ++ ys)) (.w (fr, s) st.nx sz 0 (es.length + ys.length)))
        | _ => False
      | _ => False
    | _, _ => False
  | .cpy sz x y => match elemsOf (st.look fr) sz (y.get st.r), x.get st.r with
    | some ys, .w key z sz' lo len => match st.look fr key with
      | some (z', .row sz'' es) => z = z' ∧ sz = sz' ∧ sz = sz'' ∧ lo + len ≤ es.length ∧
          K ((st.set fr key (some (z, .row sz (es.take lo ++ ys.take len ++ es.drop (lo + min ys.length len))))).put dst (.i .i64 (min ys.length len : Nat)))
      | _ => False
    | _, _ => False
  | .call f args => opCall0 P f (args.map (·.get st.r)) dst st K
  | .callv x args => match x.get st.r with
    | .f g first cap => opCall0 P g (first ++ args.map (·.get st.r) ++ cap) dst st K
    | _ => False
  | .callR f args => opCall P fr f (args.map (·.get st.r)) dst st K
  | .callN f args => opCallN P fr f (args.map (·.get st.r)) dst st K
  | .callvR x args => match x.get st.r with
    | .f g first cap => opCall P fr g (first ++ args.map (·.get st.r) ++ cap) dst st K
    | _ => False
  | .mkmap => match dst with
    | some s => st.own s = none ∧ K (st.newObj fr s (.map []) (.m (fr, s) st.nx))
    | none => False
  | .mapset len m k v => match m.get st.r with
    | .m key z => match st.look fr key with
      | some (z', .map es) => z = z' ∧ keyEq len (k.get st.r) (k.get st.r) = some true ∧ match mput len (k.get st.r) (v.get st.r) es with
        | some es' => K (st.set fr key (some (z, .map es')))
        | none => False
      | _ => False
    | _ => False
  | .range m => match dst, m.get st.r with
    | some s, .m key z => match st.look fr key with
      | some (z', .map es) => z = z' ∧ st.own s = none ∧ K (st.newObj fr s (.iter key z [] es.length) (.it (fr, s) st.nx))
      | _ => False
    | _, _ => False
  | x => match ev (st.look fr) st.r x with
    | some d => K (st.put dst d)
    | none => False
def chkMap (P : Program) (t : TypeId) (len : Nat) : Bool := match P.underlying t with
  | some (.map key _) => (match P.underlying key with
    | some (.array n e) => n == len && intElem P e && szOf P e == some 1 && aggOf P e == some false
    | _ => false)
  | _ => false
def chkMapV (P : Program) (t : TypeId) (vz : List D) (agg : Bool) : Bool := match P.underlying t with
  | some (.map _ el) => aggOf P el == some agg && (match zeroOf P el with
    | some v => constsD v.cells.toList vz && (agg || v.oneCell') && (!agg || (match v with | .agg _ => true | _ => false))
    | none => false)
  | _ => false
def chkS (P : Program) : Op → IOp → Bool
  | .alloc t, .alloc z => (match zeroOf P t with
      | some v => constsD v.cells.toList z
      | none => false)
  | .box _ x, .box y => chkArg x y
  | .store t x y, .store n x' y' => chkArg x x' && chkArg y y' && szOf P t == some n
  | .makeSlice t n c, .mk sz bytes z n' c' => chkArg n n' && chkArg c c' && (match P.underlying t with
      | some (.slice e) => szOf P e == some sz && bytesOf P e == some bytes && (match zeroOf P e with
        | some v => constsD v.cells.toList z && z.length == sz
        | none => false)
      | _ => false)
  | .call { callee := .builtin .append, args, argTypes }, .app sz bytes x y => (match args.toList, argTypes.toList with
      | [a, b], [t, u] => chkArg a x && chkArg b y && (match P.underlying t, P.underlying u with
        | some (.slice e), some (.slice _) => szOf P e == some sz && bytesOf P e == some bytes && sz != 0 && (zeroOf P e).any (fun v => v.cells.size == sz)
        | _, _ => false)
      | _, _ => false)
  | .call { callee := .builtin .copy, args, argTypes }, .cpy sz x y => (match args.toList, argTypes.toList with
      | [a, b], [t, u] => chkArg a x && chkArg b y && (match P.underlying t with
        | some (.slice e) => szOf P e == some sz
        | _ => false)
      | _, _ => false)
  | .call { callee := .value (.func f), args, .. }, .call g args' => f == g && eqAll P args.toList args'
  | .call { callee := .value (.func f), args, .. }, .callR g args' => f == g && eqAll P args.toList args'
  | .call { callee := .value (.func f), args, .. }, .callN g args' => f == g && eqAll P args.toList args'
  | .call { callee := .value x, args, .. }, .callvR y args' => chkArg x y && eqAll P args.toList args'
  | .call { callee := .value x, args, .. }, .callv y args' => chkArg x y && eqAll P args.toList args'
  | .makeMap _ none, .mkmap => true
  | .entry x, .entry y => chkArg x y
  | .mapUpdate t m k v, .mapset len m' k' v' => chkArg m m' && chkArg k k' && chkArg v v' && chkMap P t len
  | .range t x, .range x' => chkArg x x' && (match P.underlying t with
      | some (.map _ _) => true
      | _ => false)
  | .lookup t x i ok, .mapget len vz agg ok' m k => chkArg x m && chkArg i k && ok == ok' && chkMap P t len && chkMapV P t vz agg
  | op, x => chkOp P op x
section
variable {P : Program} {w : World} {β : BMap} {N fr : Nat} {st : St} {a : Act} {o : Oper} {K : St → Prop} {Q : Exit → Act → World → Prop}
theorem wp_value {v : Value} {w' : World} {K' : Act → World → Prop} (hr : (execOp a.eval o).run P w = .ok (.value v) w') (hk : K' (a.put o.dst v) w') : o.wp P a w K' Q := by
  unfold Oper.wp
  rw [hr]
  exact hk
theorem wp_skip' {w' : World} {K' : Act → World → Prop} (hr : (execOp a.eval o).run P w = .ok .skip w') (hk : K' (a.put o.dst undef) w') : o.wp P a w K' Q := by
  unfold Oper.wp
  rw [hr]
  exact hk
theorem sound_ev (h : Rel N fr st β a w) {d : D} (hg : Gives P β (st.look fr) w o a d) (hd : ∀ s, o.dst = some s → s < N) (hk : K (st.put o.dst d)) : o.wp P a w (Post N fr K β (st.look fr) w) Q := by
  obtain ⟨v, w', h1, h2, h3, h4⟩ := hg
  refine wp_value h1 ⟨_, β, hk, ?_, by rw [look_put]; exact h3⟩
  have hrel : Rel N fr st β a w' := h.go rfl h3 h4 h.fresh
  exact hrel.put hd h2
theorem eq_put_newObj {s : Nat} {ob : Obj} {d : D} : st.newObj fr s ob d = ({ st with own := upd st.own s (some (st.nx, ob)) } : St).put (some s) d := rfl
theorem sound_new (h : Rel N fr st β a w) {s : Nat} (hs : ∀ o, st.own s ≠ some (st.nx, o)) {ob : Go.Obj} {ao : Obj} {d : D} {v : Value} (w2 : World) (hw2 : w2 = w ∨ w2 = w.drew)
    (hm : ∀ ok' β' w', (∀ d v, VR w (okOf β (st.look fr) w) β d v → VR w' ok' β' d v) → w'.heap[w.heap.size]? = some ob → Match w' ok' β' w.heap.size ao)
    (hv : ∀ ok' (β' : BMap) (w' : World), β' (fr, s) st.nx = some w.heap.size → w'.heap[w.heap.size]? = some ob → VR w' ok' β' d v)
    (hd : ∀ s, o.dst = some s → s < N) (hdst : o.dst = some s) (hr : (execOp a.eval o).run P w = .ok (.value v) (w2.alloc ob)) (hk : K (st.newObj fr s ao d)) : o.wp P a w (Post N fr K β (st.look fr) w) Q := by
  obtain ⟨hR, hT⟩ := alloc_obj h hs (ob := ob) (o := ao) w2 hw2 d hm
  have hheap : w2.heap = w.heap := by rcases hw2 with rfl | rfl <;> rfl
  refine wp_value hr ⟨_, bset β (fr, s) st.nx w.heap.size, hk, ?_, ?_⟩
  · rw [eq_put_newObj, hdst]
    exact hR.put (fun q hq => hd q (by rw [hdst]; exact hq)) (hv _ _ _ (by simp [bset]) (by rw [← hheap]; exact heap_alloc_new w2 ob))
  · exact hT
theorem flatten_set {α : Type} {sz : Nat} : ∀ {es : List (List α)} {i fo : Nat} {e cs : List α}, (∀ e ∈ es, e.length = sz) → es[i]? = some e → fo + cs.length ≤ e.length →
    (es.set i (splice e fo cs)).flatten = splice es.flatten (i * sz + fo) cs
  | [], i, fo, e, cs, _, he, _ => by simp at he
  | x :: es, 0, fo, e, cs, h, he, hl => by
    simp at he
    subst he
    have hx := h x List.mem_cons_self
    simp only [List.set_cons_zero, List.flatten_cons, Nat.zero_mul, Nat.zero_add]
    unfold splice
    rw [List.take_append_of_le_length (by omega), List.drop_append_of_le_length (by omega)]
    simp
  | x :: es, i + 1, fo, e, cs, h, he, hl => by
    have hx := h x List.mem_cons_self
    simp only [List.set_cons_succ, List.flatten_cons]
    rw [flatten_set (fun y hy => h y (List.mem_cons_of_mem _ hy)) (by simpa using he) hl]
    unfold splice
    rw [show (i + 1) * sz + fo = x.length + (i * sz + fo) by rw [Nat.succ_mul]; omega, List.take_length_add_append, show x.length + (i * sz + fo) + cs.length = x.length + (i * sz + fo + cs.length) by omega, List.drop_length_add_append]
    simp
theorem sound_alloc (h : Rel N fr st β a w) {t : TypeId} {z : List D} (ho : o.op = .alloc t) (hc : chkS P o.op (.alloc z) = true) (hd : ∀ s, o.dst = some s → s < N) (hA : opA P fr (.alloc z) o.dst st K) :
    o.wp P a w (Post N fr K β (st.look fr) w) Q := by
  simp only [opA] at hA
  split at hA
  · rename_i s hs
    obtain ⟨hn, hk⟩ := hA
    rw [ho] at hc
    simp only [chkS] at hc
    cases hz : zeroOf P t with
    | none => simp [hz] at hc
    | some v =>
      simp only [hz] at hc
      refine sound_new h (by rw [hn]; simp) (ob := .cells v.cells t) (v := .pointer (some ⟨w.heap.size, 0, none⟩)) w (.inl rfl) (fun ok' β' w' hvr hw => ?_) (fun ok' β' w' hb hw => .p _ _ _ _ hb) hd hs ?_ hk
      · obtain ⟨z1, z2⟩ := constsD_cells (w := w') (ok := ok') (β := β') hc
        exact ⟨_, _, hw, by simpa using z1, z2⟩
      · unfold execOp
        rw [ho]
        simp [Instr.alloc, run_zeroValue hz, newVar, newRow]
  · exact hA.elim
theorem sound_box (h : Rel N fr st β a w) {t : TypeId} {x : Operand} {y : Arg} (ho : o.op = .box t x) (hc : chkArg x y = true) (hd : ∀ s, o.dst = some s → s < N) (hA : opA P fr (.box y) o.dst st K) :
    o.wp P a w (Post N fr K β (st.look fr) w) Q := by
  simp only [opA] at hA
  split at hA
  · rename_i s cs hs hcs
    obtain ⟨hn, hk⟩ := hA
    obtain ⟨c1, c2⟩ := (chkArg_vr hc h.regs).cells hcs
    refine sound_new h (by rw [hn]; simp) (ob := .cells (a.eval x).cells t) (v := .pointer (some ⟨w.heap.size, 0, none⟩)) w (.inl rfl) (fun ok' β' w' hvr hw => ?_) (fun ok' β' w' hb hw => .p _ _ _ _ hb) hd hs ?_ hk
    · exact ⟨_, _, hw, c1, c2.mono hvr⟩
    · unfold execOp
      rw [ho]
      simp [Instr.box, newVar, newRow]
  · exact hA.elim
theorem sound_write (h : Rel N fr st β a w) {k : Key} {s x : Nat} {ob ob' : Obj} {cur new : Array Value} {e : TypeId} {w' : World} (hk : st.look fr k = some (s, ob)) (hog : ob ≠ .gone) (hb : β k s = some x) (hx : w.heap[x]? = some (.cells cur e (0, 0)))
    (hw' : w' = w.setRow x new) (hsz : new.size = cur.size)
    (hm : ∀ ok' w', (∀ d v, VR w (okOf β (st.look fr) w) β d v → VR w' ok' β d v) → w'.heap[x]? = some (.cells new e (0, 0)) → Match w' ok' β x ob') :
    Rel N fr (st.set fr k (some (s, ob'))) β a w' ∧ Trans β (st.look fr) w β ((st.set fr k (some (s, ob'))).look fr) w' := by
  subst hw'
  have hnew : (w.setRow x new).heap[x]? = some (.cells new e (0, 0)) := setRow_heap w x cur new e _ hx
  obtain ⟨hT, hS⟩ := write_obj (w' := w.setRow x new) h.sim (o' := ob') hk hog hb (by simp) rfl (.same rfl rfl) rfl (fun y hy => setRow_other w x y new hy) (fun vs e' hv => by
    rw [hx] at hv
    injection hv with hv
    injection hv with e1 e2 e3
    subst e1 e2
    exact ⟨new, hnew, hsz⟩) (fun hvr => hm _ _ hvr hnew)
  exact ⟨h.write hk hT hS, by rw [look_set]; exact hT⟩
theorem storeD_sound (h : Rel N fr st β a w) {d : D} {v u : Value} {cs : List D} {k : Key} {s : Nat} {ob' : Obj} {t : TypeId} (hv : VR w (okOf β (st.look fr) w) β d v) (hst : storeD (st.look fr) d cs = some (k, s, ob')) (hsz : szOf P t = some cs.length)
    (hu : u.cells.size = cs.length) (hR : CellsR w (okOf β (st.look fr) w) β cs u.cells.toList) :
    ∃ w', (Instr.storeAt t v u).run P w = .ok () w' ∧ Rel N fr (st.set fr k (some (s, ob'))) β a w' ∧ Trans β (st.look fr) w β ((st.set fr k (some (s, ob'))).look fr) w' := by
  have h1 : ∀ x ∈ u.cells.toList, x.oneCell' = true := by
    intro x hx
    obtain ⟨j, hj, rfl⟩ := List.mem_iff_getElem.1 hx
    obtain ⟨x', g1, g2, _⟩ := hR j cs[j] (List.getElem?_eq_getElem (by simpa [hu] using hj))
    rw [List.getElem?_eq_getElem hj] at g1
    injection g1 with g1
    rw [g1]; exact g2
  have run : ∀ (x off : Nat) (cur : Array Value) (e : TypeId), w.heap[x]? = some (.cells cur e (0, 0)) → off + cs.length ≤ cur.size → v = .pointer (some ⟨x, off, none⟩) →
      (Instr.storeAt t v u).run P w = .ok () (w.setRow x (splice cur.toList off u.cells.toList).toArray) := by
    intro x off cur e hx hfit hval
    have := run_storeCells_at P x off e u.cells.toList 0 cur w hx (by simp [hu]; omega) h1
    simp only [Nat.add_zero] at this
    rw [hval]
    simp only [Instr.storeAt, Instr.sureAddr, storeVar, Sem.run_bind, Sem.run_pure, Result.andThen_ok, run_sizeOf hsz, hu, ne_eq, not_true_eq_false, if_false, this]
    rfl
  unfold storeD at hst
  split at hst
  · rename_i key z off
    split at hst
    · rename_i z' old hL
      split at hst
      · rename_i hcond
        obtain ⟨rfl, hfit⟩ := hcond
        injection hst with hst
        injection hst with e1 hst
        injection hst with e2 e3
        subst e1 e2 e3
        generalize hval : v = v0 at hv
        cases hv with
        | p _ _ _ blk hb =>
          obtain ⟨cur, e, g1, g2, g3⟩ := h.sim.live _ _ _ hL _ hb
          refine ⟨_, by have q := run blk off cur e g1 (by omega) hval; rw [hval] at q; exact q, ?_⟩
          refine sound_write h hL (by simp) hb g1 rfl (by simp [splice_length _ _ _ (show off + u.cells.toList.length ≤ cur.toList.length by simp; omega)]) (fun ok' w' hvr hw => ⟨_, _, hw, ?_, ?_⟩)
          · rw [List.size_toArray, splice_length _ _ _ (by simp; omega), splice_length _ _ _ hfit]
            simpa using g2
          · exact (hR.mono hvr).splice (g3.mono hvr) (by simpa using hu) (by simpa using g2) hfit
      · simp at hst
    · simp at hst
  · rename_i key z sz idx fo
    split at hst
    · rename_i z' sz' es hL
      split at hst
      · rename_i hcond
        obtain ⟨rfl, rfl⟩ := hcond
        split at hst
        · rename_i el hel
          split at hst
          · rename_i hfit
            injection hst with hst
            injection hst with e1 hst
            injection hst with e2 e3
            subst e1 e2 e3
            generalize hval : v = v0 at hv
            cases hv with
            | pr _ _ _ _ _ blk hb =>
              obtain ⟨cur, e, g1, g2, g3⟩ := h.sim.live _ _ _ hL _ hb
              have hel' : el.length = sz := g2 el (List.mem_of_getElem? hel)
              have hi : idx < es.length := (List.getElem?_eq_some_iff.1 hel).1
              have hfl := flatten_length g2
              have hle : idx * sz + sz ≤ es.length * sz := by rw [← Nat.succ_mul]; exact Nat.mul_le_mul_right _ hi
              have hcur : es.flatten.length ≤ cur.size := by
                rcases Nat.eq_zero_or_pos es.flatten.length with h0 | h0
                · omega
                · obtain ⟨v, hv, _⟩ := g3 (es.flatten.length - 1) _ (List.getElem?_eq_getElem (by omega))
                  have := (List.getElem?_eq_some_iff.1 hv).1
                  rw [Array.length_toList] at this
                  have q : ∀ L : Nat, 0 < L → L - 1 < cur.size → L ≤ cur.size := fun L _ _ => by omega
                  exact q _ h0 this
              refine ⟨_, by have q := run blk (idx * sz + fo) cur e g1 (by omega) hval; rw [hval] at q; exact q, ?_⟩
              refine sound_write h hL (by simp) hb g1 rfl (by simp [splice_length _ _ _ (show idx * sz + fo + u.cells.toList.length ≤ cur.toList.length by simp; omega)]) (fun ok' w' hvr hw => ⟨_, _, hw, ?_, ?_⟩)
              · intro y hy
                rcases List.mem_or_eq_of_mem_set hy with hy | rfl
                · exact g2 y hy
                · rw [splice_length _ _ _ hfit]; exact hel'
              · rw [flatten_set g2 hel hfit]
                intro q d hq
                rw [splice_get _ _ _ (by omega)] at hq
                have hgoal : ((splice cur.toList (idx * sz + fo) u.cells.toList).toArray.toList)[q]? = if q < idx * sz + fo then cur.toList[q]? else if q < idx * sz + fo + u.cells.toList.length then u.cells.toList[q - (idx * sz + fo)]? else cur.toList[q]? := by
                  simp only []
                  exact splice_get _ _ _ (by simp; omega) q
                rw [hgoal]
                have hul : u.cells.toList.length = cs.length := by simpa using hu
                rw [hul]
                split at hq
                · rename_i c1; rw [if_pos c1]; exact (g3.mono hvr) q d hq
                · rename_i c1
                  rw [if_neg c1]
                  split at hq
                  · rename_i c2; rw [if_pos c2]; exact (hR.mono hvr) _ d hq
                  · rename_i c2; rw [if_neg c2]; exact (g3.mono hvr) q d hq
          · simp at hst
        · simp at hst
      · simp at hst
    · simp at hst
  · simp at hst
theorem sound_store (h : Rel N fr st β a w) {t : TypeId} {x y : Operand} {n : Nat} {x' y' : Arg} (ho : o.op = .store t x y) (hdst : o.dst = none) (hc : chkS P o.op (.store n x' y') = true) (hA : opA P fr (.store n x' y') o.dst st K) :
    o.wp P a w (Post N fr K β (st.look fr) w) Q := by
  rw [ho] at hc
  simp only [chkS, Bool.and_eq_true, beq_iff_eq] at hc
  obtain ⟨⟨hx, hy⟩, hs⟩ := hc
  simp only [opA] at hA
  split at hA
  · rename_i cs hcs
    obtain ⟨hl, hA⟩ := hA
    split at hA
    · rename_i k v hst
      obtain ⟨c1, c2⟩ := (chkArg_vr hy h.regs).cells hcs
      obtain ⟨z, ob'⟩ := v
      obtain ⟨w', r1, r2, r3⟩ := storeD_sound (P := P) (t := t) h (chkArg_vr hx h.regs) hst (by rw [hl]; exact hs) c1 c2
      refine wp_skip' (w' := w') ?_ ⟨_, β, hA, ?_, r3⟩
      · unfold execOp
        rw [ho]
        simp [r1]
      · rw [hdst]; exact r2
    · exact hA.elim
  · exact hA.elim
end
section
variable {P : Program} {w : World} {β : BMap} {N fr : Nat} {st : St} {a : Act} {o : Oper} {K : St → Prop} {Q : Exit → Act → World → Prop}
theorem info_of {e : TypeId} {sz bytes : Nat} (h1 : szOf P e = some sz) (h2 : bytesOf P e = some bytes) : ∃ i, P.info? e = some i ∧ i.size = sz ∧ i.bytes = bytes := by
  unfold szOf at h1
  unfold bytesOf at h2
  cases hi : P.info? e with
  | none => simp [hi] at h1
  | some i => simp [hi] at h1 h2; exact ⟨i, rfl, h1, h2⟩
theorem zero_of {e : TypeId} {i : TypeInfo} {z : Value} (h : P.info? e = some i) (hz : zeroOf P e = some z) : i.zero = some z := by
  unfold zeroOf at hz
  simpa [h] using hz
theorem madeCells_get (z : Array Value) (n q : Nat) (hq : q < n) (hz : 0 < z.size) : (madeCells z n).toList[q]? = z.toList[q % z.size]? := by
  have hm := Nat.mod_lt q hz
  simp [madeCells, hq, hm]
theorem sound_mk (h : Rel N fr st β a w) {t : TypeId} {n c : Operand} {sz bytes : Nat} {z : List D} {n' c' : Arg} (ho : o.op = .makeSlice t n c) (hc : chkS P o.op (.mk sz bytes z n' c') = true)
    (hd : ∀ s, o.dst = some s → s < N) (hA : opA P fr (.mk sz bytes z n' c') o.dst st K) : o.wp P a w (Post N fr K β (st.look fr) w) Q := by
  rw [ho] at hc
  simp only [chkS, Bool.and_eq_true] at hc
  obtain ⟨⟨hn, hcc⟩, ht⟩ := hc
  split at ht
  · rename_i e hu
    simp only [Bool.and_eq_true, beq_iff_eq] at ht
    obtain ⟨⟨hs, hb⟩, hz⟩ := ht
    cases hz0 : zeroOf P e with
    | none => simp [hz0] at hz
    | some v =>
      simp only [hz0, Bool.and_eq_true, beq_iff_eq] at hz
      obtain ⟨hz1, hzl⟩ := hz
      obtain ⟨i, hi, hi1, hi2⟩ := info_of hs hb
      simp only [opA] at hA
      split at hA
      · rename_i s kn n0 kc c0 hs' hn' hc'
        obtain ⟨g1, g2, g3, g4, g5, hk⟩ := hA
        have vn := chkArg_vr hn h.regs
        have vc := chkArg_vr hcc h.regs
        rw [hn'] at vn
        rw [hc'] at vc
        have hr := run_make (P := P) w t e i v hu hi (zero_of hi hz0) kn kc n0 c0 g1 g2 (by rw [hi2, Int.mul_comm]; omega) (by omega)
        obtain ⟨N0, rfl⟩ := Int.eq_ofNat_of_zero_le g1
        obtain ⟨C0, rfl⟩ := Int.eq_ofNat_of_zero_le (show 0 ≤ c0 by omega)
        simp only [Int.toNat_natCast] at hr hk
        rw [hi1] at hr
        have hNC : N0 ≤ C0 := by omega
        refine sound_new h (by rw [g5]; simp) (ob := .cells (madeCells v.cells (C0 * sz)) e) (v := .slice (some ⟨w.heap.size, 0, none⟩) N0 C0) w (.inl rfl) (fun ok' β' w' hvr hw => ?_) (fun ok' β' w' hb hw => ?_) hd hs' ?_ hk
        · obtain ⟨z1, z2⟩ := constsD_cells (w := w') (ok := ok') (β := β') hz1
          have hlen : ∀ e ∈ List.replicate N0 z, e.length = sz := fun e he => by rw [(List.mem_replicate.1 he).2]; exact hzl
          refine ⟨_, _, hw, hlen, fun q d hq => ?_⟩
          have hql := (List.getElem?_eq_some_iff.1 hq).1
          rw [flatten_length hlen, List.length_replicate] at hql
          have h0 : 0 < sz := by
            rcases Nat.eq_zero_or_pos sz with h0 | h0
            · subst h0; simp at hql
            · exact h0
          have hvs : v.cells.size = sz := by simpa [hzl] using z1
          have hqe := Nat.div_add_mod q sz
          have hqm := Nat.mod_lt q h0
          have hqd : q / sz < N0 := (Nat.div_lt_iff_lt_mul h0).2 hql
          rw [← hqe, Nat.mul_comm, flatten_get _ _ hlen hqm, List.getElem?_replicate, if_pos hqd] at hq
          obtain ⟨u, u1, u2, u3⟩ := z2 (q % sz) d (by simpa using hq)
          refine ⟨u, ?_, u2, u3⟩
          rw [madeCells_get _ _ _ (Nat.lt_of_lt_of_le hql (Nat.mul_le_mul_right _ hNC)) (by omega), hvs]
          exact u1
        · have := VR.w (w := w') (ok := ok') (β := β') (fr, s) st.nx sz 0 N0 w.heap.size C0 hb hNC (by simp only [maxLen]; omega) ⟨_, _, hw, by rw [size_madeCells]; simp⟩
          simpa using this
        · unfold execOp
          rw [ho]
          simp only [vn.inv_i, vc.inv_i, Sem.run_bind, hr, Result.andThen_ok, Sem.run_pure]
      · exact hA.elim
  · simp at ht
theorem elemsOf_sound {σ : Sto} (hS : Sim β σ w) {sz : Nat} {d : D} {v : Value} {es : List (List D)} (hv : VR w (okOf β σ w) β d v) (he : elemsOf σ sz d = some es) :
    ∃ A c, v = .slice A es.length c ∧ (∀ e ∈ es, e.length = sz) ∧ ∃ vs : List Value, vs.length = es.length * sz ∧ CellsR w (okOf β σ w) β es.flatten vs ∧ (∀ u ∈ vs, u.oneCell' = true) ∧
      (es = [] ∨ ∃ blk off, A = some ⟨blk, off, none⟩ ∧ ∀ q u, vs[q]? = some u → w.cell? ⟨blk, off + q, none⟩ = some u) := by
  unfold elemsOf at he
  split at he
  · rename_i sz' full xs
    split at he
    · rename_i hsz
      subst hsz
      injection he with he
      subst he
      cases hv with
      | sl _ _ _ A c blk off cs hc hm hf hz hA h1 h hr =>
        have hfl := flatten_length hz
        refine ⟨A, c, rfl, hz, (List.range (xs.length * sz)).map cs, by simp, fun q d hq => ?_, fun u hu => ?_, ?_⟩
        · have hql := (List.getElem?_eq_some_iff.1 hq).1
          rw [hfl] at hql
          exact ⟨cs q, by simp [hql], h1 q, h q d hq⟩
        · obtain ⟨q, _, rfl⟩ := List.mem_map.1 hu
          exact h1 q
        · by_cases hne : xs = []
          · exact .inl hne
          · refine .inr ⟨blk, off, (hA hne).1, fun q u hu => ?_⟩
            have hql := (List.getElem?_eq_some_iff.1 hu).1
            simp at hql
            simp [hql] at hu
            subst hu
            exact hr q (by rw [hfl]; exact hql)
    · simp at he
  · rename_i key z sz' lo len
    split at he
    · rename_i z' sz'' xs hL
      split at he
      · rename_i hcond
        obtain ⟨rfl, rfl, rfl, hfit⟩ := hcond
        injection he with he
        subst he
        cases hv with
        | w _ _ _ _ _ blk c hb hc hm hs =>
          obtain ⟨cur, e, g1, g2, g3⟩ := hS.live _ _ _ hL _ hb
          have hlen : ((xs.drop lo).take len).length = len := by simp; omega
          have hz' : ∀ e ∈ (xs.drop lo).take len, e.length = sz := fun e he => g2 e (List.mem_of_mem_drop (List.mem_of_mem_take he))
          have hfl := flatten_length g2
          have hle : (lo + len) * sz ≤ xs.length * sz := Nat.mul_le_mul_right _ hfit
          rw [Nat.add_mul] at hle
          have hcur : xs.flatten.length ≤ cur.toList.length := by
            rcases Nat.eq_zero_or_pos xs.flatten.length with h0 | h0
            · omega
            · obtain ⟨v, hv, _⟩ := g3 (xs.flatten.length - 1) _ (List.getElem?_eq_getElem (by omega))
              have := (List.getElem?_eq_some_iff.1 hv).1
              have q : ∀ L : Nat, 0 < L → L - 1 < cur.toList.length → L ≤ cur.toList.length := fun L _ _ => by omega
              exact q _ h0 this
          have hfd : ((xs.drop lo).take len).flatten = (xs.flatten.drop (lo * sz)).take (len * sz) := by
            apply List.ext_getElem?
            intro q
            rw [List.getElem?_take]
            split
            · rename_i hq
              have h0 : 0 < sz := by
                rcases Nat.eq_zero_or_pos sz with h0 | h0
                · subst h0; simp at hq
                · exact h0
              have hqe := Nat.div_add_mod q sz
              have hqm := Nat.mod_lt q h0
              have hqd : q / sz < len := (Nat.div_lt_iff_lt_mul h0).2 hq
              rw [← hqe, Nat.mul_comm, flatten_get _ _ hz' hqm, List.getElem?_take, if_pos hqd, List.getElem?_drop, List.getElem?_drop,
                show lo * sz + (q / sz * sz + q % sz) = (lo + q / sz) * sz + q % sz by rw [Nat.add_mul]; omega, flatten_get _ _ g2 hqm]
            · rename_i hq
              rw [List.getElem?_eq_none (by rw [flatten_length hz', hlen]; omega)]
          refine ⟨_, c, by rw [hlen], hz', (cur.toList.drop (lo * sz)).take (len * sz), by rw [List.length_take, List.length_drop, hlen]; omega, ?_, fun u hu => ?_, ?_⟩
          · rw [hfd]
            exact g3.take _ _ (by omega)
          · obtain ⟨j, hj, rfl⟩ := List.mem_iff_getElem.1 hu
            rw [List.length_take, List.length_drop] at hj
            obtain ⟨v', r1, r2, _⟩ := g3 (lo * sz + j) _ (List.getElem?_eq_getElem (by omega))
            rw [List.getElem_take, List.getElem_drop]
            rw [List.getElem?_eq_getElem (by omega)] at r1
            injection r1 with r1
            rw [r1]; exact r2
          · refine .inr ⟨blk, lo * sz, rfl, fun q u hu => ?_⟩
            rw [List.getElem?_take] at hu
            split at hu
            · rw [List.getElem?_drop] at hu
              simp only [World.cell?, g1]
              simpa using hu
            · simp at hu
      · simp at he
    · simp at he
  · simp at he
end
section
variable {P : Program} {w : World}
theorem run_app_none {t u ty e e' : TypeId} {i : TypeInfo} (ht : P.underlying t = some (.slice e)) (hu : P.underlying u = some (.slice e')) (hi : P.info? e = some i) (base : Option Addr) (sLen sCap : Nat) (hl : sLen ≤ sCap) (A : Option Addr) (c : Nat) :
    (Builtin.append_ #[t, u] ty #[.slice base sLen sCap, .slice A 0 c]).run P w = .ok (.slice base sLen sCap) w := by
  cases A with
  | none =>
    cases base <;> simp [Builtin.append_, run_underlying ht, run_underlying hu, sizeOf, typeInfo, hi, Builtin.lenOf, Builtin.firstCells, hl, storeCells]
  | some A =>
    have hload : (loadCells A 0).run P w = .ok #[] w := by simp [loadCells, loadCellsFrom]
    cases base <;> simp [Builtin.append_, run_underlying ht, run_underlying hu, sizeOf, typeInfo, hi, Builtin.lenOf, Builtin.firstCells, hl, storeCells, hload]
theorem run_app_room {t u ty e e' : TypeId} {i : TypeInfo} (ht : P.underlying t = some (.slice e)) (hu : P.underlying u = some (.slice e')) (hi : P.info? e = some i)
    (g o sLen sCap : Nat) (cur : Array Value) (T : TypeId) (hg : w.heap[g]? = some (.cells cur T (0, 0)))
    (a : Addr) (m c : Nat) (news : List Value) (hl : news.length = m * i.size) (hnews : ∀ j u, news[j]? = some u → w.cell? (a.add j) = some u) (h1 : ∀ u ∈ news, u.oneCell' = true)
    (hroom : sLen + m ≤ sCap) (hfit : o + sLen * i.size + news.length ≤ cur.size) :
    (Builtin.append_ #[t, u] ty #[.slice (some ⟨g, o, none⟩) sLen sCap, .slice (some a) m c]).run P w =
      .ok (.slice (some ⟨g, o, none⟩) (sLen + m) sCap) (w.setRow g (cur.toList.take (o + sLen * i.size) ++ news ++ cur.toList.drop (o + sLen * i.size + news.length)).toArray) := by
  have hf := run_firstCells_some (P := P) w i.size m a m c news hl hnews
  have hst := run_storeCells_at P g (o + sLen * i.size) T news 0 cur w hg (by simpa using hfit) h1
  simp only [Nat.add_zero] at hst
  simp [Builtin.append_, run_underlying ht, run_underlying hu, sizeOf, typeInfo, hi, Builtin.lenOf, hroom, hf, add_none, hst]
theorem run_app_grow {t u ty e e' : TypeId} {i : TypeInfo} {z : Value} (ht : P.underlying t = some (.slice e)) (hu : P.underlying u = some (.slice e')) (hi : P.info? e = some i) (hz : i.zero = some z)
    (base : Option Addr) (sLen sCap : Nat) (olds : List Value) (holds : (Builtin.firstCells i.size sLen (.slice base sLen sCap)).run P w.drew = .ok olds.toArray w.drew)
    (a : Addr) (n c : Nat) (news : List Value) (hl : news.length = n * i.size) (hnews : ∀ j v, news[j]? = some v → w.cell? (a.add j) = some v)
    (hg : sCap < sLen + n) (h63 : ((sLen + n : Nat) : Int) ≤ 9223372036854775807) (hfit : Builtin.nextslicecap (sLen + n) sCap * i.bytes ≤ 281474976710656) :
    (Builtin.append_ #[t, u] ty #[.slice base sLen sCap, .slice (some a) n c]).run P w =
      .ok (.slice (some ⟨w.heap.size, 0, none⟩) (sLen + n) (grownCap w (sLen + n) sCap e))
        (w.drew.alloc (.cells (olds.toArray ++ news.toArray ++ Builtin.zeroCells z.cells (grownCap w (sLen + n) sCap e - (sLen + n))) e)) := by
  have hn : ¬ (sLen + n ≤ sCap) := by omega
  have h63' : ¬ (9223372036854775807 < ((sLen : Int) + (n : Int))) := by omega
  have h48' : ¬ (281474976710656 < Builtin.nextslicecap (sLen + n) sCap * i.bytes) := by omega
  have hf := run_firstCells_some (P := P) w.drew i.size n a n c news hl (by simpa using hnews)
  simp [Builtin.append_, run_underlying ht, run_underlying hu, sizeOf, typeInfo, zeroValue, hi, hz, Builtin.lenOf, hn, h63', h48', Question.forced, hf, holds, newRow, grownCap]
  congr 2
  apply Array.ext'
  simp [List.append_assoc]
end
section
variable {P : Program} {w : World} {β : BMap} {N fr : Nat} {st : St} {a : Act} {o : Oper} {K : St → Prop} {Q : Exit → Act → World → Prop}
theorem slotOk_spec {s : Nat} (h : slotOk st s) : ∀ o, st.own s ≠ some (st.nx, o) := by
  intro o ho
  unfold slotOk at h
  rw [ho] at h
  exact h rfl
theorem look_own' (st : St) (s : Nat) : st.look fr (fr, s) = st.own s := by simp [St.look]
theorem Rel.giveUp (h : Rel N fr st β a w) {k : Key} {z : Nat} {ob : Obj} (hk : st.look fr k = some (z, ob)) (hog : ob ≠ .gone) {x : Nat} (hb : β k z = some x) :
    Rel N fr (st.set fr k (some (z, .gone))) β a w ∧ Trans β (st.look fr) w β ((st.set fr k (some (z, .gone))).look fr) w := by
  obtain ⟨hT, hS⟩ := write_obj (w' := w) h.sim (o' := .gone) hk hog hb rfl rfl (.refl w) rfl (fun _ _ => rfl) (fun vs e hv => ⟨vs, hv, rfl⟩) (fun _ => trivial)
  exact ⟨h.write hk hT hS, by rw [look_set]; exact hT⟩
theorem adopt (h : Rel N fr st β a w) {key : Key} {z s x : Nat} {ob0 : Obj} (hk0 : st.look fr key = some (z, ob0)) (hog0 : ob0 ≠ .gone) (hb0 : β key z = some x) (hs : ∀ o, (st.set fr key (some (z, .gone))).own s ≠ some (st.nx, o)) {ob : Obj} (hog1 : ob ≠ .gone) {w' : World}
    (hsz : w'.heap.size = w.heap.size) (hos : w'.os = w.os) (htp : Tp w w') (hout : w'.output = w.output) (hother : ∀ y, y ≠ x → w'.heap[y]? = w.heap[y]?)
    (hkept : ∀ vs e, w.heap[x]? = some (.cells vs e (0, 0)) → ∃ vs' : Array Value, w'.heap[x]? = some (.cells vs' e (0, 0)) ∧ vs'.size = vs.size)
    (hm : ∀ ok' β', (∀ d v, VR w (okOf β (st.look fr) w) β d v → VR w' ok' β' d v) → Match w' ok' β' x ob) :
    let st' : St := { r := st.r, own := upd (st.set fr key (some (z, .gone))).own s (some (st.nx, ob)), out := (st.set fr key (some (z, .gone))).out, nx := st.nx }
    let β' := bset β (fr, s) st.nx x
    Rel N fr st' β' a w' ∧ Trans β (st.look fr) w β' (st'.look fr) w' := by
  intro st' β'
  have hx : x < w.heap.size := h.sim.low _ _ _ hb0
  have hnone : ∀ x, β (fr, s) st.nx ≠ some x := by
    intro x hx
    obtain ⟨_, h2⟩ := h.fresh _ _ _ hx
    obtain ⟨p, hp⟩ := (h2 rfl).2 rfl
    have := set_own fr st key (some (z, .gone)) s
    split at this
    · rename_i hke
      have hl : st.look fr key = some (st.nx, p) := by rw [← hke, look_own']; exact hp
      rw [hk0] at hl
      obtain ⟨e1, _⟩ := some_pair hl
      exact hs .gone (by rw [this, e1])
    · exact hs p (by rw [this]; exact hp)
  have hle : BLe β β' := by
    intro k z x' hb
    show (if k = (fr, s) ∧ z = st.nx then some x else β k z) = some x'
    split
    · rename_i hc
      rw [hc.1, hc.2] at hb
      exact absurd hb (hnone x')
    · exact hb
  have hlook : ∀ k, st'.look fr k = if k = (fr, s) then some (st.nx, ob) else if k = key then some (z, .gone) else st.look fr k := by
    intro k
    have e1 : st'.look fr = updK ((st.set fr key (some (z, .gone))).look fr) (fr, s) (some (st.nx, ob)) := by
      have := look_set fr (st.set fr key (some (z, .gone))) (fr, s) (some (st.nx, ob))
      rw [← this]
      have e2 : (st.set fr key (some (z, .gone))).set fr (fr, s) (some (st.nx, ob)) = { (st.set fr key (some (z, .gone))) with own := upd (st.set fr key (some (z, .gone))).own s (some (st.nx, ob)) } := if_pos rfl
      rw [e2]
      rfl
    rw [e1, look_set]
    rfl
  have hcase : ∀ k z y, β' k z = some y → (k = (fr, s) ∧ z = st.nx ∧ y = x) ∨ (β k z = some y) := by
    intro k z y hb
    have : (if k = (fr, s) ∧ z = st.nx then some x else β k z) = some y := hb
    split at this
    · rename_i hc
      injection this with this
      exact .inl ⟨hc.1, hc.2, this.symm⟩
    · exact .inr this
  have old : ∀ k z' p y, (st'.look fr) k = some (z', p) → p ≠ .gone → β' k z' = some y → (k = (fr, s) ∧ y = x) ∨ (st.look fr k = some (z', p) ∧ k ≠ key ∧ β k z' = some y) := by
    intro k z' p y hk hg hb
    rw [hlook] at hk
    rcases hcase _ _ _ hb with ⟨e1, _, e3⟩ | hb1
    · exact .inl ⟨e1, e3⟩
    · by_cases hkk : k = (fr, s)
      · subst hkk
        rw [if_pos rfl] at hk
        obtain ⟨e1, e2⟩ := some_pair hk
        rw [← e1] at hb1
        exact absurd hb1 (hnone _)
      · rw [if_neg hkk] at hk
        by_cases hkey : k = key
        · rw [if_pos hkey] at hk
          obtain ⟨_, e2⟩ := some_pair hk
          exact absurd e2.symm hg
        · rw [if_neg hkey] at hk
          exact .inr ⟨hk, hkey, hb1⟩
  have hT : Trans β (st.look fr) w β' (st'.look fr) w' := by
    refine ⟨hle, hos, htp, hout, by omega, fun y hy => ?_, fun k z y vs e hb hv => ?_⟩
    · have hyx : y ≠ x := fun e => hy.2 _ _ _ hk0 hog0 (e ▸ hb0)
      refine ⟨⟨by rw [hsz]; exact hy.1, fun k z p hk hg hb => ?_⟩, hother y hyx⟩
      rcases old _ _ _ _ hk hg hb with ⟨_, e3⟩ | ⟨h1, _, h2⟩
      · exact hyx e3
      · exact hy.2 k z p h1 hg h2
    · by_cases hyx : y = x
      · subst hyx; exact hkept vs e hv
      · exact ⟨vs, by rw [hother y hyx]; exact hv, rfl⟩
  have hvr : ∀ d v, VR w (okOf β (st.look fr) w) β d v → VR w' (okOf β' (st'.look fr) w') β' d v := fun d v hv => hT.vr hv
  have hS : Sim β' (st'.look fr) w' := by
    refine ⟨fun q z p q' z' p' y hq hq' hg hg' hb hb' => ?_, fun k z' p hk y hb => ?_, fun k z y hb => ?_, fun k z' p hk => ?_⟩
    · rcases old _ _ _ _ hq hg hb with ⟨e1, e2⟩ | ⟨h1, n1, h2⟩ <;> rcases old _ _ _ _ hq' hg' hb' with ⟨e3, e4⟩ | ⟨h3, n3, h4⟩
      · rw [e1, e3]
      · exact absurd (h.sim.inj _ _ _ _ _ _ _ h3 hk0 hg' hog0 (e2 ▸ h4) hb0) n3
      · exact absurd (h.sim.inj _ _ _ _ _ _ _ h1 hk0 hg hog0 (e4 ▸ h2) hb0) n1
      · exact h.sim.inj _ _ _ _ _ _ _ h1 h3 hg hg' h2 h4
    · by_cases hpg : p = .gone
      · subst hpg; trivial
      rcases old _ _ _ _ hk hpg hb with ⟨e1, e2⟩ | ⟨h1, n1, h2⟩
      · rw [hlook, if_pos e1] at hk
        obtain ⟨_, e4⟩ := some_pair hk
        rw [e2, ← e4]
        exact hm _ _ hvr
      · have hyx : y ≠ x := fun e => n1 (h.sim.inj _ _ _ _ _ _ _ h1 hk0 hpg hog0 (e ▸ h2) hb0)
        exact Match.mono hvr hle (hother y hyx) (h.sim.live k z' p h1 y h2)
    · rcases hcase _ _ _ hb with ⟨_, _, e3⟩ | hb1
      · rw [hsz, e3]; exact hx
      · rw [hsz]; exact h.sim.low _ _ _ hb1
    · rw [hlook] at hk
      by_cases hkk : k = (fr, s)
      · rw [if_pos hkk] at hk
        obtain ⟨e1, e2⟩ := some_pair hk
        exact ⟨x, by rw [hkk, ← e1]; simp [β', bset]⟩
      · rw [if_neg hkk] at hk
        by_cases hkey : k = key
        · rw [if_pos hkey] at hk
          obtain ⟨e1, e2⟩ := some_pair hk
          exact ⟨x, hle _ _ _ (by rw [hkey, ← e1]; exact hb0)⟩
        · rw [if_neg hkey] at hk
          obtain ⟨x', hx'⟩ := h.sim.tot k z' p hk
          exact ⟨x', hle _ _ _ hx'⟩
  refine ⟨h.go rfl hT hS (fun k z' y hb => ?_), hT⟩
  show k.1 ≤ fr ∧ (k.1 = fr → z' ≤ st.nx ∧ (z' = st.nx → ∃ o, st'.own k.2 = some (st.nx, o)))
  rcases hcase _ _ _ hb with ⟨e1, e2, _⟩ | hb1
  · subst e1
    refine ⟨Nat.le_refl _, fun _ => ⟨by omega, fun _ => ⟨ob, by simp [st', upd]⟩⟩⟩
  · obtain ⟨h1, h2⟩ := h.fresh _ _ _ hb1
    refine ⟨h1, fun hk => ⟨(h2 hk).1, fun hz => ?_⟩⟩
    obtain ⟨p, hp⟩ := (h2 hk).2 hz
    show ∃ o', upd (st.set fr key (some (z, .gone))).own s (some (st.nx, ob)) k.2 = some (st.nx, o')
    unfold upd
    split
    · exact ⟨ob, rfl⟩
    · rw [set_own]
      split
      · rename_i hke
        have hl : st.look fr key = some (st.nx, p) := by rw [← hke, look_own']; exact hp
        rw [hk0] at hl
        obtain ⟨e1, _⟩ := some_pair hl
        exact ⟨.gone, by rw [e1]⟩
      · exact ⟨p, hp⟩
theorem row_match {ok : Nat → Prop} {β' : BMap} {w' : World} {x sz : Nat} {xs ys : List (List D)} {T : TypeId} {us vs rest : List Value} (hx : ∀ e ∈ xs, e.length = sz) (hy : ∀ e ∈ ys, e.length = sz) (hul : us.length = xs.length * sz)
    (hu : CellsR w' ok β' xs.flatten us) (hv : CellsR w' ok β' ys.flatten vs) (hw : w'.heap[x]? = some (.cells (us ++ vs ++ rest).toArray T (0, 0))) : Match w' ok β' x (.row sz (xs ++ ys)) := by
  refine ⟨_, _, hw, fun e he => ?_, fun q d hq => ?_⟩
  · rcases List.mem_append.1 he with he | he
    · exact hx e he
    · exact hy e he
  · rw [List.flatten_append] at hq
    have hfl := flatten_length hx
    simp only [List.append_assoc]
    by_cases hlt : q < xs.flatten.length
    · rw [List.getElem?_append_left hlt] at hq
      obtain ⟨v, h1, h2, h3⟩ := hu q d hq
      exact ⟨v, by rw [List.getElem?_append_left (by omega)]; exact h1, h2, h3⟩
    · rw [List.getElem?_append_right (by omega)] at hq
      obtain ⟨v, h1, h2, h3⟩ := hv _ d hq
      refine ⟨v, ?_, h2, h3⟩
      rw [List.getElem?_append_right (by omega), hul, ← hfl]
      rw [List.getElem?_append_left]
      · exact h1
      · exact (List.getElem?_eq_some_iff.1 h1).1
theorem sound_app (h : Rel N fr st β a w) {args : Array Operand} {tys : Array TypeId} {sz bytes : Nat} {x y : Arg} (ho : o.op = .call { callee := .builtin .append, args, argTypes := tys }) (hc : chkS P o.op (.app sz bytes x y) = true)
    (hd : ∀ s, o.dst = some s → s < N) (hA : opA P fr (.app sz bytes x y) o.dst st K) : o.wp P a w (Post N fr K β (st.look fr) w) Q := by
  rw [ho] at hc
  simp only [chkS] at hc
  split at hc
  · rename_i p q t u hargs htys
    have ha : args = #[p, q] := by cases args; simp at hargs; subst hargs; rfl
    have hty : tys = #[t, u] := by cases tys; simp at htys; subst htys; rfl
    subst ha hty
    simp only [Bool.and_eq_true] at hc
    obtain ⟨⟨hx, hy⟩, ht⟩ := hc
    split at ht
    · rename_i e e' hut huu
      simp only [Bool.and_eq_true, beq_iff_eq, bne_iff_ne, ne_eq] at ht
      obtain ⟨⟨⟨hs, hb⟩, hsz0⟩, hz⟩ := ht
      obtain ⟨i, hi, hi1, hi2⟩ := info_of hs hb
      cases hz0 : zeroOf P e with
      | none => simp [hz0] at hz
      | some z =>
        simp only [hz0, Option.any_some, beq_iff_eq] at hz
        have hiz := zero_of hi hz0
        have vx := chkArg_vr hx h.regs
        have vy := chkArg_vr hy h.regs
        simp only [opA] at hA
        split at hA
        · rename_i s ys hs' hys
          obtain ⟨A, c, hyv, hyl, vs, v1, v2, v3, v4⟩ := elemsOf_sound h.sim vy hys
          have exec : ∀ v w', (Builtin.append_ #[t, u] o.type #[a.eval p, a.eval q]).run P w = .ok v w' → (execOp a.eval o).run P w = .ok (.value v) w' := by
            intro v w' hr
            unfold execOp
            rw [ho]
            simp [resolve, invoke, builtin, hr]
          -- nothing is appended
          have idle : ys = [] → ∀ (d : D) (base : Option Addr) (n cp : Nat), a.eval p = .slice base n cp → n ≤ cp → VR w (okOf β (st.look fr) w) β d (a.eval p) → K (st.put (some s) d) → o.wp P a w (Post N fr K β (st.look fr) w) Q := by
            intro hnil d base n cp hval hncp hvr hk
            subst hnil
            refine sound_ev h (d := d) ⟨a.eval p, w, exec _ _ ?_, hvr, .refl _ _ _, h.sim⟩ hd (by rw [hs']; exact hk)
            rw [hval, hyv]
            exact run_app_none hut huu hi base n cp hncp A c
          -- a new row
          have grow : ∀ (st0 : St) (β0 : BMap) (xs : List (List D)) (base : Option Addr) (n cp : Nat) (us : List Value), Rel N fr st0 β0 a w → Trans β (st.look fr) w β0 (st0.look fr) w → ys ≠ [] → a.eval p = .slice base n cp → xs.length = n → cp < n + ys.length →
              (∀ e ∈ xs, e.length = sz) → us.length = xs.length * sz → CellsR w (okOf β0 (st0.look fr) w) β0 xs.flatten us → CellsR w (okOf β0 (st0.look fr) w) β0 ys.flatten vs →
              ((Builtin.firstCells i.size n (.slice base n cp)).run P w.drew = .ok us.toArray w.drew) → (n + ys.length) * bytes ≤ 140737488355328 → n + ys.length ≤ 140737488355328 → slotOk st0 s →
              K (st0.newObj fr s (.row sz (xs ++ ys)) (.w (fr, s) st0.nx sz 0 (n + ys.length))) → o.wp P a w (Post N fr K β (st.look fr) w) Q := by
            intro st0 β0 xs base n cp us hR0 hT0 hne hval hxn hcp hxl hul huR hvR hfirst hby hlen hslot hk
            rcases v4 with v4 | ⟨blk, off, rfl, hcell⟩
            · exact absurd v4 hne
            have hr := run_app_grow (P := P) (w := w) (ty := o.type) hut huu hi hiz base n cp us hfirst ⟨blk, off, none⟩ ys.length c vs (by rw [hi1]; exact v1) (fun j u hu => by rw [add_none]; exact hcell j u hu) hcp (by omega)
              (growslice_fits (by omega) (by rw [hi2]; exact hby))
            have hge := grownCap_ge w (n + ys.length) cp e
            have hcm : grownCap w (n + ys.length) cp e ≤ maxLen := grownCap_le_maxLen w (n + ys.length) cp e (by simp only [maxLen]; omega)
            generalize hG : grownCap w (n + ys.length) cp e = G at hr hge hcm
            have hsize : (us.toArray ++ vs.toArray ++ Builtin.zeroCells z.cells (G - (n + ys.length))).size = G * sz := by
              simp only [Array.size_append, List.size_toArray, size_zeroCells, hz, hul, v1, hxn, ← Nat.add_mul]
              congr 1
              omega
            have hP : o.wp P a w (Post N fr K β0 (st0.look fr) w) Q := by
              refine sound_new hR0 (slotOk_spec hslot) (ob := .cells (us.toArray ++ vs.toArray ++ Builtin.zeroCells z.cells (G - (n + ys.length))) e) (v := .slice (some ⟨w.heap.size, 0, none⟩) (n + ys.length) G) w.drew (.inr rfl)
                (fun ok' β' w' hvr hw => ?_) (fun ok' β' w' hb hw => ?_) hd hs' (exec _ _ (by rw [hval, hyv]; exact hr)) hk
              · refine row_match (T := e) (rest := (Builtin.zeroCells z.cells (G - (n + ys.length))).toList) hxl hyl hul (huR.mono hvr) (hvR.mono hvr) ?_
                rw [hw]
                congr 2
                apply Array.ext'
                simp
              · have := VR.w (w := w') (ok := ok') (β := β') (fr, s) st0.nx sz 0 (n + ys.length) w.heap.size G hb hge hcm ⟨_, _, hw, by rw [hsize, Nat.zero_add]; exact Nat.le_refl _⟩
                simpa using this
            -- from st0 back to st
            unfold Oper.wp at hP ⊢
            refine Oper.wp_mono (Q := Q) (K := Post N fr K β0 (st0.look fr) w) (fun a' w' hp => ?_) hP
            obtain ⟨st', β', k1, k2, k3⟩ := hp
            exact ⟨st', β', k1, k2, hT0.trans k3⟩
          split at hA
          · rename_i sz' full xs hxe
            obtain ⟨rfl, hA⟩ := hA
            rw [hxe] at vx
            generalize hval : a.eval p = pv at vx
            cases vx with
            | sl _ _ _ A0 c0 blk0 off0 cs0 hc0 hm0 hf0 hz0' hA0 h10 h20 hr0 =>
              have vx : VR w (okOf β (st.look fr) w) β (.sl sz full xs) (a.eval p) := by rw [hval]; exact .sl _ _ _ A0 c0 blk0 off0 cs0 hc0 hm0 hf0 hz0' hA0 h10 h20 hr0
              split at hA
              · exact idle rfl _ A0 xs.length c0 hval hc0 vx hA
              · rename_i y0 ys0
                obtain ⟨hfull, hby, hln, hslot, hk⟩ := hA
                have hfl := flatten_length hz0'
                have hc0' := hf0 hfull
                refine grow st β xs A0 xs.length c0 ((List.range (xs.length * sz)).map cs0) h (.refl _ _ _) (by simp) hval rfl (by rw [hc0']; simp) hz0' (by simp) (fun q d hq => ?_) v2 ?_ hby hln hslot hk
                · have hql := (List.getElem?_eq_some_iff.1 hq).1
                  rw [hfl] at hql
                  exact ⟨cs0 q, by simp [hql], h10 q, h20 q d hq⟩
                · by_cases hne : xs = []
                  · subst hne
                    cases A0 <;> simp [Builtin.firstCells, loadCells, loadCellsFrom]
                  · obtain ⟨rfl, _⟩ := hA0 hne
                    have := run_firstCells_some (P := P) w.drew i.size xs.length ⟨blk0, off0, none⟩ xs.length c0 ((List.range (xs.length * sz)).map cs0) (by simp [hi1]) (fun j v hv => by
                      have hql := (List.getElem?_eq_some_iff.1 hv).1
                      simp at hql
                      simp [hql] at hv
                      subst hv
                      rw [add_none]
                      exact hr0 j (by rw [hfl]; exact hql))
                    simpa using this
          · rename_i key z1 sz' lo len hxe
            split at hA
            · rename_i z' sz'' es hL
              obtain ⟨rfl, rfl, rfl, rfl, rfl, hA⟩ := hA
              rw [hxe] at vx
              have vx0 := vx
              generalize hval : a.eval p = pv at vx
              cases vx with
              | w _ _ _ _ _ blk0 c0 hb0 hc0 hm0 hs0 =>
                rw [Nat.zero_mul] at hval
                split at hA
                · exact idle rfl _ _ es.length c0 hval hc0 vx0 hA
                · rename_i y0 ys0
                  obtain ⟨hby, hln, hslot, hk⟩ := hA
                  obtain ⟨hR0, hT0⟩ := h.giveUp hL (by simp) hb0
                  obtain ⟨cur, T, g1, g2, g3⟩ := h.sim.live _ _ _ hL _ hb0
                  obtain ⟨cur', T', g1', hcap⟩ := hs0
                  rw [g1] at g1'
                  injection g1' with g1'
                  injection g1' with e1 e2 e3
                  subst e1 e2
                  rw [Nat.zero_add] at hcap
                  have hfl := flatten_length g2
                  have hle : es.length * sz ≤ c0 * sz := Nat.mul_le_mul_right _ hc0
                  have hus : ∀ q u, (cur.toList.take (es.length * sz))[q]? = some u → w.cell? ⟨blk0, q, none⟩ = some u := by
                    intro q u hq
                    rw [List.getElem?_take] at hq
                    split at hq
                    · simp only [World.cell?, g1]; simpa using hq
                    · simp at hq
                  have hcR : CellsR w (okOf β (st.look fr) w) β es.flatten (cur.toList.take (es.length * sz)) := by
                    intro q d hq
                    have hql := (List.getElem?_eq_some_iff.1 hq).1
                    rw [hfl] at hql
                    obtain ⟨v, r1, r2, r3⟩ := g3 q d hq
                    exact ⟨v, by rw [List.getElem?_take, if_pos hql]; exact r1, r2, r3⟩
                  have hul : (cur.toList.take (es.length * sz)).length = es.length * sz := by rw [List.length_take, Array.length_toList]; exact Nat.min_eq_left (Nat.le_trans hle hcap)
                  have hvr0 : ∀ d v, VR w (okOf β (st.look fr) w) β d v → VR w (okOf β ((st.set fr key (some (z1, .gone))).look fr) w) β d v := fun d v hv => hT0.vr hv
                  by_cases hroom : es.length + (y0 :: ys0).length ≤ c0
                  · -- in place
                    rcases v4 with v4 | ⟨blk, off, rfl, hcell⟩
                    · simp at v4
                    have hfit : 0 + es.length * i.size + vs.length ≤ cur.size := by
                      rw [hi1, v1, Nat.zero_add, ← Nat.add_mul]
                      exact Nat.le_trans (Nat.mul_le_mul_right _ hroom) hcap
                    have hr := run_app_room (P := P) (ty := o.type) hut huu hi blk0 0 es.length c0 cur T g1 ⟨blk, off, none⟩ (y0 :: ys0).length c vs (by rw [hi1]; exact v1) (fun j u hu => by rw [add_none]; exact hcell j u hu) v3 hroom hfit
                    rw [hi1, Nat.zero_add] at hr hfit
                    obtain ⟨hR1, hT1⟩ := adopt h (s := s) hL (by simp) hb0 (by have := slotOk_spec hslot; rwa [set_nx] at this)
                      (ob := .row sz (es ++ y0 :: ys0)) (by simp) (w' := w.setRow blk0 (cur.toList.take (es.length * sz) ++ vs ++ cur.toList.drop (es.length * sz + vs.length)).toArray)
                      (by simp) rfl (.same rfl rfl) rfl (fun y hy => setRow_other w blk0 y _ hy) (fun vs' e' hv => ⟨_, by
                        rw [g1] at hv
                        injection hv with hv
                        injection hv with q1 q2 q3
                        subst q1 q2
                        exact ⟨setRow_heap w blk0 cur _ T _ g1, by simp; omega⟩⟩)
                      (fun ok' β' hvr => row_match (T := T) g2 hyl hul (hcR.mono hvr) (v2.mono hvr) (setRow_heap w blk0 cur _ T _ g1))
                    have hnew : ∀ d, (st.set fr key (some (z1, .gone))).newObj fr s (.row sz (es ++ y0 :: ys0)) d =
                        ({ r := st.r, own := upd (st.set fr key (some (z1, .gone))).own s (some (st.nx, .row sz (es ++ y0 :: ys0))), out := (st.set fr key (some (z1, .gone))).out, nx := st.nx } : St).put (some s) d := by
                      intro d
                      simp only [St.newObj, St.put, set_r, set_nx]
                    rw [hnew] at hk
                    refine wp_value (exec _ _ (by rw [hval, hyv]; exact hr)) ⟨_, bset β (fr, s) st.nx blk0, hk, ?_, hT1⟩
                    rw [hs']
                    refine hR1.put (fun q hq => hd q (by rw [hs']; exact hq)) ?_
                    have := fun ok => VR.w (w := w.setRow blk0 (cur.toList.take (es.length * sz) ++ vs ++ cur.toList.drop (es.length * sz + vs.length)).toArray) (ok := ok) (β := bset β (fr, s) st.nx blk0)
                      (fr, s) st.nx sz 0 (es.length + (y0 :: ys0).length) blk0 c0 (by simp [bset]) hroom hm0 ⟨_, _, setRow_heap w blk0 cur _ T _ g1, by
                        rw [Nat.zero_add]
                        simp only [List.size_toArray, List.length_append, List.length_drop, Array.length_toList, hul]
                        omega⟩
                    simp only [Nat.zero_mul] at this
                    exact this _
                  · refine grow _ β es _ es.length c0 (cur.toList.take (es.length * sz)) hR0 hT0 (by simp) hval rfl (by omega) g2 hul (hcR.mono hvr0) (v2.mono hvr0) ?_ hby hln hslot (by rw [set_nx]; exact hk)
                    have := run_firstCells_some (P := P) w.drew i.size es.length ⟨blk0, 0, none⟩ es.length c0 (cur.toList.take (es.length * sz)) (by rw [hul, hi1]) (fun j v hv => by
                      rw [add_none, Nat.zero_add]
                      exact hus j v hv)
                    exact this
            · exact hA.elim
          · exact hA.elim
        · exact hA.elim
    · simp at ht
  · simp at hc
end
section
variable {P : Program} {w : World} {β : BMap} {N fr : Nat} {st : St} {a : Act} {o : Oper} {K : St → Prop} {Q : Exit → Act → World → Prop}
theorem flatten_take {α : Type} {sz : Nat} : ∀ {es : List (List α)} (n : Nat), (∀ e ∈ es, e.length = sz) → (es.take n).flatten = es.flatten.take (n * sz)
  | [], n, _ => by simp
  | e :: es, 0, _ => by simp
  | e :: es, n + 1, h => by
    have he := h e List.mem_cons_self
    rw [List.take_succ_cons, List.flatten_cons, List.flatten_cons, flatten_take n (fun x hx => h x (List.mem_cons_of_mem _ hx)), Nat.succ_mul, Nat.add_comm, ← he, List.take_length_add_append]
theorem flatten_dropN {α : Type} {sz : Nat} : ∀ {es : List (List α)} (n : Nat), (∀ e ∈ es, e.length = sz) → (es.drop n).flatten = es.flatten.drop (n * sz)
  | [], n, _ => by simp
  | e :: es, 0, _ => by simp
  | e :: es, n + 1, h => by
    have he := h e List.mem_cons_self
    rw [List.drop_succ_cons, List.flatten_cons, flatten_dropN n (fun x hx => h x (List.mem_cons_of_mem _ hx)), Nat.succ_mul, Nat.add_comm, ← he, List.drop_length_add_append]
theorem sound_cpy (h : Rel N fr st β a w) {args : Array Operand} {tys : Array TypeId} {sz : Nat} {x y : Arg} (ho : o.op = .call { callee := .builtin .copy, args, argTypes := tys }) (hc : chkS P o.op (.cpy sz x y) = true)
    (hd : ∀ s, o.dst = some s → s < N) (hA : opA P fr (.cpy sz x y) o.dst st K) : o.wp P a w (Post N fr K β (st.look fr) w) Q := by
  rw [ho] at hc
  simp only [chkS] at hc
  split at hc
  · rename_i p q t u hargs htys
    have ha : args = #[p, q] := by cases args; simp at hargs; subst hargs; rfl
    have hty : tys = #[t, u] := by cases tys; simp at htys; subst htys; rfl
    subst ha hty
    simp only [Bool.and_eq_true] at hc
    obtain ⟨⟨hx, hy⟩, ht⟩ := hc
    split at ht
    · rename_i e hut
      simp only [beq_iff_eq] at ht
      have vx := chkArg_vr hx h.regs
      have vy := chkArg_vr hy h.regs
      simp only [opA] at hA
      split at hA
      · rename_i ys key z sz' lo len hys hxe
        split at hA
        · rename_i z' sz'' es hL
          obtain ⟨rfl, rfl, rfl, hfit, hk⟩ := hA
          obtain ⟨A, c, hyv, hyl, vs, v1, v2, v3, v4⟩ := elemsOf_sound h.sim vy hys
          rw [hxe] at vx
          generalize hval : a.eval p = pv at vx
          cases vx with
          | w _ _ _ _ _ blk0 c0 hb0 hc0 hm0 hs0 =>
            obtain ⟨cur, T, g1, g2, g3⟩ := h.sim.live _ _ _ hL _ hb0
            have hfl := flatten_length g2
            have hle : (lo + len) * sz ≤ es.length * sz := Nat.mul_le_mul_right _ hfit
            rw [Nat.add_mul] at hle
            have hcur : es.flatten.length ≤ cur.size := by
              rcases Nat.eq_zero_or_pos es.flatten.length with h0 | h0
              · omega
              · obtain ⟨v, hv, _⟩ := g3 (es.flatten.length - 1) _ (List.getElem?_eq_getElem (by omega))
                have := (List.getElem?_eq_some_iff.1 hv).1
                rw [Array.length_toList] at this
                have q : ∀ L : Nat, 0 < L → L - 1 < cur.size → L ≤ cur.size := fun L _ _ => by omega
                exact q _ h0 this
            -- what is copied
            generalize hn : min ys.length len = n at hk
            have hny : n ≤ ys.length := by omega
            have hnl : n ≤ len := by omega
            have hnsz : n * sz ≤ ys.length * sz := Nat.mul_le_mul_right _ hny
            have hnsz2 : n * sz ≤ len * sz := Nat.mul_le_mul_right _ hnl
            have hnewl : (vs.take (n * sz)).length = n * sz := by rw [List.length_take, v1]; omega
            have hfirst : (Builtin.firstCells sz n (.slice A ys.length c)).run P w = .ok (vs.take (n * sz)).toArray w := by
              rcases v4 with rfl | ⟨blk, off, rfl, hcell⟩
              · have h0 : n = 0 := by simpa using hny
                subst h0
                cases A <;> simp [Builtin.firstCells, loadCells, loadCellsFrom]
              · exact run_firstCells_some (P := P) w sz n ⟨blk, off, none⟩ ys.length c _ hnewl (fun j v hv => by
                  rw [add_none]
                  rw [List.getElem?_take] at hv
                  split at hv
                  · exact hcell j v hv
                  · simp at hv)
            have h1 : ∀ u ∈ vs.take (n * sz), u.oneCell' = true := fun u hu => v3 u (List.mem_of_mem_take hu)
            have hst := run_storeCells_at P blk0 (lo * sz) T (vs.take (n * sz)) 0 cur w g1 (by rw [hnewl]; omega) h1
            simp only [Nat.add_zero] at hst
            have hr : (Builtin.copy_ #[t, u] o.type #[a.eval p, a.eval q]).run P w = .ok (.int .i64 (n : Nat)) (w.setRow blk0 (splice cur.toList (lo * sz) (vs.take (n * sz))).toArray) := by
              rw [hval, hyv]
              have hmin : Nat.min ys.length len = n := hn
              simp [Builtin.copy_, run_underlying hut, Builtin.lenOf, hmin, run_sizeOf ht, hfirst, hst, goInt, splice]
            obtain ⟨hR, hT⟩ := sound_write h hL (by simp) hb0 g1 (w' := w.setRow blk0 (splice cur.toList (lo * sz) (vs.take (n * sz))).toArray) rfl (by rw [List.size_toArray, splice_length _ _ _ (by rw [hnewl, Array.length_toList]; omega)]; simp)
              (ob' := .row sz (es.take lo ++ ys.take len ++ es.drop (lo + n))) (fun ok' w' hvr hw => by
                have hyt : ys.take len = ys.take n := by
                  rcases Nat.le_total ys.length len with hl | hl
                  · rw [List.take_of_length_le hl, List.take_of_length_le (by omega)]
                  · have : n = len := by omega
                    rw [this]
                refine ⟨_, _, hw, fun e he => ?_, ?_⟩
                · rw [List.append_assoc] at he
                  rcases List.mem_append.1 he with he | he
                  · exact g2 e (List.mem_of_mem_take he)
                  · rcases List.mem_append.1 he with he | he
                    · exact hyl e (List.mem_of_mem_take he)
                    · exact g2 e (List.mem_of_mem_drop he)
                · rw [hyt, List.flatten_append, List.flatten_append, flatten_take lo g2, flatten_take n hyl, flatten_dropN (lo + n) g2]
                  have hyfl : (ys.flatten.take (n * sz)).length = n * sz := by rw [List.length_take, flatten_length hyl]; omega
                  rw [show es.flatten.take (lo * sz) ++ ys.flatten.take (n * sz) ++ es.flatten.drop ((lo + n) * sz) = splice es.flatten (lo * sz) (ys.flatten.take (n * sz)) by unfold splice; rw [hyfl, Nat.add_mul]]
                  intro j d hj
                  rw [splice_get _ _ _ (by rw [hyfl]; omega), hyfl] at hj
                  have hgoal := splice_get cur.toList (lo * sz) (vs.take (n * sz)) (by rw [hnewl, Array.length_toList]; omega) j
                  rw [hnewl] at hgoal
                  simp only []
                  rw [hgoal]
                  split at hj
                  · rename_i c1; rw [if_pos c1]; exact (g3.mono hvr) j d hj
                  · rename_i c1
                    rw [if_neg c1]
                    split at hj
                    · rename_i c2
                      rw [if_pos c2]
                      rw [List.getElem?_take, if_pos (by omega)] at hj
                      rw [List.getElem?_take, if_pos (by omega)]
                      exact (v2.mono hvr) _ d hj
                    · rename_i c2; rw [if_neg c2]; exact (g3.mono hvr) j d hj)
            refine wp_value (w' := w.setRow blk0 (splice cur.toList (lo * sz) (vs.take (n * sz))).toArray) (v := .int .i64 (n : Nat)) ?_ ⟨_, β, hk, hR.put hd (.i _ _), by rw [look_put]; exact hT⟩
            unfold execOp
            rw [ho]
            simp [resolve, invoke, builtin, hr]
        · exact hA.elim
      · exact hA.elim
    · simp at ht
  · simp at hc
theorem look_putUps : ∀ (ups : List Up) (st : St) (k : Key), (ups.map (·.key)).Nodup → (putUps fr ups st).look fr k = match ups.find? (fun u => u.key == k) with
    | some u => some (u.st, u.new)
    | none => st.look fr k
  | [], st, k, _ => rfl
  | u :: us, st, k, hn => by
    rw [List.map_cons, List.nodup_cons] at hn
    simp only [putUps]
    rw [look_putUps us _ k hn.2, List.find?_cons]
    by_cases hk : u.key = k
    · subst hk
      have : us.find? (fun v => v.key == u.key) = none := by
        rw [List.find?_eq_none]
        intro v hv hvk
        exact hn.1 (List.mem_map.2 ⟨v, hv, by simpa using hvk⟩)
      rw [this]
      simp [look_set, updK]
    · have hbk : (u.key == k) = false := by simpa using hk
      rw [hbk]
      cases us.find? (fun u => u.key == k) with
      | some _ => rfl
      | none => simp [look_set, updK, Ne.symm hk]
theorem putUps_r : ∀ (ups : List Up) (st : St), (putUps fr ups st).r = st.r ∧ (putUps fr ups st).nx = st.nx
  | [], st => ⟨rfl, rfl⟩
  | u :: us, st => by
    have := putUps_r us (st.set fr u.key (some (u.st, u.new)))
    exact ⟨this.1.trans (set_r _ _ _ _), this.2.trans (set_nx _ _ _ _)⟩
theorem look_own (st : St) (s : Nat) : st.look fr (fr, s) = st.own s := by simp [St.look]
theorem sound_call (h : Rel N fr st β a w) {f : FuncId} {args : List D} {vals : List Value} (hvl : vals.length = args.length) (hv : ∀ (j : Nat) (d : D) (v : Value), args[j]? = some d → vals[j]? = some v → VR w (okOf β (st.look fr) w) β d v)
    (hr : (execOp a.eval o).run P w = (callFunc f vals.toArray).run P w) (hd : ∀ s, o.dst = some s → s < N) (hA : opCall P fr f args o.dst st K) : o.wp P a w (Post N fr K β (st.look fr) w) Q := by
  obtain ⟨ups, d, ⟨⟨fn, hf, hb, hname⟩, hF⟩, hups0, hnd, hk⟩ := hA
  have hups : ∀ u ∈ ups, st.look fr u.key = some (u.st, u.old) := fun u hu => (hups0 u hu).1
  have hall : ∀ u ∈ ups, (∃ x, β u.key u.st = some x) ∧ u.old ≠ .gone := fun u hu => ⟨h.sim.tot _ _ _ (hups u hu), (hups0 u hu).2⟩
  have hrun : (callFunc f vals.toArray).run P w = .ok (.enter f vals.toArray) w := by
    simp only [callFunc, Sem.run_bind, run_program, Result.andThen_ok, hf, hname, hb, Bool.false_eq_true, if_false, Sem.run_pure]
  have hcall := hF w β (fr + 1) (okOf β (st.look fr) w) vals hvl hv (fun x hx => hx.1) (fun k s x hb => ⟨by have := (h.fresh k s x hb).1; omega, h.sim.low k s x hb⟩)
    (fun u hu => by
      obtain ⟨⟨x, hx⟩, hg⟩ := hall u hu
      exact ⟨x, hx, fun hok => hok.2 _ _ _ (hups u hu) hg hx, h.sim.low _ _ _ hx, h.sim.live _ _ _ (hups u hu) _ hx, hg⟩)
    (fun u hu u' hu' x hx hx' => h.sim.inj _ _ _ _ _ _ _ (hups u hu) (hups u' hu') (hall u hu).2 (hall u' hu').2 hx hx')
  unfold Oper.wp
  rw [hr, hrun, Oper.upon_enter]
  refine hcall.mono fun e w' he => ?_
  obtain ⟨v, rfl, hos, htp, hout, hsz, hother, hkept, hnew, hvr⟩ := he
  have hlook : ∀ k, (putUps fr ups st).look fr k = match ups.find? (fun u => u.key == k) with | some u => some (u.st, u.new) | none => st.look fr k := fun k => look_putUps ups st k hnd
  have hfind : ∀ k u, ups.find? (fun u => u.key == k) = some u → u ∈ ups ∧ u.key = k := fun k u hf => ⟨List.mem_of_find?_eq_some hf, by simpa using List.find?_some hf⟩
  have hstamp : ∀ k z p, (putUps fr ups st).look fr k = some (z, p) → ∃ p', st.look fr k = some (z, p') ∧ (p ≠ .gone → p' ≠ .gone) := by
    intro k z p hk
    rw [hlook] at hk
    cases hq : ups.find? (fun u => u.key == k) with
    | none => rw [hq] at hk; exact ⟨p, hk, id⟩
    | some u =>
      rw [hq] at hk
      obtain ⟨e1, e2⟩ := some_pair hk
      obtain ⟨m1, m2⟩ := hfind k u hq
      exact ⟨u.old, by rw [← m2, ← e1]; exact hups u m1, fun _ => (hall u m1).2⟩
  have hokc : ∀ x, okOf β (st.look fr) w x → okOf β ((putUps fr ups st).look fr) w' x := by
    intro x hx
    refine ⟨by have := hx.1; omega, fun k z p hk hg hb => ?_⟩
    obtain ⟨p', hp', hg'⟩ := hstamp k z p hk
    exact hx.2 k z p' hp' (hg' hg) hb
  have hokn : ∀ x, w.heap.size ≤ x → x < w'.heap.size → okOf β ((putUps fr ups st).look fr) w' x := by
    intro x h1 h2
    refine ⟨h2, fun k z p hk hg hb => ?_⟩
    have := h.sim.low _ _ _ hb
    omega
  have hT : Trans β (st.look fr) w β ((putUps fr ups st).look fr) w' :=
    ⟨.refl β, hos, htp, hout, hsz, fun x hx => ⟨hokc x hx, hother x hx.1 (fun u hu hb => hx.2 _ _ _ (hups u hu) (hall u hu).2 hb)⟩, fun k z x vs e hb hv => hkept x vs e (h.sim.low _ _ _ hb) hv⟩
  have hS : Sim β ((putUps fr ups st).look fr) w' := by
    have old : ∀ k z p, (putUps fr ups st).look fr k = some (z, p) → (∃ u ∈ ups, u.key = k ∧ u.st = z ∧ u.new = p) ∨ (st.look fr k = some (z, p) ∧ ∀ u ∈ ups, u.key ≠ k) := by
      intro k z p hk
      rw [hlook] at hk
      cases hq : ups.find? (fun u => u.key == k) with
      | none =>
        rw [hq] at hk
        rw [List.find?_eq_none] at hq
        exact .inr ⟨hk, fun u hu hkk => hq u hu (by simpa using hkk)⟩
      | some u =>
        rw [hq] at hk
        obtain ⟨e1, e2⟩ := some_pair hk
        obtain ⟨m1, m2⟩ := hfind k u hq
        exact .inl ⟨u, m1, m2, e1, e2⟩
    have base : ∀ k z p, (putUps fr ups st).look fr k = some (z, p) → p ≠ .gone → ∃ p', st.look fr k = some (z, p') ∧ p' ≠ .gone := by
      intro k z p hk hg
      rcases old k z p hk with ⟨u, hu, rfl, rfl, rfl⟩ | ⟨h1, _⟩
      · exact ⟨u.old, hups u hu, (hall u hu).2⟩
      · exact ⟨p, h1, hg⟩
    refine ⟨fun q z p q' z' p' y hq hq' hg hg' hb hb' => ?_, fun k z p hk x hb => ?_, fun k z x hb => by have := h.sim.low _ _ _ hb; omega, fun k z p hk => by
      obtain ⟨p', hp', _⟩ := hstamp k z p hk
      exact h.sim.tot k z p' hp'⟩
    · obtain ⟨p1, h1, g1⟩ := base _ _ _ hq hg
      obtain ⟨p2, h2, g2⟩ := base _ _ _ hq' hg'
      exact h.sim.inj _ _ _ _ _ _ _ h1 h2 g1 g2 hb hb'
    · rcases old k z p hk with ⟨u, hu, rfl, rfl, rfl⟩ | ⟨h1, h2⟩
      · refine Match.mono (fun d v hv => hv.mono (fun y hy => ⟨?_, rfl⟩) (.refl β) (.refl β w')) (.refl β) rfl (hnew u hu x hb)
        rcases hy with hy | ⟨y1, y2⟩
        · exact hokc y hy
        · exact hokn y y1 y2
      · by_cases hpg : p = .gone
        · subst hpg; trivial
        · refine Match.mono (fun d v hv => hT.vr hv) (.refl β) (hother x (h.sim.low _ _ _ hb) (fun u hu hbu => ?_)) (h.sim.live k z p h1 x hb)
          exact h2 u hu (h.sim.inj _ _ _ _ _ _ _ (hups u hu) h1 (hall u hu).2 hpg hbu hb)
  obtain ⟨pr, pn⟩ := putUps_r (fr := fr) ups st
  have hR : Rel N fr (putUps fr ups st) β a w' := by
    refine h.go pr hT hS (fun k z x hb => ?_)
    obtain ⟨h1, h2⟩ := h.fresh k z x hb
    refine ⟨h1, fun hk => ?_⟩
    rw [pn]
    refine ⟨(h2 hk).1, fun hz => ?_⟩
    obtain ⟨p, hp⟩ := (h2 hk).2 hz
    have hkk : k = (fr, k.2) := by rw [← hk]
    have hq := hlook k
    have hl : st.look fr k = some (st.nx, p) := by rw [hkk, look_own]; exact hp
    cases hf' : ups.find? (fun u => u.key == k) with
    | none =>
      rw [hf', hl] at hq
      exact ⟨p, by rw [← look_own (fr := fr), ← hkk]; exact hq⟩
    | some u =>
      obtain ⟨m1, m2⟩ := hfind k u hf'
      rw [hf'] at hq
      have := hups u m1
      rw [m2, hl] at this
      obtain ⟨e1, _⟩ := some_pair this
      exact ⟨u.new, by rw [← look_own (fr := fr), ← hkk, hq, e1]⟩
  exact ⟨_, β, hk, hR.put hd (hvr.mono (fun y hy => ⟨by
    rcases hy with hy | ⟨y1, y2⟩
    · exact hokc y hy
    · exact hokn y y1 y2, rfl⟩) (.refl β) (.refl β w')), by rw [look_put]; exact hT⟩
theorem sound_callN (h : Rel N fr st β a w) {f : FuncId} {args : List D} {vals : List Value} (hvl : vals.length = args.length) (hv : ∀ (j : Nat) (d : D) (v : Value), args[j]? = some d → vals[j]? = some v → VR w (okOf β (st.look fr) w) β d v)
    (hr : (execOp a.eval o).run P w = (callFunc f vals.toArray).run P w) (hd : ∀ s, o.dst = some s → s < N) (hA : opCallN P fr f args o.dst st K) : o.wp P a w (Post N fr K β (st.look fr) w) Q := by
  unfold opCallN at hA
  split at hA
  · rename_i s hds
    obtain ⟨sz, es, ⟨⟨fn, hf, hb, hname⟩, hF⟩, hslot, hk⟩ := hA
    have hrun : (callFunc f vals.toArray).run P w = .ok (.enter f vals.toArray) w := by
      simp only [callFunc, Sem.run_bind, run_program, Result.andThen_ok, hf, hname, hb, Bool.false_eq_true, if_false, Sem.run_pure]
    have hcall := hF w β (fr + 1) (okOf β (st.look fr) w) vals hvl hv (fun x hx => hx.1) (fun k s x hb => ⟨by have := (h.fresh k s x hb).1; omega, h.sim.low k s x hb⟩)
    unfold Oper.wp
    rw [hr, hrun, Oper.upon_enter]
    refine hcall.mono fun e w' he => ?_
    obtain ⟨blk, c, rfl, hos, htp, hout, hsz, hold, hb1, hb2, hc1, hc2, hvs, hm⟩ := he
    obtain ⟨hR, hT⟩ := take_new h (s := s) (slotOk_spec hslot) w' hos htp hout hsz hold hb1 hb2 hm
    obtain ⟨vs, e, v1, v2⟩ := hvs
    have hbs : bset β (fr, s) st.nx blk (fr, s) st.nx = some blk := by simp [bset]
    have hval : VR w' (okOf (bset β (fr, s) st.nx blk) (St.look fr { st with own := upd st.own s (some (st.nx, .row sz es)) }) w') (bset β (fr, s) st.nx blk) (.w (fr, s) st.nx sz 0 es.length) (.slice (some ⟨blk, 0, none⟩) es.length c) := by
      have := VR.w (w := w') (ok := okOf (bset β (fr, s) st.nx blk) (St.look fr { st with own := upd st.own s (some (st.nx, .row sz es)) }) w') (β := bset β (fr, s) st.nx blk) (fr, s) st.nx sz 0 es.length blk c hbs hc1 hc2 ⟨vs, e, v1, by simpa using v2⟩
      simpa using this
    have hp := hR.put hd hval
    refine ⟨_, bset β (fr, s) st.nx blk, hk, ?_, ?_⟩
    · rw [hds] at hp ⊢
      exact hp
    · exact hT
  · exact hA.elim
end
section
variable {P : Program} {w : World} {β : BMap} {N fr : Nat} {st : St} {a : Act} {o : Oper} {K : St → Prop} {Q : Exit → Act → World → Prop} {ok : Nat → Prop}
theorem runM_getObj {r : Nat} {es : Array MapEntry} {c : Nat} (h : w.heap[r]? = some (.map es c)) : (getObj r).run P w = .ok (.map es c) w := by simp [getObj, Sem.run, h]
theorem runM_getIter {r : Nat} {m : Option Nat} {s : Nat} {seen : Array Nat} {c : Nat} (h : w.heap[r]? = some (.mapIter m s seen c)) : (getObj r).run P w = .ok (.mapIter m s seen c) w := by simp [getObj, Sem.run, h]
theorem runM_setMap {r : Nat} {es : Array MapEntry} {c : Nat} (o : Go.Obj) (h : w.heap[r]? = some (.map es c)) : (setObj r o).run P w = .ok () { w with heap := w.heap.setIfInBounds r o } := by simp [setObj, Sem.run, h]
theorem runM_setIter {r : Nat} {m : Option Nat} {s : Nat} {seen : Array Nat} {c : Nat} (o : Go.Obj) (h : w.heap[r]? = some (.mapIter m s seen c)) : (setObj r o).run P w = .ok () { w with heap := w.heap.setIfInBounds r o } := by simp [setObj, Sem.run, h]
theorem keyEq_run {len : Nat} {t e : TypeId} {k0 : IntKind} {x y : D} {u v : Value} {b : Bool} (ht : P.underlying t = some (.array len e)) (he : P.underlying e = some (.int k0)) (hs : szOf P e = some 1)
    (hagg : aggOf P e = some false) (hx : VR w ok β x u) (hy : VR w ok β y v) (h : keyEq len x y = some b) : (Op.equal t u v).run P w = .ok b w := by
  unfold keyEq at h
  split at h
  · rename_i xs ys
    cases hx with
    | a _ us hl1 hx1 hx2 => cases hy with
      | a _ vs hl2 hy1 hy2 =>
        split at h
        · rename_i hlen
          have hl := intsEq_loop (P := P) (w := w) (ok := ok) (β := β) he hagg 9998 (us := us.toArray) (vs := vs.toArray) xs ys b 0 h
            (fun j d hj => by
              have hlt := (List.getElem?_eq_some_iff.1 hj).1
              exact ⟨us[j]'(by omega), by simp [show j < us.length by omega], hx1 j d _ hj (List.getElem?_eq_getElem (by omega))⟩)
            (fun j d hj => by
              have hlt := (List.getElem?_eq_some_iff.1 hj).1
              exact ⟨vs[j]'(by omega), by simp [show j < vs.length by omega], hy1 j d _ hj (List.getElem?_eq_getElem (by omega))⟩)
          rw [hlen.1] at hl
          exact run_equal_array ht hs hl
        · simp at h
  · simp at h
theorem intsEq_ints : ∀ {xs ys : List D} {b : Bool}, intsEq xs ys = some b → ∀ {us : List Value}, xs = ys → xs.length = us.length → (∀ (j : Nat) (d : D) (v : Value), xs[j]? = some d → us[j]? = some v → VR w ok β d v) → ∀ v ∈ us, ∃ k n, v = .int k n
  | [], _, _, _, us, _, hl, _, v, hv => by
    have : us = [] := List.eq_nil_of_length_eq_zero (by simpa using hl.symm)
    subst this; simp at hv
  | x :: xs, [], b, h, us, he, _, _, v, hv => by simp at he
  | x :: xs, y :: ys, b, h, us, he, hl, hu, v, hv => by
    cases us with
    | nil => simp at hl
    | cons u us =>
      injection he with he1 he2
      subst he1 he2
      unfold intsEq at h
      split at h
      · rename_i heq _; simp at heq
      · rename_i k n xs' k' m' ys' hxe hye
        injection hxe with hxe hxs
        subst hxe hxs
        injection hye with hye hys
        injection hye with e1 e2
        subst e1 e2 hys
        simp only [if_true] at h
        have h0 := hu 0 _ u rfl rfl
        rcases List.mem_cons.1 hv with rfl | hv
        · exact ⟨_, _, h0.inv_i⟩
        · exact intsEq_ints h rfl (by simpa using hl) (fun j d v hj hv => hu (j + 1) d v (by simpa using hj) (by simpa using hv)) v hv
      · simp at h
theorem checkKey_loop {e : TypeId} {k0 : IntKind} (he : P.underlying e = some (.int k0)) (hs : szOf P e = some 1) (hagg : aggOf P e = some false) (em : Bool) (m : Nat) {us : Array Value} : ∀ (n i : Nat), i + n ≤ us.size → (∀ j, i ≤ j → j < i + n → ∃ k x, us[j]? = some (.int k x)) →
    (forIn (List.range' i n 1) PUnit.unit fun i __s => do
        let s ← sizeOf e
        let a ← part e us (i * s)
        Instr.checkKey em (m + 1) e a
        pure (ForInStep.yield PUnit.unit)).run P w = .ok PUnit.unit w
  | 0, i, _, _ => by simp
  | n + 1, i, hn, hu => by
    obtain ⟨k, x, hx⟩ := hu i (Nat.le_refl _) (by omega)
    have p1 : (part e us (i * 1)).run P w = .ok (.int k x) w := by simp [part, run_isAgg hagg, hx]
    have p2 : (Instr.checkKey em (m + 1) e (.int k x)).run P w = .ok () w := by simp [Instr.checkKey, run_underlying he]
    rw [List.range'_succ, List.forIn_cons]
    simp only [Sem.run_bind, run_sizeOf hs, p1, p2, Result.andThen_ok, Sem.run_pure]
    exact checkKey_loop he hs hagg em m n (i + 1) (by omega) (fun j h1 h2 => hu j (by omega) (by omega))
theorem checkKey_arr {len : Nat} {t e : TypeId} {k0 : IntKind} (em : Bool) (m : Nat) (ht : P.underlying t = some (.array len e)) (he : P.underlying e = some (.int k0)) (hs : szOf P e = some 1)
    (hagg : aggOf P e = some false) {us : Array Value} (hn : len ≤ us.size) (hu : ∀ j, j < len → ∃ k x, us[j]? = some (.int k x)) : (Instr.checkKey em (m + 1 + 1) t (.agg us)).run P w = .ok () w := by
  have hl := checkKey_loop (P := P) (w := w) he hs hagg em m (us := us) len 0 (by omega) (fun j _ hj => hu j (by omega))
  rw [Instr.checkKey]
  simp only [Sem.run_bind, run_underlying ht, Result.andThen_ok]
  rw [Std.Legacy.Range.forIn_eq_forIn_range']
  simp only [Std.Legacy.Range.size, Nat.sub_zero, Nat.add_sub_cancel, Nat.div_one]
  rw [hl]
  rfl
theorem checkKey_run {len : Nat} {t e : TypeId} {k0 : IntKind} {x : D} {u : Value} (em : Bool) (ht : P.underlying t = some (.array len e)) (he : P.underlying e = some (.int k0)) (hs : szOf P e = some 1)
    (hagg : aggOf P e = some false) (hx : VR w ok β x u) (h : keyEq len x x = some true) : (Instr.checkKey em 10000 t u).run P w = .ok () w := by
  unfold keyEq at h
  split at h
  · rename_i xs
    cases hx with
    | a _ us hl1 hx1 hx2 =>
      split at h
      · rename_i hlen
        have hi := intsEq_ints (w := w) (ok := ok) (β := β) h rfl hl1 hx1
        exact checkKey_arr em 9998 ht he hs hagg (by simp; omega) (fun j hj => by
          have hlt : j < us.length := by omega
          obtain ⟨k, n, e⟩ := hi us[j] (List.getElem_mem _)
          exact ⟨k, n, by simp [hlt, e]⟩)
      · simp at h
  · simp at h
theorem sameBits_ints : ∀ {us vs : List Value} {xs ys : List D}, intsEq xs ys = some true → xs.length = us.length → ys.length = vs.length → (∀ (j : Nat) (d : D) (v : Value), xs[j]? = some d → us[j]? = some v → VR w ok β d v) →
    (∀ (j : Nat) (d : D) (v : Value), ys[j]? = some d → vs[j]? = some v → VR w ok β d v) → us = vs ∧ (∀ v ∈ us, ∃ k n, v = .int k n)
  | us, vs, [], [], _, h1, h2, _, _ => by
    have a1 : us = [] := List.eq_nil_of_length_eq_zero (by simpa using h1.symm)
    have a2 : vs = [] := List.eq_nil_of_length_eq_zero (by simpa using h2.symm)
    subst a1 a2; simp
  | us, vs, [], y :: ys, h, _, _, _, _ => by simp [intsEq] at h
  | us, vs, x :: xs, [], h, _, _, _, _ => by cases x <;> simp [intsEq] at h
  | us, vs, x :: xs, y :: ys, h, h1, h2, hu, hv => by
    cases us with
    | nil => simp at h1
    | cons u us => cases vs with
      | nil => simp at h2
      | cons v vs =>
        unfold intsEq at h
        split at h
        · rename_i heq _; simp at heq
        · rename_i k n xs' k' m' ys' hxe hye
          injection hxe with hxe hxs
          injection hye with hye hys
          subst hxe hxs hye hys
          split at h
          · rename_i hk
            subst hk
            split at h
            · rename_i hn
              subst hn
              have a1 := (hu 0 _ u rfl rfl).inv_i
              have a2 := (hv 0 _ v rfl rfl).inv_i
              obtain ⟨b1, b2⟩ := sameBits_ints h (by simpa using h1) (by simpa using h2) (fun j d v hj hw => hu (j + 1) d v (by simpa using hj) (by simpa using hw)) (fun j d v hj hw => hv (j + 1) d v (by simpa using hj) (by simpa using hw))
              subst a1 a2 b1
              exact ⟨rfl, fun v hv => by
                rcases List.mem_cons.1 hv with rfl | hv
                · exact ⟨_, _, rfl⟩
                · exact b2 v hv⟩
            · simp at h
          · simp at h
        · simp at h
theorem sameBits_refl (n : Nat) (us : List Value) (h : ∀ v ∈ us, ∃ k n, v = .int k n) : Instr.sameBits (n + 1 + 1) (.agg us.toArray) (.agg us.toArray) = true := by
  simp only [Instr.sameBits, beq_self_eq_true, Bool.true_and]
  have : ∀ (us : List Value), (∀ v ∈ us, ∃ k n, v = Value.int k n) → ((us.zip us).all fun (x, y) => Instr.sameBits (n + 1) x y) = true := by
    intro us
    induction us with
    | nil => intro _; rfl
    | cons u us ih =>
      intro h
      obtain ⟨k, m, rfl⟩ := h _ (List.mem_cons_self ..)
      simp only [List.zip_cons_cons, List.all_cons, ih (fun v hv => h v (List.mem_cons_of_mem _ hv)), Bool.and_true]
      simp [Instr.sameBits]
  exact this us h
theorem keyStays_run {len : Nat} {x y : D} {u v : Value} (hx : VR w ok β x u) (hy : VR w ok β y v) (h : keyEq len x y = some true) : (Instr.keyThatStays v u).run P w = .ok u w := by
  unfold keyEq at h
  split at h
  · rename_i xs ys
    cases hx with
    | a _ us hl1 hx1 hx2 => cases hy with
      | a _ vs hl2 hy1 hy2 =>
        split at h
        · obtain ⟨b1, b2⟩ := sameBits_ints h hl1 hl2 hx1 hy1
          subst b1
          unfold Instr.keyThatStays
          have : Instr.sameBits 10000 (.agg us.toArray) (.agg us.toArray) = true := sameBits_refl 9998 us b2
          simp [this]
        · simp at h
  · simp at h
theorem find_run {len : Nat} {t e : TypeId} {k0 : IntKind} {x : D} {u : Value} (ht : P.underlying t = some (.array len e)) (he : P.underlying e = some (.int k0)) (hs : szOf P e = some 1)
    (hagg : aggOf P e = some false) (hx : VR w ok β x u) : ∀ (es : List (D × D)) (ents : List MapEntry) (i : Nat) (r : Option (Nat × D)), mfind len x es i = some r → ents.length = es.length →
    (∀ (j : Nat) (kd vd : D), es[j]? = some (kd, vd) → ∃ ent : MapEntry, ents[j]? = some ent ∧ VR w ok β kd ent.key ∧ VR w ok β vd ent.val) →
    ∃ q, (Instr.findAsking t u ents i).run P w = .ok q w ∧ (match r with
      | none => q = none
      | some (j, vd) => ∃ v ent, q = some (j, v) ∧ i ≤ j ∧ ents[j - i]? = some ent ∧ ent.val = v ∧ VR w ok β vd v ∧ ∃ kd, es[j - i]? = some (kd, vd) ∧ keyEq len x kd = some true)
  | [], [], i, r, h, _, _ => by
    simp only [mfind, Option.some.injEq] at h
    subst h
    exact ⟨none, by simp [Instr.findAsking], rfl⟩
  | [], _ :: _, _, _, _, hl, _ => by simp at hl
  | _ :: _, [], _, _, _, hl, _ => by simp at hl
  | (kd, vd) :: es, ent :: ents, i, r, h, hl, hes => by
    obtain ⟨ent', h1, h2, h3⟩ := hes 0 kd vd rfl
    have : ent = ent' := by simpa using h1
    subst this
    simp only [mfind] at h
    cases hq : keyEq len x kd with
    | none => rw [hq] at h; simp at h
    | some b =>
      rw [hq] at h
      have hr := keyEq_run ht he hs hagg hx h2 hq
      cases b with
      | true =>
        simp only [Option.some.injEq] at h
        subst h
        exact ⟨some (i, ent.val), by simp [Instr.findAsking, hr], ent.val, ent, rfl, Nat.le_refl _, by simp, rfl, h3, kd, by simp, hq⟩
      | false =>
        simp only [] at h
        obtain ⟨q, q1, q2⟩ := find_run ht he hs hagg hx es ents (i + 1) r h (by simpa using hl) (fun j kd vd hj => by
          obtain ⟨e1, f1, f2, f3⟩ := hes (j + 1) kd vd (by simpa using hj)
          exact ⟨e1, by simpa using f1, f2, f3⟩)
        refine ⟨q, by simp [Instr.findAsking, hr, q1], ?_⟩
        cases r with
        | none => exact q2
        | some p =>
          obtain ⟨j, vd'⟩ := p
          obtain ⟨v, ent', e1, e2, e3, e4, e5, kd', e6, e7⟩ := q2
          have hj : j - i = (j - (i + 1)) + 1 := by omega
          exact ⟨v, ent', e1, by omega, by rw [hj]; simpa using e3, e4, e5, kd', by rw [hj]; simpa using e6, e7⟩
theorem findKey_run {len : Nat} {t e : TypeId} {k0 : IntKind} {x : D} {u : Value} (ht : P.underlying t = some (.array len e)) (he : P.underlying e = some (.int k0)) (hs : szOf P e = some 1)
    (hagg : aggOf P e = some false) (hx : VR w ok β x u) (es : List (D × D)) (ents : List MapEntry) (r : Option (Nat × D)) (hf : mfind len x es 0 = some r) (hl : ents.length = es.length)
    (hes : ∀ (j : Nat) (kd vd : D), es[j]? = some (kd, vd) → ∃ ent : MapEntry, ents[j]? = some ent ∧ VR w ok β kd ent.key ∧ VR w ok β vd ent.val) :
    ∃ q, (Instr.findKey t u ents).run P w = .ok q w ∧ (match r with
      | none => q = none
      | some (j, vd) => ∃ v ent, q = some (j, v) ∧ ents[j]? = some ent ∧ ent.val = v ∧ VR w ok β vd v ∧ ∃ kd, es[j]? = some (kd, vd) ∧ keyEq len x kd = some true) := by
  obtain ⟨q, q1, q2⟩ := find_run ht he hs hagg hx es ents 0 r hf hl hes
  have hnow : (Instr.findKey t u ents).run P w = .ok q w := by
    unfold Instr.findKey
    rw [Sem.run_bind, run_underlying ht]
    simp only [Result.andThen_ok]
    cases ents with
    | nil =>
      have : q = none := by
        have : (Instr.findAsking t u [] 0).run P w = .ok none w := by simp [Instr.findAsking]
        rw [this] at q1
        injection q1 with q1
        exact q1.symm
      subst this
      simp [Instr.findNow]
    | cons ent ents =>
      have : Instr.findNow (.array len e) u (ent :: ents) 0 = none := by simp [Instr.findNow, Instr.sameNow]
      rw [this]
      exact q1
  refine ⟨q, hnow, ?_⟩
  cases r with
  | none => exact q2
  | some p =>
    obtain ⟨j, vd⟩ := p
    obtain ⟨v, ent, e1, e2, e3, e4, e5, kd, e6, e7⟩ := q2
    exact ⟨v, ent, e1, by simpa using e3, e4, e5, kd, by simpa using e6, e7⟩
theorem mput_none {len : Nat} {k v : D} : ∀ {es es' : List (D × D)} {i : Nat}, mfind len k es i = some none → mput len k v es = some es' → es' = es ++ [(k, v)]
  | [], es', i, _, h => by simp [mput] at h; simp [← h]
  | (a, u0) :: es, es', i, h1, h2 => by
    simp only [mfind] at h1
    simp only [mput] at h2
    cases hq : keyEq len k a with
    | none => rw [hq] at h1; simp at h1
    | some b =>
      rw [hq] at h1 h2
      cases b with
      | true => simp at h1
      | false =>
        simp only [] at h1 h2
        cases hp : mput len k v es with
        | none => rw [hp] at h2; simp at h2
        | some es2 =>
          rw [hp] at h2
          simp at h2
          rw [← h2, mput_none h1 hp]
          rfl
theorem mput_some {len : Nat} {k v : D} : ∀ {es es' : List (D × D)} {i j : Nat} {u0 : D}, mfind len k es i = some (some (j, u0)) → mput len k v es = some es' → i ≤ j ∧ es' = es.set (j - i) (k, v)
  | [], es', i, j, u0, h, _ => by simp [mfind] at h
  | (a, x) :: es, es', i, j, u0, h1, h2 => by
    simp only [mfind] at h1
    simp only [mput] at h2
    cases hq : keyEq len k a with
    | none => rw [hq] at h1; simp at h1
    | some b =>
      rw [hq] at h1 h2
      cases b with
      | true =>
        simp at h1 h2
        obtain ⟨rfl, _⟩ := h1
        exact ⟨Nat.le_refl _, by simp [← h2]⟩
      | false =>
        simp only [] at h1 h2
        cases hp : mput len k v es with
        | none => rw [hp] at h2; simp at h2
        | some es2 =>
          rw [hp] at h2
          simp at h2
          obtain ⟨g1, g2⟩ := mput_some h1 hp
          refine ⟨by omega, ?_⟩
          rw [← h2, g2, show j - i = (j - (i + 1)) + 1 by omega]
          rfl
theorem mput_find {len : Nat} {k v : D} : ∀ {es es' : List (D × D)} (i : Nat), mput len k v es = some es' → ∃ r, mfind len k es i = some r
  | [], _, i, _ => ⟨none, rfl⟩
  | (a, u0) :: es, es', i, h => by
    simp only [mput] at h
    simp only [mfind]
    cases hq : keyEq len k a with
    | none => rw [hq] at h; simp at h
    | some b =>
      rw [hq] at h
      cases b with
      | true => exact ⟨_, rfl⟩
      | false =>
        simp only [] at h ⊢
        cases hp : mput len k v es with
        | none => rw [hp] at h; simp at h
        | some es2 => exact mput_find (i + 1) hp
theorem chkMap_spec {t : TypeId} {len : Nat} (h : chkMap P t len = true) : ∃ key el e k0, P.underlying t = some (.map key el) ∧ P.underlying key = some (.array len e) ∧ P.underlying e = some (.int k0) ∧ szOf P e = some 1 ∧ aggOf P e = some false := by
  unfold chkMap at h
  split at h
  · rename_i key el ht
    split at h
    · rename_i n e hk
      simp only [Bool.and_eq_true, beq_iff_eq] at h
      obtain ⟨⟨⟨rfl, hi⟩, hs⟩, hag⟩ := h
      unfold intElem at hi
      split at hi
      · rename_i k0 hk0
        exact ⟨key, el, e, k0, ht, hk, hk0, hs, hag⟩
      · simp at hi
    · simp at h
  · simp at h
theorem ev_mapget {t : TypeId} {x i : Operand} {okb : Bool} {len : Nat} {vz : List D} {agg : Bool} {m k : Arg} {d : D} (h : Rel N fr st β a w) (ho : o.op = .lookup t x i okb) (hx : chkArg x m = true) (hi : chkArg i k = true)
    (hm : chkMap P t len = true) (hv : chkMapV P t vz agg = true) (he : mapgetD (st.look fr) len vz agg okb (m.get st.r) (k.get st.r) = some d) : Gives P β (st.look fr) w o a d := by
  obtain ⟨key, el, e, k0, ht, hk, hk0, hs, hag⟩ := chkMap_spec hm
  have hvx := chkArg_vr hx h.regs
  have hvi := chkArg_vr hi h.regs
  unfold mapgetD at he
  split at he
  · rename_i ky st' hmq
    rw [hmq] at hvx
    split at he
    · rename_i st'' es hL
      split at he
      · rename_i hcond
        obtain ⟨rfl, hkk⟩ := hcond
        generalize hu : a.eval x = u at hvx
        cases hvx with
        | m _ _ blk hb =>
          obtain ⟨ents, g1, g2, g3⟩ := h.sim.live _ _ _ hL _ hb
          cases hf : mfind len (k.get st.r) es 0 with
          | none => rw [hf] at he; simp at he
          | some r =>
            rw [hf] at he
            obtain ⟨q, q1, q2⟩ := findKey_run (P := P) hk hk0 hs hag hvi es ents.toList r hf (by simpa using g2) (fun j kd vd hj => by
              obtain ⟨ent, e1, e2, e3, e4⟩ := g3 j kd vd hj
              exact ⟨ent, by simpa using e1, e3, e4⟩)
            have hck := checkKey_run (P := P) ents.isEmpty hk hk0 hs hag hvi hkk
            have fin : ∀ (v : Value) (b : Bool) (dv : D), VR w (okOf β (st.look fr) w) β dv v → (Instr.lookup t (.map (some blk)) (a.eval i) okb).run P w = .ok (if okb then Value.tuple #[v, .bool b] else v) w → d = (if okb then .t [dv, .b b] else dv) → Gives P β (st.look fr) w o a d := by
              intro v b dv hdv hrun hd
              refine Gives.here h.sim (s := Instr.lookup t (a.eval x) (a.eval i) okb) (by unfold execOp; rw [ho]) (v := if okb then Value.tuple #[v, .bool b] else v) (by rw [hu]; exact hrun) ?_
              rw [hd]
              cases okb with
              | true =>
                refine .t _ [v, .bool b] rfl (fun j d v' hj hv' => ?_)
                match j with
                | 0 => simp at hj hv'; subst hj hv'; exact hdv
                | 1 => simp at hj hv'; subst hj hv'; exact .b _
                | j + 2 => simp at hj
              | false => exact hdv
            cases r with
            | none =>
              simp only [] at q2
              subst q2
              unfold chkMapV at hv
              rw [ht] at hv
              simp only [Bool.and_eq_true, beq_iff_eq] at hv
              obtain ⟨hagg, hz⟩ := hv
              cases hzo : zeroOf P el with
              | none => rw [hzo] at hz; simp at hz
              | some zv =>
                rw [hzo] at hz
                simp only [Bool.and_eq_true] at hz
                obtain ⟨⟨z1, z2⟩, z3⟩ := hz
                obtain ⟨c1, c2⟩ := constsD_cells (w := w) (ok := okOf β (st.look fr) w) (β := β) z1
                simp only [] at he
                cases hmk : mkV agg vz with
                | none => rw [hmk] at he; simp at he
                | some zd =>
                  rw [hmk] at he
                  simp at he
                  have hvr := VR.mk c1 c2 hmk
                  have hzv : (if agg = true then Value.agg zv.cells.toList.toArray else zv.cells.toList.headD undef) = zv := by
                    cases agg with
                    | true =>
                      cases zv <;> simp at z3
                      simp [Value.cells]
                    | false =>
                      simp only [Bool.false_or] at z2
                      rw [Value.cells_one z2]; rfl
                  rw [hzv] at hvr
                  exact fin zv false zd hvr (by simp [Instr.lookup, run_underlying ht, runM_getObj g1, hck, q1, run_zeroValue hzo]) (by rw [← he])
            | some p =>
              obtain ⟨j, vd⟩ := p
              obtain ⟨v, ent, e1, e2, e3, e4, _⟩ := q2
              subst e1
              simp only [Option.some.injEq] at he
              exact fin v true vd e4 (by simp [Instr.lookup, run_underlying ht, runM_getObj g1, hck, q1]) he.symm
      · simp at he
    · simp at he
  · simp at he
theorem ev_entry {x : Operand} {i : Arg} {d : D} (h : Rel N fr st β a w) (ho : o.op = .entry x) (hx : chkArg x i = true) (he : entryD (st.look fr) (i.get st.r) = some d) : Gives P β (st.look fr) w o a d := by
  have hv := chkArg_vr hx h.regs
  unfold entryD at he
  split at he
  · rename_i key z hq
    rw [hq] at hv
    split at he
    · rename_i z' mk mz seen n hL
      split at he
      · rename_i mz' es hM
        split at he
        · rename_i hcond
          obtain ⟨rfl, rfl, hn⟩ := hcond
          split at he
          · rename_i j hj
            generalize hu : a.eval x = u at hv
            cases hv with
            | it _ _ blk hb =>
              obtain ⟨m, g1, g2⟩ := h.sim.live _ _ _ hL _ hb
              obtain ⟨ents, m1, m2, m3⟩ := h.sim.live _ _ _ hM _ g1
              cases hej : es[j]? with
              | none => rw [hej] at he; simp at he
              | some p =>
                obtain ⟨kd, vd⟩ := p
                rw [hej] at he
                simp at he
                subst he
                obtain ⟨ent, e1, e2, e3, e4⟩ := m3 j kd vd hej
                have hfind : ents.find? (·.born == j) = some ent := by
                  have hjl : j < ents.size := (Array.getElem?_eq_some_iff.1 e1).1
                  rw [Array.find?_eq_some_iff_getElem]
                  refine ⟨by simp [e2], j, hjl, (Array.getElem?_eq_some_iff.1 e1).2, fun q hq => ?_⟩
                  have hql : q < es.length := by rw [← m2]; omega
                  obtain ⟨ent', f1, f2, _⟩ := m3 q (es[q]'hql).1 (es[q]'hql).2 (by rw [List.getElem?_eq_getElem hql])
                  have : ents[q] = ent' := (Array.getElem?_eq_some_iff.1 f1).2
                  rw [this, f2]
                  simp; omega
                refine Gives.here h.sim (s := Instr.entry (a.eval x)) (by unfold execOp; rw [ho]) (v := .tuple #[ent.key, ent.val]) ?_ (.t _ [ent.key, ent.val] rfl (fun q d' v' h1 h2 => ?_))
                · rw [hu]
                  have hb' : seen.toArray.back? = some j := by simpa using hj
                  simp only [Instr.entry, Sem.run_bind, runM_getIter g2, Result.andThen_ok, hb', runM_getObj m1, hn, bne_self_eq_false, Bool.false_eq_true, if_false, Sem.run_pure, hfind]
                · match q with
                  | 0 => simp at h1 h2; subst h1 h2; exact e3
                  | 1 => simp at h1 h2; subst h1 h2; exact e4
                  | q + 2 => simp at h1
          · simp at he
        · simp at he
      · simp at he
    · simp at he
  · simp at he
def nextO (fr : Nat) (st : St) (dst s : Nat) (K : St → Prop) : Prop := match st.r s with
  | .it key z => match st.look fr key with
    | some (z', .iter mk mz seen n) => match st.look fr mk with
      | some (mz', .map es) => z = z' ∧ mz = mz' ∧ es.length = n ∧
         (∀ j kd vd, es[j]? = some (kd, vd) → j ∉ seen → K ((st.set fr key (some (z, .iter mk mz (seen ++ [j]) n))).put (some dst) (.t [.b true, kd, vd]))) ∧
         ((∀ j, j < n → j ∈ seen) → K (st.put (some dst) (.t [.b false])))
      | _ => False
    | _ => False
  | _ => False
theorem nextO_mono {d s : Nat} {K K' : St → Prop} (h : nextO fr st d s K) (hk : ∀ s, K s → K' s) : nextO fr st d s K' := by
  unfold nextO at h ⊢
  split at h
  · split at h
    · split at h
      · exact ⟨h.1, h.2.1, h.2.2.1, fun j kd vd h1 h2 => hk _ (h.2.2.2.1 j kd vd h1 h2), fun h1 => hk _ (h.2.2.2.2 h1)⟩
      · exact h.elim
    · exact h.elim
  · exact h.elim
theorem nextO_fin {d s : Nat} {K : St → Prop} (h : nextO fr st d s K) : ∃ l : List St, (∀ s ∈ l, K s) ∧ ∀ K' : St → Prop, (∀ s ∈ l, K' s) → nextO fr st d s K' := by
  unfold nextO at h ⊢
  split at h
  · rename_i key z hq
    split at h
    · rename_i z' mk mz seen n hL
      split at h
      · rename_i mz' es hM
        obtain ⟨h1, h2, h3, h4, h5⟩ := h
        refine ⟨((List.range n).filter (fun j => decide (j ∉ seen))).filterMap (fun j => (es[j]?).map fun p => (st.set fr key (some (z, .iter mk mz (seen ++ [j]) n))).put (some d) (.t [.b true, p.1, p.2])) ++
          (if ∀ j, j < n → j ∈ seen then [st.put (some d) (.t [.b false])] else []), fun s hs => ?_, fun K' hk => ⟨h1, h2, h3, fun j kd vd e1 e2 => hk _ ?_, fun h6 => hk _ ?_⟩⟩
        · rcases List.mem_append.1 hs with hs | hs
          · obtain ⟨j, hj, he⟩ := List.mem_filterMap.1 hs
            cases hej : es[j]? with
            | none => rw [hej] at he; simp at he
            | some p =>
              rw [hej] at he
              simp at he
              subst he
              have := (List.mem_filter.1 hj).2
              exact h4 j p.1 p.2 hej (by simpa using this)
          · split at hs
            · rename_i h6
              simp at hs
              subst hs
              exact h5 h6
            · simp at hs
        · refine List.mem_append_left _ (List.mem_filterMap.2 ⟨j, List.mem_filter.2 ⟨?_, by simpa using e2⟩, by rw [e1]; rfl⟩)
          have := (List.getElem?_eq_some_iff.1 e1).1
          rw [List.mem_range]; omega
        · rw [if_pos h6]; simp
      · exact h.elim
    · exact h.elim
  · exact h.elim
theorem run_pick (n : Nat) (hn : 0 < n) : ∃ c w2, (choose (.mapNext n)).run P w = .ok c w2 ∧ c < n ∧ (w2 = w ∨ w2 = w.drew) := by
  rw [run_choose_drew]
  by_cases h : (Question.mapNext n).forced
  · rw [if_pos h]; exact ⟨0, w, rfl, hn, .inl rfl⟩
  · rw [if_neg h]; exact ⟨_, w.drew, rfl, Nat.mod_lt _ hn, .inr rfl⟩
theorem sound_next (h : Rel N fr st β a w) {s d : Nat} (ho : o.op = .next (.tmp s) false) (hdst : o.dst = some d) (hdN : d < N) (hA : nextO fr st d s K) : o.wp P a w (Post N fr K β (st.look fr) w) Q := by
  unfold nextO at hA
  split at hA
  · rename_i key z hq
    have hv := h.regs s
    rw [hq] at hv
    split at hA
    · rename_i z' mk mz seen n hL
      split at hA
      · rename_i mz' es hM
        obtain ⟨rfl, rfl, hn, hA1, hA2⟩ := hA
        generalize hu : a.tmps.getD s undef = u at hv
        cases hv with
        | it _ _ blk hb =>
          obtain ⟨m, g1, g2⟩ := h.sim.live _ _ _ hL _ hb
          obtain ⟨ents, m1, m2, m3⟩ := h.sim.live _ _ _ hM _ g1
          have hborn : ∀ e ∈ ents, ∃ j kd vd, es[j]? = some (kd, vd) ∧ ents[j]? = some e ∧ e.born = j ∧ VR w (okOf β (st.look fr) w) β kd e.key ∧ VR w (okOf β (st.look fr) w) β vd e.val := by
            intro e he
            obtain ⟨j, hj, rfl⟩ := Array.mem_iff_getElem.1 he
            have hjl : j < es.length := by omega
            obtain ⟨ent, e1, e2, e3, e4⟩ := m3 j (es[j]'hjl).1 (es[j]'hjl).2 (by rw [List.getElem?_eq_getElem hjl])
            have : ents[j] = ent := (Array.getElem?_eq_some_iff.1 e1).2
            rw [this]
            exact ⟨j, _, _, by rw [List.getElem?_eq_getElem hjl], e1, e2, e3, e4⟩
          have hgone : (!seen.toArray.isEmpty && !ents.isEmpty && ents.all (fun e => decide (e.born ≥ n))) = false := by
            cases hc : ents.isEmpty with
            | true => simp
            | false =>
              have h0 : 0 < ents.size := by
                rcases Nat.eq_zero_or_pos ents.size with h0 | h0
                · have := Array.eq_empty_of_size_eq_zero h0; rw [this] at hc; simp at hc
                · exact h0
              have : ents.all (fun e => decide (e.born ≥ n)) = false := by
                rw [Array.all_eq_false]
                obtain ⟨j, kd, vd, k1, k2, k3, _⟩ := hborn ents[0] (Array.getElem_mem _)
                have := (List.getElem?_eq_some_iff.1 k1).1
                exact ⟨0, h0, by simp; omega⟩
              simp [this]
          obtain ⟨left, hlf⟩ : ∃ l, ents.filter (fun e => !seen.toArray.contains e.born) = l := ⟨_, rfl⟩
          have hleft : ∀ e ∈ left, e ∈ ents ∧ e.born ∉ seen := by
            intro e he
            rw [← hlf] at he
            have := Array.mem_filter.1 he
            exact ⟨this.1, by simpa using this.2⟩
          have hold : left.filter (fun e => decide (e.born < n)) = left := by
            apply Array.filter_eq_self.2
            intro e he
            obtain ⟨j, kd, vd, k1, k2, k3, _⟩ := hborn e (hleft e he).1
            have := (List.getElem?_eq_some_iff.1 k1).1
            simp; omega
          have hnew : left.filter (fun e => decide (e.born ≥ n)) = #[] := by
            apply Array.filter_eq_empty_iff.2
            intro e he
            obtain ⟨j, kd, vd, k1, k2, k3, _⟩ := hborn e (hleft e he).1
            have := (List.getElem?_eq_some_iff.1 k1).1
            simp; omega
          obtain ⟨cand, hcd⟩ : ∃ l : Array (Option MapEntry), ((if left.isEmpty = true then #[none] else #[]) ++ (left ++ #[]).map some) = l := ⟨_, rfl⟩
          have hpos : 0 < cand.size := by
            rw [← hcd]
            cases hc : left.isEmpty with
            | true => simp; omega
            | false =>
              have : left.size ≠ 0 := by
                intro h0
                have := Array.eq_empty_of_size_eq_zero h0
                rw [this] at hc; simp at hc
              simp; omega
          obtain ⟨c, w2, c1, c2, c3⟩ := run_pick (P := P) (w := w) cand.size hpos
          have h2 : w2.heap = w.heap := by rcases c3 with rfl | rfl <;> rfl
          have e2 : a.eval (.tmp s) = .pointer (some ⟨blk, 0, none⟩) := hu
          have hcand : cand[c]? = some cand[c] := Array.getElem?_eq_getElem c2
          have pre : ∀ (r : Result Next), (∀ x, cand[c] = some x → ((do
                setObj blk (.mapIter (some m) n (seen.toArray.push x.born) n)
                pure (.tuple #[.bool true, x.key, x.val]) : Sem Value).run P w2).andThen (fun v w' => .ok (.value v) w') = r) → (cand[c] = none → Result.ok (Next.value (.tuple #[.bool false])) w2 = r) → (execOp a.eval o).run P w = r := by
            intro r r1 r2
            unfold execOp
            rw [ho]
            simp only [e2, Instr.next, Sem.run_bind, runM_getIter g2, Result.andThen_ok, runM_getObj m1, hn, hgone, Bool.false_eq_true, if_false, Sem.run_pure]
            rw [hlf, hold, hnew, hcd, c1]
            simp only [Result.andThen_ok, hcand]
            cases hx : cand[c] with
            | none => rw [← r2 hx]; rfl
            | some x =>
              rw [← r1 x hx]
          have hmem : cand[c] ∈ cand := Array.getElem_mem _
          cases hx : cand[c] with
          | none =>
            have hall : ∀ j, j < n → j ∈ seen := by
              have he : left.isEmpty = true := by
                rw [hx, ← hcd] at hmem
                cases hc : left.isEmpty with
                | true => rfl
                | false => rw [hc] at hmem; simp at hmem
              have hle : left = #[] := by simpa using he
              intro j hj
              obtain ⟨ent, f1, f2, _⟩ := m3 j (es[j]'(by omega)).1 (es[j]'(by omega)).2 (by rw [List.getElem?_eq_getElem (by omega)])
              rw [← hlf] at hle
              have h4 := Array.filter_eq_empty_iff.1 hle ent (Array.mem_of_getElem? f1)
              have h5 : ent.born ∈ seen := by simpa using h4
              rw [f2] at h5; exact h5
            refine wp_value (v := .tuple #[.bool false]) (w' := w2) (pre _ (fun x e => by rw [hx] at e; cases e) (fun _ => rfl)) ?_
            have hR2 : Rel N fr st β a w2 ∧ Trans β (st.look fr) w β (st.look fr) w2 := by
              rcases c3 with rfl | rfl
              · exact ⟨h, .refl _ _ _⟩
              · exact ⟨h.drew, .drew _ _ _⟩
            refine ⟨_, β, hA2 hall, ?_, by rw [look_put]; exact hR2.2⟩
            rw [hdst]
            exact hR2.1.put (fun s' hs' => by injection hs' with hs'; omega) (.t _ [.bool false] rfl (fun q d' v' h1 h2 => by
              match q with
              | 0 => simp at h1 h2; subst h1 h2; exact .b _
              | q + 1 => simp at h1))
          | some x =>
            have hxl : x ∈ left := by
              rw [hx, ← hcd] at hmem
              cases hc : left.isEmpty with
              | true =>
                have hle : left = #[] := by simpa using hc
                rw [hle] at hmem
                simp at hmem
              | false => rw [hc] at hmem; simpa using hmem
            obtain ⟨hxe, hxs⟩ := hleft x hxl
            obtain ⟨j, kd, vd, k1, k2, k3, k4, k5⟩ := hborn x hxe
            rw [k3] at hxs
            have hlow := h.sim.low _ _ _ hb
            let w' : World := { w2 with heap := w2.heap.setIfInBounds blk (.mapIter (some m) n (seen.toArray.push x.born) n) }
            have g2' : w2.heap[blk]? = some (.mapIter (some m) n seen.toArray n) := by rw [h2]; exact g2
            have hnw : w'.heap[blk]? = some (.mapIter (some m) n (seen ++ [j]).toArray n) := by simp [w', h2, hlow, k3]
            obtain ⟨hT, hS⟩ := write_obj (w' := w') h.sim (o' := .iter mk mz (seen ++ [j]) n) hL (by simp) hb (by simp [w', h2]) (by rcases c3 with rfl | rfl <;> rfl) (by rcases c3 with rfl | rfl; exact .same rfl rfl; exact ⟨rfl, Nat.le_succ _⟩) (by rcases c3 with rfl | rfl <;> rfl)
              (fun y hy => by simp [w', h2, Array.getElem?_setIfInBounds, Ne.symm hy]) (fun vs e' hv' => by rw [g2] at hv'; cases hv')
              (fun hvr => ⟨m, g1, hnw⟩)
            have hR := h.write hL hT hS
            have hT' := hT
            rw [← look_set] at hT'
            refine wp_value (v := .tuple #[.bool true, x.key, x.val]) (w' := w') (pre _ (fun y e => ?_) (fun e => by rw [hx] at e; cases e)) ?_
            · rw [hx] at e
              injection e with e
              subst e
              simp only [Sem.run_bind, runM_setIter _ g2', Result.andThen_ok, Sem.run_pure]
              rfl
            · refine ⟨_, β, hA1 j kd vd k1 hxs, ?_, by rw [look_put]; exact hT'⟩
              rw [hdst]
              exact hR.put (fun s' hs' => by injection hs' with hs'; omega) (.t _ [.bool true, x.key, x.val] rfl (fun q d' v' h1 h2 => by
                match q with
                | 0 => simp at h1 h2; subst h1 h2; exact .b _
                | 1 => simp at h1 h2; subst h1 h2; exact hT'.vr k4
                | 2 => simp at h1 h2; subst h1 h2; exact hT'.vr k5
                | q + 3 => simp at h1))
      · exact hA.elim
    · exact hA.elim
  · exact hA.elim
theorem sound_mkmap (h : Rel N fr st β a w) {t : TypeId} (ho : o.op = .makeMap t none) (hd : ∀ s, o.dst = some s → s < N) (hA : opA P fr .mkmap o.dst st K) : o.wp P a w (Post N fr K β (st.look fr) w) Q := by
  simp only [opA] at hA
  split at hA
  · rename_i s hs
    obtain ⟨hn, hk⟩ := hA
    refine sound_new h (by rw [hn]; simp) (ob := .map #[] 0) (v := .map (some w.heap.size)) w (.inl rfl) (fun ok' β' w' hvr hw => ?_) (fun ok' β' w' hb hw => .m _ _ _ hb) hd hs ?_ hk
    · exact ⟨#[], hw, rfl, by simp⟩
    · unfold execOp
      rw [ho]
      simp [Instr.makeMap]
  · exact hA.elim
theorem sound_range (h : Rel N fr st β a w) {t : TypeId} {x : Operand} {y : Arg} (ho : o.op = .range t x) (hc : chkS P o.op (.range y) = true) (hd : ∀ s, o.dst = some s → s < N) (hA : opA P fr (.range y) o.dst st K) : o.wp P a w (Post N fr K β (st.look fr) w) Q := by
  rw [ho] at hc
  simp only [chkS, Bool.and_eq_true] at hc
  obtain ⟨hx, ht⟩ := hc
  split at ht
  · rename_i kt et hty
    simp only [opA] at hA
    split at hA
    · rename_i s key z hs hy
      split at hA
      · rename_i z' es hL
        obtain ⟨rfl, hn, hk⟩ := hA
        have hv := chkArg_vr hx h.regs
        rw [hy] at hv
        generalize hu : a.eval x = u at hv
        cases hv with
        | m _ _ blk hb =>
          obtain ⟨ents, g1, g2, g3⟩ := h.sim.live _ _ _ hL _ hb
          have hm0 : VR w (okOf β (st.look fr) w) β (.m key z) (.map (some blk)) := .m _ _ _ hb
          refine sound_new h (by rw [hn]; simp) (ob := .mapIter (some blk) es.length #[] es.length) (v := .pointer (some ⟨w.heap.size, 0, none⟩)) w (.inl rfl) (fun ok' β' w' hvr hw => ?_) (fun ok' β' w' hb hw => .it _ _ _ hb) hd hs ?_ hk
          · have := hvr _ _ hm0
            cases this with
            | m _ _ _ hb' => exact ⟨blk, hb', hw⟩
          · unfold execOp
            rw [ho]
            simp [Instr.range, run_underlying hty, hu, runM_getObj g1]
      · exact hA.elim
    · exact hA.elim
  · simp at ht
theorem sound_mapset (h : Rel N fr st β a w) {t : TypeId} {m k v : Operand} {len : Nat} {m' k' v' : Arg} (ho : o.op = .mapUpdate t m k v) (hdst : o.dst = none) (hc : chkS P o.op (.mapset len m' k' v') = true) (hA : opA P fr (.mapset len m' k' v') o.dst st K) : o.wp P a w (Post N fr K β (st.look fr) w) Q := by
  rw [ho] at hc
  simp only [chkS, Bool.and_eq_true] at hc
  obtain ⟨⟨⟨hx, hki⟩, hvi⟩, hmp⟩ := hc
  obtain ⟨key, el, e, k0, ht, hk, hk0, hs, hag⟩ := chkMap_spec hmp
  simp only [opA] at hA
  split at hA
  · rename_i ky z hy
    split at hA
    · rename_i z' es hL
      obtain ⟨rfl, hkk, hA⟩ := hA
      split at hA
      · rename_i es' hput
        have hv := chkArg_vr hx h.regs
        have hvk := chkArg_vr hki h.regs
        have hvv := chkArg_vr hvi h.regs
        rw [hy] at hv
        generalize hu : a.eval m = u at hv
        cases hv with
        | m _ _ blk hb =>
          obtain ⟨ents, g1, g2, g3⟩ := h.sim.live _ _ _ hL _ hb
          have hlow := h.sim.low _ _ _ hb
          obtain ⟨r, hf⟩ := mput_find 0 hput
          obtain ⟨q, q1, q2⟩ := findKey_run (P := P) hk hk0 hs hag hvk es ents.toList r hf (by simpa using g2) (fun j kd vd hj => by
            obtain ⟨ent, e1, e2, e3, e4⟩ := g3 j kd vd hj
            exact ⟨ent, by simpa using e1, e3, e4⟩)
          have hck := checkKey_run (P := P) false hk hk0 hs hag hvk hkk
          have fin : ∀ (ents' : Array MapEntry) (c : Nat), (Instr.mapUpdate t (.map (some blk)) (a.eval k) (a.eval v)).run P w = .ok () { w with heap := w.heap.setIfInBounds blk (.map ents' c) } → c = es'.length → ents'.size = es'.length →
              (∀ (j : Nat) (kd vd : D), es'[j]? = some (kd, vd) → ∃ ent : MapEntry, ents'[j]? = some ent ∧ ent.born = j ∧ VR w (okOf β (st.look fr) w) β kd ent.key ∧ VR w (okOf β (st.look fr) w) β vd ent.val) →
              o.wp P a w (Post N fr K β (st.look fr) w) Q := by
            intro ents' c hrun hcl hel hents
            let w' : World := { w with heap := w.heap.setIfInBounds blk (.map ents' c) }
            have hnew : w'.heap[blk]? = some (.map ents' c) := by simp [w', hlow]
            obtain ⟨hT, hS⟩ := write_obj (w' := w') h.sim (o' := .map es') hL (by simp) hb (by simp [w']) rfl (.same rfl rfl) rfl (fun y hy => by simp [w', Array.getElem?_setIfInBounds, Ne.symm hy]) (fun vs e' hv' => by rw [g1] at hv'; cases hv')
              (fun hvr => ⟨ents', by rw [hnew, hcl], hel, fun j kd vd hj => by
                obtain ⟨ent, e1, e2, e3, e4⟩ := hents j kd vd hj
                exact ⟨ent, e1, e2, hvr _ _ e3, hvr _ _ e4⟩⟩)
            refine wp_skip' (w' := w') ?_ ⟨_, β, hA, ?_, by rw [look_set]; exact hT⟩
            · unfold execOp
              rw [ho]
              simp only [hu, Sem.run_bind, hrun, Result.andThen_ok]
              rfl
            · rw [hdst]; exact h.write hL hT hS
          cases r with
          | none =>
            simp only [] at q2
            subst q2
            have hes' := mput_none hf hput
            refine fin (ents.push { key := a.eval k, val := a.eval v, born := es.length }) (es.length + 1) ?_ (by simp [hes']) (by simp [hes', g2]) (fun j kd vd hj => ?_)
            · unfold Instr.mapUpdate
              simp only [Sem.run_bind, run_underlying ht, Result.andThen_ok, runM_getObj g1, hck, q1, runM_setMap _ g1]
            · rw [hes'] at hj
              by_cases hjl : j < es.length
              · rw [List.getElem?_append_left hjl] at hj
                obtain ⟨ent, e1, e2, e3, e4⟩ := g3 j kd vd hj
                refine ⟨ent, ?_, e2, e3, e4⟩
                rw [Array.getElem?_push, if_neg (by omega)]; exact e1
              · rw [List.getElem?_append_right (by omega)] at hj
                have hj0 : j = es.length := by
                  have := (List.getElem?_eq_some_iff.1 hj).1
                  simp at this; omega
                subst hj0
                simp at hj
                obtain ⟨rfl, rfl⟩ := hj
                exact ⟨_, by rw [Array.getElem?_push, if_pos g2.symm], rfl, hvk, hvv⟩
          | some p =>
            obtain ⟨j0, vd0⟩ := p
            obtain ⟨v1, ent0, e1, e2, e3, e4, kd0, e5, e6⟩ := q2
            subst e1
            obtain ⟨_, hes'⟩ := mput_some hf hput
            rw [Nat.sub_zero] at hes'
            have hj0 : j0 < es.length := (List.getElem?_eq_some_iff.1 e5).1
            have e2' : ents[j0]? = some ent0 := by simpa using e2
            obtain ⟨entj, f1, f2, f3, f4⟩ := g3 j0 kd0 vd0 e5
            rw [e2'] at f1
            injection f1 with f1
            subst f1
            have hst := keyStays_run (P := P) (w := w) hvk f3 e6
            refine fin (ents.modify j0 fun e => { e with key := a.eval k, val := a.eval v }) es.length ?_ (by simp [hes']) (by simp [hes', g2]) (fun j kd vd hj => ?_)
            · unfold Instr.mapUpdate
              simp only [Sem.run_bind, run_underlying ht, Result.andThen_ok, runM_getObj g1, hck, q1, e2', Option.map_some, Option.getD_some, hst, runM_setMap _ g1]
            · rw [hes'] at hj
              by_cases hjj : j0 = j
              · subst hjj
                rw [List.getElem?_set_self hj0] at hj
                simp at hj
                obtain ⟨rfl, rfl⟩ := hj
                refine ⟨{ ent0 with key := a.eval k, val := a.eval v }, by simp [Array.getElem?_modify, e2'], f2, hvk, hvv⟩
              · rw [List.getElem?_set_ne hjj] at hj
                obtain ⟨ent, e1, e2, e3, e4⟩ := g3 j kd vd hj
                exact ⟨ent, by simp [Array.getElem?_modify, hjj, e1], e2, e3, e4⟩
      · exact hA.elim
    · exact hA.elim
  · exact hA.elim
end
section
variable {P : Program} {w : World} {β : BMap} {N fr : Nat} {st : St} {a : Act} {o : Oper} {K : St → Prop} {Q : Exit → Act → World → Prop}
def isStore : IOp → Bool
  | .store .. => true
  | .mapset .. => true
  | _ => false
def IOp.calm : IOp → Bool
  | .alloc _ | .box _ | .store .. | .mk .. | .app .. | .cpy .. | .call .. | .callv .. | .callR .. | .callvR .. | .callN .. | .mkmap | .mapset .. | .range _ => false
  | _ => true
theorem chkOp_calm {op : Op} {x : IOp} (h : chkOp P op x = true) : x.calm = true := by
  unfold chkOp at h
  split at h <;> first | (simp at h; done) | rfl
theorem opA_calm {x : IOp} {dst : Option Nat} (hx : x.calm = true)
    (h : opA P fr x dst st K) : ∃ d, ev (st.look fr) st.r x = some d ∧ K (st.put dst d) := by
  cases x <;> first
    | (simp [IOp.calm] at hx; done)
    | (simp only [opA] at h
       split at h
       · rename_i d hd; exact ⟨d, hd, h⟩
       · exact h.elim)
theorem opA_sound {x : IOp} (h : Rel N fr st β a w) (hc : chkS P o.op x = true) (hst : isStore x = true → o.dst = none) (hd : ∀ s, o.dst = some s → s < N) (hA : opA P fr x o.dst st K) :
    o.wp P a w (Post N fr K β (st.look fr) w) Q := by
  have callf : ∀ {f args tys} {args' : List Arg}, o.op = .call { callee := .value (.func f), args := args, argTypes := tys } → eqAll P args.toList args' = true → opCall P fr f (args'.map (·.get st.r)) o.dst st K → o.wp P a w (Post N fr K β (st.look fr) w) Q := by
    intro f args tys args' ho hargs hA
    obtain ⟨e1, e2⟩ := eqAll_vr (P := P) h.regs hargs
    refine sound_call h (vals := args.toList.map a.eval) (args := args'.map (·.get st.r)) (by simp [e1]) e2 ?_ hd hA
    unfold execOp
    rw [ho]
    simp [resolve, Deferred.ofValue, invoke, Act.eval]
    congr 2
    apply Array.ext'
    simp
  have calln : ∀ {f args tys} {args' : List Arg}, o.op = .call { callee := .value (.func f), args := args, argTypes := tys } → eqAll P args.toList args' = true → opCallN P fr f (args'.map (·.get st.r)) o.dst st K → o.wp P a w (Post N fr K β (st.look fr) w) Q := by
    intro f args tys args' ho hargs hA
    obtain ⟨e1, e2⟩ := eqAll_vr (P := P) h.regs hargs
    refine sound_callN h (vals := args.toList.map a.eval) (args := args'.map (·.get st.r)) (by simp [e1]) e2 ?_ hd hA
    unfold execOp
    rw [ho]
    simp [resolve, Deferred.ofValue, invoke, Act.eval]
    congr 2
    apply Array.ext'
    simp
  have callx : ∀ {x args tys} {y : Arg} {args' : List Arg}, o.op = .call { callee := .value x, args := args, argTypes := tys } → chkArg x y = true → eqAll P args.toList args' = true →
      (match y.get st.r with | .f g first cap => opCall P fr g (first ++ args'.map (·.get st.r) ++ cap) o.dst st K | _ => False) → o.wp P a w (Post N fr K β (st.look fr) w) Q := by
    intro x args tys y args' ho hx hargs hA
    obtain ⟨e1, e2⟩ := eqAll_vr (P := P) h.regs hargs
    have hv := chkArg_vr hx h.regs
    split at hA
    · rename_i g first cap hq
      rw [hq] at hv
      generalize hu : a.eval x = u at hv
      cases hv with
      | f _ _ _ fs cs hl1 hl2 h1 h2 =>
        refine sound_call h (vals := fs ++ args.toList.map a.eval ++ cs) (args := first ++ args'.map (·.get st.r) ++ cap) (by simp [e1, hl1, hl2]) (fun j d v hj hv => ?_) ?_ hd hA
        · have hl3 : (args'.map (·.get st.r)).length = (args.toList.map a.eval).length := by simp [e1]
          rw [List.append_assoc] at hj hv
          by_cases c1 : j < first.length
          · rw [List.getElem?_append_left c1] at hj
            rw [List.getElem?_append_left (by omega)] at hv
            exact h1 j d v hj hv
          · rw [List.getElem?_append_right (by omega)] at hj
            rw [List.getElem?_append_right (by omega), ← hl1] at hv
            by_cases c2 : j - first.length < (args'.map (·.get st.r)).length
            · rw [List.getElem?_append_left c2] at hj
              rw [List.getElem?_append_left (by omega)] at hv
              exact e2 _ d v hj hv
            · rw [List.getElem?_append_right (by omega)] at hj
              rw [List.getElem?_append_right (by omega), ← hl3] at hv
              exact h2 _ d v hj hv
        · unfold execOp
          rw [ho]
          simp [resolve, Deferred.ofValue, invoke, hu]
          congr 2
          apply Array.ext'
          simp
    · exact hA.elim
  generalize ho : o.op = op at hc
  have hc0 := hc
  unfold chkS at hc
  split at hc
  · exact sound_alloc h ho (by rw [ho]; exact hc0) hd hA
  · exact sound_box h ho hc hd hA
  · exact sound_store h ho (hst rfl) (by rw [ho]; exact hc0) hA
  · exact sound_mk h ho (by rw [ho]; exact hc0) hd hA
  · exact sound_app h ho (by rw [ho]; exact hc0) hd hA
  · exact sound_cpy h ho (by rw [ho]; exact hc0) hd hA
  · rename_i f args tys g args'
    simp only [Bool.and_eq_true, beq_iff_eq] at hc
    obtain ⟨rfl, hargs⟩ := hc
    exact callf ho hargs (by unfold opA at hA; obtain ⟨d, h1, h2⟩ := hA; exact ⟨[], d, h1, by simp, by simp, h2⟩)
  · rename_i f args tys g args'
    simp only [Bool.and_eq_true, beq_iff_eq] at hc
    obtain ⟨rfl, hargs⟩ := hc
    exact callf ho hargs (by unfold opA at hA; exact hA)
  · rename_i f args tys g args'
    simp only [Bool.and_eq_true, beq_iff_eq] at hc
    obtain ⟨rfl, hargs⟩ := hc
    exact calln ho hargs (by unfold opA at hA; exact hA)
  · rename_i x args tys y args'
    simp only [Bool.and_eq_true] at hc
    refine callx ho hc.1 hc.2 ?_
    unfold opA at hA
    exact hA
  · rename_i x args tys y args'
    simp only [Bool.and_eq_true] at hc
    refine callx ho hc.1 hc.2 ?_
    unfold opA at hA
    simp only [] at hA
    generalize y.get st.r = q at hA ⊢
    cases q with
    | f g first cap =>
      obtain ⟨d, h1, h2⟩ := hA
      exact ⟨[], d, h1, by simp, by simp, h2⟩
    | _ => exact hA.elim
  · exact sound_mkmap h ho hd hA
  · obtain ⟨d, g1, g2⟩ := opA_calm (by rfl) hA
    exact sound_ev h (ev_entry h ho hc g1) hd g2
  · exact sound_mapset h ho (hst rfl) (by rw [ho]; exact hc0) hA
  · exact sound_range h ho (by rw [ho]; exact hc0) hd hA
  · rename_i t x i ok len vz agg ok' m k
    simp only [Bool.and_eq_true, beq_iff_eq] at hc
    obtain ⟨⟨⟨⟨h1, h2⟩, rfl⟩, h3⟩, h4⟩ := hc
    obtain ⟨d, g1, g2⟩ := opA_calm (by rfl) hA
    exact sound_ev h (ev_mapget h ho h1 h2 h3 h4 g1) hd g2
  · obtain ⟨d, h1, h2⟩ := opA_calm (chkOp_calm hc) hA
    exact sound_ev h (ev_sound h (by rw [ho]; exact hc) h1) hd h2
end
structure ROp where
  dst : Option Nat
  op : IOp
  g : Option (Nat × Bool)
  ix : Nat := 0
  deriving Inhabited
def oD (d : Nat) (op : IOp) (ix : Nat) : ROp := ⟨some d, op, none, ix⟩
def oN (op : IOp) (ix : Nat) : ROp := ⟨none, op, none, ix⟩
def oT (d : Nat) (op : IOp) (s ix : Nat) : ROp := ⟨some d, op, some (s, true), ix⟩
def oF (d : Nat) (op : IOp) (s ix : Nat) : ROp := ⟨some d, op, some (s, false), ix⟩
inductive Ex where
  | normal
  | exit (id : Nat)
  | ret
inductive IR where
  | skip
  | reg (ops two : List ROp) (kr ks : List Nat)
  | seq (a b : IR)
  | cond (c : Arg) (a b : IR)
  | block (id : Nat) (b : IR)
  | loop (kr ks : List Nat) (b : IR)
  | exit (id : Nat)
  | ret
  | frz (s : Nat) (b : IR)
  | nxt (dst s : Nat) (ops : List ROp) (kr ks : List Nat)
  deriving Inhabited
def rst (r : Regs) : List Nat → Regs
  | [] => fun _ => .u
  | s :: l => upd (rst r l) s (r s)
def rstO (own : Nat → Option (Nat × Obj)) : List Nat → Nat → Option (Nat × Obj)
  | [] => fun _ => none
  | s :: l => upd (rstO own l) s (own s)
def St.restrict (kr ks : List Nat) (st : St) : St := { r := rst st.r kr, own := rstO st.own ks, out := st.out, nx := st.nx + 1 }
def freeze (fr s : Nat) (st : St) : Option St := match st.r s with
  | .w key z sz lo len => match st.look fr key with
    | some (z', .row sz' es) => if z = z' ∧ sz = sz' ∧ lo + len ≤ es.length then some { (st.set fr key none) with r := upd st.r s (.sl sz false ((es.drop lo).take len)), nx := st.nx + 1 } else none
    | _ => none
  | .p key z off => match st.look fr key with
    | some (z', .box cs) => if z = z' then some { (st.set fr key none) with r := upd st.r s (.q (cs.drop off)), nx := st.nx + 1 } else none
    | _ => none
  | _ => some st
def opG (P : Program) (fr : Nat) (o : ROp) (st : St) (K : St → Prop) : Prop := match o.g with
  | none => opA P fr o.op o.dst st K
  | some (s, want) => match st.r s with
    | .b v => if v = want then opA P fr o.op o.dst st K else K (st.put o.dst (.t []))
    | .t [] => K (st.put o.dst (.t []))
    | _ => False
def wpOpsA (P : Program) (fr : Nat) : List ROp → St → (St → Prop) → Prop
  | [], st, K => K st
  | o :: os, st, K => opG P fr o st (fun st' => wpOpsA P fr os st' K)
def wpTwo (P : Program) (fr : Nat) (ops two : List ROp) (st : St) (K : St → Prop) : Prop := match two with
  | u :: v :: post => wpOpsA P fr ops st (fun s => wpOpsA P fr (u :: v :: post) s K ∧ wpOpsA P fr (v :: u :: post) s K)
  | _ => wpOpsA P fr ops st K
def iter (kr ks : List Nat) (body : St → (Ex → St → Prop) → Prop) (Q : Ex → St → Prop) : Nat → St → Prop
  | 0, _ => False
  | n + 1, st => body st (fun e st' => match e with
    | .normal => iter kr ks body Q n (st'.restrict kr ks)
    | .exit id => Q (.exit id) st'
    | .ret => Q .ret st')
def wp (P : Program) (fr : Nat) : IR → St → (Ex → St → Prop) → Prop
  | .skip, st, Q => Q .normal st
  | .reg ops two kr ks, st, Q => wpTwo P fr ops two st (fun st' => Q .normal (st'.restrict kr ks))
  | .seq a b, st, Q => wp P fr a st (fun e st' => match e with
    | .normal => wp P fr b st' Q
    | .exit id => Q (.exit id) st'
    | .ret => Q .ret st')
  | .cond c a b, st, Q => match c.get st.r with
    | .b v => if v = true then wp P fr a st Q else wp P fr b st Q
    | .ub => wp P fr a st Q ∧ wp P fr b st Q
    | _ => False
  | .block id b, st, Q => wp P fr b st (fun e st' => match e with
    | .normal => Q .normal st'
    | .exit id' => if id' = id then Q .normal st' else Q (.exit id') st'
    | .ret => Q .ret st')
  | .loop kr ks b, st, Q => ∃ n, iter kr ks (wp P fr b) Q n (st.restrict kr ks)
  | .exit id, st, Q => Q (.exit id) st
  | .ret, st, Q => Q .ret st
  | .frz s b, st, Q => match freeze fr s st with
    | some st' => wp P fr b st' Q
    | none => False
  | .nxt d s ops kr ks, st, Q => nextO fr st d s (fun st' => wpOpsA P fr ops st' (fun s' => Q .normal (s'.restrict kr ks)))
section
variable {P : Program} {w : World} {β : BMap} {N fr : Nat} {st : St} {a : Act} {Q : Ex → St → Prop}
theorem weaken_trans (h : Rel N fr st β a w) {st' : St} (hl : ∀ k v, st'.look fr k = some v → st.look fr k = some v) : Trans β (st.look fr) w β (st'.look fr) w ∧ Sim β (st'.look fr) w := by
  have hT : Trans β (st.look fr) w β (st'.look fr) w := ⟨.refl β, rfl, .refl w, rfl, Nat.le_refl _, fun x hx => ⟨⟨hx.1, fun k s o hk hb => hx.2 k s o (hl _ _ hk) hb⟩, rfl⟩, .refl β w⟩
  exact ⟨hT, ⟨fun k s o k' s' o' x hk hk' => h.sim.inj _ _ _ _ _ _ _ (hl _ _ hk) (hl _ _ hk'), fun k s o hk x hb => Match.mono (fun d v hv => hT.vr hv) (.refl β) rfl (h.sim.live k s o (hl _ _ hk) x hb), h.sim.low,
    fun k s o hk => h.sim.tot k s o (hl _ _ hk)⟩⟩
theorem weaken_rel (h : Rel N fr st β a w) {st' : St} (hnx : st'.nx = st.nx + 1) (hl : ∀ k v, st'.look fr k = some v → st.look fr k = some v) (hr : ∀ s, VR w (okOf β (st'.look fr) w) β (st'.r s) (a.tmps.getD s undef)) : Rel N fr st' β a w :=
  ⟨h.size, h.defers, hr, (weaken_trans h hl).2, fun k s x hb => by
    obtain ⟨h1, h2⟩ := h.fresh k s x hb
    refine ⟨h1, fun hk => ?_⟩
    have := (h2 hk).1
    rw [hnx]
    exact ⟨by omega, fun hs => by omega⟩⟩
theorem rst_or (r : Regs) : ∀ (l : List Nat) (s : Nat), rst r l s = r s ∨ rst r l s = .u
  | [], s => .inr rfl
  | t :: l, s => by
    simp only [rst, upd]
    split
    · rename_i h; subst h; exact .inl rfl
    · exact rst_or r l s
theorem rstO_some (own : Nat → Option (Nat × Obj)) : ∀ (l : List Nat) (s : Nat) (v : Nat × Obj), rstO own l s = some v → own s = some v
  | [], s, v, h => by simp [rstO] at h
  | t :: l, s, v, h => by
    simp only [rstO, upd] at h
    split at h
    · rename_i e; subst e; exact h
    · exact rstO_some own l s v h
theorem restrict_look (kr ks : List Nat) (k : Key) (v : Nat × Obj) (h : (st.restrict kr ks).look fr k = some v) : st.look fr k = some v := by
  simp only [St.look, St.restrict] at h ⊢
  split at h
  · rename_i hk; rw [if_pos hk]; exact rstO_some _ _ _ _ h
  · rename_i hk; rw [if_neg hk]; exact h
theorem restrict_sound (h : Rel N fr st β a w) (kr ks : List Nat) : Rel N fr (st.restrict kr ks) β a w ∧ Trans β (st.look fr) w β ((st.restrict kr ks).look fr) w := by
  have hT := (weaken_trans (st' := st.restrict kr ks) h (fun k v hk => restrict_look kr ks k v hk)).1
  refine ⟨weaken_rel h rfl (fun k v hk => restrict_look kr ks k v hk) (fun s => ?_), hT⟩
  show VR _ _ _ (rst st.r kr s) _
  rcases rst_or st.r kr s with e | e
  · rw [e]; exact hT.vr (h.regs s)
  · rw [e]; exact .u _
def cellOr (cur : Array Value) (q : Nat) : Value := match cur[q]? with
  | some v => if v.oneCell' then v else .bool true
  | none => .bool true
theorem cellOr_one (cur : Array Value) (q : Nat) : (cellOr cur q).oneCell' = true := by
  unfold cellOr
  split
  · split
    · assumption
    · rfl
  · rfl
theorem cellOr_eq {cur : Array Value} {q : Nat} {v : Value} (h : cur.toList[q]? = some v) (h1 : v.oneCell' = true) : cellOr cur q = v := by
  have : cur[q]? = some v := by simpa using h
  unfold cellOr
  rw [this]
  simp [h1]
theorem freeze_sound (h : Rel N fr st β a w) {s : Nat} {st' : St} (hf : freeze fr s st = some st') : Rel N fr st' β a w ∧ Trans β (st.look fr) w β (st'.look fr) w := by
  have common : ∀ (key : Key) (z : Nat) (ob : Obj) (d : D), st.look fr key = some (z, ob) → ob ≠ .gone → st' = { (st.set fr key none) with r := upd st.r s d, nx := st.nx + 1 } →
      (∀ blk, β key z = some blk → okOf β (st'.look fr) w blk → Match w (okOf β (st'.look fr) w) β blk ob → VR w (okOf β (st'.look fr) w) β d (a.tmps.getD s undef)) →
      Rel N fr st' β a w ∧ Trans β (st.look fr) w β (st'.look fr) w := by
    intro key z ob d hk hog hst hv
    have hlk : st'.look fr = updK (st.look fr) key none := by
      rw [hst]
      exact look_set fr st key none
    have hl : ∀ k v, st'.look fr k = some v → st.look fr k = some v := by
      intro k v hkv
      rw [hlk] at hkv
      unfold updK at hkv
      split at hkv
      · cases hkv
      · exact hkv
    have hT := (weaken_trans (st' := st') h hl).1
    obtain ⟨blk, hb⟩ := h.sim.tot _ _ _ hk
    have hok : okOf β (st'.look fr) w blk := by
      refine ⟨h.sim.low _ _ _ hb, fun k z' o h1 h2 h3 => ?_⟩
      have hke := h.sim.inj _ _ _ _ _ _ _ (hl _ _ h1) hk h2 hog h3 hb
      subst hke
      rw [hlk] at h1
      simp [updK] at h1
    refine ⟨weaken_rel h (by rw [hst]) hl (fun j => ?_), hT⟩
    have hr : st'.r = upd st.r s d := by rw [hst]
    rw [hr]
    unfold upd
    split
    · rename_i hj
      subst hj
      exact hv blk hb hok (Match.mono (fun d v hv => hT.vr hv) (.refl β) rfl (h.sim.live _ _ _ hk _ hb))
    · exact hT.vr (h.regs j)
  have hvs := h.regs s
  unfold freeze at hf
  split at hf
  · rename_i key z sz lo len hrs
    rw [hrs] at hvs
    split at hf
    · rename_i z' sz' es hL
      split at hf
      · rename_i hcond
        obtain ⟨rfl, rfl, hfit⟩ := hcond
        injection hf with hf
        refine common key z _ (.sl sz false ((es.drop lo).take len)) hL (by simp) hf.symm (fun blk hb hok hM => ?_)
        generalize hu : a.tmps.getD s undef = u at hvs
        cases hvs with
        | w _ _ _ _ _ blk' c hb' hc hm hs =>
          rw [hb] at hb'
          injection hb' with hb'
          subst hb'
          obtain ⟨cur, T, g1, g2, g3⟩ := hM
          have hlen : ((es.drop lo).take len).length = len := by simp; omega
          have hz' : ∀ e ∈ (es.drop lo).take len, e.length = sz := fun e he => g2 e (List.mem_of_mem_drop (List.mem_of_mem_take he))
          have hfl := flatten_length g2
          have hle : (lo + len) * sz ≤ es.length * sz := Nat.mul_le_mul_right _ hfit
          rw [Nat.add_mul] at hle
          have hget : ∀ q d, ((es.drop lo).take len).flatten[q]? = some d → es.flatten[lo * sz + q]? = some d := by
            intro q d hq
            rw [flatten_take len (fun e he => g2 e (List.mem_of_mem_drop he)), flatten_dropN lo g2, List.getElem?_take] at hq
            split at hq
            · rwa [List.getElem?_drop] at hq
            · simp at hq
          have := VR.sl (w := w) (ok := okOf β (st'.look fr) w) (β := β) sz false ((es.drop lo).take len) (some ⟨blk, lo * sz, none⟩) c blk (lo * sz) (fun q => cellOr cur (lo * sz + q)) (by omega) hm (by simp) hz' (fun _ => ⟨rfl, hok⟩)
            (fun q => cellOr_one _ _)
            (fun q d hq => by
              obtain ⟨v, r1, r2, r3⟩ := g3 _ d (hget q d hq)
              rw [cellOr_eq r1 r2]
              exact r3)
            (fun q hq => by
              obtain ⟨v, r1, r2, r3⟩ := g3 _ _ (hget q _ (List.getElem?_eq_getElem hq))
              rw [cellOr_eq r1 r2]
              simp only [World.cell?, g1]
              simpa using r1)
          rw [hlen] at this
          exact this
      · simp at hf
    · simp at hf
  · rename_i key z off hrs
    rw [hrs] at hvs
    split at hf
    · rename_i z' cs hL
      split at hf
      · rename_i hcond
        subst hcond
        injection hf with hf
        refine common key z _ (.q (cs.drop off)) hL (by simp) hf.symm (fun blk hb hok hM => ?_)
        generalize hu : a.tmps.getD s undef = u at hvs
        cases hvs with
        | p _ _ _ blk' hb' =>
          rw [hb] at hb'
          injection hb' with hb'
          subst hb'
          obtain ⟨cur, T, g1, g2, g3⟩ := hM
          refine .q _ blk off (fun q => cellOr cur (off + q)) hok (fun q => cellOr_one _ _) (fun q d hq => ?_) (fun q hq => ?_)
          · rw [List.getElem?_drop] at hq
            obtain ⟨v, r1, r2, r3⟩ := g3 _ d hq
            rw [cellOr_eq r1 r2]
            exact r3
          · have hq' := List.getElem?_eq_getElem hq
            rw [List.getElem?_drop] at hq'
            obtain ⟨v, r1, r2, r3⟩ := g3 _ _ hq'
            rw [cellOr_eq r1 r2]
            simp only [World.cell?, g1]
            simpa using r1
      · simp at hf
    · simp at hf
  · injection hf with hf; subst hf; exact ⟨h, .refl _ _ _⟩
def chkR (P : Program) (N : Nat) (ops : Array Oper) (o : Oper) (x : ROp) : Bool :=
  chkS P o.op x.op && o.dst == x.dst && (match o.dst with
    | some s => decide (s < N)
    | none => true) && (!isStore x.op || o.dst.isNone) && (match o.guard, x.g with
    | none, none => true
    | some (j, want), some (s, want') => want == want' && (match ops[j]? with
      | some p => p.dst == some s && decide (s < N)
      | none => false)
    | _, _ => false)
def chkL (P : Program) (N : Nat) (ops : Array Oper) : List Oper → List ROp → Bool
  | [], [] => true
  | o :: os, x :: xs => chkR P N ops o x && chkL P N ops os xs
  | _, _ => false
theorem opG_sound {ops : Array Oper} {o : Oper} {x : ROp} (h : Rel N fr st β a w) (hc : chkR P N ops o x = true) {K : St → Prop} (hA : opG P fr x st K) {Q' : Exit → Act → World → Prop} :
    if Region.wanted o (yielded ops a.tmps) then o.wp P a w (Post N fr K β (st.look fr) w) Q' else Post N fr K β (st.look fr) w (a.put o.dst undef) w := by
  simp only [chkR, Bool.and_eq_true, beq_iff_eq] at hc
  obtain ⟨⟨⟨⟨hop, hdst⟩, hN⟩, hst⟩, hg⟩ := hc
  have hd : ∀ s, o.dst = some s → s < N := by
    intro s hs
    rw [hs] at hN
    simpa using hN
  have hst' : isStore x.op = true → o.dst = none := by
    intro hx
    simp only [hx, Bool.not_true, Bool.false_or, Option.isNone_iff_eq_none] at hst
    exact hst
  have run : opA P fr x.op x.dst st K → o.wp P a w (Post N fr K β (st.look fr) w) Q' := fun hA => opA_sound h hop hst' hd (by rw [hdst]; exact hA)
  have skip : K (st.put x.dst (.t [])) → Post N fr K β (st.look fr) w (a.put o.dst undef) w := fun hk =>
    ⟨_, β, hk, by rw [← hdst]; exact h.put hd (.t [] [] rfl (by simp)), by rw [look_put]; exact .refl _ _ _⟩
  unfold opG at hA
  cases hog : o.guard with
  | none =>
    rw [hog] at hg
    cases hxg : x.g with
    | some _ => rw [hxg] at hg; simp at hg
    | none =>
      rw [hxg] at hA
      simp only [Region.wanted, hog, if_true]
      exact run hA
  | some jw =>
    obtain ⟨j, want⟩ := jw
    rw [hog] at hg
    cases hxg : x.g with
    | none => rw [hxg] at hg; simp at hg
    | some sw =>
      obtain ⟨s, want'⟩ := sw
      rw [hxg] at hg hA
      simp only [Bool.and_eq_true, beq_iff_eq] at hg
      obtain ⟨rfl, hg⟩ := hg
      split at hg
      · rename_i p hp
        simp only [Bool.and_eq_true, beq_iff_eq, decide_eq_true_eq] at hg
        obtain ⟨hpd, hsN⟩ := hg
        have hv := h.regs s
        have hget : a.tmps[s]? = some (a.tmps.getD s undef) := by
          have : s < a.tmps.size := by rw [h.size]; exact hsN
          simp [this]
        have hy : yielded ops a.tmps j = match a.tmps.getD s undef with | .bool b => some b | _ => none := by
          unfold yielded
          rw [hp]
          simp only [Option.bind_some, hpd, hget]
          generalize a.tmps.getD s undef = u
          cases u <;> rfl
        simp only [Region.wanted, hog]
        simp only [] at hA
        split at hA
        · rename_i v hrs
          rw [hrs] at hv
          have hvb := hv.inv_b
          rw [hy, hvb]
          split at hA
          · rename_i hvw
            subst hvw
            simp only [beq_self_eq_true, if_true]
            exact run hA
          · rename_i hvw
            have : (some v == some want) = false := by simpa using hvw
            simp only [this, Bool.false_eq_true, if_false]
            exact skip hA
        · rename_i hrs
          rw [hrs] at hv
          have hvu : a.tmps.getD s undef = .tuple #[] := by
            generalize a.tmps.getD s undef = u at hv
            cases hv with
            | t _ vs hl _ =>
              have : vs = [] := List.eq_nil_of_length_eq_zero (by simpa using hl.symm)
              subst this
              rfl
          rw [hy, hvu]
          have : ((none : Option Bool) == some want) = false := rfl
          simp only [this, Bool.false_eq_true, if_false]
          exact skip hA
        · exact hA.elim
      · simp at hg
theorem wpOps_sound {ops : Array Oper} {Q' : Exit → Act → World → Prop} : ∀ (l : List Oper) (xs : List ROp) (st : St) (β : BMap) (a : Act) (w : World) (K : St → Prop), chkL P N ops l xs = true → Rel N fr st β a w → wpOpsA P fr xs st K →
    (∀ a' w', Post N fr K β (st.look fr) w a' w' → Q' .normal a' w') → wpList P ops Q' l a w
  | [], [], st, β, a, w, K, _, h, hA, hq => by
    unfold wpList
    exact hq a w ⟨st, β, hA, h, .refl _ _ _⟩
  | [], _ :: _, _, _, _, _, _, hc, _, _, _ => by simp [chkL] at hc
  | _ :: _, [], _, _, _, _, _, hc, _, _, _ => by simp [chkL] at hc
  | o :: l, x :: xs, st, β, a, w, K, hc, h, hA, hq => by
    simp only [chkL, Bool.and_eq_true] at hc
    have step := opG_sound (Q' := Q') h hc.1 (K := fun st' => wpOpsA P fr xs st' K) hA
    have next : ∀ a' w', Post N fr (fun st' => wpOpsA P fr xs st' K) β (st.look fr) w a' w' → wpList P ops Q' l a' w' := by
      intro a' w' hp
      obtain ⟨st', β', h1, h2, h3⟩ := hp
      refine wpOps_sound l xs st' β' a' w' K hc.2 h2 h1 (fun a'' w'' hp' => hq a'' w'' ?_)
      obtain ⟨st'', β'', k1, k2, k3⟩ := hp'
      exact ⟨st'', β'', k1, k2, h3.trans k3⟩
    unfold wpList
    split at step
    · rename_i hw
      rw [if_pos hw]
      exact .inl (Oper.wp_mono next step)
    · rename_i hw
      rw [if_neg hw]
      exact next _ _ step
end
end Go.Vm

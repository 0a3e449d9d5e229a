/- A part of the proof of: All functions return the results of the reference (PolynomialMatchesReference), for every input. -/
import Derived.Test.YtnjccbacinbhgaaGreatPnA0
import Derived.LoopN
import Derived.IntWalk
set_option linter.unusedSimpArgs false
set_option linter.unusedVariables false
namespace Go.Vm
open Go Go.RowKit
def Arg.us : Arg → List Nat
  | .t s => [s]
  | .k _ => []
def usL : List Arg → List Nat
  | [] => []
  | x :: xs => x.us ++ usL xs
def usO : Option Arg → List Nat
  | some x => x.us
  | none => []
def usP : List (Nat × Nat × Arg) → List Nat
  | [] => []
  | (_, _, x) :: xs => x.us ++ usP xs
def IOp.us : IOp → List Nat
  | .mv x | .tab _ x | .nilq _ x | .un _ x | .conv _ x | .load _ _ x | .fld _ x | .fldv _ _ _ x | .ext _ x | .len x | .nilc x | .box x | .sla _ x | .range x | .next _ _ x | .entry x => x.us
  | .pick c a b => c.us ++ (a.us ++ b.us)
  | .bin _ x y | .eqa _ _ x y | .eqb _ x y | .ixa _ _ x y | .ixs _ x y | .mx x y | .mn x y | .store _ x y | .mk _ _ _ x y | .app _ _ x y | .cpy _ x y | .mapget _ _ _ _ x y | .ixv _ _ _ x y => x.us ++ y.us
  | .build _ ps => usP ps
  | .slc _ x lo hi m => x.us ++ (usO lo ++ (usO hi ++ usO m))
  | .mkf _ caps => usL caps
  | .bsl _ ps => usL ps
  | .call _ args | .callR _ args | .callN _ args => usL args
  | .callv x args | .callvR x args => x.us ++ usL args
  | .mapset _ m k v => m.us ++ (k.us ++ v.us)
  | .alloc _ | .mkmap | .bad => []
def Same (l : List Nat) (r r' : Regs) : Prop := ∀ s ∈ l, r s = r' s
theorem Same.l {a b : List Nat} {r r' : Regs} (h : Same (a ++ b) r r') : Same a r r' := fun s hs => h s (List.mem_append_left _ hs)
theorem Same.r {a b : List Nat} {r r' : Regs} (h : Same (a ++ b) r r') : Same b r r' := fun s hs => h s (List.mem_append_right _ hs)
theorem Arg.same {x : Arg} {r r' : Regs} (h : Same x.us r r') : x.get r = x.get r' := by
  cases x with
  | t s => exact h s (by simp [Arg.us])
  | k d => rfl
theorem mapL_same : ∀ {l : List Arg} {r r' : Regs}, Same (usL l) r r' → l.map (·.get r) = l.map (·.get r')
  | [], _, _, _ => rfl
  | x :: xs, r, r', h => by
    simp only [List.map_cons]
    rw [Arg.same (h.l), mapL_same h.r]
theorem partsD_same : ∀ {l : List Arg} {sz : Nat} {r r' : Regs}, Same (usL l) r r' → partsD r sz l = partsD r' sz l
  | [], _, _, _, _ => rfl
  | x :: xs, sz, r, r', h => by
    simp only [partsD]
    rw [Arg.same (h.l), partsD_same h.r]
theorem fillD_same : ∀ {l : List (Nat × Nat × Arg)} {z : List D} {r r' : Regs}, Same (usP l) r r' → fillD r z l = fillD r' z l
  | [], _, _, _, _ => rfl
  | (off, n, x) :: xs, z, r, r', h => by
    simp only [fillD]
    rw [Arg.same h.l]
    split
    · split
      · exact fillD_same h.r
      · rfl
    · rfl
theorem bnd_same {o : Option Arg} {a b : Nat} {r r' : Regs} (h : Same (usO o) r r') : bnd r a b o = bnd r' a b o := by
  cases o with
  | none => rfl
  | some x => simp only [bnd]; rw [Arg.same h]
theorem bndM_same {o : Option Arg} {n : Nat} {r r' : Regs} (h : Same (usO o) r r') : bndM r n o = bndM r' n o := by
  cases o with
  | none => rfl
  | some x => simp only [bndM]; rw [bnd_same h]
theorem ev_same {L : Sto} {x : IOp} {r r' : Regs} (h : Same x.us r r') : ev L r x = ev L r' x := by
  cases x with
  | build z ps => simp only [ev]; rw [fillD_same h]
  | bsl sz ps => simp only [ev]; rw [partsD_same h]
  | mkf f caps => simp only [ev]; rw [mapL_same h]
  | slc sz x lo hi m =>
    simp only [ev]
    rw [Arg.same h.l]
    split
    · rw [bndM_same h.r.r.r]
      split
      · rw [bnd_same h.r.r.l]
        split
        · rw [bnd_same h.r.l]
        · rfl
      · rfl
    · rfl
  | pick c a b => simp only [ev]; rw [Arg.same h.l, Arg.same h.r.l, Arg.same h.r.r]
  | mv x | tab _ x | nilq _ x | un _ x | conv _ x | load _ _ x | fld _ x | fldv _ _ _ x | ext _ x | len x | nilc x | sla _ x | entry x => simp only [ev]; rw [Arg.same h]
  | bin _ x y | eqa _ _ x y | eqb _ x y | ixa _ _ x y | ixs _ x y | mx x y | mn x y | ixv _ _ _ x y | mapget _ _ _ _ x y => simp only [ev]; rw [Arg.same h.l, Arg.same h.r]
  | _ => rfl
def IOp.cls : IOp → Nat
  | .mv _ | .tab _ _ | .nilq _ _ | .ixv _ _ _ _ _ | .un _ _ | .conv _ _ | .fld _ _ | .fldv _ _ _ _ | .ext _ _ | .len _ | .nilc _ | .sla _ _ | .pick _ _ _ | .bin _ _ _ | .eqa _ _ _ _ | .eqb _ _ _ | .ixa _ _ _ _ | .ixs _ _ _ | .mx _ _ | .mn _ _
  | .build _ _ | .slc _ _ _ _ _ | .mkf _ _ | .bsl _ _ | .call _ _ | .callv _ _ => 0
  | .load _ _ _ | .mapget _ _ _ _ _ _ | .entry _ => 1
  | .alloc _ | .box _ | .mkmap => 2
  | _ => 3
def vals (P : Program) (L : Sto) (r : Regs) (d : D) : IOp → Prop
  | .call f args => FnR P f (args.map (·.get r)) [] d
  | .callv x args => match x.get r with
    | .f g first cap => FnR P g (first ++ args.map (·.get r) ++ cap) [] d
    | _ => False
  | x => ev L r x = some d
theorem ev_look {L L' : Sto} {r : Regs} {x : IOp} (h : x.cls = 0) : ev L r x = ev L' r x := by
  cases x <;> first | rfl | (simp [IOp.cls] at h)
theorem cellsAt_mono {L L' : Sto} (hl : ∀ k v, L k = some v → L' k = some v) {d : D} {n : Nat} {cs : List D} (h : cellsAt L d n = some cs) : cellsAt L' d n = some cs := by
  unfold cellsAt at h ⊢
  cases d with
  | p k s o =>
    simp only [] at h ⊢
    cases hk : L k with
    | none => rw [hk] at h; simp at h
    | some v => rw [hk] at h; rw [hl _ _ hk]; exact h
  | pr k s sz i fo =>
    simp only [] at h ⊢
    cases hk : L k with
    | none => rw [hk] at h; simp at h
    | some v => rw [hk] at h; rw [hl _ _ hk]; exact h
  | _ => exact h
theorem mapgetD_mono {L L' : Sto} (hl : ∀ k v, L k = some v → L' k = some v) {len : Nat} {vz : List D} {agg ok : Bool} {m k d : D} (h : mapgetD L len vz agg ok m k = some d) : mapgetD L' len vz agg ok m k = some d := by
  unfold mapgetD at h ⊢
  cases m with
  | m key s =>
    simp only [] at h ⊢
    cases hk : L key with
    | none => rw [hk] at h; simp at h
    | some v => rw [hk] at h; rw [hl _ _ hk]; exact h
  | _ => exact h
theorem entryD_mono {L L' : Sto} (hl : ∀ k v, L k = some v → L' k = some v) {x d : D} (h : entryD L x = some d) : entryD L' x = some d := by
  unfold entryD at h ⊢
  cases x with
  | it key s =>
    simp only [] at h ⊢
    cases hk : L key with
    | none => rw [hk] at h; simp at h
    | some v =>
      rw [hk] at h; rw [hl _ _ hk]
      obtain ⟨z, ob⟩ := v
      cases ob with
      | iter mk mz seen n =>
        simp only [] at h ⊢
        cases hm : L mk with
        | none => rw [hm] at h; simp at h
        | some v => rw [hm] at h; rw [hl _ _ hm]; exact h
      | _ => exact h
  | _ => exact h
theorem vals_same {P : Program} {L : Sto} {r r' : Regs} {d : D} {x : IOp} (h : Same x.us r r') (hv : vals P L r d x) : vals P L r' d x := by
  cases x with
  | call f args => simp only [vals] at hv ⊢; rw [← mapL_same h]; exact hv
  | callv x args => simp only [vals] at hv ⊢; rw [← mapL_same h.r, ← Arg.same h.l]; exact hv
  | _ => simp only [vals] at hv ⊢; rw [← ev_same h]; exact hv
theorem vals_look {P : Program} {L L' : Sto} {r : Regs} {d : D} {x : IOp} (h : x.cls = 0) (hv : vals P L r d x) : vals P L' r d x := by
  cases x with
  | call f args => exact hv
  | callv x args => exact hv
  | _ => simp only [vals] at hv ⊢; rw [ev_look h]; exact hv
theorem vals_mono {P : Program} {L L' : Sto} (hl : ∀ k v, L k = some v → L' k = some v) {r : Regs} {d : D} {x : IOp} (h : x.cls ≤ 1) (hv : vals P L r d x) : vals P L' r d x := by
  by_cases h0 : x.cls = 0
  · exact vals_look h0 hv
  · cases x with
    | load n agg y =>
      simp only [vals, ev] at hv ⊢
      cases hc : cellsAt L (y.get r) n with
      | none => rw [hc] at hv; simp at hv
      | some cs => rw [hc] at hv; rw [cellsAt_mono hl hc]; exact hv
    | mapget len vz agg ok m k => simp only [vals, ev] at hv ⊢; exact mapgetD_mono hl hv
    | entry i => simp only [vals, ev] at hv ⊢; exact entryD_mono hl hv
    | _ => first | exact absurd rfl h0 | (simp [IOp.cls] at h)
theorem opA_vals {P : Program} {fr : Nat} {x : IOp} {dst : Option Nat} {st : St} {K : St → Prop} (h : x.cls ≤ 1) : opA P fr x dst st K ↔ ∃ d, vals P (st.look fr) st.r d x ∧ K (st.put dst d) := by
  cases x with
  | call f args => exact Iff.rfl
  | callv x args =>
    simp only [opA, vals]
    cases x.get st.r <;> simp [opCall0]
  | alloc _ | box _ | store _ _ _ | mk _ _ _ _ _ | app _ _ _ _ | cpy _ _ _ | callR _ _ | callN _ _ | callvR _ _ | mkmap | mapset _ _ _ _ | range _ | next _ _ _ | bad => simp [IOp.cls] at h
  | _ =>
    simp only [opA, vals]
    generalize ev _ _ _ = e
    cases e <;> simp
theorem put_own (st : St) (dst : Option Nat) (d : D) : (st.put dst d).own = st.own := by cases dst <;> rfl
theorem put_nx (st : St) (dst : Option Nat) (d : D) : (st.put dst d).nx = st.nx := by cases dst <;> rfl
theorem upd_comm {α : Type} (f : Nat → α) {i j : Nat} (h : i ≠ j) (x y : α) : upd (upd f i x) j y = upd (upd f j y) i x := by
  funext k
  unfold upd
  by_cases h1 : k = j <;> by_cases h2 : k = i <;> simp_all
theorem put_put {st : St} {i : Nat} {dst : Option Nat} (h : dst ≠ some i) (d e : D) : (st.put (some i) d).put dst e = (st.put dst e).put (some i) d := by
  cases dst with
  | none => rfl
  | some j =>
    have hn : i ≠ j := fun x => h (by rw [x])
    simp only [St.put, upd_comm _ hn]
theorem newObj_put {fr : Nat} {st : St} {i j : Nat} (h : j ≠ i) (d e : D) (o : Obj) : (st.put (some i) d).newObj fr j o e = (st.newObj fr j o e).put (some i) d := by
  simp only [St.newObj, St.put, upd_comm _ (Ne.symm h)]
theorem set_put {fr : Nat} {st : St} {i : Nat} (d : D) (k : Key) (v : Option (Nat × Obj)) : (st.put (some i) d).set fr k v = (st.set fr k v).put (some i) d := by
  unfold St.set
  split <;> rfl
theorem putUps_put {fr : Nat} {i : Nat} {d : D} : ∀ {ups : List Up} {st : St}, putUps fr ups (st.put (some i) d) = (putUps fr ups st).put (some i) d
  | [], st => rfl
  | u :: us, st => by simp only [putUps]; rw [set_put, putUps_put]
theorem slotOk_put {st : St} {i s : Nat} {d : D} : slotOk (st.put (some i) d) s = slotOk st s := rfl
theorem put_rs (st : St) {i : Nat} (d : D) {l : List Nat} (h : i ∉ l) : Same l (st.put (some i) d).r st.r := fun s hs => by
  show upd st.r i d s = st.r s
  unfold upd
  rw [if_neg (fun e => h (by rw [← e]; exact hs))]
theorem opA_put {P : Program} {fr : Nat} {x : IOp} {dst : Option Nat} {st : St} {i : Nat} {d : D} {K : St → Prop} (hu : i ∉ x.us) (hd : dst ≠ some i) :
    opA P fr x dst (st.put (some i) d) K ↔ opA P fr x dst st (fun s => K (s.put (some i) d)) := by
  have hr := put_rs st d hu
  by_cases hc : x.cls ≤ 1
  · rw [opA_vals hc, opA_vals hc]
    constructor
    · rintro ⟨e, h1, h2⟩
      exact ⟨e, by rw [look_put] at h1; exact vals_same hr h1, by rw [← put_put hd]; exact h2⟩
    · rintro ⟨e, h1, h2⟩
      exact ⟨e, by rw [look_put]; exact vals_same (fun s hs => (hr s hs).symm) h1, by rw [put_put hd]; exact h2⟩
  · cases x with
    | alloc z =>
      cases dst with
      | none => exact Iff.rfl
      | some s =>
        have hn : s ≠ i := fun e => hd (by rw [e])
        simp only [opA, put_own, put_nx, newObj_put hn]
    | box x =>
      simp only [opA]
      rw [Arg.same hr]
      cases dst with
      | none => exact Iff.rfl
      | some s =>
        have hn : s ≠ i := fun e => hd (by rw [e])
        cases (x.get st.r).cells? with
        | none => exact Iff.rfl
        | some cs => simp only [put_own, put_nx, newObj_put hn]
    | store n x y =>
      simp only [opA]
      rw [Arg.same hr.l, Arg.same hr.r, look_put]
      simp only [set_put]
    | mk sz bytes z n c =>
      simp only [opA]
      rw [Arg.same hr.l, Arg.same hr.r]
      cases dst with
      | none => exact Iff.rfl
      | some s =>
        have hn : s ≠ i := fun e => hd (by rw [e])
        cases n.get st.r with
        | i k1 n1 =>
          cases c.get st.r with
          | i k2 n2 => simp only [put_own, put_nx, newObj_put hn]
          | _ => exact Iff.rfl
        | _ => exact Iff.rfl
    | app sz bytes x y =>
      simp only [opA]
      rw [Arg.same hr.l, Arg.same hr.r, look_put]
      cases dst with
      | none => exact Iff.rfl
      | some s =>
        have hn : s ≠ i := fun e => hd (by rw [e])
        cases elemsOf (st.look fr) sz (y.get st.r) with
        | none => exact Iff.rfl
        | some ys => simp only [put_own, put_nx, newObj_put hn, set_put, put_put hd, slotOk_put]
    | cpy sz x y =>
      simp only [opA]
      rw [Arg.same hr.l, Arg.same hr.r, look_put]
      simp only [set_put, put_put hd]
    | callR f args =>
      simp only [opA, opCall]
      rw [mapL_same hr, look_put]
      simp only [putUps_put, put_put hd]
    | callvR x args =>
      simp only [opA, opCall]
      rw [mapL_same hr.r, Arg.same hr.l, look_put]
      simp only [putUps_put, put_put hd]
    | callN f args =>
      simp only [opA, opCallN]
      rw [mapL_same hr]
      cases dst with
      | none => exact Iff.rfl
      | some s =>
        have hn : s ≠ i := fun e => hd (by rw [e])
        simp only [slotOk_put, put_nx, newObj_put hn]
    | mkmap =>
      cases dst with
      | none => exact Iff.rfl
      | some s =>
        have hn : s ≠ i := fun e => hd (by rw [e])
        simp only [opA, put_own, put_nx, newObj_put hn]
    | mapset len m k v =>
      simp only [opA]
      rw [Arg.same hr.l, Arg.same hr.r.l, Arg.same hr.r.r, look_put]
      simp only [set_put]
    | range m =>
      simp only [opA]
      rw [Arg.same hr, look_put]
      cases dst with
      | none => exact Iff.rfl
      | some s =>
        have hn : s ≠ i := fun e => hd (by rw [e])
        cases m.get st.r with
        | m key z =>
          simp only [put_own, put_nx, newObj_put hn]
        | _ => exact Iff.rfl
    | next _ _ _ | bad => simp only [opA, ev]
    | _ => exact absurd (by simp [IOp.cls]) hc
theorem opA_one {P : Program} {fr : Nat} {x : IOp} {dst : Option Nat} {st : St} {K : St → Prop} (h : opA P fr x dst st K) :
    ∃ s, K s ∧ (∀ j, dst ≠ some j → s.r j = st.r j) ∧ (x.cls = 2 → ∀ k v, st.look fr k = some v → s.look fr k = some v) ∧ ∀ K' : St → Prop, K' s → opA P fr x dst st K' := by
  have hput : ∀ d j, dst ≠ some j → (st.put dst d).r j = st.r j := by
    intro d j hj
    cases dst with
    | none => rfl
    | some s =>
      show upd st.r s d j = _
      unfold upd
      rw [if_neg (fun e => hj (by rw [e]))]
  have hnew : ∀ (st : St) s o d, st.own s = none → ∀ k v, st.look fr k = some v → (st.newObj fr s o d).look fr k = some v := by
    intro st s o d ho k v hk
    simp only [St.look, St.newObj] at hk ⊢
    split at hk
    · rename_i hf
      rw [if_pos hf]
      unfold upd
      by_cases hs : k.2 = s
      · rw [hs, ho] at hk; simp at hk
      · rw [if_neg hs]; exact hk
    · rename_i hf; rw [if_neg hf]; exact hk
  have hnewr : ∀ (st' : St) s o d j, dst = some s → st'.r = st.r → dst ≠ some j → (st'.newObj fr s o d).r j = st.r j := by
    intro st' s o d j hs he hj
    show upd st'.r s d j = _
    unfold upd
    rw [if_neg (fun e => hj (by rw [hs, e])), he]
  by_cases hc : x.cls ≤ 1
  · rw [opA_vals hc] at h
    obtain ⟨d, h1, h2⟩ := h
    exact ⟨_, h2, hput d, fun h2 => by omega, fun K' hk => by rw [opA_vals hc]; exact ⟨d, h1, hk⟩⟩
  · cases x with
    | alloc z =>
      cases dst with
      | none => exact h.elim
      | some s =>
        obtain ⟨h1, h2⟩ := h
        exact ⟨_, h2, fun j hj => hnewr st s _ _ j rfl rfl hj, fun _ => hnew st s _ _ h1, fun K' hk => ⟨h1, hk⟩⟩
    | box y =>
      simp only [opA] at h ⊢
      split at h
      · rename_i s cs hcs
        obtain ⟨h1, h2⟩ := h
        exact ⟨_, h2, fun j hj => hnewr st s _ _ j rfl rfl hj, fun _ => hnew st s _ _ h1, fun K' hk => ⟨h1, hk⟩⟩
      · exact h.elim
    | store n y z =>
      simp only [opA] at h ⊢
      split at h
      · rename_i cs hcs
        obtain ⟨h1, h2⟩ := h
        split at h2
        · rename_i k v hkv
          exact ⟨_, h2, fun j _ => by rw [set_r], fun he => by simp [IOp.cls] at he, fun K' hk => ⟨h1, hk⟩⟩
        · exact h2.elim
      · exact h.elim
    | mk sz bytes z n c =>
      simp only [opA] at h ⊢
      split at h
      · rename_i s k n k' c hn hc'
        obtain ⟨h1, h2, h3, h4, h5, h6⟩ := h
        exact ⟨_, h6, fun j hj => hnewr st s _ _ j rfl rfl hj, fun he => by simp [IOp.cls] at he, fun K' hk => ⟨h1, h2, h3, h4, h5, hk⟩⟩
      · exact h.elim
    | app sz bytes y z =>
      simp only [opA] at h ⊢
      split at h
      · rename_i s ys hys
        split at h
        · rename_i sz' full xs hx
          obtain ⟨h1, h2⟩ := h
          cases ys with
          | nil => exact ⟨_, h2, hput _, fun he => by simp [IOp.cls] at he, fun K' hk => ⟨h1, hk⟩⟩
          | cons y ys =>
            obtain ⟨a1, a2, a3, a4, a5⟩ := h2
            exact ⟨_, a5, fun j hj => hnewr st s _ _ j rfl rfl hj, fun he => by simp [IOp.cls] at he, fun K' hk => ⟨h1, a1, a2, a3, a4, hk⟩⟩
        · rename_i key z' sz' lo len hx
          split at h
          · rename_i z'' sz'' es hL
            obtain ⟨h1, h2, h3, h4, h5, h6⟩ := h
            cases ys with
            | nil => exact ⟨_, h6, hput _, fun he => by simp [IOp.cls] at he, fun K' hk => ⟨h1, h2, h3, h4, h5, hk⟩⟩
            | cons y ys =>
              obtain ⟨a1, a2, a3, a4⟩ := h6
              exact ⟨_, a4, fun j hj => hnewr _ s _ _ j rfl (set_r _ _ _ _) hj, fun he => by simp [IOp.cls] at he, fun K' hk => ⟨h1, h2, h3, h4, h5, a1, a2, a3, hk⟩⟩
          · exact h.elim
        · exact h.elim
      · exact h.elim
    | cpy sz y z =>
      simp only [opA] at h ⊢
      split at h
      · rename_i ys key z' sz' lo len hys hx
        split at h
        · rename_i z'' sz'' es hL
          obtain ⟨h1, h2, h3, h4, h5⟩ := h
          refine ⟨_, h5, fun j hj => ?_, fun he => by simp [IOp.cls] at he, fun K' hk => ⟨h1, h2, h3, h4, hk⟩⟩
          cases dst with
          | none => exact congrFun (set_r _ _ _ _) _
          | some s =>
            show upd _ s _ j = _
            unfold upd
            rw [if_neg (fun e => hj (by rw [e])), set_r]
        · exact h.elim
      · exact h.elim
    | callR f args =>
      obtain ⟨ups, d, h1, h2, h3, h4⟩ := h
      refine ⟨_, h4, fun j hj => ?_, fun he => by simp [IOp.cls] at he, fun K' hk => ⟨ups, d, h1, h2, h3, hk⟩⟩
      have hr : ∀ (us : List Up) (st : St), (putUps fr us st).r = st.r := by
        intro us
        induction us with
        | nil => intro st; rfl
        | cons u us ih => intro st; simp only [putUps]; rw [ih, set_r]
      cases dst with
      | none => exact congrFun (hr _ _) _
      | some s =>
        show upd _ s _ j = _
        unfold upd
        rw [if_neg (fun e => hj (by rw [e])), hr]
    | callvR x args =>
      simp only [opA] at h ⊢
      split at h
      · obtain ⟨ups, d, h1, h2, h3, h4⟩ := h
        refine ⟨_, h4, fun j hj => ?_, fun he => by simp [IOp.cls] at he, fun K' hk => ⟨ups, d, h1, h2, h3, hk⟩⟩
        have hr : ∀ (us : List Up) (st : St), (putUps fr us st).r = st.r := by
          intro us
          induction us with
          | nil => intro st; rfl
          | cons u us ih => intro st; simp only [putUps]; rw [ih, set_r]
        cases dst with
        | none => exact congrFun (hr _ _) _
        | some s =>
          show upd _ s _ j = _
          unfold upd
          rw [if_neg (fun e => hj (by rw [e])), hr]
      · exact h.elim
    | callN f args =>
      simp only [opA, opCallN] at h ⊢
      split at h
      · rename_i s
        obtain ⟨sz, es, h1, h2, h3⟩ := h
        exact ⟨_, h3, fun j hj => hnewr st s _ _ j rfl rfl hj, fun he => by simp [IOp.cls] at he, fun K' hk => ⟨sz, es, h1, h2, hk⟩⟩
      · exact h.elim
    | mkmap =>
      cases dst with
      | none => exact h.elim
      | some s =>
        obtain ⟨h1, h2⟩ := h
        exact ⟨_, h2, fun j hj => hnewr st s _ _ j rfl rfl hj, fun _ => hnew st s _ _ h1, fun K' hk => ⟨h1, hk⟩⟩
    | mapset len m k v =>
      simp only [opA] at h ⊢
      split at h
      · rename_i key z hm
        split at h
        · rename_i z' es hL
          obtain ⟨h1, h2, h3⟩ := h
          split at h3
          · rename_i es' hp
            exact ⟨_, h3, fun j _ => by rw [set_r], fun he => by simp [IOp.cls] at he, fun K' hk => ⟨h1, h2, hk⟩⟩
          · exact h3.elim
        · exact h.elim
      · exact h.elim
    | range m =>
      simp only [opA] at h ⊢
      split at h
      · rename_i s key z hm
        split at h
        · rename_i z' es hL
          obtain ⟨h1, h2, h3⟩ := h
          exact ⟨_, h3, fun j hj => hnewr st s _ _ j rfl rfl hj, fun he => by simp [IOp.cls] at he, fun K' hk => ⟨h1, h2, hk⟩⟩
        · exact h.elim
      · exact h.elim
    | next _ _ _ | bad => simp only [opA, ev] at h
    | _ => exact absurd (by simp [IOp.cls]) hc
def ROp.us (o : ROp) : List Nat := (match o.g with
  | none => []
  | some (s, _) => [s]) ++ o.op.us
def valG (P : Program) (L : Sto) (r : Regs) (d : D) (o : ROp) : Prop := match o.g with
  | none => vals P L r d o.op
  | some (s, want) => match r s with
    | .b v => if v = want then vals P L r d o.op else d = .t []
    | .t [] => d = .t []
    | _ => False
section
variable {P : Program} {fr : Nat}
theorem opG_vals {o : ROp} {st : St} {K : St → Prop} (h : o.op.cls ≤ 1) : opG P fr o st K ↔ ∃ d, valG P (st.look fr) st.r d o ∧ K (st.put o.dst d) := by
  unfold opG valG
  cases o.g with
  | none => exact opA_vals h
  | some sw =>
    obtain ⟨s, want⟩ := sw
    simp only []
    cases st.r s with
    | b v =>
      simp only []
      split
      · exact opA_vals h
      · simp
    | t l => cases l <;> simp
    | _ => simp
theorem valG_same {o : ROp} {L : Sto} {r r' : Regs} {d : D} (h : Same o.us r r') (hv : valG P L r d o) : valG P L r' d o := by
  unfold valG at hv ⊢
  unfold ROp.us at h
  cases hg : o.g with
  | none => rw [hg] at h hv; exact vals_same h.r hv
  | some sw =>
    obtain ⟨s, want⟩ := sw
    rw [hg] at h hv
    have hs : r s = r' s := h.l s (by simp)
    simp only [] at hv ⊢
    rw [← hs]
    cases hrs : r s with
    | b v =>
      rw [hrs] at hv
      simp only [] at hv ⊢
      split
      · rename_i hvw; rw [if_pos hvw] at hv; exact vals_same h.r hv
      · rename_i hvw; rw [if_neg hvw] at hv; exact hv
    | t l => rw [hrs] at hv; cases l <;> exact hv
    | _ => rw [hrs] at hv; exact hv
theorem valG_look {o : ROp} {L L' : Sto} {r : Regs} {d : D} (h : o.op.cls = 0 ∨ (o.op.cls ≤ 1 ∧ ∀ k v, L k = some v → L' k = some v)) (hv : valG P L r d o) : valG P L' r d o := by
  have hval : vals P L r d o.op → vals P L' r d o.op := by
    rcases h with h | ⟨h, hl⟩
    · exact vals_look h
    · exact vals_mono hl h
  unfold valG at hv ⊢
  cases hg : o.g with
  | none => rw [hg] at hv; exact hval hv
  | some sw =>
    obtain ⟨s, want⟩ := sw
    rw [hg] at hv
    simp only [] at hv ⊢
    cases hrs : r s with
    | b v =>
      rw [hrs] at hv
      simp only [] at hv ⊢
      split
      · rename_i hvw; rw [if_pos hvw] at hv; exact hval hv
      · rename_i hvw; rw [if_neg hvw] at hv; exact hv
    | t l => rw [hrs] at hv; cases l <;> exact hv
    | _ => rw [hrs] at hv; exact hv
theorem opG_put {o : ROp} {st : St} {i : Nat} {d : D} {K : St → Prop} (hu : i ∉ o.us) (hd : o.dst ≠ some i) :
    opG P fr o (st.put (some i) d) K ↔ opG P fr o st (fun s => K (s.put (some i) d)) := by
  unfold ROp.us at hu
  unfold opG
  cases hg : o.g with
  | none => rw [hg] at hu; exact opA_put (fun h => hu (List.mem_append_right _ h)) hd
  | some sw =>
    obtain ⟨s, want⟩ := sw
    rw [hg] at hu
    have hA := opA_put (P := P) (fr := fr) (x := o.op) (dst := o.dst) (st := st) (i := i) (d := d) (K := K) (fun h => hu (List.mem_append_right _ h)) hd
    have hs : (st.put (some i) d).r s = st.r s := put_rs st d (l := [s]) (fun h => hu (List.mem_append_left _ h)) s (by simp)
    simp only [hs]
    cases st.r s with
    | b v =>
      simp only []
      split
      · exact hA
      · rw [put_put hd]
    | t l =>
      cases l with
      | nil => simp only []; rw [put_put hd]
      | cons _ _ => exact Iff.rfl
    | _ => exact Iff.rfl
theorem opG_one {o : ROp} {st : St} {K : St → Prop} (h : opG P fr o st K) :
    ∃ s, K s ∧ (∀ j, o.dst ≠ some j → s.r j = st.r j) ∧ (o.op.cls = 2 → ∀ k v, st.look fr k = some v → s.look fr k = some v) ∧ ∀ K' : St → Prop, K' s → opG P fr o st K' := by
  have hput : ∀ d j, o.dst ≠ some j → (st.put o.dst d).r j = st.r j := by
    intro d j hj
    cases hd : o.dst with
    | none => rfl
    | some s =>
      show upd st.r s d j = _
      unfold upd
      rw [if_neg (fun e => hj (by rw [hd, e]))]
  unfold opG at h ⊢
  cases hg : o.g with
  | none => rw [hg] at h; exact opA_one h
  | some sw =>
    obtain ⟨s, want⟩ := sw
    rw [hg] at h
    simp only [] at h ⊢
    cases hrs : st.r s with
    | b v =>
      rw [hrs] at h
      simp only [] at h ⊢
      split
      · rename_i hvw; rw [if_pos hvw] at h; exact opA_one h
      · rename_i hvw; rw [if_neg hvw] at h; exact ⟨_, h, hput _, fun _ k v hk => by rw [look_put]; exact hk, fun K' hk => hk⟩
    | t l =>
      rw [hrs] at h
      cases l with
      | nil => exact ⟨_, h, hput _, fun _ k v hk => by rw [look_put]; exact hk, fun K' hk => hk⟩
      | cons _ _ => exact h.elim
    | _ => rw [hrs] at h; exact h.elim
theorem opG_mono {o : ROp} {st : St} {K K' : St → Prop} (h : opG P fr o st K) (hk : ∀ s, K s → K' s) : opG P fr o st K' :=
  let ⟨s, h1, _, _, h4⟩ := opG_one h
  h4 _ (hk s h1)
def hitsL (d : Option Nat) (l : List Nat) : Bool := match d with
  | some s => l.contains s
  | none => false
def apartR (y x : ROp) : Bool := !hitsL y.dst x.us && !hitsL x.dst y.us && (y.dst != x.dst || y.dst.isNone)
def pairOK (y x : ROp) : Bool := apartR y x && (y.op.cls == 0 || x.op.cls == 0 || (y.op.cls == 1 && decide (x.op.cls ≤ 2)))
theorem commute {y x : ROp} (hp : pairOK y x = true) {st : St} {K : St → Prop} (h : opG P fr y st (fun s => opG P fr x s K)) : opG P fr x st (fun s => opG P fr y s K) := by
  simp only [pairOK, apartR, Bool.and_eq_true, Bool.or_eq_true, Bool.not_eq_true', beq_iff_eq, bne_iff_ne, ne_eq, decide_eq_true_eq, Option.isNone_iff_eq_none] at hp
  obtain ⟨⟨⟨h1, h2⟩, h3⟩, h4⟩ := hp
  have ux : ∀ i, y.dst = some i → i ∉ x.us := by
    intro i hi
    rw [hi] at h1
    simpa [hitsL] using h1
  have uy : ∀ i, x.dst = some i → i ∉ y.us := by
    intro i hi
    rw [hi] at h2
    simpa [hitsL] using h2
  have dd : ∀ i, y.dst = some i → x.dst ≠ some i := by
    intro i hi hj
    rw [hi, hj] at h3
    simp at h3
  have dd' : ∀ i, x.dst = some i → y.dst ≠ some i := fun i hi hj => dd i hj hi
  -- y only computes
  have case1 : y.op.cls ≤ 1 → (y.op.cls = 0 ∨ x.op.cls ≤ 2) → opG P fr x st (fun s => opG P fr y s K) := by
    intro hc hc'
    rw [opG_vals hc] at h
    obtain ⟨d, hv, hx⟩ := h
    have hx' : opG P fr x st (fun s => K (s.put y.dst d)) := by
      cases hyd : y.dst with
      | none => rw [hyd] at hx; exact hx
      | some i => rw [hyd] at hx; exact (opG_put (ux i hyd) (dd i hyd)).1 hx
    obtain ⟨s, k1, k2, k3, k4⟩ := opG_one hx'
    refine k4 _ ?_
    rw [opG_vals hc]
    refine ⟨d, ?_, k1⟩
    have hs : Same y.us st.r s.r := fun j hj => (k2 j (fun e => uy j e hj)).symm
    refine valG_same hs (valG_look ?_ hv)
    rcases hc' with h0 | hc'
    · exact .inl h0
    · refine .inr ⟨hc, ?_⟩
      by_cases hx1 : x.op.cls ≤ 1
      · rw [opG_vals hx1] at hx'
        obtain ⟨e, e1, e2⟩ := hx'
        have := k4 (fun s' => s'.look fr = st.look fr) ?_
        · rw [opG_vals hx1] at this
          obtain ⟨e', _, e''⟩ := this
          intro k v hk
          have h5 := k4 (fun s' => s' = s) rfl
          rw [opG_vals hx1] at h5
          obtain ⟨e3, _, e4⟩ := h5
          rw [← e4, look_put]
          exact hk
        · have h5 := k4 (fun s' => s' = s) rfl
          rw [opG_vals hx1] at h5
          obtain ⟨e3, _, e4⟩ := h5
          show s.look fr = st.look fr
          rw [← e4, look_put]
      · exact k3 (by omega)
  have case2 : x.op.cls = 0 → opG P fr x st (fun s => opG P fr y s K) := by
    intro hc
    obtain ⟨s, k1, k2, k3, k4⟩ := opG_one h
    rw [opG_vals (by omega)] at k1
    obtain ⟨d, hv, hk⟩ := k1
    rw [opG_vals (by omega)]
    refine ⟨d, valG_look (.inl hc) (valG_same (fun j hj => k2 j (fun e => ux j e hj)) hv), ?_⟩
    cases hxd : x.dst with
    | none => rw [hxd] at hk; exact k4 _ hk
    | some i => rw [hxd] at hk; exact (opG_put (uy i hxd) (dd' i hxd)).2 (k4 _ hk)
  rcases h4 with (h0 | h0) | ⟨h0, h5⟩
  · exact case1 (by omega) (.inl h0)
  · exact case2 h0
  · exact case1 (by omega) (.inr h5)
theorem wpOpsA_mono : ∀ {l : List ROp} {st : St} {K K' : St → Prop}, wpOpsA P fr l st K → (∀ s, K s → K' s) → wpOpsA P fr l st K'
  | [], _, _, _, h, hk => hk _ h
  | o :: os, _, _, _, h, hk => opG_mono h (fun s hs => wpOpsA_mono hs hk)
theorem moveFront {x : ROp} {post : List ROp} {K : St → Prop} : ∀ {pre : List ROp} {st : St}, (∀ y ∈ pre, pairOK y x = true) → wpOpsA P fr (pre ++ x :: post) st K → opG P fr x st (fun s => wpOpsA P fr (pre ++ post) s K)
  | [], st, _, h => h
  | y :: pre, st, hp, h => commute (hp y (List.mem_cons_self ..)) (opG_mono h (fun s hs => moveFront (fun z hz => hp z (List.mem_cons_of_mem _ hz)) hs))
section
variable {ops : Array Oper} {anc : List Nat} {listed : Array Bool} {rem : List ROp}
def ancOf (anc : List Nat) (j : Nat) : Nat := anc.getD j 0
def edgeBits (anc : List Nat) : List Edge → Nat
  | [] => 0
  | e :: es => if Region.binds .any e then (2 ^ e.on ||| ancOf anc e.on) ||| edgeBits anc es else edgeBits anc es
theorem edgeBits_spec {k : Nat} : ∀ {es : List Edge}, (edgeBits anc es).testBit k = true → ∃ e ∈ es, Region.binds .any e = true ∧ (e.on = k ∨ (ancOf anc e.on).testBit k = true)
  | [], h => by simp [edgeBits] at h
  | e :: es, h => by
    unfold edgeBits at h
    split at h
    · rename_i hb
      simp only [Nat.testBit_or, Bool.or_eq_true, Nat.testBit_two_pow, decide_eq_true_eq] at h
      rcases h with h | h
      · exact ⟨e, List.mem_cons_self .., hb, h⟩
      · obtain ⟨e', h1, h2⟩ := edgeBits_spec h
        exact ⟨e', List.mem_cons_of_mem _ h1, h2⟩
    · obtain ⟨e', h1, h2⟩ := edgeBits_spec h
      exact ⟨e', List.mem_cons_of_mem _ h1, h2⟩
def chkAnc (ops : Array Oper) (anc : List Nat) : Bool :=
  (List.range ops.size).all fun j => match ops[j]? with
    | some o => ancOf anc j ||| edgeBits anc o.after.toList == edgeBits anc o.after.toList
    | none => false
theorem chkAnc_spec (h : chkAnc ops anc = true) {j k : Nat} {o : Oper} (hj : ops[j]? = some o) (hk : (ancOf anc j).testBit k = true) : ∃ e ∈ o.after.toList, Region.binds .any e = true ∧ (e.on = k ∨ (ancOf anc e.on).testBit k = true) := by
  have hlt : j < ops.size := (Array.getElem?_eq_some_iff.1 hj).1
  have := (List.all_eq_true.1 h) j (List.mem_range.2 hlt)
  rw [hj] at this
  simp only [beq_iff_eq] at this
  apply edgeBits_spec
  rw [← this, Nat.testBit_or, hk]
  rfl
def rel2 (anc : List Nat) (y x : ROp) : Bool := (ancOf anc x.ix).testBit y.ix || pairOK y x
def pw (anc : List Nat) : List ROp → Bool
  | [] => true
  | y :: l => l.all (rel2 anc y) && pw anc l
theorem pw_split : ∀ {pre : List ROp} {x : ROp} {post : List ROp}, pw anc (pre ++ x :: post) = true → (∀ y ∈ pre, rel2 anc y x = true) ∧ pw anc (pre ++ post) = true
  | [], x, post, h => by
    simp only [List.nil_append, pw, Bool.and_eq_true] at h ⊢
    exact ⟨by simp, h.2⟩
  | z :: pre, x, post, h => by
    simp only [List.cons_append, pw, Bool.and_eq_true, List.all_eq_true] at h ⊢
    obtain ⟨h1, h2⟩ := pw_split h.2
    refine ⟨fun y hy => ?_, fun y hy => h.1 y ?_, h2⟩
    · rcases List.mem_cons.1 hy with rfl | hy
      · exact h.1 x (by simp)
      · exact h1 y hy
    · simp only [List.mem_append, List.mem_cons] at hy ⊢
      rcases hy with hy | hy
      · exact .inl hy
      · exact .inr (.inr hy)
structure Inv (ops : Array Oper) (anc : List Nat) (listed : Array Bool) (rem : List ROp) : Prop where
  size : listed.size = ops.size
  out : ∀ i, i < ops.size → (listed.getD i false = false ↔ i ∈ rem.map (·.ix))
  nodup : (rem.map (·.ix)).Nodup
  down : ∀ j k, listed.getD j false = true → (ancOf anc j).testBit k = true → listed.getD k false = true
  lt : ∀ x ∈ rem, x.ix < ops.size
theorem Inv.ready (h : Inv ops anc listed rem) (ha : chkAnc ops anc = true) {i : Nat} (hi : i ∈ Region.ready .any ops listed) :
    ∃ o, ops[i]? = some o ∧ i ∈ rem.map (·.ix) ∧ ∀ k, (ancOf anc i).testBit k = true → listed.getD k false = true := by
  simp only [Region.ready, List.mem_filter, List.mem_range, Bool.and_eq_true, Bool.not_eq_true'] at hi
  obtain ⟨h1, h2, h3⟩ := hi
  cases ho : ops[i]? with
  | none => rw [ho] at h3; simp at h3
  | some o =>
    rw [ho] at h3
    simp only [Option.map_some, Option.getD_some, Array.all_eq_true_iff_forall_mem] at h3
    refine ⟨o, rfl, (h.out i h1).1 ?_, fun k hk => ?_⟩
    · have : i < listed.size := by rw [h.size]; exact h1
      simp only [Array.getD_eq_getD_getElem?, Array.getElem?_eq_getElem this, Option.getD_some] at h2 ⊢
      exact h2
    · obtain ⟨e, he, hb, hor⟩ := chkAnc_spec ha ho hk
      have := h3 e (by simpa using he)
      rw [hb] at this
      simp only [Bool.not_true, Bool.false_or] at this
      rcases hor with rfl | hor
      · exact this
      · exact h.down _ _ this hor
theorem Inv.step {pre post : List ROp} {x : ROp} (h : Inv ops anc listed (pre ++ x :: post)) (hx : ∀ k, (ancOf anc x.ix).testBit k = true → listed.getD k false = true) : Inv ops anc (listed.setIfInBounds x.ix true) (pre ++ post) := by
  have hxl : x.ix < listed.size := by rw [h.size]; exact h.lt x (by simp)
  have hg : ∀ i, (listed.setIfInBounds x.ix true).getD i false = if i = x.ix then true else listed.getD i false := by
    intro i
    simp only [Array.getD_eq_getD_getElem?, Array.getElem?_setIfInBounds]
    by_cases hi : x.ix = i
    · subst hi; simp [hxl]
    · simp [hi, Ne.symm hi]
  have hn := h.nodup
  simp only [List.map_append, List.map_cons] at hn
  have hn' := List.nodup_append.1 hn
  obtain ⟨n1, n2, n3⟩ := hn'
  have n2' := List.nodup_cons.1 n2
  refine ⟨by simpa using h.size, fun i hi => ?_, ?_, fun j k hj hk => ?_, fun y hy => h.lt y ?_⟩
  · rw [hg]
    by_cases hix : i = x.ix
    · subst hix
      simp only [if_true, Bool.true_eq_false, false_iff, List.map_append, List.mem_append, not_or]
      exact ⟨fun hm => n3 _ hm _ (List.mem_cons_self ..) rfl, n2'.1⟩
    · rw [if_neg hix, h.out i hi]
      simp only [List.map_append, List.map_cons, List.mem_append, List.mem_cons]
      constructor
      · rintro (h1 | h1 | h1)
        · exact .inl h1
        · exact absurd h1 hix
        · exact .inr h1
      · rintro (h1 | h1)
        · exact .inl h1
        · exact .inr (.inr h1)
  · simp only [List.map_append]
    exact List.nodup_append.2 ⟨n1, n2'.2, fun a ha b hb => n3 a ha b (List.mem_cons_of_mem _ hb)⟩
  · rw [hg] at hj ⊢
    split
    · rfl
    · split at hj
      · rename_i hjx; subst hjx; exact hx k hk
      · exact h.down j k hj hk
  · simp only [List.mem_append, List.mem_cons] at hy ⊢
    rcases hy with hy | hy
    · exact .inl hy
    · exact .inr (.inr hy)
theorem Inv.ok (h : Inv ops anc listed rem) {y x : ROp} (hy : y ∈ rem) (hx : ∀ k, (ancOf anc x.ix).testBit k = true → listed.getD k false = true) (hr : rel2 anc y x = true) : pairOK y x = true := by
  simp only [rel2, Bool.or_eq_true] at hr
  rcases hr with hr | hr
  · have h1 := hx _ hr
    have h2 := (h.out y.ix (h.lt y hy)).2 (List.mem_map.2 ⟨y, hy, rfl⟩)
    rw [h1] at h2
    simp at h2
  · exact hr
def chkBack (ops : Array Oper) : Bool :=
  (List.range ops.size).all fun j => match ops[j]? with
    | some o => o.after.toList.all fun e => !Region.binds .any e || decide (e.on < j)
    | none => false
theorem Inv.none_ready (h : Inv ops anc listed rem) (hb : chkBack ops = true) (hr : Region.ready .any ops listed = []) : rem = [] := by
  have all : ∀ i, i < ops.size → listed.getD i false = true := by
    intro i
    induction i using Nat.strongRecOn with
    | _ i ih =>
      intro hi
      by_cases hl : listed.getD i false = true
      · exact hl
      · exfalso
        have hb' := (List.all_eq_true.1 hb) i (List.mem_range.2 hi)
        rw [Array.getElem?_eq_getElem hi] at hb'
        simp only [List.all_eq_true, Bool.or_eq_true, Bool.not_eq_true', decide_eq_true_eq] at hb'
        have : i ∈ Region.ready .any ops listed := by
          simp only [Region.ready, List.mem_filter, List.mem_range, Bool.and_eq_true, Bool.not_eq_true']
          refine ⟨hi, ?_, ?_⟩
          · have hs : i < listed.size := by rw [h.size]; exact hi
            simp only [Array.getD_eq_getD_getElem?, Array.getElem?_eq_getElem hs, Option.getD_some] at hl ⊢
            simpa using hl
          · rw [Array.getElem?_eq_getElem hi]
            simp only [Option.map_some, Option.getD_some, Array.all_eq_true_iff_forall_mem, Bool.or_eq_true, Bool.not_eq_true']
            intro e he
            rcases hb' e (by simpa using he) with h1 | h1
            · exact .inl h1
            · exact .inr (ih _ h1 (by omega))
        rw [hr] at this
        simp at this
  cases rem with
  | nil => rfl
  | cons x l =>
    have h1 := (h.out x.ix (h.lt x (by simp))).2 (by simp)
    rw [all _ (h.lt x (by simp))] at h1
    simp at h1
end
end
def chkAll (P : Program) (N : Nat) (ops : Array Oper) (xs : List ROp) : Bool :=
  xs.all fun x => match ops[x.ix]? with
    | some o => chkR P N ops o x
    | none => false
def noDup : List Nat → Bool
  | [] => true
  | x :: l => !l.contains x && noDup l
theorem noDup_spec : ∀ {l : List Nat}, noDup l = true → l.Nodup
  | [], _ => List.nodup_nil
  | x :: l, h => by
    simp only [noDup, Bool.and_eq_true, Bool.not_eq_true'] at h
    exact List.nodup_cons.2 ⟨by simpa using h.1, noDup_spec h.2⟩
def ancC (ops : Array Oper) : List Nat := ops.toList.foldl (fun acc o => acc ++ [edgeBits acc o.after.toList]) []
def chkD (P : Program) (N : Nat) (ops : Array Oper) (xs two : List ROp) (anc : List Nat) : Bool :=
  chkAll P N ops (xs ++ two) && (xs ++ two).length == ops.size && noDup ((xs ++ two).map (·.ix)) && chkAnc ops anc && chkBack ops && (List.range ops.size).all (((xs ++ two).map (·.ix)).contains ·) && (match two with
    | [] => pw anc xs
    | u :: v :: post => pw anc (xs ++ u :: post) && pw anc (xs ++ v :: post) && post.all (fun p => (ancOf anc p.ix).testBit u.ix)
    | _ => false)
theorem wpOpsA_append {P : Program} {fr : Nat} : ∀ {l l' : List ROp} {st : St} {K : St → Prop}, wpOpsA P fr l st (fun s => wpOpsA P fr l' s K) → wpOpsA P fr (l ++ l') st K
  | [], _, _, _, h => h
  | o :: os, _, _, _, h => opG_mono h (fun s hs => wpOpsA_append hs)
section
variable {P : Program} {N fr : Nat} {ops : Array Oper} {anc : List Nat} {Q' : Exit → Act → World → Prop}
theorem pick_step {x : ROp} {i : Nat} {o : Oper} (ho : ops[i]? = some o) (hix : x.ix = i) (hc : chkR P N ops o x = true) {st : St} {β : BMap} {a : Act} {w : World} (h : Rel N fr st β a w) {K' : St → Prop} (hA : opG P fr x st K')
    {R : Act → World → Prop} (hR : ∀ a' w', Post N fr K' β (st.look fr) w a' w' → R a' w') : wpOp P ops Q' i R a w := by
  unfold wpOp
  rw [ho]
  simp only []
  have step := opG_sound (Q' := Q') h hc hA
  split at step
  · rename_i hw
    rw [if_pos hw]
    exact .inl (Oper.wp_mono hR step)
  · rename_i hw
    rw [if_neg hw]
    exact hR _ _ step
theorem any_one (ha : chkAnc ops anc = true) (hb : chkBack ops = true) : ∀ (n : Nat) (rem : List ROp) (listed : Array Bool) (st : St) (β : BMap) (a : Act) (w : World) (K : St → Prop), rem.length = n → Inv ops anc listed rem → pw anc rem = true → chkAll P N ops rem = true →
    Rel N fr st β a w → wpOpsA P fr rem st K → (∀ a' w', Post N fr K β (st.look fr) w a' w' → Q' .normal a' w') → wpAny P .any ops Q' n listed a w := by
  intro n
  induction n with
  | zero =>
    intro rem listed st β a w K hn hI _ _ h hA hq
    have : rem = [] := List.eq_nil_of_length_eq_zero hn
    subst this
    refine ⟨?_, hq a w ⟨st, β, hA, h, .refl _ _ _⟩⟩
    rcases hr : Region.ready .any ops listed with _ | ⟨i, l⟩
    · rfl
    · obtain ⟨o, _, hm, _⟩ := hI.ready ha (i := i) (by rw [hr]; simp)
      simp at hm
  | succ n ih =>
    intro rem listed st β a w K hn hI hp hc h hA hq
    refine ⟨fun hr => ?_, fun i hi => ?_⟩
    · have := hI.none_ready hb hr
      subst this
      simp at hn
    · obtain ⟨o, ho, hm, hk⟩ := hI.ready ha hi
      obtain ⟨x, hx, hix⟩ := List.mem_map.1 hm
      obtain ⟨pre, post, rfl⟩ := List.append_of_mem hx
      rw [← hix] at hk
      obtain ⟨p1, p2⟩ := pw_split hp
      have hmv := moveFront (fun y hy => hI.ok (List.mem_append_left _ hy) hk (p1 y hy)) hA
      have hcx : chkR P N ops o x = true := by
        have := (List.all_eq_true.1 hc) x hx
        rw [hix, ho] at this
        exact this
      refine pick_step ho hix hcx h hmv (fun a' w' hp' => ?_)
      obtain ⟨st', β', k1, k2, k3⟩ := hp'
      rw [← hix]
      refine ih (pre ++ post) _ st' β' a' w' K (by simp at hn ⊢; omega) (hI.step hk) p2 ?_ k2 k1 (fun a'' w'' hp'' => hq a'' w'' ?_)
      · simp only [chkAll, List.all_eq_true, List.mem_append, List.mem_cons] at hc ⊢
        intro y hy
        exact hc y (by rcases hy with hy | hy; exact .inl hy; exact .inr (.inr hy))
      · obtain ⟨st'', β'', m1, m2, m3⟩ := hp''
        exact ⟨st'', β'', m1, m2, k3.trans m3⟩
theorem any_two (ha : chkAnc ops anc = true) (hb : chkBack ops = true) {u v : ROp} {po : List ROp} (hpo : ∀ p ∈ po, (ancOf anc p.ix).testBit u.ix = true) : ∀ (n : Nat) (rem : List ROp) (listed : Array Bool) (st : St) (β : BMap) (a : Act) (w : World) (K : St → Prop), (rem ++ u :: v :: po).length = n → Inv ops anc listed (rem ++ u :: v :: po) → pw anc (rem ++ u :: po) = true → pw anc (rem ++ v :: po) = true → chkAll P N ops (rem ++ u :: v :: po) = true →
    Rel N fr st β a w → wpOpsA P fr rem st (fun s => wpOpsA P fr (u :: v :: po) s K ∧ wpOpsA P fr (v :: u :: po) s K) → (∀ a' w', Post N fr K β (st.look fr) w a' w' → Q' .normal a' w') → wpAny P .any ops Q' n listed a w := by
  intro n
  induction n with
  | zero => intro rem listed st β a w K hn; simp at hn
  | succ n ih =>
    intro rem listed st β a w K hn hI hpu hpv hc h hA hq
    refine ⟨fun hr => ?_, fun i hi => ?_⟩
    · have := hI.none_ready hb hr
      simp at this
    · obtain ⟨o, ho, hm, hk⟩ := hI.ready ha hi
      obtain ⟨x, hx, hix⟩ := List.mem_map.1 hm
      have hcx : chkR P N ops o x = true := by
        have := (List.all_eq_true.1 hc) x hx
        rw [hix, ho] at this
        exact this
      rw [← hix] at hk
      have fin : ∀ (rem' : List ROp) (p1 : pw anc rem' = true), rem'.length = n → Inv ops anc (listed.setIfInBounds x.ix true) rem' → (∀ y ∈ rem', y ∈ rem ++ u :: v :: po) → opG P fr x st (fun s => wpOpsA P fr rem' s K) → wpOp P ops Q' i (wpAny P .any ops Q' n (listed.setIfInBounds i true)) a w := by
        intro rem' p1 hl hI' hs hmv
        refine pick_step ho hix hcx h hmv (fun a' w' hp' => ?_)
        obtain ⟨st', β', k1, k2, k3⟩ := hp'
        rw [← hix]
        refine any_one ha hb n rem' _ st' β' a' w' K hl hI' p1 ?_ k2 k1 (fun a'' w'' hp'' => hq a'' w'' ?_)
        · simp only [chkAll, List.all_eq_true] at hc ⊢
          exact fun y hy => hc y (hs y hy)
        · obtain ⟨st'', β'', m1, m2, m3⟩ := hp''
          exact ⟨st'', β'', m1, m2, k3.trans m3⟩
      rcases List.mem_append.1 hx with hx' | hx'
      · obtain ⟨pre, post, rfl⟩ := List.append_of_mem hx'
        have e1 : (pre ++ x :: post) ++ u :: po = pre ++ x :: (post ++ u :: po) := by simp
        have e2 : (pre ++ x :: post) ++ v :: po = pre ++ x :: (post ++ v :: po) := by simp
        have e3 : (pre ++ x :: post) ++ u :: v :: po = pre ++ x :: (post ++ u :: v :: po) := by simp
        rw [e1] at hpu
        rw [e2] at hpv
        obtain ⟨p1, p2⟩ := pw_split hpu
        obtain ⟨q1, q2⟩ := pw_split hpv
        have hI2 := hI
        rw [e3] at hI2
        have hmv := moveFront (fun y hy => hI.ok (List.mem_append_left _ (List.mem_append_left _ hy)) hk (p1 y hy)) hA
        refine pick_step ho hix hcx h hmv (fun a' w' hp' => ?_)
        obtain ⟨st', β', k1, k2, k3⟩ := hp'
        rw [← hix]
        refine ih (pre ++ post) _ st' β' a' w' K (by simp at hn ⊢; omega) (by have := hI2.step hk; simpa using this) (by simpa using p2) (by simpa using q2) ?_ k2 k1 (fun a'' w'' hp'' => hq a'' w'' ?_)
        · simp only [chkAll, List.all_eq_true, List.mem_append, List.mem_cons] at hc ⊢
          intro y hy
          exact hc y (by rcases hy with (hy | hy) | hy; exact .inl (.inl hy); exact .inl (.inr (.inr hy)); exact .inr hy)
        · obtain ⟨st'', β'', m1, m2, m3⟩ := hp''
          exact ⟨st'', β'', m1, m2, k3.trans m3⟩
      · rcases List.mem_cons.1 hx' with rfl | hx''
        · have hmv := moveFront (fun y hy => hI.ok (List.mem_append_left _ hy) hk ((pw_split hpu).1 y hy)) (wpOpsA_append (wpOpsA_mono hA (fun s hs => hs.1)))
          exact fin (rem ++ v :: po) hpv (by simp at hn ⊢; omega) (hI.step hk) (fun y hy => by simp only [List.mem_append, List.mem_cons] at hy ⊢; rcases hy with hy | hy; exact .inl hy; exact .inr (.inr hy)) hmv
        rcases List.mem_cons.1 hx'' with rfl | hx3
        · have hmv := moveFront (fun y hy => hI.ok (List.mem_append_left _ hy) hk ((pw_split hpv).1 y hy)) (wpOpsA_append (wpOpsA_mono hA (fun s hs => hs.2)))
          have hI2 : Inv ops anc listed ((rem ++ [u]) ++ x :: po) := by have := hI; simpa using this
          exact fin (rem ++ u :: po) hpu (by simp at hn ⊢; omega) (by have := hI2.step hk; simpa using this) (fun y hy => by simp only [List.mem_append, List.mem_cons] at hy ⊢; rcases hy with hy | hy | hy; exact .inl hy; exact .inr (.inl hy); exact .inr (.inr (.inr hy))) hmv
        · have h1 := hk _ (hpo x hx3)
          have hu : u ∈ rem ++ u :: v :: po := by simp
          have h2 := (hI.out u.ix (hI.lt u hu)).2 (List.mem_map.2 ⟨u, hu, rfl⟩)
          rw [h1] at h2
          simp at h2
theorem Inv.start {xs : List ROp} (hall : ∀ i, i < ops.size → i ∈ xs.map (·.ix)) (hn : (xs.map (·.ix)).Nodup) (hc : chkAll P N ops xs = true) : Inv ops anc (Array.replicate ops.size false) xs := by
  have hlt : ∀ x ∈ xs, x.ix < ops.size := by
    intro x hx
    have := (List.all_eq_true.1 hc) x hx
    cases ho : ops[x.ix]? with
    | none => rw [ho] at this; simp at this
    | some o => exact (Array.getElem?_eq_some_iff.1 ho).1
  refine ⟨by simp, fun i hi => ?_, hn, fun j k hj _ => ?_, hlt⟩
  · simp only [Array.getD_eq_getD_getElem?, Array.getElem?_replicate, hi, if_true, Option.getD_some, true_iff]
    exact hall i hi
  · simp only [Array.getD_eq_getD_getElem?, Array.getElem?_replicate] at hj
    split at hj <;> simp at hj
theorem drawn_sound {xs two : List ROp} (hc : chkD P N ops xs two anc = true) (hm : P.follows .mixedOrders = true) {st : St} {β : BMap} {a : Act} {w : World} (h : Rel N fr st β a w) {K : St → Prop} {id : Nat}
    (hA : wpTwo P fr xs two st K)
    (hq : ∀ a' w', Post N fr K β (st.look fr) w a' w' → Q' .normal a' w') : (Code.region id ops true).wp P Q' a w := by
  simp only [chkD, Bool.and_eq_true, beq_iff_eq] at hc
  obtain ⟨⟨⟨⟨⟨⟨c1, c2⟩, c3⟩, c4⟩, c5⟩, c7⟩, c6⟩ := hc
  refine wp_region_any hm ?_
  have hI := Inv.start (anc := anc) (fun i hi => by simpa using (List.all_eq_true.1 c7) i (List.mem_range.2 hi)) (noDup_spec c3) c1
  have hq' : ∀ a' w', Post N fr K β (st.look fr) w.drew a' w' → Q' .normal a' w' := by
    intro a' w' ⟨st', β', k1, k2, k3⟩
    exact hq a' w' ⟨st', β', k1, k2, (Trans.drew _ _ _).trans k3⟩
  split at c6
  · refine any_one c4 c5 ops.size (xs ++ []) _ st β a w.drew K c2 hI (by simpa using c6) c1 h.drew ?_ hq'
    simpa [wpTwo] using hA
  · simp only [Bool.and_eq_true] at c6
    exact any_two c4 c5 (fun p hp => (List.all_eq_true.1 c6.2) p hp) ops.size xs _ st β a w.drew K c2 hI c6.1.1 c6.1.2 c1 h.drew hA hq'
  · simp at c6
end
def chk (P : Program) (N : Nat) : IR → Code → Bool
  | .frz _ b, c => chk P N b c
  | .skip, .skip => true
  | .reg xs two _ _, .region _ ops draw => if draw then P.follows .mixedOrders && chkD P N ops xs two (ancC ops) else two.isEmpty && chkL P N ops ops.toList xs
  | .seq a b, .seq c d => chk P N a c && chk P N b d
  | .cond c a b, .cond x y z => chkArg x c && chk P N a y && chk P N b z
  | .block i b, .block j c => i == j && chk P N b c
  | .loop _ _ b, .loop c => chk P N b c
  | .exit i, .exit j => i == j
  | .ret, .ret => true
  | .nxt d s xs _ _, .region _ ops false => (match ops.toList with
    | o :: os => (match o.op with
      | .next (.tmp s') false => s == s'
      | _ => false) && o.dst == some d && decide (d < N) && o.guard.isNone && chkL P N ops os xs
    | [] => false)
  | _, _ => false
def Ex.to : Ex → Exit
  | .normal => .normal
  | .exit id => .exit id
  | .ret => .ret
section
variable {P : Program} {N fr : Nat}
theorem wp_sound : ∀ (ir : IR) (c : Code) (st : St) (β : BMap) (a : Act) (w : World) (Q : Ex → St → Prop) (R : Exit → Act → World → Prop), chk P N ir c = true → Rel N fr st β a w → wp P fr ir st Q →
    (∀ e st' β' a' w', Q e st' → Rel N fr st' β' a' w' → Trans β (st.look fr) w β' (st'.look fr) w' → R e.to a' w') → c.wp P R a w := by
  intro ir
  induction ir with
  | frz s b ih =>
    intro c st β a w Q R hc h hw hR
    simp only [chk] at hc
    simp only [wp] at hw
    split at hw
    · rename_i st' hf
      obtain ⟨h1, h2⟩ := freeze_sound h hf
      exact ih c st' β a w Q R hc h1 hw (fun e st'' β' a' w' k1 k2 k3 => hR e st'' β' a' w' k1 k2 (h2.trans k3))
    · exact hw.elim
  | skip =>
    intro c st β a w Q R hc h hw hR
    cases c <;> simp [chk] at hc
    exact wp_skip (hR .normal st β a w hw h (.refl _ _ _))
  | reg xs two kr ks =>
    intro c st β a w Q R hc h hw hR
    cases c <;> simp only [chk, Bool.false_eq_true] at hc
    rename_i id ops draw
    have fin : ∀ a' w', Post N fr (fun st' => Q .normal (st'.restrict kr ks)) β (st.look fr) w a' w' → R .normal a' w' := by
      rintro a' w' ⟨st', β', k1, k2, k3⟩
      obtain ⟨m1, m2⟩ := restrict_sound k2 kr ks
      exact hR .normal _ β' a' w' k1 m1 (k3.trans m2)
    cases draw with
    | true =>
      simp only [if_true, Bool.and_eq_true] at hc
      obtain ⟨hm, hc⟩ := hc
      exact drawn_sound hc hm h (K := fun st' => Q .normal (st'.restrict kr ks)) hw fin
    | false =>
      simp only [Bool.false_eq_true, if_false, Bool.and_eq_true] at hc
      obtain ⟨h1, h2⟩ := hc
      have : two = [] := by simpa using h1
      subst this
      simp only [wp] at hw
      exact wp_region_list (wpOps_sound ops.toList xs st β a w _ h2 h hw fin)
  | nxt d s xs kr ks =>
    intro c st β a w Q R hc h hw hR
    cases c <;> try (simp only [chk, Bool.false_eq_true] at hc; done)
    rename_i id ops draw
    cases draw with
    | true => simp [chk] at hc
    | false =>
      unfold chk at hc
      split at hc
      · rename_i o os hops
        simp only [Bool.and_eq_true, beq_iff_eq, decide_eq_true_eq, Option.isNone_iff_eq_none] at hc
        obtain ⟨⟨⟨⟨hop, hdst⟩, hdN⟩, hg⟩, hcl⟩ := hc
        split at hop
        · rename_i s' ho
          simp only [beq_iff_eq] at hop
          subst hop
          simp only [wp] at hw
          refine wp_region_list ?_
          rw [hops]
          have hwn : Region.wanted o (yielded ops a.tmps) := by simp only [Region.wanted, hg]
          unfold wpList
          rw [if_pos hwn]
          refine .inl (Oper.wp_mono ?_ (sound_next h ho hdst hdN hw))
          rintro a1 w1 ⟨st1, β1, k1, k2, k3⟩
          refine wpOps_sound os xs st1 β1 a1 w1 _ hcl k2 k1 ?_
          rintro a' w' ⟨st', β', m1, m2, m3⟩
          obtain ⟨q1, q2⟩ := restrict_sound m2 kr ks
          exact hR .normal _ β' a' w' m1 q1 ((k3.trans m3).trans q2)
        · simp at hop
      · simp at hc
  | seq x y ihx ihy =>
    intro c st β a w Q R hc h hw hR
    cases c <;> simp only [chk, Bool.false_eq_true, Bool.and_eq_true] at hc
    refine wp_seq (ihx _ st β a w _ _ hc.1 h hw ?_)
    intro e st' β' a' w' k1 k2 k3
    cases e with
    | normal => exact ihy _ st' β' a' w' Q R hc.2 k2 k1 (fun e st'' β'' a'' w'' m1 m2 m3 => hR e st'' β'' a'' w'' m1 m2 (k3.trans m3))
    | exit id => exact hR (.exit id) st' β' a' w' k1 k2 k3
    | ret => exact hR .ret st' β' a' w' k1 k2 k3
  | cond x y z ihy ihz =>
    intro c st β a w Q R hc h hw hR
    cases c <;> simp only [chk, Bool.false_eq_true, Bool.and_eq_true] at hc
    rename_i cx cy cz
    have hv := chkArg_vr hc.1.1 h.regs
    simp only [wp] at hw
    split at hw
    · rename_i v hg
      rw [hg] at hv
      have hvb := hv.inv_b
      refine wp_cond hvb ?_
      cases v with
      | true => exact ihy _ st β a w Q R hc.1.2 h (by simpa using hw) hR
      | false => exact ihz _ st β a w Q R hc.2 h (by simpa using hw) hR
    · rename_i hg
      rw [hg] at hv
      generalize hu : a.eval cx = u at hv
      cases hv with
      | ub v =>
        refine wp_cond hu ?_
        cases v with
        | true => exact ihy _ st β a w Q R hc.1.2 h hw.1 hR
        | false => exact ihz _ st β a w Q R hc.2 h hw.2 hR
    · exact hw.elim
  | block i b ih =>
    intro c st β a w Q R hc h hw hR
    cases c <;> simp only [chk, Bool.false_eq_true, Bool.and_eq_true, beq_iff_eq] at hc
    obtain ⟨rfl, hc⟩ := hc
    refine wp_block (ih _ st β a w _ _ hc h hw ?_)
    intro e st' β' a' w' k1 k2 k3
    cases e with
    | normal => exact hR .normal st' β' a' w' k1 k2 k3
    | exit id =>
      show Exit.inBlock i R (.exit id) a' w'
      simp only [Exit.inBlock]
      simp only [] at k1
      split
      · rename_i hid; rw [if_pos hid] at k1; exact hR .normal st' β' a' w' k1 k2 k3
      · rename_i hid; rw [if_neg hid] at k1; exact hR (.exit id) st' β' a' w' k1 k2 k3
    | ret => exact hR .ret st' β' a' w' k1 k2 k3
  | loop kr ks b ih =>
    intro c st β a w Q R hc h hw hR
    cases c <;> simp only [chk, Bool.false_eq_true] at hc
    rename_i c
    obtain ⟨n, hn⟩ := hw
    obtain ⟨m1, m2⟩ := restrict_sound h kr ks
    refine wp_loop_rounds n ?_
    have key : ∀ (n : Nat) (st0 : St) (β0 : BMap) (a0 : Act) (w0 : World), Rel N fr st0 β0 a0 w0 → Trans β (st.look fr) w β0 (st0.look fr) w0 → iter kr ks (wp P fr b) Q n st0 → Code.rounds P c R n a0 w0 := by
      intro n
      induction n with
      | zero => intro st0 β0 a0 w0 _ _ hi; exact hi.elim
      | succ n ihn =>
        intro st0 β0 a0 w0 h0 t0 hi
        simp only [iter] at hi
        rw [rounds_succ]
        refine ih c st0 β0 a0 w0 _ _ hc h0 hi ?_
        intro e st' β' a' w' k1 k2 k3
        cases e with
        | normal =>
          obtain ⟨q1, q2⟩ := restrict_sound k2 kr ks
          exact ihn _ β' a' w' q1 ((t0.trans k3).trans q2) k1
        | exit id => exact hR (.exit id) st' β' a' w' k1 k2 (t0.trans k3)
        | ret => exact hR .ret st' β' a' w' k1 k2 (t0.trans k3)
    exact key n _ β a w m1 m2 hn
  | exit i =>
    intro c st β a w Q R hc h hw hR
    cases c <;> simp only [chk, Bool.false_eq_true, beq_iff_eq] at hc
    subst hc
    exact wp_exit (hR (.exit _) st β a w hw h (.refl _ _ _))
  | ret =>
    intro c st β a w Q R hc h hw hR
    cases c <;> simp only [chk, Bool.false_eq_true] at hc
    exact wp_ret (hR .ret st β a w hw h (.refl _ _ _))
inductive RVar where
  | t (s : Nat)
  | c (s n : Nat) (agg : Bool)
def resD (L : Sto) (r : Regs) : RVar → Option D
  | .t s => some (r s)
  | .c s n agg => match cellsAt L (r s) n with
    | some cs => mkV agg cs
    | none => none
def resL (L : Sto) (r : Regs) : List RVar → Option (List D)
  | [] => some []
  | x :: xs => match resD L r x, resL L r xs with
    | some d, some ds => some (d :: ds)
    | _, _ => none
def resAll (L : Sto) (r : Regs) (l : List RVar) : Option D := match resL L r l with
  | some [d] => some d
  | some ds => some (.t ds)
  | none => none
def chkRes (P : Program) : List ResultVar → List RVar → Bool
  | [], [] => true
  | .tmp t :: xs, .t s :: ys => t == s && chkRes P xs ys
  | .cell a t :: xs, .c s n agg :: ys => a == s && szOf P t == some n && aggOf P t == some agg && chkRes P xs ys
  | _, _ => false
def resM (tmps : Array Value) : ResultVar → Sem Value
  | .tmp t => pure (tmps.getD t undef)
  | .cell b t => do loadVar t (← asAddr (tmps.getD b undef))
theorem resL_sound {st : St} {β : BMap} {a : Act} {w : World} (h : Rel N fr st β a w) : ∀ {xs : List ResultVar} {ys : List RVar} {ds : List D}, chkRes P xs ys = true → resL (st.look fr) st.r ys = some ds →
    ∃ vs : List Value, (xs.mapM (resM a.tmps)).run P w = .ok vs w ∧ vs.length = ds.length ∧ ∀ (j : Nat) (d : D) (v : Value), ds[j]? = some d → vs[j]? = some v → VR w (okOf β (st.look fr) w) β d v
  | [], [], ds, _, hr => by
    simp only [resL] at hr
    injection hr with hr
    subst hr
    exact ⟨[], rfl, rfl, by simp⟩
  | [], _ :: _, _, hc, _ => by simp [chkRes] at hc
  | _ :: _, [], _, hc, _ => by
    rename_i x xs
    cases x <;> simp [chkRes] at hc
  | x :: xs, y :: ys, ds, hc, hr => by
    simp only [resL] at hr
    split at hr
    · rename_i d ds' hd hds
      injection hr with hr
      subst hr
      have one : chkRes P xs ys = true ∧ ∃ v, (resM a.tmps x).run P w = .ok v w ∧ VR w (okOf β (st.look fr) w) β d v := by
        cases x with
        | tmp t =>
          cases y with
          | t s =>
            simp only [chkRes, Bool.and_eq_true, beq_iff_eq] at hc
            obtain ⟨rfl, hc⟩ := hc
            simp only [resD] at hd
            injection hd with hd
            subst hd
            exact ⟨hc, _, rfl, h.regs t⟩
          | c _ _ _ => simp [chkRes] at hc
        | cell b t =>
          cases y with
          | t s => simp [chkRes] at hc
          | c s n agg =>
            simp only [chkRes, Bool.and_eq_true, beq_iff_eq] at hc
            obtain ⟨⟨⟨rfl, c1⟩, c2⟩, hc⟩ := hc
            refine ⟨hc, ?_⟩
            simp only [resD] at hd
            split at hd
            · rename_i cs hcs
              obtain ⟨u, u1, u2⟩ := run_loadAt h.sim c2 c1 (h.regs b) hcs hd
              refine ⟨u, ?_, u2⟩
              obtain ⟨blk, off, vs, e, _⟩ := cellsAt_vr h.sim (h.regs b) hcs
              rw [e] at u1
              simp only [resM]
              rw [e]
              simpa [Instr.loadAt, Instr.sureAddr, asAddr] using u1
            · simp at hd
      obtain ⟨hc', v, v1, v2⟩ := one
      obtain ⟨vs, w1, w2, w3⟩ := resL_sound h hc' hds
      refine ⟨v :: vs, ?_, by simp [w2], fun j d' v' hj hv => ?_⟩
      · simp only [List.mapM_cons, Sem.run_bind, v1, Result.andThen_ok, w1, Sem.run_pure]
      · cases j with
        | zero => simp at hj hv; subst hj; subst hv; exact v2
        | succ j => exact w3 j d' v' (by simpa using hj) (by simpa using hv)
    · simp at hr
theorem resAll_sound {st : St} {β : BMap} {a : Act} {w : World} (h : Rel N fr st β a w) {fn : Func} {ys : List RVar} {d : D} (hc : chkRes P fn.results.toList ys = true) (hr : resAll (st.look fr) st.r ys = some d) :
    ∃ v, (results fn a.tmps).run P w = .ok v w ∧ VR w (okOf β (st.look fr) w) β d v := by
  unfold resAll at hr
  cases hds : resL (st.look fr) st.r ys with
  | none => rw [hds] at hr; simp at hr
  | some ds =>
    rw [hds] at hr
    obtain ⟨vs, h1, h2, h3⟩ := resL_sound h hc hds
    have hrun : (fn.results.mapM (resM a.tmps)).run P w = .ok vs.toArray w := by
      rw [Array.mapM_eq_mapM_toList]
      show ((List.mapM _ fn.results.toList >>= fun l => pure l.toArray : Sem (Array Value))).run P w = _
      rw [Sem.run_bind, h1]
      rfl
    have hres : results fn a.tmps = (do
      let vs ← fn.results.mapM (resM a.tmps)
      pure (if h : vs.size = 1 then vs[0] else .tuple vs)) := rfl
    rw [hres, Sem.run_bind, hrun]
    simp only [Result.andThen_ok, Sem.run_pure]
    refine ⟨_, rfl, ?_⟩
    cases ds with
    | nil =>
      injection hr with hr
      subst hr
      have : vs = [] := List.eq_nil_of_length_eq_zero (by simpa using h2)
      subst this
      simp
      exact .t [] [] rfl (by simp)
    | cons d1 ds =>
      cases ds with
      | nil =>
        injection hr with hr
        subst hr
        cases vs with
        | nil => simp at h2
        | cons v vs =>
          have : vs = [] := List.eq_nil_of_length_eq_zero (by simpa using h2)
          subst this
          simpa using h3 0 _ v rfl rfl
      | cons d2 ds =>
        injection hr with hr
        subst hr
        have hsz : ¬ (vs.toArray.size = 1) := by simp only [List.size_toArray, h2, List.length_cons]; omega
        rw [dif_neg hsz]
        exact .t _ vs h2.symm h3
end
def argsR (args : List D) : Regs := fun s => args.getD s .u
def outOf (ups : List Up) (out : Sto) : Sto := fun k => match ups.find? (fun u => u.key == k) with
  | some u => some (u.st, u.new)
  | none => out k
structure Start (F : Nat) (ups : List Up) (out : Sto) : Prop where
  low : ∀ u ∈ ups, u.key.1 < F
  old : ∀ u ∈ ups, out u.key = some (u.st, u.old)
def Weak (d d' : D) : Prop := ∀ (w : World) (ok : Nat → Prop) (β : BMap) (v : Value), VR w ok β d' v → VR w ok β d v
theorem Weak.refl (d : D) : Weak d d := fun _ _ _ _ h => h
theorem Weak.trans {a b c : D} (h : Weak a b) (k : Weak b c) : Weak a c := fun w ok β v x => h w ok β v (k w ok β v x)
theorem Weak.u (d : D) : Weak .u d := fun _ _ _ v _ => .u v
def WeakL (xs ys : List D) : Prop := xs.length = ys.length ∧ ∀ (j : Nat) (x y : D), xs[j]? = some x → ys[j]? = some y → Weak x y
theorem WeakL.nil : WeakL [] [] := ⟨rfl, by simp⟩
theorem WeakL.cons {x y : D} {xs ys : List D} (h : Weak x y) (k : WeakL xs ys) : WeakL (x :: xs) (y :: ys) := by
  refine ⟨by simp [k.1], fun j a b ha hb => ?_⟩
  cases j with
  | zero => simp at ha hb; subst ha hb; exact h
  | succ j => exact k.2 j a b (by simpa using ha) (by simpa using hb)
theorem WeakL.refl : ∀ (xs : List D), WeakL xs xs
  | [] => .nil
  | x :: xs => .cons (.refl x) (.refl xs)
theorem WeakL.append {xs ys xs' ys' : List D} (h : WeakL xs ys) (k : WeakL xs' ys') : WeakL (xs ++ xs') (ys ++ ys') := by
  refine ⟨by simp [h.1, k.1], fun j a b ha hb => ?_⟩
  by_cases hj : j < xs.length
  · rw [List.getElem?_append_left hj] at ha
    rw [List.getElem?_append_left (by rw [← h.1]; exact hj)] at hb
    exact h.2 j a b ha hb
  · rw [List.getElem?_append_right (by omega)] at ha
    rw [List.getElem?_append_right (by rw [← h.1]; omega), ← h.1] at hb
    exact k.2 _ a b ha hb
theorem Weak.a {xs ys : List D} (h : WeakL xs ys) : Weak (.a xs) (.a ys) := by
  intro w ok β v hv
  cases hv with
  | a _ vs hl h1 h2 =>
    refine .a xs vs (by rw [h.1]; exact hl) (fun j d v hj hv => ?_) h2
    have hlt : j < ys.length := by have := (List.getElem?_eq_some_iff.1 hj).1; rw [← h.1]; exact this
    exact h.2 j _ _ hj (List.getElem?_eq_getElem hlt) w ok β v (h1 j _ v (List.getElem?_eq_getElem hlt) hv)
theorem Weak.t {xs ys : List D} (h : WeakL xs ys) : Weak (.t xs) (.t ys) := by
  intro w ok β v hv
  cases hv with
  | t _ vs hl h1 =>
    refine .t xs vs (by rw [h.1]; exact hl) (fun j d v hj hv => ?_)
    have hlt : j < ys.length := by have := (List.getElem?_eq_some_iff.1 hj).1; rw [← h.1]; exact this
    exact h.2 j _ _ hj (List.getElem?_eq_getElem hlt) w ok β v (h1 j _ v (List.getElem?_eq_getElem hlt) hv)
def WeakLL : List (List D) → List (List D) → Prop
  | [], [] => True
  | x :: xs, y :: ys => WeakL x y ∧ WeakLL xs ys
  | _, _ => False
theorem WeakLL.refl : ∀ (es : List (List D)), WeakLL es es
  | [] => trivial
  | e :: es => ⟨.refl e, .refl es⟩
theorem WeakLL.length : ∀ {xs ys : List (List D)}, WeakLL xs ys → xs.length = ys.length
  | [], [], _ => rfl
  | _ :: _, _ :: _, h => by simp [h.2.length]
  | [], _ :: _, h => h.elim
  | _ :: _, [], h => h.elim
theorem WeakLL.flat : ∀ {xs ys : List (List D)}, WeakLL xs ys → WeakL xs.flatten ys.flatten
  | [], [], _ => .nil
  | _ :: _, _ :: _, h => by simp only [List.flatten_cons]; exact h.1.append h.2.flat
  | [], _ :: _, h => h.elim
  | _ :: _, [], h => h.elim
theorem WeakLL.size {sz : Nat} : ∀ {xs ys : List (List D)}, WeakLL xs ys → (∀ e ∈ ys, e.length = sz) → ∀ e ∈ xs, e.length = sz
  | [], [], _, _ => by simp
  | x :: xs, y :: ys, h, hs => fun e he => by
    rcases List.mem_cons.1 he with rfl | he
    · rw [h.1.1]; exact hs y (by simp)
    · exact h.2.size (fun e he => hs e (by simp [he])) e he
  | [], _ :: _, h, _ => h.elim
  | _ :: _, [], h, _ => h.elim
theorem Weak.sl {sz : Nat} {f f' : Bool} {es es' : List (List D)} (hf : f = true → f' = true) (h : WeakLL es es') : Weak (.sl sz f es) (.sl sz f' es') := by
  intro w ok β v hv
  cases hv with
  | sl _ _ _ A c blk off cs hc hm hf' hz hA h1 h2 hr =>
    have hl := h.length
    have hfl := h.flat
    have := VR.sl (w := w) (ok := ok) (β := β) sz f es A c blk off cs (by omega) hm (fun q => by rw [hl]; exact hf' (hf q)) (h.size hz) (fun hne => hA (by rintro rfl; simp at hl; exact hne hl))
      h1 (fun q d hq => by
        have hlt : q < es'.flatten.length := by have := (List.getElem?_eq_some_iff.1 hq).1; rw [← hfl.1]; exact this
        exact hfl.2 q _ _ hq (List.getElem?_eq_getElem hlt) w ok β _ (h2 q _ (List.getElem?_eq_getElem hlt)))
      (fun q hq => hr q (by rw [← hfl.1]; exact hq))
    rw [hl] at this
    exact this
theorem Weak.slf (sz : Nat) (f : Bool) (es : List (List D)) : Weak (.sl sz false es) (.sl sz f es) := .sl (by simp) (.refl es)
def Fin (F : Nat) (ups : List Up) (out : Sto) (ys : List RVar) (d : D) : Ex → St → Prop := fun e st' => (match e with | .exit _ => False | _ => True) ∧ (∃ d', resAll (st'.look F) st'.r ys = some d' ∧ Weak d d') ∧ st'.out = outOf ups out
theorem wp_mono {P : Program} {fr : Nat} : ∀ {ir : IR} {st : St} {Q Q' : Ex → St → Prop}, wp P fr ir st Q → (∀ e s, Q e s → Q' e s) → wp P fr ir st Q' := by
  intro ir
  induction ir with
  | skip => intro st Q Q' h hq; exact hq _ _ h
  | nxt d s xs kr ks => intro st Q Q' h hq; exact nextO_mono h (fun s hs => wpOpsA_mono hs (fun s hs => hq _ _ hs))
  | reg xs two kr ks =>
    intro st Q Q' h hq
    simp only [wp, wpTwo] at h ⊢
    split
    · exact wpOpsA_mono h (fun s hs => ⟨wpOpsA_mono hs.1 (fun s hs => hq _ _ hs), wpOpsA_mono hs.2 (fun s hs => hq _ _ hs)⟩)
    · exact wpOpsA_mono (by simpa using h) (fun s hs => hq _ _ hs)
  | seq a b iha ihb =>
    intro st Q Q' h hq
    refine iha h (fun e s hs => ?_)
    cases e with
    | normal => exact ihb hs hq
    | exit id => exact hq _ _ hs
    | ret => exact hq _ _ hs
  | cond c a b iha ihb =>
    intro st Q Q' h hq
    simp only [wp] at h ⊢
    split
    · rename_i v hv
      rw [hv] at h
      simp only [] at h
      split
      · rename_i ht; rw [if_pos ht] at h; exact iha h hq
      · rename_i ht; rw [if_neg ht] at h; exact ihb h hq
    · rename_i hv
      rw [hv] at h
      exact ⟨iha h.1 hq, ihb h.2 hq⟩
    · rename_i h1 h2
      split at h
      · rename_i v hv; exact absurd hv (h1 v)
      · rename_i hv; exact absurd hv h2
      · exact h
  | block id b ih =>
    intro st Q Q' h hq
    refine ih h (fun e s hs => ?_)
    cases e with
    | normal => exact hq _ _ hs
    | exit i =>
      simp only [] at hs ⊢
      split
      · rename_i hi; rw [if_pos hi] at hs; exact hq _ _ hs
      · rename_i hi; rw [if_neg hi] at hs; exact hq _ _ hs
    | ret => exact hq _ _ hs
  | loop kr ks b ih =>
    intro st Q Q' h hq
    obtain ⟨n, hn⟩ := h
    refine ⟨n, ?_⟩
    generalize st.restrict kr ks = s0 at hn ⊢
    induction n generalizing s0 with
    | zero => exact hn.elim
    | succ n ihn =>
      refine ih hn (fun e s hs => ?_)
      cases e with
      | normal => exact ihn _ hs
      | exit id => exact hq _ _ hs
      | ret => exact hq _ _ hs
  | exit id => intro st Q Q' h hq; exact hq _ _ h
  | ret => intro st Q Q' h hq; exact hq _ _ h
  | frz s b ih =>
    intro st Q Q' h hq
    simp only [wp] at h ⊢
    split
    · rename_i st' hf; rw [hf] at h; exact ih h hq
    · rename_i hf; rw [hf] at h; exact h
theorem VR.down {w w' : World} {ok ok' : Nat → Prop} {β β' : BMap} (hl : BLe β β') {d : D} {v : Value} (h : VR w' ok' β' d v) : ∀ {v0 : Value}, VR w ok β d v0 → VR w' ok' β d v := by
  induction h with
  | u v => intro _ _; exact .u v
  | i k n => intro _ _; exact .i k n
  | b v => intro _ _; exact .b v
  | ub v => intro _ _; exact .ub v
  | a cs vs hl' h h1 ih =>
    intro v0 h0
    cases h0 with
    | a _ vs0 hl0 h0 _ => exact .a cs vs hl' (fun j d v e1 e2 => ih j d v e1 e2 (h0 j d _ e1 (List.getElem?_eq_getElem (by have := (List.getElem?_eq_some_iff.1 e1).1; omega)))) h1
  | t cs vs hl' h ih =>
    intro v0 h0
    cases h0 with
    | t _ vs0 hl0 h0 => exact .t cs vs hl' (fun j d v e1 e2 => ih j d v e1 e2 (h0 j d _ e1 (List.getElem?_eq_getElem (by have := (List.getElem?_eq_some_iff.1 e1).1; omega))))
  | sl sz full es A c blk off cs hc hm hf hz hA h1 h hr ih =>
    intro v0 h0
    cases h0 with
    | sl _ _ _ A0 c0 blk0 off0 cs0 hc0 hm0 hf0 hz0 hA0 h10 h0 hr0 => exact .sl sz full es A c blk off cs hc hm hf hz hA h1 (fun q d e => ih q d e (h0 q d e)) hr
  | p key st off blk hb =>
    intro v0 h0
    cases h0 with
    | p _ _ _ blk0 hb0 =>
      have := hl _ _ _ hb0
      rw [hb] at this
      injection this with this
      subst this
      exact .p key st off blk hb0
  | w key st sz lo len blk c hb hc hm hs' =>
    intro v0 h0
    cases h0 with
    | w _ _ _ _ _ blk0 c0 hb0 hc0 hm0 hs0 =>
      have := hl _ _ _ hb0
      rw [hb] at this
      injection this with this
      subst this
      exact .w key st sz lo len blk c hb0 hc hm hs'
  | pr key st sz idx fo blk hb =>
    intro v0 h0
    cases h0 with
    | pr _ _ _ _ _ blk0 hb0 =>
      have := hl _ _ _ hb0
      rw [hb] at this
      injection this with this
      subst this
      exact .pr key st sz idx fo blk hb0
  | q cs blk off vs hok h1 h hr ih =>
    intro v0 h0
    cases h0 with
    | q _ blk0 off0 vs0 hok0 h10 h0 hr0 => exact .q cs blk off vs hok h1 (fun q d e => ih q d e (h0 q d e)) hr
  | m key st blk hb =>
    intro v0 h0
    cases h0 with
    | m _ _ blk0 hb0 =>
      have := hl _ _ _ hb0
      rw [hb] at this
      injection this with this
      subst this
      exact .m key st blk hb0
  | it key st blk hb =>
    intro v0 h0
    cases h0 with
    | it _ _ blk0 hb0 =>
      have := hl _ _ _ hb0
      rw [hb] at this
      injection this with this
      subst this
      exact .it key st blk hb0
  | f fn first cap fs cs hl1 hl2 h1 h2 ih1 ih2 =>
    intro v0 h0
    cases h0 with
    | f _ _ _ fs0 cs0 k1 k2 g1 g2 =>
      exact .f fn first cap fs cs hl1 hl2 (fun j d v e1 e2 => ih1 j d v e1 e2 (g1 j d _ e1 (List.getElem?_eq_getElem (by have := (List.getElem?_eq_some_iff.1 e1).1; omega)))) (fun j d v e1 e2 => ih2 j d v e1 e2 (g2 j d _ e1 (List.getElem?_eq_getElem (by have := (List.getElem?_eq_some_iff.1 e1).1; omega))))
theorem CellsR.down {w w' : World} {ok ok' : Nat → Prop} {β β' : BMap} (hl : BLe β β') {cs : List D} {vs vs0 : List Value} (h : CellsR w' ok' β' cs vs) (h0 : CellsR w ok β cs vs0) : CellsR w' ok' β cs vs := fun q d hq => by
  obtain ⟨v, h1, h2, h3⟩ := h q d hq
  obtain ⟨v0, _, _, k3⟩ := h0 q d hq
  exact ⟨v, h1, h2, h3.down hl k3⟩
theorem Match.down {w w' : World} {ok ok' : Nat → Prop} {β β' : BMap} {x x0 : Nat} {o : Obj} (h : Match w' ok' β' x o) (hl : BLe β β') (h0 : Match w ok β x0 o) : Match w' ok' β x o := by
  cases o with
  | box cs => obtain ⟨vs, e, h1, h2, h3⟩ := h; obtain ⟨vs0, e0, k1, k2, k3⟩ := h0; exact ⟨vs, e, h1, h2, h3.down hl k3⟩
  | row sz es => obtain ⟨vs, e, h1, h2, h3⟩ := h; obtain ⟨vs0, e0, k1, k2, k3⟩ := h0; exact ⟨vs, e, h1, h2, h3.down hl k3⟩
  | map es =>
    obtain ⟨ents, h1, h2, h3⟩ := h
    obtain ⟨ents0, k1, k2, k3⟩ := h0
    refine ⟨ents, h1, h2, fun j kd vd hj => ?_⟩
    obtain ⟨ent, q1, q2, q3, q4⟩ := h3 j kd vd hj
    obtain ⟨ent0, r1, r2, r3, r4⟩ := k3 j kd vd hj
    exact ⟨ent, q1, q2, q3.down hl r3, q4.down hl r4⟩
  | iter key st seen n =>
    obtain ⟨m, h1, h2⟩ := h
    obtain ⟨m0, k1, k2⟩ := h0
    have := hl _ _ _ k1
    rw [h1] at this
    injection this with this
    subst this
    exact ⟨m, k1, h2⟩
  | held c => exact h
  | gone => trivial
structure EndsR (w : World) (β : BMap) (F : Nat) (ok : Nat → Prop) (ups : List Up) (w' : World) (β' : BMap) (L : Sto) : Prop where
  le : BLe β β'
  os : w'.os = w.os
  tape : Tp w w'
  output : w'.output = w.output
  size : w.heap.size ≤ w'.heap.size
  same : ∀ x, x < w.heap.size → (∀ u ∈ ups, β u.key u.st ≠ some x) → w'.heap[x]? = w.heap[x]?
  kept : ∀ x vs e, x < w.heap.size → w.heap[x]? = some (.cells vs e (0, 0)) → ∃ vs' : Array Value, w'.heap[x]? = some (.cells vs' e (0, 0)) ∧ vs'.size = vs.size
  news : ∀ u ∈ ups, ∀ x, β u.key u.st = some x → Match w' (okOf β' L w') β' x u.new
  sim : Sim β' L w'
  fromOk : ∀ x, ok x → okOf β' L w' x
  toOk : ∀ x, okOf β' L w' x → ok x ∨ (w.heap.size ≤ x ∧ x < w'.heap.size)
  others : ∀ x, x < w.heap.size → ¬ ok x → (∀ u ∈ ups, β u.key u.st ≠ some x) → ∃ k z o, k.1 ≤ F ∧ L k = some (z, o) ∧ o ≠ .gone ∧ β' k z = some x
open Classical in
theorem fn_core0 {P : Program} {k : FuncId} {fn : Func} {c : Code} {ir : IR} {ys : List RVar} {args : List D} {ups : List Up} (hf : P.funcs[k]? = some fn) (hb : fn.body = some c)
    (hc : chk P fn.ntmps ir c = true) (hres : chkRes P fn.results.toList ys = true) (hlen : args.length ≤ fn.ntmps)
    (hnew : ∀ u ∈ ups, (u.new.nr = true ∨ u.new = u.old) ∧ u.new ≠ .gone) (hnd : (ups.map (·.key)).Nodup)
    (w : World) (β : BMap) (F : Nat) (ok : Nat → Prop) (vals : List Value) (hvl : vals.length = args.length)
    (hv : ∀ (j : Nat) (d : D) (v : Value), args[j]? = some d → vals[j]? = some v → VR w ok β d v)
    (hoks : ∀ x, ok x → x < w.heap.size) (hlow : ∀ k s x, β k s = some x → k.1 < F ∧ x < w.heap.size)
    (hups : ∀ u ∈ ups, ∃ x, β u.key u.st = some x ∧ ¬ ok x ∧ x < w.heap.size ∧ Match w ok β x u.old ∧ u.old ≠ .gone)
    (hinj : ∀ u ∈ ups, ∀ u' ∈ ups, ∀ x, β u.key u.st = some x → β u'.key u'.st = some x → u.key = u'.key) (R : St → D → Prop)
    (hw : ∀ out, Start (F + 1) ups out → wp P (F + 1) ir { r := argsR args, own := fun _ => none, out := out, nx := 0 } (fun e st' => (match e with | .exit _ => False | _ => True) ∧ (∃ d, resAll (st'.look (F + 1)) st'.r ys = some d ∧ R st' d) ∧ st'.out = outOf ups out)) :
    Calls P k vals.toArray w fun e w' => ∃ v d st' β', e = .returned v ∧ EndsR w β F ok ups w' β' (st'.look (F + 1)) ∧ R st' d ∧ VR w' (okOf β' (st'.look (F + 1)) w') β' d v := by
  let ghost : Nat → Prop := fun x => x < w.heap.size ∧ ¬ ok x ∧ ∀ u ∈ ups, β u.key u.st ≠ some x
  let β0 : BMap := fun k s => if k.1 = F then (if s = 0 ∧ ghost k.2 then some k.2 else none) else β k s
  let out : Sto := fun k => if k.1 = F then (if ghost k.2 then some (0, .held w.heap[k.2]?) else none) else match ups.find? (fun u => u.key == k) with
    | some u => some (u.st, u.old)
    | none => none
  have hul : ∀ u ∈ ups, u.key.1 < F := by
    intro u hu
    obtain ⟨x, hx, _⟩ := hups u hu
    exact (hlow _ _ _ hx).1
  have hfind : ∀ u ∈ ups, ups.find? (fun v => v.key == u.key) = some u := by
    intro u hu
    cases hq : ups.find? (fun v => v.key == u.key) with
    | none =>
      rw [List.find?_eq_none] at hq
      exact absurd (by simp) (hq u hu)
    | some v =>
      have h1 := List.mem_of_find?_eq_some hq
      have h2 : v.key = u.key := by simpa using List.find?_some hq
      congr 1
      clear hw hinj hups hul hnew hq out ghost β0
      induction ups with
      | nil => simp at hu
      | cons z zs ih =>
        simp only [List.map_cons, List.nodup_cons] at hnd
        rcases List.mem_cons.1 hu with rfl | hu2
        · rcases List.mem_cons.1 h1 with rfl | h3
          · rfl
          · exact absurd (List.mem_map.2 ⟨v, h3, h2⟩ : u.key ∈ zs.map (·.key)) hnd.1
        · rcases List.mem_cons.1 h1 with rfl | h3
          · exact absurd (List.mem_map.2 ⟨u, hu2, h2.symm⟩ : v.key ∈ zs.map (·.key)) hnd.1
          · exact ih hnd.2 hu2 h3
  have hout : ∀ u ∈ ups, out u.key = some (u.st, u.old) := by
    intro u hu
    show (if u.key.1 = F then _ else _) = _
    rw [if_neg (by have := hul u hu; omega), hfind u hu]
  have houtg : ∀ x, ghost x → out (F, x) = some (0, .held w.heap[x]?) := by
    intro x hx
    show (if F = F then _ else _) = _
    rw [if_pos rfl, if_pos hx]
  have hβg : ∀ x, ghost x → β0 (F, x) 0 = some x := by
    intro x hx
    show (if F = F then _ else _) = _
    rw [if_pos rfl, if_pos ⟨rfl, hx⟩]
  have hle : BLe β β0 := by
    intro k s x hx
    show (if k.1 = F then _ else _) = _
    rw [if_neg (by have := (hlow _ _ _ hx).1; omega)]
    exact hx
  have hstart : Start (F + 1) ups out := ⟨fun u hu => by have := hul u hu; omega, hout⟩
  -- what stands in the first store
  have cases0 : ∀ k s o, out k = some (s, o) → (∃ x, k = (F, x) ∧ s = 0 ∧ o = .held w.heap[x]? ∧ ghost x) ∨ ∃ u ∈ ups, k = u.key ∧ s = u.st ∧ o = u.old := by
    intro k s o hk
    have hk' : (if k.1 = F then (if ghost k.2 then some (0, Obj.held w.heap[k.2]?) else none) else match ups.find? (fun u => u.key == k) with
      | some u => some (u.st, u.old)
      | none => none) = some (s, o) := hk
    split at hk'
    · rename_i hkF
      split at hk'
      · rename_i hg
        obtain ⟨e1, e2⟩ := some_pair hk'
        exact .inl ⟨k.2, by rw [← hkF], e1.symm, e2.symm, hg⟩
      · simp at hk'
    · split at hk'
      · rename_i u hq
        obtain ⟨e1, e2⟩ := some_pair hk'
        exact .inr ⟨u, List.mem_of_find?_eq_some hq, (by simpa using List.find?_some hq : u.key = k).symm, e1.symm, e2.symm⟩
      · simp at hk'
  let st0 : St := { r := argsR args, own := fun _ => none, out := out, nx := 0 }
  have hlk : ∀ k v, st0.look (F + 1) k = some v → out k = some v := by
    intro k v hk
    simp only [St.look, st0] at hk
    split at hk
    · simp at hk
    · exact hk
  have hok0 : ∀ x, okOf β0 (st0.look (F + 1)) w x ↔ ok x := by
    intro x
    constructor
    · intro hx
      apply Classical.byContradiction
      intro hn
      by_cases hu : ∃ u ∈ ups, β u.key u.st = some x
      · obtain ⟨u, hu, hb⟩ := hu
        refine hx.2 u.key u.st u.old ?_ ?_ (hle _ _ _ hb)
        · simp only [St.look, st0]
          rw [if_neg (by have := hul u hu; omega)]
          exact hout u hu
        · exact (hups u hu).choose_spec.2.2.2.2
      · have hg : ghost x := ⟨hx.1, hn, fun u hu' hb => hu ⟨u, hu', hb⟩⟩
        refine hx.2 (F, x) 0 (.held w.heap[x]?) ?_ (by simp) (hβg x hg)
        simp only [St.look, st0]
        rw [if_neg (by omega)]
        exact houtg x hg
    · intro hx
      refine ⟨hoks x hx, fun k s o hk hg hb => ?_⟩
      rcases cases0 k s o (hlk _ _ hk) with ⟨y, rfl, rfl, rfl, hy⟩ | ⟨u, hu, rfl, rfl, rfl⟩
      · rw [hβg y hy] at hb
        injection hb with hb
        subst hb
        exact hy.2.1 hx
      · obtain ⟨y, h1, h2, _⟩ := hups u hu
        rw [hle _ _ _ h1] at hb
        injection hb with hb
        subst hb
        exact h2 hx
  have hup : ∀ d v, VR w ok β d v → VR w (okOf β0 (st0.look (F + 1)) w) β0 d v := fun d v h => h.mono (fun x hx => ⟨(hok0 x).2 hx, rfl⟩) hle (fun _ _ _ vs _ _ h => ⟨vs, h, rfl⟩)
  have hR0 : Rel fn.ntmps (F + 1) st0 β0 { tmps := vals.toArray ++ Array.replicate (fn.ntmps - vals.toArray.size) undef, defers := [] } w := by
    refine ⟨by simp; omega, rfl, fun s => ?_, ⟨?_, ?_, ?_, ?_⟩, ?_⟩
    · show VR _ _ _ (args.getD s .u) _
      by_cases hs : s < args.length
      · have h1 : args[s]? = some args[s] := List.getElem?_eq_getElem hs
        have h2 : vals[s]? = some (vals[s]'(by omega)) := List.getElem?_eq_getElem (by omega)
        have h3 := hup _ _ (hv s _ _ h1 h2)
        have e1 : args.getD s .u = args[s] := by simp [hs]
        have e2 : (vals.toArray ++ Array.replicate (fn.ntmps - vals.toArray.size) undef).getD s undef = vals[s]'(by omega) := by
          simp [Array.getD_eq_getD_getElem?, Array.getElem?_append, hvl, hs]
        rw [e1, e2]
        exact h3
      · have e1 : args.getD s .u = .u := by simp [List.getD_eq_getElem?_getD, List.getElem?_eq_none (by omega : args.length ≤ s)]
        rw [e1]
        exact .u _
    · intro k s o k' s' o' x hk hk' hg hg' hb hb'
      rcases cases0 k s o (hlk _ _ hk) with ⟨y, rfl, rfl, rfl, hy⟩ | ⟨u, hu, rfl, rfl, rfl⟩ <;> rcases cases0 k' s' o' (hlk _ _ hk') with ⟨y', rfl, rfl, rfl, hy'⟩ | ⟨u', hu', rfl, rfl, rfl⟩
      · rw [hβg y hy] at hb
        rw [hβg y' hy'] at hb'
        injection hb with hb
        injection hb' with hb'
        rw [hb, hb']
      · rw [hβg y hy] at hb
        injection hb with hb
        subst hb
        obtain ⟨z, h1, _⟩ := hups u' hu'
        rw [hle _ _ _ h1] at hb'
        injection hb' with hb'
        subst hb'
        exact absurd h1 (hy.2.2 u' hu')
      · rw [hβg y' hy'] at hb'
        injection hb' with hb'
        subst hb'
        obtain ⟨z, h1, _⟩ := hups u hu
        rw [hle _ _ _ h1] at hb
        injection hb with hb
        subst hb
        exact absurd h1 (hy'.2.2 u hu)
      · obtain ⟨z, h1, _⟩ := hups u hu
        obtain ⟨z', h1', _⟩ := hups u' hu'
        rw [hle _ _ _ h1] at hb
        rw [hle _ _ _ h1'] at hb'
        injection hb with hb
        injection hb' with hb'
        subst hb
        subst hb'
        exact hinj u hu u' hu' _ h1 h1'
    · intro k s o hk x hb
      rcases cases0 k s o (hlk _ _ hk) with ⟨y, rfl, rfl, rfl, hy⟩ | ⟨u, hu, rfl, rfl, rfl⟩
      · rw [hβg y hy] at hb
        injection hb with hb
        subst hb
        rfl
      · obtain ⟨z, h1, _, _, h4, _⟩ := hups u hu
        rw [hle _ _ _ h1] at hb
        injection hb with hb
        subst hb
        exact Match.mono hup hle rfl h4
    · intro k s x hb
      have hb' : (if k.1 = F then (if s = 0 ∧ ghost k.2 then some k.2 else none) else β k s) = some x := hb
      split at hb'
      · split at hb'
        · rename_i hg
          injection hb' with hb'
          subst hb'
          exact hg.2.1
        · simp at hb'
      · exact (hlow _ _ _ hb').2
    · intro k s o hk
      rcases cases0 k s o (hlk _ _ hk) with ⟨y, rfl, rfl, rfl, hy⟩ | ⟨u, hu, rfl, rfl, rfl⟩
      · exact ⟨_, hβg y hy⟩
      · obtain ⟨z, h1, _⟩ := hups u hu
        exact ⟨z, hle _ _ _ h1⟩
    · intro k s x hb
      have hb' : (if k.1 = F then (if s = 0 ∧ ghost k.2 then some k.2 else none) else β k s) = some x := hb
      have : k.1 ≤ F := by
        split at hb'
        · omega
        · have := (hlow _ _ _ hb').1; omega
      exact ⟨by omega, fun h => by omega⟩
  refine calls_of_wp hf hb ?_
  refine wp_sound ir c st0 β0 _ w _ _ hc hR0 (hw out hstart) ?_
  intro e st' β' a' w' hQ hR hT
  obtain ⟨he, ⟨d, hre, hRd⟩, hso⟩ := hQ
  have hlk' : ∀ k, k.1 ≠ F + 1 → st'.look (F + 1) k = outOf ups out k := by
    intro k hk
    simp only [St.look]
    rw [if_neg hk, hso]
  have hlu : ∀ u ∈ ups, st'.look (F + 1) u.key = some (u.st, u.new) := by
    intro u hu
    rw [hlk' _ (by have := hul u hu; omega)]
    simp only [outOf, hfind u hu]
  have hlg : ∀ x, ghost x → st'.look (F + 1) (F, x) = some (0, .held w.heap[x]?) := by
    intro x hx
    rw [hlk' _ (by simp)]
    simp only [outOf]
    have : ups.find? (fun u => u.key == (F, x)) = none := by
      rw [List.find?_eq_none]
      intro u hu
      simp only [beq_iff_eq]
      intro e
      have := hul u hu
      rw [e] at this
      omega
    rw [this]
    exact houtg x hx
  have hok' : ∀ x, okOf β' (st'.look (F + 1)) w' x → ok x ∨ (w.heap.size ≤ x ∧ x < w'.heap.size) := by
    intro x hx
    by_cases hs : w.heap.size ≤ x
    · exact .inr ⟨hs, hx.1⟩
    · refine .inl ?_
      apply Classical.byContradiction
      intro hn
      by_cases hu : ∃ u ∈ ups, β u.key u.st = some x
      · obtain ⟨u, hu, hb⟩ := hu
        exact hx.2 _ _ _ (hlu u hu) (hnew u hu).2 (hT.le _ _ _ (hle _ _ _ hb))
      · have hg : ghost x := ⟨by omega, hn, fun u hu' hb => hu ⟨u, hu', hb⟩⟩
        exact hx.2 _ _ _ (hlg x hg) (by simp) (hT.le _ _ _ (hβg x hg))
  have hsame : ∀ x, x < w.heap.size → (∀ u ∈ ups, β u.key u.st ≠ some x) → w'.heap[x]? = w.heap[x]? := by
    intro x hx hu
    by_cases hxo : ok x
    · exact (hT.okm x ((hok0 x).2 hxo)).2
    · have hg : ghost x := ⟨hx, hxo, hu⟩
      exact hR.sim.live _ _ _ (hlg x hg) x (hT.le _ _ _ (hβg x hg))
  obtain ⟨v, hv1, hv2⟩ := resAll_sound hR hres hre
  have hends : EndsR w β F ok ups w' β' (st'.look (F + 1)) :=
    ⟨hle.trans hT.le, hT.os, hT.tape, hT.output, hT.size, hsame, fun x vs e hx hvs => by
        by_cases hu : ∃ u ∈ ups, β u.key u.st = some x
        · obtain ⟨u, hu, hb⟩ := hu
          exact hT.kept _ _ _ _ _ (hle _ _ _ hb) hvs
        · exact ⟨vs, by rw [hsame x hx (fun u hu' hb => hu ⟨u, hu', hb⟩)]; exact hvs, rfl⟩,
      fun u hu x hb => hR.sim.live _ _ _ (hlu u hu) x (hT.le _ _ _ (hle _ _ _ hb)), hR.sim, fun x hx => (hT.okm x ((hok0 x).2 hx)).1, hok',
      fun x h1 h2 h3 => ⟨(F, x), 0, _, Nat.le_refl _, hlg x ⟨h1, h2, h3⟩, by simp, hT.le _ _ _ (hβg x ⟨h1, h2, h3⟩)⟩⟩
  have fin : a'.defers = [] ∧ ∃ v, (results fn a'.tmps).run P w' = .ok v w' ∧ ∃ v_1 d st' β', Ending.returned v = .returned v_1 ∧ EndsR w β F ok ups w' β' (st'.look (F + 1)) ∧ R st' d ∧ VR w' (okOf β' (st'.look (F + 1)) w') β' d v_1 :=
    ⟨hR.defers, v, hv1, v, d, st', β', rfl, hends, hRd, hv2⟩
  cases e with
  | normal => exact fin
  | ret => exact fin
  | exit id => exact he.elim
theorem fn_core {P : Program} {k : FuncId} {fn : Func} {c : Code} {ir : IR} {ys : List RVar} {args : List D} {ups : List Up} {d : D} (hf : P.funcs[k]? = some fn) (hb : fn.body = some c)
    (hc : chk P fn.ntmps ir c = true) (hres : chkRes P fn.results.toList ys = true) (hlen : args.length ≤ fn.ntmps) (hd : d.nr = true)
    (hnew : ∀ u ∈ ups, (u.new.nr = true ∨ u.new = u.old) ∧ u.new ≠ .gone) (hnd : (ups.map (·.key)).Nodup)
    (w : World) (β : BMap) (F : Nat) (ok : Nat → Prop) (vals : List Value) (hvl : vals.length = args.length)
    (hv : ∀ (j : Nat) (d : D) (v : Value), args[j]? = some d → vals[j]? = some v → VR w ok β d v)
    (hoks : ∀ x, ok x → x < w.heap.size) (hlow : ∀ k s x, β k s = some x → k.1 < F ∧ x < w.heap.size)
    (hups : ∀ u ∈ ups, ∃ x, β u.key u.st = some x ∧ ¬ ok x ∧ x < w.heap.size ∧ Match w ok β x u.old ∧ u.old ≠ .gone)
    (hinj : ∀ u ∈ ups, ∀ u' ∈ ups, ∀ x, β u.key u.st = some x → β u'.key u'.st = some x → u.key = u'.key)
    (hw : ∀ out, Start (F + 1) ups out → wp P (F + 1) ir { r := argsR args, own := fun _ => none, out := out, nx := 0 } (Fin (F + 1) ups out ys d)) :
    Calls P k vals.toArray w fun e w' => ∃ v, e = .returned v ∧ w'.os = w.os ∧ Tp w w' ∧ w'.output = w.output ∧ w.heap.size ≤ w'.heap.size ∧
      (∀ x, x < w.heap.size → (∀ u ∈ ups, β u.key u.st ≠ some x) → w'.heap[x]? = w.heap[x]?) ∧
      (∀ x vs e, x < w.heap.size → w.heap[x]? = some (.cells vs e (0, 0)) → ∃ vs' : Array Value, w'.heap[x]? = some (.cells vs' e (0, 0)) ∧ vs'.size = vs.size) ∧
      (∀ u ∈ ups, ∀ x, β u.key u.st = some x → Match w' (fun x => ok x ∨ (w.heap.size ≤ x ∧ x < w'.heap.size)) β x u.new) ∧
      VR w' (fun x => ok x ∨ (w.heap.size ≤ x ∧ x < w'.heap.size)) β d v := by
  refine (fn_core0 hf hb hc hres hlen hnew hnd w β F ok vals hvl hv hoks hlow hups hinj (fun _ d' => Weak d d') (fun out hs => hw out hs)).mono fun e w' he => ?_
  obtain ⟨v, d', st', β', rfl, hE, hwk, hvr⟩ := he
  have hdown : ∀ d v, VR w' (okOf β' (st'.look (F + 1)) w') β' d v → VR w' (fun x => ok x ∨ (w.heap.size ≤ x ∧ x < w'.heap.size)) β' d v := fun d v h => h.mono (fun x hx => ⟨hE.toOk x hx, rfl⟩) (.refl _) (fun _ _ _ vs _ _ h => ⟨vs, h, rfl⟩)
  exact ⟨v, rfl, hE.os, hE.tape, hE.output, hE.size, hE.same, hE.kept, fun u hu x hb => by
    have hM := Match.mono hdown (.refl _) rfl (hE.news u hu x hb)
    rcases (hnew u hu).1 with hn | hn
    · exact hM.any hn β
    · obtain ⟨y, _, _, _, h4, _⟩ := hups u hu
      exact hM.down hE.le (hn ▸ h4), (hdown _ _ (hwk _ _ _ _ hvr)).any hd β⟩
theorem fnN_intro {P : Program} {k : FuncId} {fn : Func} {c : Code} {ir : IR} {ys : List RVar} {args : List D} {sz : Nat} {es : List (List D)} (hf : P.funcs[k]? = some fn) (hb : fn.body = some c)
    (hname : (fn.name == "runtime.NumGoroutine") = false) (hc : chk P fn.ntmps ir c = true) (hres : chkRes P fn.results.toList ys = true) (hlen : args.length ≤ fn.ntmps) (hd : nrLL es = true)
    (hw : ∀ F out, wp P F ir { r := argsR args, own := fun _ => none, out := out, nx := 0 } (fun e st' => (match e with | .exit _ => False | _ => True) ∧ (∃ d, resAll (st'.look F) st'.r ys = some d ∧ ∃ s z, d = .w (F, s) z sz 0 es.length ∧ st'.own s = some (z, .row sz es)) ∧ st'.out = out)) : FnN P k args sz es := by
  refine ⟨⟨fn, hf, by rw [hb]; rfl, hname⟩, fun w β F ok vals hvl hv hoks hlow => ?_⟩
  refine (fn_core0 (ups := []) hf hb hc hres hlen (by simp) List.nodup_nil w β F ok vals hvl hv hoks hlow (by simp) (by simp) (fun st' d => ∃ s z, d = .w (F + 1, s) z sz 0 es.length ∧ st'.own s = some (z, .row sz es)) (fun out hs => hw (F + 1) out)).mono fun e w' he => ?_
  obtain ⟨v, d', st', β', rfl, hE, ⟨s, z, rfl, hown⟩, hvr⟩ := he
  cases hvr with
  | w _ _ _ _ _ blk c hb' hc' hm hs =>
    have hlk : st'.look (F + 1) (F + 1, s) = some (z, .row sz es) := by simp [St.look, hown]
    have hnok : ¬ okOf β' (st'.look (F + 1)) w' blk := fun h => h.2 _ _ _ hlk (by simp) hb'
    have hge : w.heap.size ≤ blk := by
      apply Classical.byContradiction
      intro hn
      by_cases hk : ok blk
      · exact hnok (hE.fromOk _ hk)
      · obtain ⟨q, z', o, h1, h2, h3, h4⟩ := hE.others blk (by omega) hk (by simp)
        have := hE.sim.inj _ _ _ _ _ _ _ hlk h2 (by simp) h3 hb' h4
        rw [← this] at h1
        exact absurd h1 (by show ¬ (F + 1 ≤ F); omega)
    obtain ⟨vs, e, v1, v2⟩ := hs
    refine ⟨blk, c, by simp, hE.os, hE.tape, hE.output, hE.size, fun x hx => hE.same x hx (by simp), hge, hE.sim.low _ _ _ hb', hc', hm, ⟨vs, e, v1, by simpa using v2⟩, ?_⟩
    refine Match.any (β := β') ?_ (show Obj.nr (.row sz es) = true from hd) β
    refine Match.mono (fun d v hv => hv.mono (fun x hx => ⟨?_, rfl⟩) (.refl _) (fun _ _ _ vs _ _ h => ⟨vs, h, rfl⟩)) (.refl _) rfl (hE.sim.live _ _ _ hlk blk hb')
    rcases hE.toOk x hx with h | ⟨h1, h2⟩
    · exact .inl h
    · refine .inr ⟨h1, h2, ?_⟩
      rintro rfl
      exact hnok hx
theorem fnR_intro {P : Program} {k : FuncId} {fn : Func} {c : Code} {ir : IR} {ys : List RVar} {args : List D} {ups : List Up} {d : D} (hf : P.funcs[k]? = some fn) (hb : fn.body = some c)
    (hname : (fn.name == "runtime.NumGoroutine") = false) (hc : chk P fn.ntmps ir c = true) (hres : chkRes P fn.results.toList ys = true) (hlen : args.length ≤ fn.ntmps) (hd : d.nr = true)
    (hnew : ∀ u ∈ ups, (u.new.nr = true ∨ u.new = u.old) ∧ u.new ≠ .gone) (hnd : (ups.map (·.key)).Nodup)
    (hw : ∀ F out, Start F ups out → wp P F ir { r := argsR args, own := fun _ => none, out := out, nx := 0 } (Fin F ups out ys d)) : FnR P k args ups d :=
  ⟨⟨fn, hf, by rw [hb]; rfl, hname⟩, fun w β F ok vals hvl hv hoks hlow hups hinj => fn_core hf hb hc hres hlen hd hnew hnd w β F ok vals hvl hv hoks hlow hups hinj (fun out h => hw (F + 1) out h)⟩
def D.top (G : Nat) : D → Bool
  | .w k _ _ _ _ | .p k _ _ | .pr k _ _ _ _ | .m k _ | .it k _ => decide (k.1 < G)
  | d => d.nr
abbrev Outs := List (Ex × St)
section
variable {P : Program} {fr : Nat}
theorem wpOpsA_one : ∀ {l : List ROp} {st : St} {K : St → Prop}, wpOpsA P fr l st K → ∃ s, K s ∧ ∀ K' : St → Prop, K' s → wpOpsA P fr l st K'
  | [], st, K, h => ⟨st, h, fun K' hk => hk⟩
  | o :: os, st, K, h => by
    obtain ⟨s, h1, _, _, h4⟩ := opG_one h
    obtain ⟨s', k1, k2⟩ := wpOpsA_one h1
    exact ⟨s', k1, fun K' hk => h4 _ (k2 K' hk)⟩
theorem outs_bind {α : Type} {l : List α} {S : α → Outs → Prop} (h : ∀ p ∈ l, ∃ m, S p m) : ∃ f : α → Outs, ∀ p ∈ l, S p (f p) := by
  have : ∀ p, ∃ m, p ∈ l → S p m := by
    intro p
    by_cases hp : p ∈ l
    · obtain ⟨m, hm⟩ := h p hp; exact ⟨m, fun _ => hm⟩
    · exact ⟨[], fun h => absurd h hp⟩
  exact ⟨fun p => (this p).choose, fun p hp => (this p).choose_spec hp⟩
def FinO (T : (Ex → St → Prop) → Prop) : Prop := ∀ Q, T Q → ∃ l : Outs, (∀ p ∈ l, Q p.1 p.2) ∧ ∀ Q' : Ex → St → Prop, (∀ p ∈ l, Q' p.1 p.2) → T Q'
theorem wp_fin : ∀ (ir : IR) (st : St), FinO (wp P fr ir st) := by
  intro ir
  induction ir with
  | skip => intro st Q h; exact ⟨[(.normal, st)], by simpa [wp] using h, fun Q' hq => hq (.normal, st) (by simp)⟩
  | ret => intro st Q h; exact ⟨[(.ret, st)], by simpa [wp] using h, fun Q' hq => hq (.ret, st) (by simp)⟩
  | exit id => intro st Q h; exact ⟨[(.exit id, st)], by simpa [wp] using h, fun Q' hq => hq (.exit id, st) (by simp)⟩
  | frz s b ih =>
    intro st Q h
    simp only [wp] at h
    split at h
    · rename_i st' hf
      obtain ⟨l, h1, h2⟩ := ih st' Q h
      exact ⟨l, h1, fun Q' hq => by simp only [wp, hf]; exact h2 Q' hq⟩
    · exact h.elim
  | nxt d s xs kr ks =>
    intro st Q h
    simp only [wp] at h
    obtain ⟨la, h1, h2⟩ := nextO_fin h
    have : ∀ p ∈ la, ∃ m : Outs, (∀ q ∈ m, Q q.1 q.2) ∧ ∀ Q' : Ex → St → Prop, (∀ q ∈ m, Q' q.1 q.2) → wpOpsA P fr xs p (fun s' => Q' .normal (s'.restrict kr ks)) := by
      intro p hp
      obtain ⟨s, k1, k2⟩ := wpOpsA_one (h1 p hp)
      exact ⟨[(.normal, s.restrict kr ks)], by simpa using k1, fun Q' hq => k2 _ (hq (.normal, s.restrict kr ks) (by simp))⟩
    obtain ⟨f, hf⟩ := outs_bind this
    refine ⟨la.flatMap f, fun q hq => ?_, fun Q' hq => ?_⟩
    · obtain ⟨p, hp, hqp⟩ := List.mem_flatMap.1 hq
      exact (hf p hp).1 q hqp
    · simp only [wp]
      exact h2 _ (fun p hp => (hf p hp).2 Q' (fun q hqp => hq q (List.mem_flatMap.2 ⟨p, hp, hqp⟩)))
  | reg xs two kr ks =>
    intro st Q h
    simp only [wp] at h
    unfold wpTwo at h
    split at h
    · rename_i u v po
      obtain ⟨s, ⟨k1, k2⟩, k3⟩ := wpOpsA_one h
      obtain ⟨s1, m1, m2⟩ := wpOpsA_one k1
      obtain ⟨s2, n1, n2⟩ := wpOpsA_one k2
      refine ⟨[(.normal, s1.restrict kr ks), (.normal, s2.restrict kr ks)], ?_, fun Q' hq => ?_⟩
      · intro p hp
        simp only [List.mem_cons, List.not_mem_nil, or_false] at hp
        rcases hp with rfl | rfl
        · exact m1
        · exact n1
      · simp only [wp, wpTwo]
        exact k3 _ ⟨m2 _ (hq (.normal, s1.restrict kr ks) (by simp)), n2 _ (hq (.normal, s2.restrict kr ks) (by simp))⟩
    · rename_i hne
      obtain ⟨s, k1, k2⟩ := wpOpsA_one h
      refine ⟨[(.normal, s.restrict kr ks)], by simpa using k1, fun Q' hq => ?_⟩
      simp only [wp]
      unfold wpTwo
      split
      · rename_i u v po; exact absurd rfl (hne u v po)
      · exact k2 _ (hq (.normal, s.restrict kr ks) (by simp))
  | seq a b iha ihb =>
    intro st Q h
    obtain ⟨la, h1, h2⟩ := iha st _ h
    obtain ⟨f, hf⟩ := outs_bind (l := la) (S := fun p m => (∀ q ∈ m, Q q.1 q.2) ∧ ∀ Q' : Ex → St → Prop, (∀ q ∈ m, Q' q.1 q.2) → (match p.1 with
      | .normal => wp P fr b p.2 Q'
      | .exit id => Q' (.exit id) p.2
      | .ret => Q' .ret p.2)) (fun p hp => by
        have := h1 p hp
        obtain ⟨e, s⟩ := p
        cases e with
        | normal => exact ihb s Q this
        | exit id => exact ⟨[(.exit id, s)], by simpa using this, fun Q' hq => hq (.exit id, s) (by simp)⟩
        | ret => exact ⟨[(.ret, s)], by simpa using this, fun Q' hq => hq (.ret, s) (by simp)⟩)
    refine ⟨la.flatMap f, fun q hq => ?_, fun Q' hq => ?_⟩
    · obtain ⟨p, hp, hqp⟩ := List.mem_flatMap.1 hq
      exact (hf p hp).1 q hqp
    · refine h2 _ (fun p hp => ?_)
      have := (hf p hp).2 Q' (fun q hqp => hq q (List.mem_flatMap.2 ⟨p, hp, hqp⟩))
      obtain ⟨e, s⟩ := p
      cases e <;> exact this
  | cond c a b iha ihb =>
    intro st Q h
    simp only [wp] at h
    cases hc : c.get st.r with
    | b v =>
      rw [hc] at h
      cases v with
      | true =>
        obtain ⟨l, h1, h2⟩ := iha st Q (by simpa using h)
        exact ⟨l, h1, fun Q' hq => by simp only [wp, hc]; simpa using h2 Q' hq⟩
      | false =>
        obtain ⟨l, h1, h2⟩ := ihb st Q (by simpa using h)
        exact ⟨l, h1, fun Q' hq => by simp only [wp, hc]; simpa using h2 Q' hq⟩
    | ub =>
      rw [hc] at h
      obtain ⟨l, h1, h2⟩ := iha st Q h.1
      obtain ⟨m, k1, k2⟩ := ihb st Q h.2
      refine ⟨l ++ m, fun p hp => ?_, fun Q' hq => ?_⟩
      · rcases List.mem_append.1 hp with hp | hp
        · exact h1 p hp
        · exact k1 p hp
      · simp only [wp, hc]
        exact ⟨h2 Q' (fun p hp => hq p (List.mem_append_left _ hp)), k2 Q' (fun p hp => hq p (List.mem_append_right _ hp))⟩
    | _ => rw [hc] at h; exact h.elim
  | block id b ih =>
    intro st Q h
    obtain ⟨l, h1, h2⟩ := ih st _ h
    refine ⟨l.map (fun p => match p.1 with | .exit i => (if i = id then .normal else .exit i, p.2) | _ => p), fun q hq => ?_, fun Q' hq => ?_⟩
    · obtain ⟨p, hp, rfl⟩ := List.mem_map.1 hq
      have := h1 p hp
      obtain ⟨e, s⟩ := p
      cases e with
      | normal => exact this
      | ret => exact this
      | exit i =>
        simp only [] at this ⊢
        split
        · rename_i hi; rw [if_pos hi] at this; exact this
        · rename_i hi; rw [if_neg hi] at this; exact this
    · refine h2 _ (fun p hp => ?_)
      have := hq _ (List.mem_map.2 ⟨p, hp, rfl⟩)
      obtain ⟨e, s⟩ := p
      cases e with
      | normal => exact this
      | ret => exact this
      | exit i =>
        simp only [] at this ⊢
        split
        · rename_i hi; rw [if_pos hi] at this; exact this
        · rename_i hi; rw [if_neg hi] at this; exact this
  | loop kr ks b ih =>
    intro st Q h
    obtain ⟨n, hn⟩ := h
    have key : ∀ (n : Nat) (s : St), iter kr ks (wp P fr b) Q n s → ∃ l : Outs, (∀ p ∈ l, Q p.1 p.2) ∧ ∀ Q' : Ex → St → Prop, (∀ p ∈ l, Q' p.1 p.2) → iter kr ks (wp P fr b) Q' n s := by
      intro n
      induction n with
      | zero => intro s h; exact h.elim
      | succ n ihn =>
        intro s h
        obtain ⟨la, h1, h2⟩ := ih s _ h
        obtain ⟨f, hf⟩ := outs_bind (l := la) (S := fun p m => (∀ q ∈ m, Q q.1 q.2) ∧ ∀ Q' : Ex → St → Prop, (∀ q ∈ m, Q' q.1 q.2) → (match p.1 with
          | .normal => iter kr ks (wp P fr b) Q' n (p.2.restrict kr ks)
          | .exit id => Q' (.exit id) p.2
          | .ret => Q' .ret p.2)) (fun p hp => by
            have := h1 p hp
            obtain ⟨e, s⟩ := p
            cases e with
            | normal => exact ihn _ this
            | exit id => exact ⟨[(.exit id, s)], by simpa using this, fun Q' hq => hq (.exit id, s) (by simp)⟩
            | ret => exact ⟨[(.ret, s)], by simpa using this, fun Q' hq => hq (.ret, s) (by simp)⟩)
        refine ⟨la.flatMap f, fun q hq => ?_, fun Q' hq => ?_⟩
        · obtain ⟨p, hp, hqp⟩ := List.mem_flatMap.1 hq
          exact (hf p hp).1 q hqp
        · refine h2 _ (fun p hp => ?_)
          have := (hf p hp).2 Q' (fun q hqp => hq q (List.mem_flatMap.2 ⟨p, hp, hqp⟩))
          obtain ⟨e, s⟩ := p
          cases e <;> exact this
    obtain ⟨l, h1, h2⟩ := key n _ hn
    exact ⟨l, h1, fun Q' hq => ⟨n, h2 Q' hq⟩⟩
def Loop (P : Program) (fr : Nat) (kr ks : List Nat) (b : IR) (st : St) (Q : Ex → St → Prop) : Prop := ∃ n, iter kr ks (wp P fr b) Q n st
def loopK (P : Program) (fr : Nat) (kr ks : List Nat) (b : IR) (Q : Ex → St → Prop) : Ex → St → Prop
  | .normal, st' => Loop P fr kr ks b (st'.restrict kr ks) Q
  | .exit id, st' => Q (.exit id) st'
  | .ret, st' => Q .ret st'
theorem iter_mono {kr ks : List Nat} {b : IR} {Q : Ex → St → Prop} : ∀ {n m : Nat} {st : St}, n ≤ m → iter kr ks (wp P fr b) Q n st → iter kr ks (wp P fr b) Q m st
  | 0, _, _, _, h => h.elim
  | n + 1, 0, _, hl, _ => by omega
  | n + 1, m + 1, st, hl, h => by
    refine wp_mono (ir := b) h (fun e s hs => ?_)
    cases e with
    | normal => exact iter_mono (by omega) hs
    | exit id => exact hs
    | ret => exact hs
theorem Loop.step {kr ks : List Nat} {b : IR} {st : St} {Q : Ex → St → Prop} (h : wp P fr b st (loopK P fr kr ks b Q)) : Loop P fr kr ks b st Q := by
  obtain ⟨l, h1, h2⟩ := wp_fin b st _ h
  have : ∃ N, ∀ p ∈ l, (match p.1 with
      | .normal => iter kr ks (wp P fr b) Q N (p.2.restrict kr ks)
      | .exit id => Q (.exit id) p.2
      | .ret => Q .ret p.2) := by
    clear h2 h
    induction l with
    | nil => exact ⟨0, by simp⟩
    | cons p l ih =>
      obtain ⟨N, hN⟩ := ih (fun q hq => h1 q (List.mem_cons_of_mem _ hq))
      have hp := h1 p (List.mem_cons_self ..)
      obtain ⟨e, s⟩ := p
      have hM : ∃ M, N ≤ M ∧ (match (e, s).1 with
        | .normal => iter kr ks (wp P fr b) Q M ((e, s).2.restrict kr ks)
        | .exit id => Q (.exit id) (e, s).2
        | .ret => Q .ret (e, s).2) := by
        cases e with
        | normal =>
          obtain ⟨n, hn⟩ := hp
          exact ⟨max N n, by omega, iter_mono (by omega) hn⟩
        | exit id => exact ⟨N, Nat.le_refl _, hp⟩
        | ret => exact ⟨N, Nat.le_refl _, hp⟩
      obtain ⟨M, hM1, hM2⟩ := hM
      refine ⟨M, fun q hq => ?_⟩
      rcases List.mem_cons.1 hq with rfl | hq
      · exact hM2
      · have := hN q hq
        obtain ⟨e', s'⟩ := q
        cases e' with
        | normal => exact iter_mono hM1 this
        | exit id => exact this
        | ret => exact this
  obtain ⟨N, hN⟩ := this
  exact ⟨N + 1, h2 _ hN⟩
def seqK (P : Program) (fr : Nat) (b : IR) (Q : Ex → St → Prop) : Ex → St → Prop
  | .normal, st' => wp P fr b st' Q
  | .exit id, st' => Q (.exit id) st'
  | .ret, st' => Q .ret st'
def blockK (id : Nat) (Q : Ex → St → Prop) : Ex → St → Prop
  | .normal, st' => Q .normal st'
  | .exit id', st' => if id' = id then Q .normal st' else Q (.exit id') st'
  | .ret, st' => Q .ret st'
variable {st : St} {Q : Ex → St → Prop}
theorem wp_seq {a b : IR} (h : wp P fr a st (seqK P fr b Q)) : wp P fr (.seq a b) st Q := wp_mono (ir := a) h (fun e s hs => by cases e <;> exact hs)
theorem wp_block {id : Nat} {b : IR} (h : wp P fr b st (blockK id Q)) : wp P fr (.block id b) st Q := wp_mono (ir := b) h (fun e s hs => by cases e <;> exact hs)
theorem wp_skip (h : Q .normal st) : wp P fr .skip st Q := h
theorem wp_exit {id : Nat} (h : Q (.exit id) st) : wp P fr (.exit id) st Q := h
theorem wp_ret (h : Q .ret st) : wp P fr .ret st Q := h
theorem wp_cond {c : Arg} {a b : IR} {v : Bool} (hc : c.get st.r = .b v) (h : if v = true then wp P fr a st Q else wp P fr b st Q) : wp P fr (.cond c a b) st Q := by
  simp only [wp, hc]; exact h
theorem upd_eq {α : Type} (f : Nat → α) (s : Nat) (x : α) : upd f s x s = x := by simp [upd]
theorem upd_ne {α : Type} (f : Nat → α) (s j : Nat) (x : α) (h : (j == s) = false) : upd f s x j = f j := by
  have : j ≠ s := by simpa using h
  simp [upd, this]
end
def wD (n : Nat) : List D := [.i .u32 n]
def eW (l : List Nat) : List (List D) := l.map wD
theorem eW_nil : eW [] = [] := (rfl)
theorem eW_cons (n : Nat) (l : List Nat) : eW (n :: l) = wD n :: eW l := (rfl)
theorem eW_length (l : List Nat) : (eW l).length = l.length := by simp [eW]
theorem eW_get (l : List Nat) (i : Nat) : (eW l)[i]? = (l[i]?).map wD := by simp [eW]
theorem eW_append (l m : List Nat) : eW l ++ eW m = eW (l ++ m) := by simp [eW]
theorem eW_take (l : List Nat) (n : Nat) : (eW l).take n = eW (l.take n) := by simp [eW]
theorem eW_drop (l : List Nat) (n : Nat) : (eW l).drop n = eW (l.drop n) := by simp [eW]
theorem eW_rep (n : Nat) : List.replicate n [D.i .u32 0] = eW (List.replicate n 0) := by simp [eW, wD]
theorem eW_set (l : List Nat) (i w : Nat) : (eW l).set i [D.i .u32 (w : Int)] = eW (l.set i w) := by simp [eW, wD, List.map_set]
theorem nrL_wD (n : Nat) : nrL (wD n) = true := (rfl)
theorem nrLL_eW : ∀ (l : List Nat), nrLL (eW l) = true
  | [] => rfl
  | n :: l => by simp [eW_cons, nrLL, nrL_wD, nrLL_eW l]
theorem nr_eW (f : Bool) (l : List Nat) : (D.sl 1 f (eW l)).nr = true := nrLL_eW l
section
variable {P : Program} {fr : Nat}
abbrev KD := Inhabited (D → Prop)
abbrev KS := Inhabited (St → Prop)
abbrev KP := Inhabited (Prop × Prop)
abbrev KL := Inhabited (List D → Prop)
abbrev KO := Inhabited (Key → Nat × Obj → Prop)
abbrev KE := Inhabited (Ex → St → Prop)
def bindO (o : Option D) [c : KD] : Prop := match o with
  | some d => c.default d
  | none => False
theorem bindO_some (d : D) (K : D → Prop) : @bindO (some d) ⟨K⟩ = K d := (rfl)
def stepO (P : Program) (fr : Nat) (op : IOp) (dst : Option Nat) (st : St) [c : KS] : Prop := opA P fr op dst st c.default
def runO (P : Program) (fr : Nat) (l : List ROp) (st : St) [c : KS] : Prop := wpOpsA P fr l st c.default
def gO (d : D) (want : Bool) [c : KP] : Prop := match d with
  | .b v => if v = want then c.default.1 else c.default.2
  | .t [] => c.default.2
  | _ => False
theorem gO_tt (A B : Prop) : @gO (.b true) true ⟨A, B⟩ = A := (rfl)
theorem gO_ff (A B : Prop) : @gO (.b false) false ⟨A, B⟩ = A := (rfl)
theorem gO_tf (A B : Prop) : @gO (.b true) false ⟨A, B⟩ = B := (rfl)
theorem gO_ft (A B : Prop) : @gO (.b false) true ⟨A, B⟩ = B := (rfl)
theorem gO_t (want : Bool) (A B : Prop) : @gO (.t []) want ⟨A, B⟩ = B := (rfl)
def condO (d : D) [c : KP] : Prop := match d with
  | .b v => if v = true then c.default.1 else c.default.2
  | .ub => c.default.1 ∧ c.default.2
  | _ => False
theorem condO_t (A B : Prop) : @condO (.b true) ⟨A, B⟩ = A := (rfl)
theorem condO_f (A B : Prop) : @condO (.b false) ⟨A, B⟩ = B := (rfl)
theorem condO_u (A B : Prop) : @condO .ub ⟨A, B⟩ = (A ∧ B) := (rfl)
theorem condO_d {p : Prop} [Decidable p] {A B : Prop} (h : p → A) (k : ¬ p → B) : @condO (.b (decide p)) ⟨A, B⟩ := by
  by_cases hp : p
  · simp only [hp, decide_true, condO_t]; exact h hp
  · simp only [hp, decide_false, condO_f]; exact k hp
def Wp (P : Program) (fr : Nat) (ir : IR) (st : St) [c : KE] : Prop := wp P fr ir st c.default
def callO (P : Program) (f : FuncId) (args : List D) [c : KD] : Prop := ∃ d, FnR P f args [] d ∧ c.default d
theorem callO_intro {f : FuncId} {args : List D} {K : D → Prop} {d : D} (h : FnR P f args [] d) (k : K d) : @callO P f args ⟨K⟩ := ⟨d, h, k⟩
variable {st : St} {Q : Ex → St → Prop} {K : St → Prop} {dst : Option Nat} {ir : IR}
theorem run_nil : @runO P fr [] st ⟨K⟩ = K st := (rfl)
theorem run_cons (d : Option Nat) (op : IOp) (ix : Nat) (l : List ROp) : @runO P fr (⟨d, op, none, ix⟩ :: l) st ⟨K⟩ = @stepO P fr op d st ⟨fun s => @runO P fr l s ⟨K⟩⟩ := (rfl)
theorem run_consG (d : Option Nat) (op : IOp) (s : Nat) (want : Bool) (ix : Nat) (l : List ROp) : @runO P fr (⟨d, op, some (s, want), ix⟩ :: l) st ⟨K⟩ = @gO (st.r s) want ⟨@stepO P fr op d st ⟨fun s => @runO P fr l s ⟨K⟩⟩, @runO P fr l (st.put d (.t [])) ⟨K⟩⟩ := by
  unfold runO
  simp only [wpOpsA, opG, gO, stepO]
  generalize st.r s = d0
  cases d0 with
  | t l => cases l <;> rfl
  | _ => rfl
theorem run_oD (d : Nat) (op : IOp) (ix : Nat) (l : List ROp) : @runO P fr (oD d op ix :: l) st ⟨K⟩ = @stepO P fr op (some d) st ⟨fun s => @runO P fr l s ⟨K⟩⟩ := (rfl)
theorem run_oN (op : IOp) (ix : Nat) (l : List ROp) : @runO P fr (oN op ix :: l) st ⟨K⟩ = @stepO P fr op none st ⟨fun s => @runO P fr l s ⟨K⟩⟩ := (rfl)
theorem run_oT (d : Nat) (op : IOp) (s ix : Nat) (l : List ROp) : @runO P fr (oT d op s ix :: l) st ⟨K⟩ = @gO (st.r s) true ⟨@stepO P fr op (some d) st ⟨fun s => @runO P fr l s ⟨K⟩⟩, @runO P fr l (st.put (some d) (.t [])) ⟨K⟩⟩ := run_consG ..
theorem run_oF (d : Nat) (op : IOp) (s ix : Nat) (l : List ROp) : @runO P fr (oF d op s ix :: l) st ⟨K⟩ = @gO (st.r s) false ⟨@stepO P fr op (some d) st ⟨fun s => @runO P fr l s ⟨K⟩⟩, @runO P fr l (st.put (some d) (.t [])) ⟨K⟩⟩ := run_consG ..
theorem W_in : wp P fr ir st Q = @Wp P fr ir st ⟨Q⟩ := (rfl)
theorem w_skip : @Wp P fr .skip st ⟨Q⟩ = Q .normal st := (rfl)
theorem w_ret : @Wp P fr .ret st ⟨Q⟩ = Q .ret st := (rfl)
theorem w_exit (i : Nat) : @Wp P fr (.exit i) st ⟨Q⟩ = Q (.exit i) st := (rfl)
theorem w_seq (a b : IR) : @Wp P fr (.seq a b) st ⟨Q⟩ = @Wp P fr a st ⟨seqK P fr b Q⟩ := by
  have : seqK P fr b Q = (fun e st' => match e with
    | .normal => wp P fr b st' Q
    | .exit id => Q (.exit id) st'
    | .ret => Q .ret st') := by funext e s; cases e <;> rfl
  rw [this]; rfl
theorem w_block (i : Nat) (b : IR) : @Wp P fr (.block i b) st ⟨Q⟩ = @Wp P fr b st ⟨blockK i Q⟩ := by
  have : blockK i Q = (fun e st' => match e with
    | .normal => Q .normal st'
    | .exit id' => if id' = i then Q .normal st' else Q (.exit id') st'
    | .ret => Q .ret st') := by funext e s; cases e <;> rfl
  rw [this]; rfl
theorem w_cond (c : Arg) (a b : IR) : @Wp P fr (.cond c a b) st ⟨Q⟩ = @condO (c.get st.r) ⟨@Wp P fr a st ⟨Q⟩, @Wp P fr b st ⟨Q⟩⟩ := by
  simp only [Wp, wp, condO]
  cases c.get st.r <;> rfl
theorem w_reg (xs : List ROp) (kr ks : List Nat) : @Wp P fr (.reg xs [] kr ks) st ⟨Q⟩ = @runO P fr xs st ⟨fun s => Q .normal (s.restrict kr ks)⟩ := (rfl)
theorem w_reg2 (xs : List ROp) (u v : ROp) (po : List ROp) (kr ks : List Nat) : @Wp P fr (.reg xs (u :: v :: po) kr ks) st ⟨Q⟩ = @runO P fr xs st ⟨fun s => @runO P fr (u :: v :: po) s ⟨fun s => Q .normal (s.restrict kr ks)⟩ ∧ @runO P fr (v :: u :: po) s ⟨fun s => Q .normal (s.restrict kr ks)⟩⟩ := (rfl)
theorem w_loop (kr ks : List Nat) (b : IR) : @Wp P fr (.loop kr ks b) st ⟨Q⟩ = Loop P fr kr ks b (st.restrict kr ks) Q := (rfl)
def frzO (o : Option St) [c : KS] : Prop := match o with
  | some s => c.default s
  | none => False
theorem frzO_some (s : St) (K : St → Prop) : @frzO (some s) ⟨K⟩ = K s := (rfl)
theorem w_frz (s : Nat) (b : IR) : @Wp P fr (.frz s b) st ⟨Q⟩ = @frzO (freeze fr s st) ⟨fun s' => @Wp P fr b s' ⟨Q⟩⟩ := by
  simp only [Wp, wp, frzO]
  cases freeze fr s st <;> rfl
theorem sK_n (b : IR) (s : St) : seqK P fr b Q .normal s = @Wp P fr b s ⟨Q⟩ := (rfl)
theorem sK_e (b : IR) (s : St) (i : Nat) : seqK P fr b Q (.exit i) s = Q (.exit i) s := (rfl)
theorem sK_r (b : IR) (s : St) : seqK P fr b Q .ret s = Q .ret s := (rfl)
theorem bK_n (i : Nat) (s : St) : blockK i Q .normal s = Q .normal s := (rfl)
theorem bK_e (i : Nat) (s : St) : blockK i Q (.exit i) s = Q .normal s := by simp [blockK]
theorem bK_e' (i j : Nat) (s : St) (h : (j == i) = false) : blockK i Q (.exit j) s = Q (.exit j) s := by
  have : j ≠ i := by simpa using h
  simp [blockK, this]
theorem bK_r (i : Nat) (s : St) : blockK i Q .ret s = Q .ret s := (rfl)
theorem lK_n (kr ks : List Nat) (b : IR) (s : St) : loopK P fr kr ks b Q .normal s = Loop P fr kr ks b (s.restrict kr ks) Q := (rfl)
theorem lK_e (kr ks : List Nat) (b : IR) (s : St) (i : Nat) : loopK P fr kr ks b Q (.exit i) s = Q (.exit i) s := (rfl)
theorem lK_r (kr ks : List Nat) (b : IR) (s : St) : loopK P fr kr ks b Q .ret s = Q .ret s := (rfl)
theorem Loop.stepW {kr ks : List Nat} {b : IR} (h : @Wp P fr b st ⟨loopK P fr kr ks b Q⟩) : Loop P fr kr ks b st Q := Loop.step h
theorem s_ev {x : IOp} (hx : ∀ (P : Program) (fr : Nat) (st : St) (dst : Option Nat) (K : St → Prop), opA P fr x dst st K = (match ev (st.look fr) st.r x with | some d => K (st.put dst d) | none => False)) : @stepO P fr x dst st ⟨K⟩ = @bindO (ev (st.look fr) st.r x) ⟨fun d => K (st.put dst d)⟩ := by
  unfold stepO
  rw [hx]
  rfl
theorem s_mv (x : Arg) : @stepO P fr (.mv x) dst st ⟨K⟩ = K (st.put dst (x.get st.r)) := (rfl)
theorem s_un (op : UnOp) (x : Arg) : @stepO P fr (.un op x) dst st ⟨K⟩ = @bindO (evUn op (x.get st.r)) ⟨fun d => K (st.put dst d)⟩ := (rfl)
theorem s_bin (op : BinOp) (x y : Arg) : @stepO P fr (.bin op x y) dst st ⟨K⟩ = @bindO (evBin op (x.get st.r) (y.get st.r)) ⟨fun d => K (st.put dst d)⟩ := (rfl)
theorem s_eqa (neg : Bool) (n : Nat) (x y : Arg) : @stepO P fr (.eqa neg n x y) dst st ⟨K⟩ = @bindO (evEqa neg n (x.get st.r) (y.get st.r)) ⟨fun d => K (st.put dst d)⟩ := (rfl)
theorem s_eqb (neg : Bool) (x y : Arg) : @stepO P fr (.eqb neg x y) dst st ⟨K⟩ = @bindO (evEqb neg (x.get st.r) (y.get st.r)) ⟨fun d => K (st.put dst d)⟩ := (rfl)
def convO (k : IntKind) : D → Option D
  | .i _ n => some (.i k (k.wrap n))
  | _ => none
theorem convO_i (k k' : IntKind) (n : Int) : convO k (.i k' n) = some (.i k (k.wrap n)) := (rfl)
theorem s_conv (k : IntKind) (x : Arg) : @stepO P fr (.conv k x) dst st ⟨K⟩ = @bindO (convO k (x.get st.r)) ⟨fun d => K (st.put dst d)⟩ := (rfl)
def pickO : D → D → D → Option D
  | .b v, a, b => some (if v then a else b)
  | _, _, _ => none
theorem pickO_t (a b : D) : pickO (.b true) a b = some a := (rfl)
theorem pickO_f (a b : D) : pickO (.b false) a b = some b := (rfl)
theorem s_pick (c a b : Arg) : @stepO P fr (.pick c a b) dst st ⟨K⟩ = @bindO (pickO (c.get st.r) (a.get st.r) (b.get st.r)) ⟨fun d => K (st.put dst d)⟩ := by
  rw [s_ev (fun _ _ _ _ _ => rfl)]
  simp only [ev]
  cases c.get st.r <;> rfl
theorem s_build (z : List D) (ps : List (Nat × Nat × Arg)) : @stepO P fr (.build z ps) dst st ⟨K⟩ = @bindO ((fillD st.r z ps).map .a) ⟨fun d => K (st.put dst d)⟩ := (rfl)
def loadO (n : Nat) (agg : Bool) (o : Option (List D)) : Option D := match o with
  | some cs => mkV agg cs
  | none => none
theorem loadO_1 (d : D) : loadO 1 false (some [d]) = some d := (rfl)
theorem loadO_a (n : Nat) (cs : List D) : loadO n true (some cs) = some (.a cs) := (rfl)
theorem s_load (n : Nat) (agg : Bool) (x : Arg) : @stepO P fr (.load n agg x) dst st ⟨K⟩ = @bindO (loadO n agg (cellsAt (st.look fr) (x.get st.r) n)) ⟨fun d => K (st.put dst d)⟩ := (rfl)
def fldO (off : Nat) : D → Option D
  | .p k s o => some (.p k s (o + off))
  | .pr k s sz i fo => some (.pr k s sz i (fo + off))
  | .q cs => some (.q (cs.drop off))
  | _ => none
theorem s_fld (off : Nat) (x : Arg) : @stepO P fr (.fld off x) dst st ⟨K⟩ = @bindO (fldO off (x.get st.r)) ⟨fun d => K (st.put dst d)⟩ := by
  rw [s_ev (fun _ _ _ _ _ => rfl)]
  simp only [ev]
  cases x.get st.r <;> rfl
def ixaO (len sz : Nat) (x : D) : D → Option D
  | .i _ n => if 0 ≤ n ∧ n < len then match x with
      | .p k s o => some (.p k s (o + n.toNat * sz))
      | .pr k s sz' i fo => some (.pr k s sz' i (fo + n.toNat * sz))
      | .q cs => some (.q (cs.drop (n.toNat * sz)))
      | _ => none else none
  | _ => none
theorem s_ixa (len sz : Nat) (x i : Arg) : @stepO P fr (.ixa len sz x i) dst st ⟨K⟩ = @bindO (ixaO len sz (x.get st.r) (i.get st.r)) ⟨fun d => K (st.put dst d)⟩ := by
  rw [s_ev (fun _ _ _ _ _ => rfl)]
  simp only [ev]
  cases i.get st.r <;> first | rfl | (simp only [ixaO]; rfl)
def ixsO (sz : Nat) (x : D) : D → Option D
  | .i _ n => if 0 ≤ n then match x with
      | .sl sz' _ es => if sz = sz' then match es[n.toNat]? with
          | some e => some (.q e)
          | none => none else none
      | .w k s sz' lo len => if sz = sz' ∧ n.toNat < len then some (.pr k s sz (lo + n.toNat) 0) else none
      | _ => none else none
  | _ => none
theorem s_ixs (sz : Nat) (x i : Arg) : @stepO P fr (.ixs sz x i) dst st ⟨K⟩ = @bindO (ixsO sz (x.get st.r) (i.get st.r)) ⟨fun d => K (st.put dst d)⟩ := by
  rw [s_ev (fun _ _ _ _ _ => rfl)]
  simp only [ev]
  cases i.get st.r <;> first | rfl | (simp only [ixsO]; rfl)
theorem ixsO_sl (sz : Nat) (f : Bool) (es : List (List D)) (k : IntKind) (n : Nat) (e : List D) (h : es[n]? = some e) : ixsO sz (.sl sz f es) (.i k n) = some (.q e) := by simp [ixsO, h]
theorem ixsO_w (sz : Nat) (key : Key) (z lo len : Nat) (k : IntKind) (n : Nat) (h : n < len) : ixsO sz (.w key z sz lo len) (.i k n) = some (.pr key z sz (lo + n) 0) := by simp [ixsO, h]
def fldvO (off n : Nat) (agg : Bool) : D → Option D
  | .a cs => if off + n ≤ cs.length then mkV agg ((cs.drop off).take n) else none
  | _ => none
theorem s_fldv (off n : Nat) (agg : Bool) (x : Arg) : @stepO P fr (.fldv off n agg x) dst st ⟨K⟩ = @bindO (fldvO off n agg (x.get st.r)) ⟨fun d => K (st.put dst d)⟩ := by
  rw [s_ev (fun _ _ _ _ _ => rfl)]
  simp only [ev]
  cases x.get st.r <;> rfl
def extO (j : Nat) : D → Option D
  | .t cs => cs[j]?
  | _ => none
theorem s_ext (j : Nat) (x : Arg) : @stepO P fr (.ext j x) dst st ⟨K⟩ = @bindO (extO j (x.get st.r)) ⟨fun d => K (st.put dst d)⟩ := by
  rw [s_ev (fun _ _ _ _ _ => rfl)]
  simp only [ev]
  cases x.get st.r <;> rfl
def lenO (d : D) : Option D := (lenD d).map fun n => .i .i64 n
theorem lenO_sl (sz : Nat) (f : Bool) (es : List (List D)) : lenO (.sl sz f es) = some (.i .i64 es.length) := (rfl)
theorem lenO_w (k : Key) (z sz lo n : Nat) : lenO (.w k z sz lo n) = some (.i .i64 n) := (rfl)
theorem s_len (x : Arg) : @stepO P fr (.len x) dst st ⟨K⟩ = @bindO (lenO (x.get st.r)) ⟨fun d => K (st.put dst d)⟩ := by
  rw [s_ev (fun _ _ _ _ _ => rfl)]
  simp only [ev, lenO]
  cases lenD (x.get st.r) <;> rfl
def mxO (x y : D) : Option D := match x, y with
  | .i k a, .i k' b => if k = k' then some (.i k (if b > a then b else a)) else none
  | _, _ => none
def mnO (x y : D) : Option D := match x, y with
  | .i k a, .i k' b => if k = k' then some (.i k (if b < a then b else a)) else none
  | _, _ => none
theorem mxO_i (k : IntKind) (a b : Int) : mxO (.i k a) (.i k b) = some (.i k (if b > a then b else a)) := by simp [mxO]
theorem mnO_i (k : IntKind) (a b : Int) : mnO (.i k a) (.i k b) = some (.i k (if b < a then b else a)) := by simp [mnO]
theorem s_mx (x y : Arg) : @stepO P fr (.mx x y) dst st ⟨K⟩ = @bindO (mxO (x.get st.r) (y.get st.r)) ⟨fun d => K (st.put dst d)⟩ := (rfl)
theorem s_mn (x y : Arg) : @stepO P fr (.mn x y) dst st ⟨K⟩ = @bindO (mnO (x.get st.r) (y.get st.r)) ⟨fun d => K (st.put dst d)⟩ := (rfl)
def oget (r : Regs) : Option Arg → Option D
  | none => none
  | some x => some (x.get r)
theorem oget_n (r : Regs) : oget r none = none := (rfl)
theorem oget_s (r : Regs) (x : Arg) : oget r (some x) = some (x.get r) := (rfl)
def bndD (dflt upto : Nat) : Option D → Option Nat
  | none => some dflt
  | some (.i _ n) => if 0 ≤ n ∧ n ≤ upto then some n.toNat else none
  | _ => none
def bndMD (n : Nat) : Option D → Option (Option Nat)
  | none => some none
  | some m => (bndD n n (some m)).map some
def slcO (sz : Nat) (d : D) (lo hi m : Option D) : Option D := match lenD d with
  | some n => match bndMD n m with
    | some mm => match bndD n (mm.getD n) hi with
      | some h => match bndD 0 h lo with
        | some l => evSlc sz d l h mm
        | none => none
      | none => none
    | none => none
  | none => none
theorem bndD_eq (r : Regs) (a b : Nat) (o : Option Arg) : bnd r a b o = bndD a b (oget r o) := by
  cases o with
  | none => rfl
  | some x => simp only [bnd, oget]; cases x.get r <;> rfl
theorem s_slc (sz : Nat) (x : Arg) (lo hi m : Option Arg) : @stepO P fr (.slc sz x lo hi m) dst st ⟨K⟩ = @bindO (slcO sz (x.get st.r) (oget st.r lo) (oget st.r hi) (oget st.r m)) ⟨fun d => K (st.put dst d)⟩ := by
  rw [s_ev (fun _ _ _ _ _ => rfl)]
  have : ev (st.look fr) st.r (.slc sz x lo hi m) = slcO sz (x.get st.r) (oget st.r lo) (oget st.r hi) (oget st.r m) := by
    simp only [ev, slcO, bndD_eq]
    have hM : ∀ n, bndM st.r n m = bndMD n (oget st.r m) := by
      intro n
      cases m with
      | none => rfl
      | some y => simp only [bndM, bndD_eq]; rfl
    simp only [hM]
    rfl
  rw [this]
theorem slcO_hm {sz : Nat} {f : Bool} {es : List (List D)} {k k' : IntKind} {n : Nat} (h : n ≤ es.length) : slcO sz (.sl sz f es) none (some (.i k n)) (some (.i k' n)) = some (.sl sz true (es.take n)) := by
  simp [slcO, lenD, bndMD, bndD, evSlc, fullOf, h]
theorem slcO_h {sz : Nat} {f : Bool} {es : List (List D)} {k : IntKind} {n : Nat} (h : n ≤ es.length) : slcO sz (.sl sz f es) none (some (.i k n)) none = some (.sl sz (f && decide (n = es.length)) (es.take n)) := by
  simp [slcO, lenD, bndMD, bndD, evSlc, fullOf, h]
theorem slcO_l {sz : Nat} {f : Bool} {es : List (List D)} {k : IntKind} {n : Nat} (h : n ≤ es.length) : slcO sz (.sl sz f es) (some (.i k n)) none none = some (.sl sz f (es.drop n)) := by
  have : List.take (es.length - n) (es.drop n) = es.drop n := List.take_of_length_le (by simp)
  simp [slcO, lenD, bndMD, bndD, evSlc, fullOf, h, this]
theorem slcO_w {sz : Nat} {key : Key} {z lo len : Nat} {k k' : IntKind} {a b : Nat} (h : a ≤ b) (h2 : b ≤ len) (h3 : a = 0 ∨ a < b) : slcO sz (.w key z sz lo len) (some (.i k a)) (some (.i k' b)) none = some (.w key z sz (lo + a) (b - a)) := by
  simp [slcO, lenD, bndMD, bndD, evSlc, h, h2, h3]
theorem s_nilc (x : Arg) : @stepO P fr (.nilc x) dst st ⟨K⟩ = @bindO (ev (st.look fr) st.r (.nilc x)) ⟨fun d => K (st.put dst d)⟩ := (rfl)
theorem s_mkf (f : FuncId) (caps : List Arg) : @stepO P fr (.mkf f caps) dst st ⟨K⟩ = K (st.put dst (.f f [] (caps.map (·.get st.r)))) := (rfl)
theorem s_bsl (sz : Nat) (ps : List Arg) : @stepO P fr (.bsl sz ps) dst st ⟨K⟩ = @bindO ((partsD st.r sz ps).map (.sl sz true)) ⟨fun d => K (st.put dst d)⟩ := (rfl)
def slaO (len : Nat) : D → Option D
  | .q cs => if len ≤ cs.length then some (.sl 1 true ((cs.take len).map fun d => [d])) else none
  | _ => none
def tabO (l : List Nat) : D → Option D
  | .i _ n => if 0 ≤ n then (l[n.toNat]?).map fun (b : Nat) => .i .u8 b else none
  | _ => none
theorem s_tab (l : List Nat) (i : Arg) : @stepO P fr (.tab l i) dst st ⟨K⟩ = @bindO (tabO l (i.get st.r)) ⟨fun d => K (st.put dst d)⟩ := by
  rw [s_ev (fun _ _ _ _ _ => rfl)]
  simp only [ev]
  cases i.get st.r <;> rfl
def nilO (neg : Bool) : D → Option D
  | .sl _ _ [] => some .ub
  | .sl _ _ (_ :: _) => some (.b neg)
  | .w _ _ _ _ _ => some (.b neg)
  | _ => none
theorem s_nilq (neg : Bool) (x : Arg) : @stepO P fr (.nilq neg x) dst st ⟨K⟩ = @bindO (nilO neg (x.get st.r)) ⟨fun d => K (st.put dst d)⟩ := by
  rw [s_ev (fun _ _ _ _ _ => rfl)]
  simp only [ev]
  generalize x.get st.r = d
  cases d with
  | sl _ _ es => cases es <;> rfl
  | _ => rfl
abbrev KA := Inhabited (Prop)
def noneO (o : Option (Nat × Obj)) [c : KA] : Prop := o = none ∧ c.default
theorem noneO_n (A : Prop) : @noneO none ⟨A⟩ = A := by simp [noneO]
theorem s_alloc (z : List D) (s : Nat) : @stepO P fr (.alloc z) (some s) st ⟨K⟩ = @noneO (st.own s) ⟨K (st.newObj fr s (.box z) (.p (fr, s) st.nx 0))⟩ := (rfl)
def boxO (o : Option (List D)) [c : KL] : Prop := match o with
  | some cs => c.default cs
  | none => False
theorem boxO_some (cs : List D) (K : List D → Prop) : @boxO (some cs) ⟨K⟩ = K cs := (rfl)
theorem s_box (x : Arg) (s : Nat) : @stepO P fr (.box x) (some s) st ⟨K⟩ = @boxO (x.get st.r).cells? ⟨fun cs => @noneO (st.own s) ⟨K (st.newObj fr s (.box cs) (.p (fr, s) st.nx 0))⟩⟩ := by
  unfold stepO
  simp only [opA, boxO]
  cases (x.get st.r).cells? <;> rfl
def stO (o : Option (Key × Nat × Obj)) [c : KO] : Prop := match o with
  | some (k, v) => c.default k v
  | none => False
theorem stO_some (k : Key) (v : Nat × Obj) (K : Key → Nat × Obj → Prop) : @stO (some (k, v)) ⟨K⟩ = K k v := (rfl)
def lenO2 (cs : List D) (n : Nat) [c : KA] : Prop := cs.length = n ∧ c.default
theorem lenO2_i {cs : List D} {n : Nat} {A : Prop} (h : cs.length = n) : @lenO2 cs n ⟨A⟩ = A := by simp [lenO2, h]
theorem s_store (n : Nat) (x y : Arg) : @stepO P fr (.store n x y) dst st ⟨K⟩ = @boxO (y.get st.r).cells? ⟨fun cs => @lenO2 cs n ⟨@stO (storeD (st.look fr) (x.get st.r) cs) ⟨fun k v => K (st.set fr k (some v))⟩⟩⟩ := by
  unfold stepO
  simp only [opA, boxO, stO, lenO2]
  cases (y.get st.r).cells? with
  | none => rfl
  | some cs =>
    simp only []
    cases storeD (st.look fr) (x.get st.r) cs <;> rfl
theorem s_call (f : FuncId) (args : List Arg) : @stepO P fr (.call f args) dst st ⟨K⟩ = @callO P f (args.map (·.get st.r)) ⟨fun d => K (st.put dst d)⟩ := (rfl)
def callvO (P : Program) (g : D) (args : List D) [c : KD] : Prop := match g with
  | .f g first cap => @callO P g (first ++ args ++ cap) ⟨c.default⟩
  | _ => False
theorem callvO_f (f : FuncId) (first cap args : List D) (K : D → Prop) : @callvO P (.f f first cap) args ⟨K⟩ = @callO P f (first ++ args ++ cap) ⟨K⟩ := (rfl)
theorem s_callv (x : Arg) (args : List Arg) : @stepO P fr (.callv x args) dst st ⟨K⟩ = @callvO P (x.get st.r) (args.map (·.get st.r)) ⟨fun d => K (st.put dst d)⟩ := by
  unfold stepO
  simp only [opA, callvO]
  cases x.get st.r <;> rfl
abbrev KN := Inhabited (Nat → Prop)
def mkO (bytes : Nat) (n c : D) (o : Option (Nat × Obj)) [q : KN] : Prop := match n, c with
  | .i _ n, .i _ c => 0 ≤ n ∧ n ≤ c ∧ c * bytes ≤ 140737488355328 ∧ c ≤ 140737488355328 ∧ o = none ∧ q.default n.toNat
  | _, _ => False
theorem mkO_intro {bytes n c : Nat} {k k' : IntKind} {K : Nat → Prop} (h1 : n ≤ c) (h2 : c * bytes ≤ 140737488355328) (h3 : c ≤ 140737488355328) (hk : K n) : @mkO bytes (.i k n) (.i k' c) none ⟨K⟩ := by
  refine ⟨by omega, by omega, ?_, by omega, rfl, by simpa using hk⟩
  have h := Int.ofNat_le.2 h2
  rw [Int.natCast_mul] at h
  exact h
theorem s_mk (sz bytes : Nat) (z : List D) (n c : Arg) (s : Nat) : @stepO P fr (.mk sz bytes z n c) (some s) st ⟨K⟩ = @mkO bytes (n.get st.r) (c.get st.r) (st.own s) ⟨fun n => K (st.newObj fr s (.row sz (List.replicate n z)) (.w (fr, s) st.nx sz 0 n))⟩ := by
  unfold stepO
  simp only [opA, mkO]
  cases n.get st.r <;> first | rfl | (cases c.get st.r <;> rfl)
def appO (fr sz bytes s : Nat) (st : St) (x : D) (ys : Option (List (List D))) [c : KS] : Prop := match ys with
  | some ys => match x with
    | .sl sz' full xs => sz = sz' ∧ match ys with
      | [] => c.default (st.put (some s) (.sl sz' full xs))
      | _ :: _ => full = true ∧ (xs.length + ys.length) * bytes ≤ 140737488355328 ∧ xs.length + ys.length ≤ 140737488355328 ∧ slotOk st s ∧ c.default (st.newObj fr s (.row sz (xs ++ ys)) (.w (fr, s) st.nx sz 0 (xs.length + ys.length)))
    | .w key z sz' lo len => match st.look fr key with
      | some (z', .row sz'' es) => z = z' ∧ sz = sz' ∧ sz = sz'' ∧ lo = 0 ∧ len = es.length ∧ match ys with
        | [] => c.default (st.put (some s) (.w key z sz' lo len))
        | _ :: _ => (es.length + ys.length) * bytes ≤ 140737488355328 ∧ es.length + ys.length ≤ 140737488355328 ∧ slotOk (st.set fr key (some (z, .gone))) s ∧
            c.default ((st.set fr key (some (z, .gone))).newObj fr s (.row sz (es ++ ys)) (.w (fr, s) st.nx sz 0 (es.length + ys.length)))
      | _ => False
    | _ => False
  | none => False
theorem s_app (sz bytes : Nat) (x y : Arg) (s : Nat) : @stepO P fr (.app sz bytes x y) (some s) st ⟨K⟩ = @appO fr sz bytes s st (x.get st.r) (elemsOf (st.look fr) sz (y.get st.r)) ⟨K⟩ := by
  unfold stepO
  simp only [opA, appO]
  cases elemsOf (st.look fr) sz (y.get st.r) with
  | none => rfl
  | some ys => cases x.get st.r <;> rfl
def cpyO (fr sz : Nat) (dst : Option Nat) (st : St) (x : D) (ys : Option (List (List D))) [c : KS] : Prop := match ys, x with
  | some ys, .w key z sz' lo len => match st.look fr key with
    | some (z', .row sz'' es) => z = z' ∧ sz = sz' ∧ sz = sz'' ∧ lo + len ≤ es.length ∧
        c.default ((st.set fr key (some (z, .row sz (es.take lo ++ ys.take len ++ es.drop (lo + min ys.length len))))).put dst (.i .i64 (min ys.length len : Nat)))
    | _ => False
  | _, _ => False
theorem s_cpy (sz : Nat) (x y : Arg) : @stepO P fr (.cpy sz x y) dst st ⟨K⟩ = @cpyO fr sz dst st (x.get st.r) (elemsOf (st.look fr) sz (y.get st.r)) ⟨K⟩ := (rfl)
def callRO (P : Program) (fr : Nat) (f : FuncId) (args : List D) (dst : Option Nat) (st : St) [c : KS] : Prop := opCall P fr f args dst st c.default
theorem s_callR (f : FuncId) (args : List Arg) : @stepO P fr (.callR f args) dst st ⟨K⟩ = @callRO P fr f (args.map (·.get st.r)) dst st ⟨K⟩ := (rfl)
def callNO (P : Program) (fr : Nat) (f : FuncId) (args : List D) (dst : Option Nat) (st : St) [c : KS] : Prop := opCallN P fr f args dst st c.default
def callvRO (P : Program) (fr : Nat) (g : D) (args : List D) (dst : Option Nat) (st : St) [c : KS] : Prop := match g with
  | .f f first cap => opCall P fr f (first ++ args ++ cap) dst st c.default
  | _ => False
theorem callvRO_f (f : FuncId) (first cap args : List D) : @callvRO P fr (.f f first cap) args dst st ⟨K⟩ = @callRO P fr f (first ++ args ++ cap) dst st ⟨K⟩ := (rfl)
theorem s_callvR (x : Arg) (args : List Arg) : @stepO P fr (.callvR x args) dst st ⟨K⟩ = @callvRO P fr (x.get st.r) (args.map (·.get st.r)) dst st ⟨K⟩ := by
  unfold stepO
  simp only [opA, callvRO]
  cases x.get st.r <;> rfl
theorem s_callN (f : FuncId) (args : List Arg) : @stepO P fr (.callN f args) dst st ⟨K⟩ = @callNO P fr f (args.map (·.get st.r)) dst st ⟨K⟩ := (rfl)
theorem newObj_eq (fr : Nat) (st : St) (s : Nat) (o : Obj) (d : D) : st.newObj fr s o d = { r := upd st.r s d, own := upd st.own s (some (st.nx, o)), out := st.out, nx := st.nx } := (rfl)
theorem set_eq (fr : Nat) (st : St) (s : Nat) (v : Option (Nat × Obj)) : st.set fr (fr, s) v = { r := st.r, own := upd st.own s v, out := st.out, nx := st.nx } := by simp [St.set]
theorem look_eq (fr : Nat) (st : St) (s : Nat) : st.look fr (fr, s) = st.own s := by simp [St.look]
theorem e_add (k : IntKind) (a b : Int) : evBin .add (.i k a) (.i k b) = some (.i k (k.wrap (a + b))) := by simp [evBin]
theorem e_sub (k : IntKind) (a b : Int) : evBin .sub (.i k a) (.i k b) = some (.i k (k.wrap (a - b))) := by simp [evBin]
theorem e_mul (k : IntKind) (a b : Int) : evBin .mul (.i k a) (.i k b) = some (.i k (k.wrap (a * b))) := by simp [evBin]
theorem e_quo (k : IntKind) (a b : Int) (h : b ≠ 0) : evBin .quo (.i k a) (.i k b) = some (.i k (k.wrap (a.tdiv b))) := by simp [evBin, h]
theorem e_rem (k : IntKind) (a b : Int) (h : b ≠ 0) : evBin .rem (.i k a) (.i k b) = some (.i k (a.tmod b)) := by simp [evBin, h]
theorem e_and (k : IntKind) (a b : Int) : evBin .and (.i k a) (.i k b) = some (.i k (bits .and k a b)) := by simp [evBin]
theorem e_or (k : IntKind) (a b : Int) : evBin .or (.i k a) (.i k b) = some (.i k (bits .or k a b)) := by simp [evBin]
theorem e_xor (k : IntKind) (a b : Int) : evBin .xor (.i k a) (.i k b) = some (.i k (bits .xor k a b)) := by simp [evBin]
theorem e_shl (k k' : IntKind) (a b : Int) (h : 0 ≤ b) : evBin .shl (.i k a) (.i k' b) = some (.i k (k.wrap (a * 2 ^ (min b.toNat k.bits)))) := by
  have : ¬ b < 0 := by omega
  simp [evBin, this]
theorem e_shr (k k' : IntKind) (a b : Int) (h : 0 ≤ b) : evBin .shr (.i k a) (.i k' b) = some (.i k (a.fdiv (2 ^ (min b.toNat k.bits)))) := by
  have : ¬ b < 0 := by omega
  simp [evBin, this]
theorem e_eql (k : IntKind) (a b : Int) : evBin .eql (.i k a) (.i k b) = some (.b (a == b)) := by simp [evBin, evCmp]
theorem e_neq (k : IntKind) (a b : Int) : evBin .neq (.i k a) (.i k b) = some (.b (a != b)) := by simp [evBin, evCmp]
theorem e_lss (k : IntKind) (a b : Int) : evBin .lss (.i k a) (.i k b) = some (.b (decide (a < b))) := by simp [evBin, evCmp]
theorem e_leq (k : IntKind) (a b : Int) : evBin .leq (.i k a) (.i k b) = some (.b (decide (a ≤ b))) := by simp [evBin, evCmp]
theorem e_gtr (k : IntKind) (a b : Int) : evBin .gtr (.i k a) (.i k b) = some (.b (decide (a > b))) := by simp [evBin, evCmp]
theorem e_geq (k : IntKind) (a b : Int) : evBin .geq (.i k a) (.i k b) = some (.b (decide (a ≥ b))) := by simp [evBin, evCmp]
theorem e_not (v : Bool) : evUn .not (.b v) = some (.b (!v)) := (rfl)
theorem e_neg (k : IntKind) (n : Int) : evUn .neg (.i k n) = some (.i k (k.wrap (0 - n))) := (rfl)
theorem e_eqb (neg : Bool) (x y : Bool) : evEqb neg (.b x) (.b y) = some (.b ((x == y) != neg)) := (rfl)
theorem cells_i (k : IntKind) (n : Int) : (D.i k n).cells? = some [.i k n] := (rfl)
theorem cells_b (v : Bool) : (D.b v).cells? = some [.b v] := (rfl)
theorem cells_a (cs : List D) : (D.a cs).cells? = some cs := (rfl)
theorem cells_sl (sz : Nat) (f : Bool) (es : List (List D)) : (D.sl sz f es).cells? = some [.sl sz f es] := (rfl)
theorem ca_q {L : Sto} {cs : List D} {n : Nat} (h : n ≤ cs.length) : cellsAt L (.q cs) n = some (cs.take n) := by simp [cellsAt, h]
def boxC (o : Option (Nat × Obj)) (z off n : Nat) : Option (List D) := match o with
  | some (z', .box cs) => if z = z' ∧ off + n ≤ cs.length then some ((cs.drop off).take n) else none
  | _ => none
theorem ca_p' (L : Sto) (k : Key) (z off n : Nat) : cellsAt L (.p k z off) n = boxC (L k) z off n := by
  simp only [cellsAt, boxC]
  cases L k with
  | none => rfl
  | some v => obtain ⟨z', o⟩ := v; cases o <;> rfl
theorem boxC_s (z off n : Nat) (cs : List D) (h : off + n ≤ cs.length) : boxC (some (z, .box cs)) z off n = some ((cs.drop off).take n) := by simp [boxC, h]
def rowE (o : Option (List D)) (fo n : Nat) : Option (List D) := match o with
  | some e => if fo + n ≤ e.length then some ((e.drop fo).take n) else none
  | none => none
theorem rowE_s (e : List D) (fo n : Nat) (h : fo + n ≤ e.length) : rowE (some e) fo n = some ((e.drop fo).take n) := by simp [rowE, h]
def rowC (o : Option (Nat × Obj)) (z sz i fo n : Nat) : Option (List D) := match o with
  | some (z', .row sz' es) => if z = z' ∧ sz = sz' then rowE es[i]? fo n else none
  | _ => none
theorem ca_pr' (L : Sto) (k : Key) (z sz i fo n : Nat) : cellsAt L (.pr k z sz i fo) n = rowC (L k) z sz i fo n := by
  simp only [cellsAt, rowC, rowE]
  cases L k with
  | none => rfl
  | some v =>
    obtain ⟨z', o⟩ := v
    cases o with
    | row sz' es =>
      simp only []
      split
      · cases es[i]? <;> rfl
      · rfl
    | _ => rfl
theorem rowC_s (z sz i fo n : Nat) (es : List (List D)) : rowC (some (z, .row sz es)) z sz i fo n = rowE es[i]? fo n := by simp [rowC]
def boxS (o : Option (Nat × Obj)) (k : Key) (z off : Nat) (cs : List D) : Option (Key × Nat × Obj) := match o with
  | some (z', .box old) => if z = z' ∧ off + cs.length ≤ old.length then some (k, z, .box (splice old off cs)) else none
  | _ => none
theorem st_p' (L : Sto) (k : Key) (z off : Nat) (cs : List D) : storeD L (.p k z off) cs = boxS (L k) k z off cs := by
  simp only [storeD, boxS]
  cases L k with
  | none => rfl
  | some v => obtain ⟨z', o⟩ := v; cases o <;> rfl
theorem boxS_s (k : Key) (z off : Nat) (cs old : List D) (h : off + cs.length ≤ old.length) : boxS (some (z, .box old)) k z off cs = some (k, z, .box (splice old off cs)) := by simp [boxS, h]
def rowSE (o : Option (List D)) (k : Key) (z sz i : Nat) (es : List (List D)) (fo : Nat) (cs : List D) : Option (Key × Nat × Obj) := match o with
  | some e => if fo + cs.length ≤ e.length then some (k, z, .row sz (es.set i (splice e fo cs))) else none
  | none => none
theorem rowSE_s (e : List D) (k : Key) (z sz i : Nat) (es : List (List D)) (fo : Nat) (cs : List D) (h : fo + cs.length ≤ e.length) : rowSE (some e) k z sz i es fo cs = some (k, z, .row sz (es.set i (splice e fo cs))) := by simp [rowSE, h]
def rowS (o : Option (Nat × Obj)) (k : Key) (z sz i fo : Nat) (cs : List D) : Option (Key × Nat × Obj) := match o with
  | some (z', .row sz' es) => if z = z' ∧ sz = sz' then rowSE es[i]? k z sz i es fo cs else none
  | _ => none
theorem st_pr' (L : Sto) (k : Key) (z sz i fo : Nat) (cs : List D) : storeD L (.pr k z sz i fo) cs = rowS (L k) k z sz i fo cs := by
  simp only [storeD, rowS, rowSE]
  cases L k with
  | none => rfl
  | some v =>
    obtain ⟨z', o⟩ := v
    cases o with
    | row sz' es =>
      simp only []
      split
      · cases es[i]? <;> rfl
      · rfl
    | _ => rfl
theorem rowS_s (k : Key) (z sz i fo : Nat) (cs : List D) (es : List (List D)) : rowS (some (z, .row sz es)) k z sz i fo cs = rowSE es[i]? k z sz i es fo cs := by simp [rowS]
theorem look_out {F : Nat} {key : Key} (h : key.1 ≠ F) (st : St) : st.look F key = st.out key := by simp [St.look, h]
theorem set_out {F : Nat} {key : Key} (h : key.1 ≠ F) (st : St) (v : Option (Nat × Obj)) : st.set F key v = { r := st.r, own := st.own, out := updK st.out key v, nx := st.nx } := by simp [St.set, h]
theorem updK_eq {α : Type} (f : Key → α) (k : Key) (x : α) : updK f k x k = x := by simp [updK]
theorem updK_twice {α : Type} (f : Key → α) (k : Key) (x y : α) : updK (updK f k x) k y = updK f k y := by
  funext j
  unfold updK
  by_cases h : j = k <;> simp [h]
theorem outOf_one (u : Up) (out : Sto) : outOf [u] out = updK out u.key (some (u.st, u.new)) := by
  funext k
  unfold outOf updK
  by_cases h : k = u.key
  · subst h; simp
  · have : (u.key == k) = false := by simp; exact fun e => h e.symm
    simp [h, this]
def frzR (st : St) (s k z sz lo len : Nat) (o : Option (Nat × Obj)) : Option St := match o with
  | some (z', .row sz' es) => if z = z' ∧ sz = sz' ∧ lo + len ≤ es.length then some { r := upd st.r s (.sl sz false ((es.drop lo).take len)), own := upd st.own k none, out := st.out, nx := st.nx + 1 } else none
  | _ => none
theorem frzR_s (st : St) (s k z sz lo len : Nat) (es : List (List D)) (h : lo + len ≤ es.length) : frzR st s k z sz lo len (some (z, .row sz es)) = some { r := upd st.r s (.sl sz false ((es.drop lo).take len)), own := upd st.own k none, out := st.out, nx := st.nx + 1 } := by simp [frzR, h]
def frzW (fr s : Nat) (st : St) (d : D) : Option St := match d with
  | .w key z sz lo len => if key.1 = fr then frzR st s key.2 z sz lo len (st.own key.2) else freeze fr s st
  | .sl _ _ _ => some st
  | _ => freeze fr s st
theorem frzW_w (fr s k z sz lo len : Nat) (st : St) : frzW fr s st (.w (fr, k) z sz lo len) = frzR st s k z sz lo len (st.own k) := by simp [frzW]
theorem frzW_sl (fr s sz : Nat) (f : Bool) (es : List (List D)) (st : St) : frzW fr s st (.sl sz f es) = some st := (rfl)
theorem freeze_eq (fr s : Nat) (st : St) : freeze fr s st = frzW fr s st (st.r s) := by
  unfold frzW
  cases hr : st.r s with
  | w key z sz lo len =>
    simp only []
    split
    · rename_i hk
      obtain ⟨k1, k2⟩ := key
      simp only at hk
      subst hk
      simp only [freeze, hr, St.look, if_true, frzR, St.set]
      cases st.own k2 with
      | none => rfl
      | some v =>
        obtain ⟨z', o⟩ := v
        cases o <;> rfl
    · rfl
  | sl sz f es => simp only [freeze, hr]
  | _ => rfl
theorem tdivN (a b : Nat) : (a : Int).tdiv b = ((a / b : Nat) : Int) := (rfl)
theorem tmodN (a b : Nat) : (a : Int).tmod b = ((a % b : Nat) : Int) := (rfl)
theorem fill_n (r : Regs) (z : List D) : fillD r z [] = some z := (rfl)
def fillS (z : List D) (off n : Nat) (o : Option (List D)) : Option (List D) := match o with
  | some cs => if cs.length = n ∧ off + n ≤ z.length then some (splice z off cs) else none
  | none => none
def fillB (o : Option (List D)) (r : Regs) (l : List (Nat × Nat × Arg)) : Option (List D) := match o with
  | some z => fillD r z l
  | none => none
theorem fill_c (r : Regs) (z : List D) (off n : Nat) (x : Arg) (l : List (Nat × Nat × Arg)) : fillD r z ((off, n, x) :: l) = fillB (fillS z off n (x.get r).cells?) r l := by
  simp only [fillD, fillB, fillS]
  cases (x.get r).cells? with
  | none => rfl
  | some cs =>
    simp only []
    split <;> rfl
theorem fillS_s (z : List D) (off n : Nat) (cs : List D) (h1 : cs.length = n) (h2 : off + n ≤ z.length) : fillS z off n (some cs) = some (splice z off cs) := by simp [fillS, h1, h2]
theorem fillB_s (z : List D) (r : Regs) (l : List (Nat × Nat × Arg)) : fillB (some z) r l = fillD r z l := (rfl)
def consP (sz : Nat) (o : Option (List D)) (rest : Option (List (List D))) : Option (List (List D)) := match o with
  | some cs => if cs.length = sz then rest.map (cs :: ·) else none
  | none => none
theorem parts_n (r : Regs) (sz : Nat) : partsD r sz [] = some [] := (rfl)
theorem parts_c (r : Regs) (sz : Nat) (x : Arg) (l : List Arg) : partsD r sz (x :: l) = consP sz (x.get r).cells? (partsD r sz l) := (rfl)
theorem consP_s (sz : Nat) (cs : List D) (l : List (List D)) (h : cs.length = sz) : consP sz (some cs) (some l) = some (cs :: l) := by simp [consP, h]
theorem splice_eq (z : List D) (off : Nat) (cs : List D) : splice z off cs = z.take off ++ cs ++ z.drop (off + cs.length) := (rfl)
theorem fld_p (off : Nat) (k : Key) (s o : Nat) : fldO off (.p k s o) = some (.p k s (o + off)) := (rfl)
theorem fld_pr (off : Nat) (k : Key) (s sz i fo : Nat) : fldO off (.pr k s sz i fo) = some (.pr k s sz i (fo + off)) := (rfl)
theorem fld_q (off : Nat) (cs : List D) : fldO off (.q cs) = some (.q (cs.drop off)) := (rfl)
theorem ext_t (j : Nat) (cs : List D) : extO j (.t cs) = cs[j]? := (rfl)
theorem g_t (r : Regs) (s : Nat) : (Arg.t s).get r = r s := (rfl)
theorem g_k (r : Regs) (d : D) : (Arg.k d).get r = d := (rfl)
theorem put_eq (st : St) (s : Nat) (d : D) : st.put (some s) d = { r := upd st.r s d, own := st.own, out := st.out, nx := st.nx } := (rfl)
theorem put_none' (st : St) (d : D) : st.put none d = st := (rfl)
theorem restrict_eq (st : St) (kr ks : List Nat) : st.restrict kr ks = { r := rst st.r kr, own := rstO st.own ks, out := st.out, nx := st.nx + 1 } := (rfl)
theorem rst_n (r : Regs) : rst r [] = fun _ => .u := (rfl)
theorem rst_c (r : Regs) (s : Nat) (l : List Nat) : rst r (s :: l) = upd (rst r l) s (r s) := (rfl)
theorem rstO_n (own : Nat → Option (Nat × Obj)) : rstO own [] = fun _ => none := (rfl)
theorem rstO_c (own : Nat → Option (Nat × Obj)) (s : Nat) (l : List Nat) : rstO own (s :: l) = upd (rstO own l) s (own s) := (rfl)
theorem args_0 (d : D) (l : List D) : argsR (d :: l) 0 = d := (rfl)
theorem args_s (d : D) (l : List D) (n : Nat) : argsR (d :: l) (n + 1) = argsR l n := (rfl)
theorem tmodB (n : Nat) : (n : Int).tmod 4294967296 = ((n % 4294967296 : Nat) : Int) := (rfl)
theorem tdivB (n : Nat) : (n : Int).tdiv 4294967296 = ((n / 4294967296 : Nat) : Int) := (rfl)
theorem w64 (n : Nat) (h : n < 18446744073709551616) : IntKind.wrap .u64 (n : Int) = n := IntWalk.u64_in _ (by omega)
theorem w32 (n : Nat) (h : n < 4294967296) : IntKind.wrap .u32 (n : Int) = n := IntWalk.u32_in _ (by omega)
theorem outOf_nil (out : Sto) : outOf [] out = out := (rfl)
theorem fin_t {F : Nat} {out : Sto} {s : Nat} {d : D} {st : St} : Fin F [] out [.t s] d .ret st = (Weak d (st.r s) ∧ st.out = out) := by
  simp [Fin, resAll, resL, resD, outOf_nil]
theorem fin_t2 {F : Nat} {out : Sto} {s s' : Nat} {d : D} {st : St} : Fin F [] out [.t s, .t s'] d .ret st = (Weak d (.t [st.r s, st.r s']) ∧ st.out = out) := by
  simp [Fin, resAll, resL, resD, outOf_nil]
theorem fin_c {F : Nat} {out : Sto} {s n : Nat} {agg : Bool} {d : D} {st : St} : Fin F [] out [.c s n agg] d .ret st = ((∃ d', loadO n agg (cellsAt (st.look F) (st.r s) n) = some d' ∧ Weak d d') ∧ st.out = out) := by
  have : resAll (st.look F) st.r [.c s n agg] = loadO n agg (cellsAt (st.look F) (st.r s) n) := by
    simp only [resAll, resL, resD, loadO]
    cases cellsAt (st.look F) (st.r s) n with
    | none => rfl
    | some cs =>
      simp only []
      cases mkV agg cs <;> rfl
  simp [Fin, this, outOf_nil]
theorem fin_n {F : Nat} {out : Sto} {ups : List Up} {st : St} : Fin F ups out [] (.t []) .normal st = (st.out = outOf ups out) := by
  simp [Fin, resAll, resL, Weak.refl]
theorem fin_nr {F : Nat} {out : Sto} {ups : List Up} {st : St} : Fin F ups out [] (.t []) .ret st = (st.out = outOf ups out) := by
  simp [Fin, resAll, resL, Weak.refl]
theorem fin_tu {F : Nat} {out : Sto} {u : Up} {s : Nat} {d : D} {st : St} : Fin F [u] out [.t s] d .ret st = (Weak d (st.r s) ∧ st.out = updK out u.key (some (u.st, u.new))) := by
  simp [Fin, resAll, resL, resD, outOf_one]
end
section
variable {P : Program} {fr : Nat} {st : St} {Q : Ex → St → Prop} {K : St → Prop} {dst : Option Nat}
theorem s_sla' (len : Nat) (x : Arg) : @stepO P fr (.sla len x) dst st ⟨K⟩ = @bindO (slaO len (x.get st.r)) ⟨fun d => K (st.put dst d)⟩ := by
  rw [s_ev (fun _ _ _ _ _ => rfl)]
  simp only [ev]
  cases x.get st.r <;> rfl
theorem slaO_q (len : Nat) (cs : List D) (h : len ≤ cs.length) : slaO len (.q cs) = some (.sl 1 true ((cs.take len).map fun d => [d])) := by simp [slaO, h]
theorem wbEq {b b' : IR} (h : b = b') : ∀ {P : Program} {F : Nat} {st : St} {Q : Ex → St → Prop}, @Wp P F b st ⟨Q⟩ = @Wp P F b' st ⟨Q⟩ := by subst h; intros; rfl
def ixvO (len sz : Nat) (agg : Bool) (x : D) : D → Option D
  | .i _ n => if 0 ≤ n ∧ n < len then match x with
      | .a cs => if n.toNat * sz + sz ≤ cs.length then mkV agg ((cs.drop (n.toNat * sz)).take sz) else none
      | _ => none else none
  | _ => none
theorem s_ixv' (len sz : Nat) (agg : Bool) (x i : Arg) : @stepO P fr (.ixv len sz agg x i) dst st ⟨K⟩ = @bindO (ixvO len sz agg (x.get st.r) (i.get st.r)) ⟨fun d => K (st.put dst d)⟩ := by
  rw [s_ev (fun _ _ _ _ _ => rfl)]
  simp only [ev]
  cases i.get st.r <;> first | rfl | (simp only [ixvO]; rfl)
theorem s_mkmap (s : Nat) : @stepO P fr .mkmap (some s) st ⟨K⟩ = @noneO (st.own s) ⟨K (st.newObj fr s (.map []) (.m (fr, s) st.nx))⟩ := (rfl)
def mgO (len : Nat) (vz : List D) (agg ok : Bool) (k : D) (z : Nat) : Option (Nat × Obj) → Option D
  | some (z', .map es) => if z = z' ∧ keyEq len k k = some true then match mfind len k es 0 with
        | some (some (_, v)) => some (if ok then .t [v, .b true] else v)
        | some none => (mkV agg vz).map fun z => if ok then .t [z, .b false] else z
        | none => none
      else none
  | _ => none
theorem mg_m (L : Sto) (len : Nat) (vz : List D) (agg ok : Bool) (k : D) (key : Key) (z : Nat) : mapgetD L len vz agg ok (.m key z) k = mgO len vz agg ok k z (L key) := by
  simp only [mapgetD, mgO]
  cases L key with
  | none => rfl
  | some v => obtain ⟨z', o⟩ := v; cases o <;> rfl
theorem mgO_some {len : Nat} {vz : List D} {agg ok : Bool} {k v : D} {z j : Nat} {es : List (D × D)} (hk : keyEq len k k = some true) (h : mfind len k es 0 = some (some (j, v))) : mgO len vz agg ok k z (some (z, .map es)) = some (if ok then .t [v, .b true] else v) := by simp [mgO, hk, h]
theorem mgO_none {len : Nat} {vz : List D} {agg ok : Bool} {k zd : D} {z : Nat} {es : List (D × D)} (hk : keyEq len k k = some true) (h : mfind len k es 0 = some none) (hz : mkV agg vz = some zd) : mgO len vz agg ok k z (some (z, .map es)) = some (if ok then .t [zd, .b false] else zd) := by simp [mgO, hk, h, hz]
theorem s_mapget (len : Nat) (vz : List D) (agg ok : Bool) (m k : Arg) : @stepO P fr (.mapget len vz agg ok m k) dst st ⟨K⟩ = @bindO (mapgetD (st.look fr) len vz agg ok (m.get st.r) (k.get st.r)) ⟨fun d => K (st.put dst d)⟩ := (rfl)
def msO (fr len : Nat) (st : St) (m k v : D) [c : KS] : Prop := match m with
  | .m key z => match st.look fr key with
    | some (z', .map es) => z = z' ∧ keyEq len k k = some true ∧ match mput len k v es with
      | some es' => c.default (st.set fr key (some (z, .map es')))
      | none => False
    | _ => False
  | _ => False
theorem s_mapset (len : Nat) (m k v : Arg) : @stepO P fr (.mapset len m k v) dst st ⟨K⟩ = @msO fr len st (m.get st.r) (k.get st.r) (v.get st.r) ⟨K⟩ := by
  unfold stepO
  simp only [opA, msO]
  cases m.get st.r <;> rfl
theorem msO_intro {len : Nat} {key : Key} {z : Nat} {k v : D} {es es' : List (D × D)} (hL : st.look fr key = some (z, .map es)) (hk : keyEq len k k = some true) (h : mput len k v es = some es') (hK : K (st.set fr key (some (z, .map es')))) :
    @msO fr len st (.m key z) k v ⟨K⟩ := by
  simp only [msO, hL, h]
  exact ⟨trivial, hk, hK⟩
def rgO (fr s : Nat) (st : St) (m : D) [c : KS] : Prop := match m with
  | .m key z => match st.look fr key with
    | some (z', .map es) => z = z' ∧ st.own s = none ∧ c.default (st.newObj fr s (.iter key z [] es.length) (.it (fr, s) st.nx))
    | _ => False
  | _ => False
theorem s_range (m : Arg) (s : Nat) : @stepO P fr (.range m) (some s) st ⟨K⟩ = @rgO fr s st (m.get st.r) ⟨K⟩ := by
  unfold stepO
  simp only [opA, rgO]
  cases m.get st.r <;> rfl
theorem rgO_intro {s : Nat} {key : Key} {z : Nat} {es : List (D × D)} (hL : st.look fr key = some (z, .map es)) (ho : st.own s = none) (hK : K (st.newObj fr s (.iter key z [] es.length) (.it (fr, s) st.nx))) : @rgO fr s st (.m key z) ⟨K⟩ := by
  simp only [rgO, hL]
  exact ⟨trivial, ho, hK⟩
theorem s_entry (i : Arg) : @stepO P fr (.entry i) dst st ⟨K⟩ = @bindO (entryD (st.look fr) (i.get st.r)) ⟨fun d => K (st.put dst d)⟩ := (rfl)
theorem entryD_at {L : Sto} {key mk : Key} {z mz n j : Nat} {seen : List Nat} {es : List (D × D)} {kd vd : D} (hL : L key = some (z, .iter mk mz (seen ++ [j]) n)) (hM : L mk = some (mz, .map es)) (hn : es.length = n) (hj : es[j]? = some (kd, vd)) :
    entryD L (.it key z) = some (.t [kd, vd]) := by simp [entryD, hL, hM, hn, hj]
def nxtO (fr d s : Nat) (st : St) [c : KS] : Prop := nextO fr st d s c.default
theorem w_nxt (d s : Nat) (xs : List ROp) (kr ks : List Nat) : @Wp P fr (.nxt d s xs kr ks) st ⟨Q⟩ = @nxtO fr d s st ⟨fun s => @runO P fr xs s ⟨fun s => Q .normal (s.restrict kr ks)⟩⟩ := (rfl)
theorem nxtO_intro {d s : Nat} {key mk : Key} {z mz n : Nat} {seen : List Nat} {es : List (D × D)} (hr : st.r s = .it key z) (hL : st.look fr key = some (z, .iter mk mz seen n)) (hM : st.look fr mk = some (mz, .map es)) (hn : es.length = n)
    (h1 : ∀ j kd vd, es[j]? = some (kd, vd) → j ∉ seen → K ((st.set fr key (some (z, .iter mk mz (seen ++ [j]) n))).put (some d) (.t [.b true, kd, vd])))
    (h2 : (∀ j, j < n → j ∈ seen) → K (st.put (some d) (.t [.b false]))) : @nxtO fr d s st ⟨K⟩ := by
  simp only [nxtO, nextO, hr, hL, hM]
  exact ⟨trivial, trivial, hn, h1, h2⟩
end
theorem body_some {fn : Func} (hb : fn.body.isSome = true) : fn.body = some (fn.body.getD .skip) := by
  cases h : fn.body with
  | none => rw [h] at hb; simp at hb
  | some c => rfl
theorem fnR_introB {P : Program} {k : FuncId} {fn : Func} {ir : IR} {ys : List RVar} {args : List D} {ups : List Up} {d : D} (hf : P.funcs[k]? = some fn) (hb : fn.body.isSome = true)
    (hname : (fn.name == "runtime.NumGoroutine") = false) (hc : chk P fn.ntmps ir (fn.body.getD .skip) = true) (hres : chkRes P fn.results.toList ys = true) (hlen : args.length ≤ fn.ntmps) (hd : d.nr = true)
    (hnew : ∀ u ∈ ups, (u.new.nr = true ∨ u.new = u.old) ∧ u.new ≠ .gone) (hnd : (ups.map (·.key)).Nodup)
    (hw : ∀ F out, Start F ups out → wp P F ir { r := argsR args, own := fun _ => none, out := out, nx := 0 } (Fin F ups out ys d)) : FnR P k args ups d :=
  fnR_intro hf (body_some hb) hname hc hres hlen hd hnew hnd hw
abbrev FT (P : Program) (k : FuncId) (n : Nat) (ir : IR) (ys : List RVar) : Prop := ∀ {args : List D} {ups : List Up} {d : D}, args.length ≤ n → d.nr = true → (∀ u ∈ ups, (u.new.nr = true ∨ u.new = u.old) ∧ u.new ≠ .gone) → (ups.map (·.key)).Nodup →
  (∀ F out, Start F ups out → wp P F ir { r := argsR args, own := fun _ => none, out := out, nx := 0 } (Fin F ups out ys d)) → FnR P k args ups d
theorem fnT {P : Program} {k : FuncId} {fn : Func} {n : Nat} {ir : IR} {ys : List RVar} (hf : P.funcs[k]? = some fn) (hb : fn.body.isSome = true) (hname : (fn.name == "runtime.NumGoroutine") = false)
    (hc : chk P fn.ntmps ir (fn.body.getD .skip) = true) (hres : chkRes P fn.results.toList ys = true) (hn : n ≤ fn.ntmps) : FT P k n ir ys :=
  fun h1 h2 h3 h4 h5 => fnR_introB hf hb hname hc hres (Nat.le_trans h1 hn) h2 h3 h4 h5
def chkF (P : Program) (fn : Func) (n : Nat) (ir : IR) (ys : List RVar) : Bool := fn.body.isSome && (!(fn.name == "runtime.NumGoroutine") && (chk P fn.ntmps ir (fn.body.getD .skip) && (chkRes P fn.results.toList ys && decide (n ≤ fn.ntmps))))
theorem fnK {P : Program} {k : FuncId} {fn : Func} {n : Nat} {ir : IR} {ys : List RVar} (hf : P.funcs[k]? = some fn) (h : chkF P fn n ir ys = true) : FT P k n ir ys := by
  simp only [chkF, Bool.and_eq_true, Bool.not_eq_true', decide_eq_true_eq] at h
  exact fnT hf h.1 h.2.1 h.2.2.1 h.2.2.2.1 h.2.2.2.2
section
variable {α β : Type}
theorem zA (a : α) (xs ys : List α) : (a :: xs) ++ ys = a :: (xs ++ ys) := rfl
theorem zB (xs : List α) : [] ++ xs = xs := rfl
theorem zC (xs : List α) : xs ++ [] = xs := List.append_nil xs
theorem zD' (f : α → β) (a : α) (xs : List α) : (a :: xs).map f = f a :: xs.map f := rfl
theorem zE (f : α → β) : [].map f = [] := rfl
theorem zF (a : α) (xs : List α) : (a :: xs).length = xs.length + 1 := rfl
theorem zG : ([] : List α).length = 0 := rfl
theorem zH (a : α) (xs : List α) (i : Nat) : (a :: xs).take (i + 1) = a :: xs.take i := rfl
theorem zI (xs : List α) : xs.take 0 = [] := rfl
theorem zJ (a : α) (xs : List α) : (a :: xs)[0]? = some a := rfl
theorem zK (a : α) (xs : List α) (i : Nat) : (a :: xs)[i + 1]? = xs[i]? := rfl
theorem zL (xs : List α) : xs.drop 0 = xs := rfl
theorem zM (a : α) (xs : List α) (i : Nat) : (a :: xs).drop (i + 1) = xs.drop i := rfl
theorem zO {h : Decidable True} (a b : α) : (@ite α True h a b) = a := if_true a b
theorem zP {h : Decidable False} (a b : α) : (@ite α False h a b) = b := if_false a b
theorem zQ (p : Prop) : (p ∧ True) = p := and_true p
theorem zR (p : Prop) : (True ∧ p) = p := true_and p
theorem zS (a b : α) : (a ≠ b) = ¬ (a = b) := rfl
theorem zT : (false = true) = False := Bool.false_eq_true
theorem zU : (!false) = true := rfl
theorem zV : (!true) = false := rfl
theorem zW' (b : Bool) : (b != false) = b := Bool.bne_false b
theorem zX (b : Bool) : (b != true) = !b := Bool.bne_true b
theorem zY : (¬ False) = True := not_false_eq_true
theorem zN (f : α → β) (a : α) : (some a).map f = some (f a) := rfl
end
attribute [go_sem] callvRO_f s_callvR zO zP zS zT zY zD' zE W_in run_nil run_cons run_consG gO_tt gO_ff gO_tf gO_ft gO_t condO_t condO_f condO_u w_skip w_ret w_exit w_seq w_block w_cond w_reg w_reg2 w_loop frzO_some w_frz freeze_eq frzW_w frzW_sl frzR_s sK_n sK_e sK_r bK_n bK_e bK_e' bK_r lK_n lK_e lK_r s_mv s_un s_bin s_eqa s_eqb convO_i s_conv pickO_t pickO_f s_pick s_build loadO_1 loadO_a s_load s_fld s_ixa s_ixs s_fldv s_ext lenO_sl lenO_w s_len mxO_i mnO_i s_mx s_mn s_slc oget_n oget_s s_nilc s_mkf s_bsl s_sla' s_ixv' s_tab s_nilq noneO_n s_alloc boxO_some s_box stO_some s_store s_call callvO_f s_callv s_mk s_app s_cpy s_callR s_callN newObj_eq set_eq look_eq bindO_some e_add e_sub e_mul e_quo e_rem e_and e_or e_xor e_eql e_neq e_lss e_leq e_gtr e_geq e_not e_neg e_eqb cells_i cells_b cells_a cells_sl ca_q ca_p' boxC_s ca_pr' rowC_s rowE_s st_p' boxS_s st_pr' rowS_s rowSE_s fill_n fill_c fillS_s fillB_s parts_n parts_c consP_s splice_eq fld_p fld_pr fld_q ext_t g_t g_k put_eq put_none' restrict_eq rst_n rst_c rstO_n rstO_c args_0 args_s upd_eq upd_ne eW_length tmodB tdivB tmodN tdivN eW_rep eW_set eW_take eW_drop lenO2_i s_mkmap s_mapget mg_m s_mapset s_range s_entry w_nxt run_oD run_oN run_oT run_oF zA zB List.append_nil zF zG zH zI zJ zK zL zM zN zQ zR zU zV zW' zX Nat.zero_add
end Go.Vm
namespace Go.Vm
def BB : Nat := 4294967296
theorem BB_pos : 0 < BB := by decide
def val : List Nat → Nat
  | [] => 0
  | w :: l => w + BB * val l
def Wd (l : List Nat) : Prop := ∀ w ∈ l, w < BB
theorem Wd.nil : Wd [] := by simp [Wd]
theorem Wd.cons {w : Nat} {l : List Nat} (h : w < BB) (k : Wd l) : Wd (w :: l) := by
  intro x hx
  rcases List.mem_cons.1 hx with rfl | hx
  · exact h
  · exact k x hx
theorem Wd.head {w : Nat} {l : List Nat} (h : Wd (w :: l)) : w < BB := h w (by simp)
theorem Wd.tail {w : Nat} {l : List Nat} (h : Wd (w :: l)) : Wd l := fun x hx => h x (by simp [hx])
theorem Wd.take {l : List Nat} (h : Wd l) (n : Nat) : Wd (l.take n) := fun x hx => h x (List.mem_of_mem_take hx)
theorem Wd.drop {l : List Nat} (h : Wd l) (n : Nat) : Wd (l.drop n) := fun x hx => h x (List.mem_of_mem_drop hx)
theorem Wd.append {l m : List Nat} (h : Wd l) (k : Wd m) : Wd (l ++ m) := fun x hx => by
  rcases List.mem_append.1 hx with hx | hx
  · exact h x hx
  · exact k x hx
theorem Wd.set {l : List Nat} (h : Wd l) {i w : Nat} (hw : w < BB) : Wd (l.set i w) := fun x hx => by
  rcases List.mem_or_eq_of_mem_set hx with hx | rfl
  · exact h x hx
  · exact hw
theorem Wd.getD {l : List Nat} (h : Wd l) (i : Nat) : l.getD i 0 < BB := by
  rw [List.getD_eq_getElem?_getD]
  cases hi : l[i]? with
  | none => exact BB_pos
  | some w => exact h w (List.mem_of_getElem? hi)
def toW (n : Nat) : List Nat := if h : n = 0 then [] else (n % BB) :: toW (n / BB)
  termination_by n
  decreasing_by exact Nat.div_lt_self (Nat.pos_of_ne_zero h) (by decide)
theorem toW_zero : toW 0 = [] := by rw [toW]; simp
theorem toW_pos {n : Nat} (h : n ≠ 0) : toW n = (n % BB) :: toW (n / BB) := by rw [toW]; simp [h]
theorem val_toW (n : Nat) : val (toW n) = n := by
  induction n using Nat.strongRecOn with
  | _ n ih =>
    by_cases h : n = 0
    · subst h; rw [toW_zero]; rfl
    · rw [toW_pos h, val, ih _ (Nat.div_lt_self (Nat.pos_of_ne_zero h) (by decide))]
      exact Nat.mod_add_div n BB
theorem Wd_toW (n : Nat) : Wd (toW n) := by
  induction n using Nat.strongRecOn with
  | _ n ih =>
    by_cases h : n = 0
    · subst h; rw [toW_zero]; exact .nil
    · rw [toW_pos h]
      exact .cons (Nat.mod_lt _ BB_pos) (ih _ (Nat.div_lt_self (Nat.pos_of_ne_zero h) (by decide)))
theorem toW_cons {w n : Nat} (h : w < BB) (hn : w ≠ 0 ∨ n ≠ 0) : toW (w + BB * n) = w :: toW n := by
  have h0 : w + BB * n ≠ 0 := by
    rcases hn with hn | hn
    · omega
    · have : 0 < BB * n := Nat.mul_pos BB_pos (Nat.pos_of_ne_zero hn)
      omega
  rw [toW_pos h0]
  have e1 : (w + BB * n) % BB = w := by rw [Nat.add_mul_mod_self_left, Nat.mod_eq_of_lt h]
  have e2 : (w + BB * n) / BB = n := by rw [Nat.add_mul_div_left _ _ BB_pos, Nat.div_eq_of_lt h, Nat.zero_add]
  rw [e1, e2]
def Canon : List Nat → Prop
  | [] => True
  | [w] => w ≠ 0
  | _ :: w :: l => Canon (w :: l)
theorem Canon.tail {w : Nat} {l : List Nat} (h : Canon (w :: l)) : Canon l := by
  cases l with
  | nil => trivial
  | cons x l => exact h
theorem Canon.val_pos : ∀ {w : Nat} {l : List Nat}, Canon (w :: l) → 0 < val (w :: l)
  | w, [], h => by simp only [val]; simp only [Canon] at h; omega
  | w, x :: l, h => by
    have := Canon.val_pos (w := x) (l := l) h
    simp only [val] at this ⊢
    have h2 : 0 < BB * (x + BB * val l) := Nat.mul_pos BB_pos this
    omega
theorem toW_val : ∀ {l : List Nat}, Wd l → Canon l → toW (val l) = l
  | [], _, _ => toW_zero
  | w :: l, h, hc => by
    rw [val, toW_cons h.head, toW_val h.tail hc.tail]
    cases l with
    | nil => left; exact hc
    | cons x l => right; have := Canon.val_pos (w := x) (l := l) hc; omega
theorem Canon_toW (n : Nat) : Canon (toW n) := by
  induction n using Nat.strongRecOn with
  | _ n ih =>
    by_cases h : n = 0
    · subst h; rw [toW_zero]; trivial
    · rw [toW_pos h]
      have hi := ih _ (Nat.div_lt_self (Nat.pos_of_ne_zero h) (by decide : 1 < BB))
      by_cases h2 : n / BB = 0
      · rw [h2, toW_zero]
        have : n < BB := by
          rcases Nat.div_eq_zero_iff.1 h2 with h3 | h3
          · exact absurd h3 (by decide)
          · exact h3
        show n % BB ≠ 0
        rw [Nat.mod_eq_of_lt this]
        exact h
      · rw [toW_pos h2] at hi ⊢
        exact hi
theorem val_append (l m : List Nat) : val (l ++ m) = val l + BB ^ l.length * val m := by
  induction l with
  | nil => simp [val]
  | cons w l ih => simp only [List.cons_append, val, ih, List.length_cons, Nat.pow_succ]; rw [Nat.mul_add, ← Nat.add_assoc, Nat.mul_comm (BB ^ l.length) BB, Nat.mul_assoc]
theorem val_lt : ∀ {l : List Nat}, Wd l → val l < BB ^ l.length
  | [], _ => by simp [val]
  | w :: l, h => by
    have h1 := h.head
    have h2 := val_lt h.tail
    simp only [val, List.length_cons, Nat.pow_succ]
    have : BB * (val l + 1) ≤ BB * BB ^ l.length := Nat.mul_le_mul_left _ h2
    rw [Nat.mul_comm (BB ^ l.length) BB]
    rw [Nat.mul_add] at this
    omega
theorem val_zeros (n : Nat) : val (List.replicate n 0) = 0 := by
  induction n with
  | zero => rfl
  | succ n ih => rw [List.replicate_succ, val, ih, Nat.mul_zero]
def trimN (l : List Nat) : Nat → Nat
  | 0 => 0
  | n + 1 => if l.getD n 0 = 0 then trimN l n else n + 1
theorem trimN_le (l : List Nat) : ∀ n, trimN l n ≤ n
  | 0 => Nat.le_refl _
  | n + 1 => by
    unfold trimN
    split
    · have := trimN_le l n; omega
    · omega
def trimW (l : List Nat) : List Nat := l.take (trimN l l.length)
theorem trimN_cons (w : Nat) (l : List Nat) : ∀ n, trimN (w :: l) (n + 1) = if trimN l n = 0 then (if w = 0 then 0 else 1) else trimN l n + 1
  | 0 => by simp [trimN]
  | n + 1 => by
    have ih := trimN_cons w l n
    rw [trimN]
    have e : (w :: l).getD (n + 1) 0 = l.getD n 0 := by simp
    rw [e, ih]
    by_cases h : l.getD n 0 = 0
    · simp only [trimN, h, if_true]
    · simp only [trimN, h, if_false]
      simp
theorem trimW_cons (w : Nat) (l : List Nat) : trimW (w :: l) = if trimW l = [] then (if w = 0 then [] else [w]) else w :: trimW l := by
  unfold trimW
  rw [List.length_cons, trimN_cons]
  by_cases h : trimN l l.length = 0
  · simp only [h, if_true, List.take_zero]
    by_cases hw : w = 0 <;> simp [hw]
  · simp only [h, if_false, List.take_succ_cons]
    have : l.take (trimN l l.length) ≠ [] := by
      intro he
      rw [List.take_eq_nil_iff] at he
      rcases he with he | he
      · exact h he
      · subst he; exact h rfl
    simp [this]
theorem trimW_eq : ∀ {l : List Nat}, Wd l → trimW l = toW (val l)
  | [], _ => by rw [val, toW_zero]; rfl
  | w :: l, h => by
    rw [trimW_cons, trimW_eq h.tail, val]
    by_cases h0 : val l = 0
    · rw [h0, toW_zero]
      simp only [if_true, Nat.mul_zero, Nat.add_zero]
      by_cases hw : w = 0
      · subst hw; simp [toW_zero]
      · have := toW_cons (n := 0) h.head (.inl hw)
        simp only [Nat.mul_zero, Nat.add_zero, toW_zero] at this
        rw [this]
        simp [hw]
    · rw [toW_cons h.head (.inr h0)]
      have : toW (val l) ≠ [] := by rw [toW_pos h0]; simp
      simp [this]
end Go.Vm

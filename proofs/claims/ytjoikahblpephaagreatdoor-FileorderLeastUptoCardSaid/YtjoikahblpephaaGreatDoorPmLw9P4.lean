/- A part of the proof of one law: the machine on pure values and the walks of functions. -/
import Derived.Test.YtjoikahblpephaaGreatDoorPmLw9P3
import Derived.Laws.CopyRow
import Derived.Laws.OwnMore
set_option linter.all false
section
namespace Go.Proofs.Pm
open Go
def updI (ι : Intp) (l : Nat) (x : Option (Nat × Nat)) : Intp := fun i => if i = l then x else ι i
theorem updI_self (ι : Intp) (l : Nat) (x : Option (Nat × Nat)) : updI ι l x l = x := by simp [updI]
theorem updI_ne {ι : Intp} {l i : Nat} {x : Option (Nat × Nat)} (h : i ≠ l) : updI ι l x i = ι i := by simp [updI, h]
section
variable {G : Good} {w w' : World} {ι ι' : Intp} {H : List LS} {l : Nat} {s : LS}
theorem LRel.ext {i : Nat} {s : LS} {H' : List LS} (he : Ext G w ι H w' ι' H') (hi : ι' i = ι i) (hb : ∀ b c, ι i = some (b, c) → w'.heap[b]? = w.heap[b]?) (h : LRel (Prot G ι H) w ι H i s) : LRel (Prot G ι' H') w' ι' H' i s := by
  cases s with
  | box cs t =>
    obtain ⟨b, c, vs, e1, e2, e3, e4, e5⟩ := h
    exact ⟨b, c, vs, hi.trans e1, (hb b c e1).trans e2, e3, e4, fun j x v hx hv => (e5 j x v hx hv).ext he⟩
  | row m sz t =>
    rcases h with ⟨e1, e2⟩ | ⟨b, c, cur, e1, e2, e3⟩
    · exact .inl ⟨hi.trans e1, e2⟩
    · exact .inr ⟨b, c, cur, hi.trans e1, (hb b c e1).trans e2, e3⟩
  | arr xs sz t =>
    obtain ⟨b, c, vs, e1, e2, e3, e4, e5, e6⟩ := h
    exact ⟨b, c, vs, hi.trans e1, (hb b c e1).trans e2, e3, e4, e5, fun k j x p v hx hp hv => (e6 k j x p v hx hp hv).ext he⟩
  | mp kvs =>
    obtain ⟨b, c, es, clock, e1, e2, e3, e4⟩ := h
    refine ⟨b, c, es, clock, hi.trans e1, (hb b c e1).trans e2, e3, fun j q e hq hee => ⟨(e4 j q e hq hee).1.keep (fun a v => he.prot a v) (fun _ _ _ h => by simp at h) (fun _ _ _ _ h => by simp at h) (fun _ _ h => by simp at h) (fun _ _ _ h => by simp at h), (e4 j q e hq hee).2.ext he⟩⟩
  | obj xs φ =>
    obtain ⟨b, c, vs, e1, e2, e3, e4, e5⟩ := h
    exact ⟨b, c, vs, hi.trans e1, (hb b c e1).trans e2, e3, e4, fun j x v hx hv => (e5 j x v hx hv).ext he⟩
  | absent => exact hi.trans h
theorem HRel.upd (h : HRel G w ι H) (hl : l < H.length) (hι : ∀ i, i ≠ l → ι' i = ι i) (he : Ext G w ι H w' ι' (H.set l s)) (hblk : ∀ i b c, i < H.length → i ≠ l → ι i = some (b, c) → w'.heap[b]? = w.heap[b]?)
    (hnew : LRel (Prot G ι' (H.set l s)) w' ι' (H.set l s) l s) (hinj : ∀ b c, ι' l = some (b, c) → ∀ i d, i < H.length → i ≠ l → ι i ≠ some (b, d)) (hlt : ∀ b c, ι' l = some (b, c) → b < w'.heap.size) (hgd : ∀ b c, ι' l = some (b, c) → ∀ off, G b off) : HRel G w' ι' (H.set l s) := by
  refine ⟨fun i s' hi => ?_, fun i j b c d hi hj e1 e2 => ?_, fun i b c hi e => ?_, fun i b c hi e => ?_, h.base.keep (fun a v => he.prot a v)⟩
  · by_cases hil : i = l
    · subst hil
      rw [List.getElem?_set_self hl] at hi
      injection hi with hi
      subst hi
      exact hnew
    · rw [List.getElem?_set_ne (Ne.symm hil)] at hi
      have hlt2 := (List.getElem?_eq_some_iff.1 hi).1
      exact LRel.ext he (hι i hil) (fun b c e => hblk i b c hlt2 hil e) (h.rel i s' hi)
  · simp only [List.length_set] at hi hj
    by_cases hil : i = l
    · by_cases hjl : j = l
      · rw [hil, hjl]
      · subst hil
        rw [hι j hjl] at e2
        exact absurd e2 (hinj b c e1 j d hj hjl)
    · rw [hι i hil] at e1
      by_cases hjl : j = l
      · subst hjl
        exact absurd e1 (hinj b d e2 i c hi hil)
      · rw [hι j hjl] at e2
        exact h.inj i j b c d hi hj e1 e2
  · simp only [List.length_set] at hi
    by_cases hil : i = l
    · subst hil; exact hlt b c e
    · rw [hι i hil] at e
      exact Nat.lt_of_lt_of_le (h.lt i b c hi e) he.heap
  · simp only [List.length_set] at hi
    by_cases hil : i = l
    · subst hil; exact hgd b c e
    · rw [hι i hil] at e
      exact h.good i b c hi e
theorem ext_new (hl : H[l]? = some .absent) {o : Obj} {c : Nat} : Ext G w ι H (w.alloc o) (updI ι l (some (w.heap.size, c))) (H.set l s) := by
  have hne : ∀ {i : Nat} {x : LS}, H[i]? = some x → x ≠ .absent → i ≠ l := fun hi hx e => by subst e; rw [hl] at hi; injection hi with hi; exact hx hi.symm
  refine ⟨by simp, by simp, fun a v hp hc => ?_, fun i cs t hi => ?_, fun i n sz t hi => ?_, fun i kvs hi => ?_, fun i xs φ hi => ?_⟩
  · have hlt : a.block < w.heap.size := World.block_lt_of_cell? w a hc
    refine ⟨by rw [World.cell?_alloc_lt _ _ _ hlt]; exact hc, hp.1, fun i d hi e => ?_⟩
    simp only [List.length_set] at hi
    by_cases hil : i = l
    · subst hil
      rw [updI_self] at e
      injection e with e
      injection e with e _
      omega
    · rw [updI_ne hil] at e
      rw [List.getElem?_set_ne (Ne.symm hil)]
      exact hp.2 i d hi e
  · exact ⟨updI_ne (hne hi (by simp)), cs, by rw [List.getElem?_set_ne (Ne.symm (hne hi (by simp)))]; exact hi⟩
  · exact ⟨n, by rw [List.getElem?_set_ne (Ne.symm (hne hi (by simp)))]; exact hi, Nat.le_refl _, fun _ => updI_ne (hne hi (by simp))⟩
  · exact ⟨updI_ne (hne hi (by simp)), kvs, by rw [List.getElem?_set_ne (Ne.symm (hne hi (by simp)))]; exact hi⟩
  · exact ⟨updI_ne (hne hi (by simp)), xs, φ, by rw [List.getElem?_set_ne (Ne.symm (hne hi (by simp)))]; exact hi⟩
theorem out_new {k : Nat} (hl : l < k) {o : Obj} {c : Nat} : Out w ι k (w.alloc o) (updI ι l (some (w.heap.size, c))) k := by
  refine ⟨rfl, rfl, rfl, by simp, fun b hb _ => Go.RowKit.Below.heap_alloc w o b hb, fun i b d hi e => ?_⟩
  by_cases hil : i = l
  · subst hil
    rw [updI_self] at e
    injection e with e
    injection e with e _
    exact .inr (by omega)
  · rw [updI_ne hil] at e
    exact .inl ⟨hi, e⟩
theorem rel_new (h : HRel G w ι H) (hG : ∀ b off, w.heap.size ≤ b → G b off) (hl : H[l]? = some .absent) {o : Obj} {c : Nat}
    (hnew : LRel (Prot G (updI ι l (some (w.heap.size, c))) (H.set l s)) (w.alloc o) (updI ι l (some (w.heap.size, c))) (H.set l s) l s) : HRel G (w.alloc o) (updI ι l (some (w.heap.size, c))) (H.set l s) := by
  have hll := (List.getElem?_eq_some_iff.1 hl).1
  refine h.upd hll (fun i hi => updI_ne hi) (ext_new hl) (fun i b d hi _ e => Go.RowKit.Below.heap_alloc w o b (h.lt i b d hi e)) hnew (fun b d e i d2 hi hil e2 => ?_) (fun b d e => ?_) (fun b d e off => ?_)
  · rw [updI_self] at e
    injection e with e
    injection e with e _
    have := h.lt i b d2 hi e2
    omega
  · rw [updI_self] at e
    injection e with e
    injection e with e _
    simp; omega
  · rw [updI_self] at e
    injection e with e
    injection e with e _
    exact hG _ _ (by omega)
end
def cellsPV : PV → Option (List PV)
  | .agg xs => some xs
  | .s v => bif v.oneCell' then some [.s v] else none
  | .junk => none
  | .tup _ => none
  | p => some [p]
theorem cells_rep {G : Good} {w : World} {ι : Intp} {H : List LS} {p : PV} {v : Value} {cs : List PV} (h : VRep G w ι H p v) (hc : cellsPV p = some cs) :
    cs.length = v.cells.size ∧ (∀ u ∈ v.cells, u.oneCell' = true) ∧ ∀ (j : Nat) (x : PV) (u : Value), cs[j]? = some x → v.cells[j]? = some u → VRep G w ι H x u := by
  have one : ∀ {u : Value}, u.oneCell' = true → u.cells = #[u] := by intro u hu; cases u <;> first | rfl | simp [Value.oneCell'] at hu
  have fin : ∀ {q : PV} {u : Value}, u.oneCell' = true → VRep G w ι H q u → [q].length = u.cells.size ∧ (∀ x ∈ u.cells, x.oneCell' = true) ∧ ∀ (j : Nat) (x : PV) (y : Value), [q][j]? = some x → u.cells[j]? = some y → VRep G w ι H x y := by
    intro q u hu hr
    rw [one hu]
    refine ⟨rfl, fun x hx => by simp at hx; subst hx; exact hu, fun j x y hx hy => ?_⟩
    cases j with
    | zero => simp at hx hy; subst hx hy; exact hr
    | succ j => simp at hx
  cases p with
  | agg xs =>
    simp only [cellsPV, Option.some.injEq] at hc
    subst hc
    obtain ⟨vs, rfl, hl, h1, hr⟩ := agg_inv h
    exact ⟨hl, h1, hr⟩
  | s u =>
    have := s_inv h
    subst this
    simp only [cellsPV] at hc
    cases ho : v.oneCell' with
    | true => rw [ho] at hc; simp at hc; subst hc; exact fin ho h
    | false => rw [ho] at hc; simp at hc
  | junk => simp [cellsPV] at hc
  | tup xs => simp [cellsPV] at hc
  | list xs => simp only [cellsPV, Option.some.injEq] at hc; subst hc; obtain ⟨A, c, sz, vs, rfl, _⟩ := list_inv h; exact fin rfl h
  | row xs i => simp only [cellsPV, Option.some.injEq] at hc; subst hc; obtain ⟨A, c, sz, vs, rfl, _⟩ := list_inv (row_inv h).1; exact fin rfl h
  | ptr i off => simp only [cellsPV, Option.some.injEq] at hc; subst hc; obtain ⟨b, c, cs', t, rfl, _⟩ := ptr_inv h; exact fin rfl h
  | eptr xs => simp only [cellsPV, Option.some.injEq] at hc; subst hc; obtain ⟨ad, vs, rfl, _⟩ := eptr_inv h; exact fin rfl h
  | fn f a b => simp only [cellsPV, Option.some.injEq] at hc; subst hc; obtain ⟨fs, cs', rfl, _⟩ := fn_inv h; exact fin rfl h
  | mp i => simp only [cellsPV, Option.some.injEq] at hc; subst hc; obtain ⟨b, c, kvs, rfl, _⟩ := mp_inv h; exact fin rfl h
  | yl i => simp only [cellsPV, Option.some.injEq] at hc; subst hc; obtain ⟨b, c, xs, φ, rfl, _⟩ := yl_inv h; exact fin rfl h
  | sl i n => simp only [cellsPV, Option.some.injEq] at hc; subst hc; obtain ⟨b, c, cs', t, m, rfl, _⟩ := sl_inv h; exact fin rfl h
mutual
def closedB : PV → Bool
  | .s _ => true
  | .agg xs => closedLB xs
  | .tup xs => closedLB xs
  | .list _ => true
  | .row _ _ => false
  | .ptr _ _ => false
  | .eptr _ => true
  | .fn _ a b => closedLB a && closedLB b
  | .mp _ => false
  | .sl _ _ => false
  | .yl _ => false
  | .junk => true
def closedLB : List PV → Bool
  | [] => true
  | x :: r => closedB x && closedLB r
end
mutual
def frz : PV → Option PV
  | .s v => some (.s v)
  | .agg xs => bif closedLB xs then some (.agg xs) else match frzL xs with
    | some ys => some (.agg ys)
    | none => none
  | .tup xs => bif closedLB xs then some (.tup xs) else match frzL xs with
    | some ys => some (.tup ys)
    | none => none
  | .list xs => some (.list xs)
  | .row xs _ => some (.list xs)
  | .ptr _ _ => none
  | .eptr cs => some (.eptr cs)
  | .fn f a b => match frzL a, frzL b with
    | some a', some b' => some (.fn f a' b')
    | _, _ => none
  | .mp _ => none
  | .sl _ _ => none
  | .yl _ => none
  | .junk => some .junk
def frzL : List PV → Option (List PV)
  | [] => some []
  | x :: r => match frz x, frzL r with
    | some y, some ys => some (y :: ys)
    | _, _ => none
end
section
variable {G : Good} {w : World} {ι : Intp} {H : List LS}
theorem closed_get : ∀ {xs : List PV}, closedLB xs = true → ∀ x ∈ xs, closedB x = true
  | [], _, x, hx => by cases hx
  | y :: r, h, x, hx => by
    simp only [closedLB, Bool.and_eq_true] at h
    rcases List.mem_cons.1 hx with rfl | hx
    · exact h.1
    · exact closed_get h.2 x hx
theorem VRep.closed {p : PV} {v : Value} (h : VRep G w ι H p v) : closedB p = true → VRep G w (fun _ => none) [] p v := by
  induction h with
  | s v => intro _; exact .s v
  | junk v => intro _; exact .junk v
  | agg hl h1 hr ih => intro hc; exact .agg hl h1 (fun j x v hx hv => ih j x v hx hv (closed_get (by simpa [closedB] using hc) x (List.mem_of_getElem? hx)))
  | tup hl hr ih => intro hc; exact .tup hl (fun j x v hx hv => ih j x v hx hv (closed_get (by simpa [closedB] using hc) x (List.mem_of_getElem? hx)))
  | list sz vs hn hc hm hsz hA hr ih => intro _; exact .list sz vs hn hc hm hsz hA hr
  | row h hi ho ih => intro hc; simp [closedB] at hc
  | ptr hi hb => intro hc; simp [closedB] at hc
  | eptr ad vs hc hr ih => intro _; exact .eptr ad vs hc hr
  | fn hf hc h1 h2 ih1 ih2 =>
    intro hcl
    simp only [closedB, Bool.and_eq_true] at hcl
    exact .fn hf hc (fun j x v hx hv => ih1 j x v hx hv (closed_get hcl.1 x (List.mem_of_getElem? hx))) (fun j x v hx hv => ih2 j x v hx hv (closed_get hcl.2 x (List.mem_of_getElem? hx)))
  | mp hi hb => intro hc; simp [closedB] at hc
  | sl hi hb hn hm => intro hc; simp [closedB] at hc
  | yl hi hb => intro hc; simp [closedB] at hc
theorem frzL_get : ∀ {xs ys : List PV}, frzL xs = some ys → xs.length = ys.length ∧ ∀ (j : Nat) (x y : PV), xs[j]? = some x → ys[j]? = some y → frz x = some y
  | [], ys, h => by simp only [frzL, Option.some.injEq] at h; subst h; exact ⟨rfl, fun j x y hx => by simp at hx⟩
  | x :: r, ys, h => by
    simp only [frzL] at h
    split at h
    · rename_i y ys' h1 h2
      simp only [Option.some.injEq] at h
      subst h
      obtain ⟨hl, hg⟩ := frzL_get h2
      refine ⟨by simp [hl], fun j a b ha hb => ?_⟩
      cases j with
      | zero => simp at ha hb; subst ha hb; exact h1
      | succ j => exact hg j a b (by simpa using ha) (by simpa using hb)
    · cases h
theorem VRep.frz {p : PV} {v : Value} (h : VRep G w ι H p v) : ∀ {q : PV}, Pm.frz p = some q → VRep G w (fun _ => none) [] q v := by
  induction h with
  | s v => intro q hq; simp only [Pm.frz, Option.some.injEq] at hq; subst hq; exact .s v
  | junk v => intro q hq; simp only [Pm.frz, Option.some.injEq] at hq; subst hq; exact .junk v
  | @agg ι H xs vs hl h1 hr ih =>
    intro q hq
    simp only [Pm.frz] at hq
    cases hc : closedLB xs with
    | true =>
      rw [hc] at hq
      simp only [cond_true, Option.some.injEq] at hq
      subst hq
      exact VRep.closed (.agg hl h1 hr) (by simpa [closedB] using hc)
    | false =>
      rw [hc] at hq
      simp only [cond_false] at hq
      split at hq
      · rename_i ys hys
        simp only [Option.some.injEq] at hq
        subst hq
        obtain ⟨hl2, hg⟩ := frzL_get hys
        refine .agg (by omega) h1 (fun j y v hy hv => ?_)
        have hj : j < xs.length := by rw [hl2]; exact (List.getElem?_eq_some_iff.1 hy).1
        exact ih j _ v (List.getElem?_eq_getElem hj) hv (hg j _ y (List.getElem?_eq_getElem hj) hy)
      · cases hq
  | @tup ι H xs vs hl hr ih =>
    intro q hq
    simp only [Pm.frz] at hq
    cases hc : closedLB xs with
    | true =>
      rw [hc] at hq
      simp only [cond_true, Option.some.injEq] at hq
      subst hq
      exact VRep.closed (.tup hl hr) (by simpa [closedB] using hc)
    | false =>
      rw [hc] at hq
      simp only [cond_false] at hq
      split at hq
      · rename_i ys hys
        simp only [Option.some.injEq] at hq
        subst hq
        obtain ⟨hl2, hg⟩ := frzL_get hys
        refine .tup (by omega) (fun j y v hy hv => ?_)
        have hj : j < xs.length := by rw [hl2]; exact (List.getElem?_eq_some_iff.1 hy).1
        exact ih j _ v (List.getElem?_eq_getElem hj) hv (hg j _ y (List.getElem?_eq_getElem hj) hy)
      · cases hq
  | list sz vs hn hc hm hsz hA hr ih => intro q hq; simp only [Pm.frz, Option.some.injEq] at hq; subst hq; exact .list sz vs hn hc hm hsz hA hr
  | row h hi ho ih => intro q hq; simp only [Pm.frz, Option.some.injEq] at hq; subst hq; exact h.closed rfl
  | ptr hi hb => intro q hq; simp [Pm.frz] at hq
  | eptr ad vs hc hr ih => intro q hq; simp only [Pm.frz, Option.some.injEq] at hq; subst hq; exact .eptr ad vs hc hr
  | @fn ι H f first caps fs cs hf hc h1 h2 ih1 ih2 =>
    intro q hq
    simp only [Pm.frz] at hq
    split at hq
    · rename_i a' b' ha hb
      simp only [Option.some.injEq] at hq
      subst hq
      obtain ⟨l1, g1⟩ := frzL_get ha
      obtain ⟨l2, g2⟩ := frzL_get hb
      refine .fn (by omega) (by omega) (fun j y v hy hv => ?_) (fun j y v hy hv => ?_)
      · have hj : j < first.length := by rw [l1]; exact (List.getElem?_eq_some_iff.1 hy).1
        exact ih1 j _ v (List.getElem?_eq_getElem hj) hv (g1 j _ y (List.getElem?_eq_getElem hj) hy)
      · have hj : j < caps.length := by rw [l2]; exact (List.getElem?_eq_some_iff.1 hy).1
        exact ih2 j _ v (List.getElem?_eq_getElem hj) hv (g2 j _ y (List.getElem?_eq_getElem hj) hy)
    · cases hq
  | mp hi hb => intro q hq; simp [Pm.frz] at hq
  | sl hi hb hn hm => intro q hq; simp [Pm.frz] at hq
  | yl hi hb => intro q hq; simp [Pm.frz] at hq
end
end Go.Proofs.Pm
end

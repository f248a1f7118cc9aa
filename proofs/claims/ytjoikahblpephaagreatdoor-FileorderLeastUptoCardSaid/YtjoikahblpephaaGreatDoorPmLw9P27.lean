/- A part of the proof of one law: the machine on pure values and the walks of functions. -/
import Derived.Test.YtjoikahblpephaaGreatDoorPmLw9P24
import Derived.Test.YtjoikahblpephaaGreatDoorPmLw9P25
set_option linter.all false
section
namespace Go.Proofs.Pm
open Go
theorem PlaceR_perm {x : Node} {o : List B} {s : Int} (hv : valid18 x = true) (hs : 0 ≤ s) (h : o.Perm (files47 x)) : PlaceR x o s = placeR x o s := by
  rw [PlaceR_eq]
  have : placeBad x o s = false := by
    unfold placeBad
    rw [hv, decide_eq_false (by omega), sameStrs_iff.2 (sortS_iff.2 h)]
    rfl
  rw [this]
  rfl
theorem placeAux_cons {x : Node} {p : B} {r : List B} {a : Int} {l : List File} (h : placeAux x (p :: r) a = some l) : a ≤ 4096 - blocks (dlen x p) ∧ ∃ l', l = (p, a, dlen x p) :: l' ∧ placeAux x r (a + blocks (dlen x p)) = some l' := by
  rw [placeAux] at h
  split at h
  · cases h
  · obtain ⟨l', h1, h2⟩ := Option.map_eq_some_iff.1 h
    exact ⟨by omega, l', h2.symm, h1⟩
theorem placeAux_names {x : Node} : ∀ (o : List B) (a : Int) (l : List File), placeAux x o a = some l → l.map (·.1) = o
  | [], a, l, h => by simp only [placeAux, Option.some.injEq] at h; subst h; rfl
  | p :: r, a, l, h => by
    obtain ⟨_, l', rfl, h2⟩ := placeAux_cons h
    rw [List.map_cons, placeAux_names r _ l' h2]
theorem blocks_nonneg (n : Int) (h : n ≤ 1099511627776) : 0 ≤ blocks n := by
  rcases Int.lt_or_le n 0 with h0 | h0
  · unfold blocks; rw [if_pos (by omega)]; omega
  · exact (blocks_le h0 h).1
theorem dlen_le' {x : Node} (hb : x.bulk ≤ 1048576) (p : B) : dlen x p ≤ 1099511627776 := by
  have := (dlen_le x p).2; omega
theorem wr_id {n : Int} (h1 : -9223372036854775808 ≤ n) (h2 : n ≤ 9223372036854775807) : wr n = n := wrap_i64 h1 h2
theorem placeAux_valid {x : Node} (hb : x.bulk ≤ 1048576) : ∀ (o : List B) (a : Int) (l : List File), 0 ≤ a → placeAux x o a = some l → ∀ f ∈ l, validF f = true
  | [], a, l, _, h, f, hf => by
    simp only [placeAux, Option.some.injEq] at h
    subst h; cases hf
  | p :: r, a, l, ha, h, f, hf => by
    obtain ⟨h1, l', rfl, h2⟩ := placeAux_cons h
    have hbn := blocks_nonneg (dlen x p) (dlen_le' hb p)
    have hd := (dlen_le x p).1
    rcases List.mem_cons.1 hf with rfl | hf
    · unfold validF
      simp only [Bool.and_eq_true, decide_eq_true_eq]
      rw [wr_id (by omega) (by omega)]
      omega
    · exact placeAux_valid hb r _ l' (by omega) h2 f hf
end Go.Proofs.Pm
end
section
namespace Go.Proofs.Pm
open Go
theorem idxS_ixL : ∀ {l : List B} {s : B}, s ∈ l → idxS l s = some (ixL l s)
  | q :: r, s, h => by
    unfold idxS
    rw [List.findIdx?_cons, ixL]
    by_cases e : s = q
    · rw [if_pos e, if_pos (beq_iff.2 e)]
    · rw [if_neg e, if_neg (fun h => e (beq_iff.1 h))]
      have := idxS_ixL ((List.mem_cons.1 h).resolve_left e)
      unfold idxS at this
      rw [this]
      rfl
theorem idx_z {l : List B} {s : B} (h : s ∈ l) : kidZ (idxS l s) = (ixL l s : Int) := by
  rw [idxS_ixL h]; rfl
end Go.Proofs.Pm
end
section
namespace Go.Proofs.Pm
open Go
def cmpL (all : List B) : List B → List B → Int
  | p :: r, q :: t => if kidZ (idxS all p) - kidZ (idxS all q) ≠ 0 then kidZ (idxS all p) - kidZ (idxS all q) else cmpL all r t
  | _, _ => 0
theorem cmpL_app (all : List B) : ∀ (f r t : List B), cmpL all (f ++ r) (f ++ t) = cmpL all r t
  | [], r, t => rfl
  | p :: f, r, t => by
    show (if kidZ (idxS all p) - kidZ (idxS all p) ≠ 0 then _ else cmpL all (f ++ r) (f ++ t)) = _
    rw [if_neg (by omega)]
    exact cmpL_app all f r t
theorem cmpL_neg (all : List B) : ∀ (a b : List B), cmpL all b a = - cmpL all a b
  | [], [] => rfl
  | [], _ :: _ => rfl
  | _ :: _, [] => rfl
  | p :: r, q :: t => by
    have := cmpL_neg all r t
    unfold cmpL
    split <;> split <;> omega
theorem cmpL_self (all : List B) (a : List B) : cmpL all a a = 0 := by
  have := cmpL_app all a [] []
  simpa [cmpL] using this
theorem ordersR_starts {fs : List B} : ∀ (k : Nat) (f o : List B), o ∈ ordersR fs k f → ∃ r, o = f ++ r
  | 0, f, o, h => by
    rw [ordersR, List.mem_singleton] at h
    exact ⟨[], by simp [h]⟩
  | k + 1, f, o, h => by
    rw [ordersR, List.mem_flatMap] at h
    obtain ⟨p, _, h⟩ := h
    obtain ⟨r, rfl⟩ := ordersR_starts k _ o h
    exact ⟨p :: r, by simp⟩
theorem ixL_strict {l : List B} (hn : l.Nodup) : l.Pairwise (fun x y => ixL l x < ixL l y) := by
  rw [List.pairwise_iff_getElem]
  intro i j hi hj hij
  rw [ixL_get hn (List.getElem?_eq_getElem hi), ixL_get hn (List.getElem?_eq_getElem hj)]
  exact hij
theorem ordersR_rise {fs : List B} (hn : fs.Nodup) : ∀ (k : Nat) (f : List B), (ordersR fs k f).Pairwise (fun a b => cmpL fs a b < 0)
  | 0, f => by rw [ordersR]; simp
  | k + 1, f => by
    rw [ordersR, List.pairwise_flatMap]
    refine ⟨fun p _ => ordersR_rise hn k _, ?_⟩
    have h1 : (fs.filter fun p => !has f p).Pairwise (fun x y => ixL fs x < ixL fs y) := (ixL_strict hn).filter _
    refine h1.imp_of_mem (fun {p q} hp hq h o1 ho1 o2 ho2 => ?_)
    obtain ⟨r1, rfl⟩ := ordersR_starts _ _ _ ho1
    obtain ⟨r2, rfl⟩ := ordersR_starts _ _ _ ho2
    have e1 := idx_z (List.mem_filter.1 hp).1
    have e2 := idx_z (List.mem_filter.1 hq).1
    rw [List.append_assoc, List.append_assoc, cmpL_app]
    show (if kidZ (idxS fs p) - kidZ (idxS fs q) ≠ 0 then kidZ (idxS fs p) - kidZ (idxS fs q) else _) < 0
    rw [e1, e2, if_pos (by omega)]
    omega
theorem ordersR_all {fs : List B} : ∀ (k : Nat) (f r : List B), r.length = k → (f ++ r).Nodup → (∀ p ∈ r, p ∈ fs) → f ++ r ∈ ordersR fs k f
  | 0, f, r, hl, _, _ => by
    have : r = [] := List.eq_nil_of_length_eq_zero hl
    subst this
    simp [ordersR]
  | k + 1, f, [], hl, _, _ => by simp at hl
  | k + 1, f, p :: r, hl, hn, hm => by
    rw [ordersR, List.mem_flatMap]
    have hnot : p ∉ f := fun h => by
      rw [List.nodup_append] at hn
      exact hn.2.2 p h p List.mem_cons_self rfl
    refine ⟨p, List.mem_filter.2 ⟨hm p List.mem_cons_self, by rw [has_not.2 hnot]; rfl⟩, ?_⟩
    have := ordersR_all k (f ++ [p]) r (by simpa using hl) (by simpa using hn) (fun q hq => hm q (List.mem_cons_of_mem _ hq))
    simpa using this
def costO (x : Node) (acc : List B) (o : List B) : Int := (costR (placeR x o 0).1 acc).1
def FirstB (x : Node) (acc : List B) (R : List B → List B → Prop) (pre : List (List B)) (s : List B × Int) : Prop :=
  s.1 ∈ pre ∧ s.2 = costO x acc s.1 ∧ ∀ o ∈ pre, s.2 ≤ costO x acc o ∧ (costO x acc o = s.2 → s.1 = o ∨ R s.1 o)
theorem fold_first {x : Node} {acc : List B} {R : List B → List B → Prop} : ∀ (r pre : List (List B)) (s : List B × Int), (pre ++ r).Pairwise R → FirstB x acc R pre s → ∃ s', r.foldl (bestStep x acc) (some s) = some s' ∧ FirstB x acc R (pre ++ r) s'
  | [], pre, s, _, h => ⟨s, rfl, by simpa using h⟩
  | o :: r, pre, s, hp, h => by
    obtain ⟨h1, h2, h3⟩ := h
    have hp' : (pre ++ [o] ++ r).Pairwise R := by simpa using hp
    have hR : R s.1 o := by
      rw [List.pairwise_append] at hp
      exact hp.2.2 s.1 h1 o List.mem_cons_self
    rw [List.foldl_cons]
    show ∃ s', r.foldl (bestStep x acc) (if costO x acc o < s.2 then some (o, costO x acc o) else some s) = some s' ∧ _
    have happ : pre ++ o :: r = pre ++ [o] ++ r := by simp
    rw [happ]
    split
    · rename_i hlt
      refine fold_first r (pre ++ [o]) _ hp' ⟨by simp, rfl, fun o' ho' => ?_⟩
      rcases List.mem_append.1 ho' with ho' | ho'
      · have := (h3 o' ho').1
        refine ⟨by show costO x acc o ≤ _; omega, fun e => ?_⟩
        have e : costO x acc o' = costO x acc o := e
        omega
      · rw [List.mem_singleton] at ho'
        subst ho'
        exact ⟨Int.le_refl _, fun _ => .inl rfl⟩
    · rename_i hlt
      refine fold_first r (pre ++ [o]) _ hp' ⟨List.mem_append_left _ h1, h2, fun o' ho' => ?_⟩
      rcases List.mem_append.1 ho' with ho' | ho'
      · exact h3 o' ho'
      · rw [List.mem_singleton] at ho'
        subst ho'
        exact ⟨by omega, fun _ => .inr hR⟩
theorem first_all {x : Node} {acc : List B} {R : List B → List B → Prop} {os : List (List B)} (hne : os ≠ []) (hp : os.Pairwise R) : ∃ s, os.foldl (bestStep x acc) none = some s ∧ FirstB x acc R os s := by
  cases os with
  | nil => exact absurd rfl hne
  | cons o r =>
    rw [List.foldl_cons]
    show ∃ s, r.foldl (bestStep x acc) (some (o, costO x acc o)) = some s ∧ _
    exact fold_first r [o] _ hp ⟨by simp, rfl, fun o' ho' => by
      rw [List.mem_singleton] at ho'
      subst ho'
      exact ⟨Int.le_refl _, fun _ => .inl rfl⟩⟩
theorem ordersR_ne {fs : List B} (hn : fs.Nodup) : ordersR fs fs.length [] ≠ [] := by
  intro h
  have := ordersR_all (fs := fs) fs.length [] fs rfl (by simpa using hn) (fun p hp => hp)
  rw [h] at this
  cases this
theorem best_facts {x : Node} (hb : x.bulk ≤ 1048576) (acc : List B) (h : (bestR x acc).2 = 0) : valid18 x = true ∧ (files47 x).length ≤ 6 ∧ acc.length ≤ 64 ∧ (∀ a ∈ acc, a ∈ files47 x) ∧ (bestR x acc).1.Perm (files47 x) ∧
    ∀ o : List B, o.Perm (files47 x) → costO x acc (bestR x acc).1 ≤ costO x acc o ∧ (costO x acc o = costO x acc (bestR x acc).1 → 0 ≤ cmpL (files47 x) o (bestR x acc).1) := by
  have hn := files47_nodup x
  rw [bestR_eq hb] at h ⊢
  split at h
  · cases h
  rename_i hv
  rw [if_neg hv]
  split at h
  · cases h
  rename_i hl
  rw [if_neg hl]
  split at h
  · cases h
  rename_i ha
  rw [if_neg ha]
  simp only [Bool.or_eq_true, decide_eq_true_eq, not_or, Nat.not_lt] at hl
  have hacc : ∀ a ∈ acc, a ∈ files47 x := fun a hm => by
    rw [Bool.not_eq_true, List.any_eq_false] at ha
    exact has_iff.1 (by simpa using ha a hm)
  obtain ⟨s, hs, h1, h2, h3⟩ := first_all (x := x) (acc := acc) (ordersR_ne hn) (ordersR_rise hn (files47 x).length [])
  rw [hs]
  show _ ∧ _ ∧ _ ∧ _ ∧ s.1.Perm _ ∧ ∀ o : List B, _ → costO x acc s.1 ≤ _ ∧ (_ → 0 ≤ cmpL (files47 x) o s.1)
  refine ⟨by simpa using hv, hl.1, hl.2, hacc, ordersR_perm hn _ _ (by simp) (fun p hp => by cases hp) (by simp) _ h1, fun o ho => ?_⟩
  have hm : o ∈ ordersR (files47 x) (files47 x).length [] := by
    have := ordersR_all (fs := files47 x) (files47 x).length [] o ho.length_eq (by simpa using ho.nodup_iff.2 hn) (fun p hp => ho.mem_iff.1 hp)
    simpa using this
  obtain ⟨k1, k2⟩ := h3 o hm
  rw [h2] at k1 k2
  refine ⟨k1, fun e => ?_⟩
  rcases k2 e with e | e
  · rw [e, cmpL_self]; exact Int.le_refl _
  · have := cmpL_neg (files47 x) s.1 o
    omega
theorem best_none {x : Node} (hb : x.bulk ≤ 1048576) (acc : List B) (h : (bestR x acc).2 ≠ 0) : (bestR x acc).1 = [] := by
  rw [bestR_eq hb] at h ⊢
  split at h
  · rename_i hv; rw [if_pos hv]
  rename_i hv
  rw [if_neg hv]
  split at h
  · rename_i hl; rw [if_pos hl]
  rename_i hl
  rw [if_neg hl]
  split at h
  · rename_i ha; rw [if_pos ha]
  · exact absurd rfl h
theorem costAcc_some {l : List File} : ∀ (acc : List B) (s p : Int), (∀ a ∈ acc, a ∈ l.map (·.1)) → (costAcc l acc s p).isSome = true
  | [], s, p, _ => rfl
  | a :: r, s, p, h => by
    have hm := h a List.mem_cons_self
    obtain ⟨f, hf, he⟩ := List.mem_map.1 hm
    have hne : (l.filter (fun f => decide (a = f.1))).isEmpty = false := by
      rw [List.isEmpty_eq_false_iff]
      exact List.ne_nil_of_mem (List.mem_filter.2 ⟨hf, by simp [he]⟩)
    rw [costAcc, step_filter, hne]
    simp only [Bool.not_false, Bool.or_true, if_true]
    exact costAcc_some r _ _ (fun b hb => h b (List.mem_cons_of_mem _ hb))
theorem costR_ok {x : Node} (hb : x.bulk ≤ 1048576) {o acc : List B} (ho : o.Perm (files47 x)) (h6 : (files47 x).length ≤ 6) (h64 : acc.length ≤ 64) (ha : ∀ a ∈ acc, a ∈ files47 x) : (costR (placeR x o 0).1 acc).2 = 0 := by
  have hol := ho.length_eq
  have := placeAux_some hb o 0 (by omega) (by omega)
  unfold placeR
  cases h : placeAux x o 0 with
  | none => rw [h] at this; cases this
  | some l =>
    have hll := placeAux_length _ _ _ h
    have hnm := placeAux_names _ _ _ h
    have hsome := costAcc_some (l := l) acc 0 0 (fun a hm => by rw [hnm]; exact ho.mem_iff.2 (ha a hm))
    show (costR l acc).2 = 0
    unfold costR
    rw [if_neg (by simp; omega), if_neg]
    · cases hc : costAcc l acc 0 0 with
      | none => rw [hc] at hsome; cases hsome
      | some c => rfl
    · rw [Bool.not_eq_true, List.any_eq_false]
      intro f hf
      rw [placeAux_valid hb _ _ _ (by omega) h f hf]
      decide
theorem clos_perm {x : Node} (hb : x.bulk ≤ 1048576) (hv : valid18 x = true) {o acc : List B} (ho : o.Perm (files47 x)) (h6 : (files47 x).length ≤ 6) (h64 : acc.length ≤ 64) (ha : ∀ a ∈ acc, a ∈ files47 x) :
    (costR (PlaceR x o 0).1 acc).1 = costO x acc o ∧ (((PlaceR x o 0).2 == 0) && ((costR (PlaceR x o 0).1 acc).2 == 0)) = true := by
  rw [PlaceR_perm hv (by omega) ho, place_ok hb (by rw [ho.length_eq]; exact h6), costR_ok hb ho h6 h64 ha]
  exact ⟨rfl, rfl⟩
def swapN (l : List B) (k : Nat) : List B := (l.set k (getS l (k + 1))).set (k + 1) (getS l k)
theorem swapN_perm {l : List B} {k : Nat} (h : k + 1 < l.length) : (swapN l k).Perm l := by
  obtain ⟨A, u, v, C, rfl, hA⟩ : ∃ A u v C, l = A ++ u :: v :: C ∧ A.length = k := by
    refine ⟨l.take k, l[k], l[k + 1], l.drop (k + 2), ?_, by simp; omega⟩
    conv => lhs; rw [← List.take_append_drop k l]
    rw [List.drop_eq_getElem_cons (by omega), List.drop_eq_getElem_cons h]
  have g1 : getS (A ++ u :: v :: C) k = u := getS_mid hA
  have g2 : getS (A ++ u :: v :: C) (k + 1) = v := by
    rw [show A ++ u :: v :: C = (A ++ [u]) ++ v :: C by simp]
    exact getS_mid (by simp; omega)
  unfold swapN
  rw [g1, g2, set_mid hA, show A ++ v :: v :: C = (A ++ [v]) ++ v :: C by simp, set_mid (by simp; omega)]
  simp only [List.append_assoc, List.cons_append, List.nil_append]
  exact (List.Perm.swap u v C).append_left A
end Go.Proofs.Pm
end

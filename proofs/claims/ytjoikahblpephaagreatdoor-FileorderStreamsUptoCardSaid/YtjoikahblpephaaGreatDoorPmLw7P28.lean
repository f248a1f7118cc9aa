/- A part of the proof of one law: the machine on pure values and the walks of functions. -/
import Derived.Test.YtjoikahblpephaaGreatDoorPmLw7P25
import Derived.Test.YtjoikahblpephaaGreatDoorPmLw7P26
set_option linter.all false
section
namespace Go.Proofs.Pm
open Go
theorem Sub.perm {l out : List B} (hl : l.Nodup) (h : Sub l out) (ha : ∀ p ∈ l, p ∈ out) : out.Perm l :=
  perm_of h.1 h.2 (Nat.le_antisymm h.len (nodup_le hl ha))
theorem addFold_prefix : ∀ (r out : List B), ∃ t, r.foldl addStep out = out ++ t
  | [], out => ⟨[], by simp⟩
  | p :: r, out => by
    rw [List.foldl_cons]
    cases hh : has out p with
    | false =>
      obtain ⟨t, h⟩ := addFold_prefix r (out ++ [p])
      exact ⟨p :: t, by rw [addStep, hh, if_pos (by decide), h]; simp⟩
    | true =>
      rw [addStep, hh, if_neg (by decide)]
      exact addFold_prefix r out
theorem addFold_mem : ∀ (r out : List B), ∀ p, (p ∈ out ∨ p ∈ r) → p ∈ r.foldl addStep out
  | [], out, p, h => by simpa using h
  | q :: r, out, p, h => by
    rw [List.foldl_cons]
    refine addFold_mem r _ p ?_
    unfold addStep
    split
    · rcases h with h | h
      · exact .inl (List.mem_append_left _ h)
      · rcases List.mem_cons.1 h with rfl | h
        · exact .inl (by simp)
        · exact .inr h
    · rename_i hc
      rcases h with h | h
      · exact .inl h
      · rcases List.mem_cons.1 h with rfl | h
        · exact .inl (has_iff.1 (by simpa using hc))
        · exact .inr h
theorem accFold_self {l : List B} : ∀ (r out : List B), (out ++ r).Nodup → (∀ p ∈ r, p ∈ l) → r.foldl (accStep l) out = out ++ r
  | [], out, _, _ => by simp
  | p :: r, out, hn, h => by
    have h1 : has l p = true := has_iff.2 (h p List.mem_cons_self)
    have h2 : has out p = false := has_not.2 (fun hp => by
      rw [List.nodup_append] at hn
      exact hn.2.2 p hp p List.mem_cons_self rfl)
    rw [List.foldl_cons, accStep, h1, h2]
    simp only [Bool.not_false, Bool.and_true, if_true]
    rw [accFold_self r (out ++ [p]) (by simpa using hn) (fun q hq => h q (List.mem_cons_of_mem _ hq))]
    simp
theorem byA47_perm (x : Node) (acc : List B) : (byA47 x acc).Perm (files47 x) := by
  have hs : Sub (byW47 x) (byA47 x acc) := addFold_sub _ _ (fun p hp => hp) (accFold_sub _ _ (sub_nil _))
  exact (hs.perm (byW47_nodup x) (fun p hp => addFold_mem _ _ p (.inr hp))).trans (byW47_perm x)
theorem byA47_prefix (x : Node) {once : List B} (h : Sub (files47 x) once) : ∃ t, byA47 x once = once ++ t := by
  have h1 : accFold (byW47 x) once = once := by
    have := accFold_self (l := byW47 x) once [] (by simpa using h.1) (fun p hp => (byW47_perm x).mem_iff.2 (h.2 p hp))
    rw [List.nil_append] at this
    exact this
  unfold byA47 byA
  rw [h1]
  exact addFold_prefix _ _
theorem PlaceR_perm {x : Node} {o : List B} {s : Int} (hv : valid18 x = true) (hs : 0 ≤ s) (h : o.Perm (files47 x)) : PlaceR x o s = placeR x o s := by
  rw [PlaceR_eq]
  have : placeBad x o s = false := by
    unfold placeBad
    rw [hv, decide_eq_false (by omega), sameStrs_iff.2 (sortS_iff.2 h)]
    rfl
  rw [this]
  rfl
theorem dlen_pos {x : Node} {p : B} (h : p ∈ files47 x) : 0 < dlen x p := by
  have h1 := (List.mem_filter.1 h).2
  unfold isFile at h1
  simp only [Bool.and_eq_true, Bool.not_eq_true'] at h1
  have h2 : (findR x p).1.data ≠ ⟨#[]⟩ := fun e => by
    rw [emptyB_iff.2 e] at h1
    cases h1.2
  unfold dlen
  have h3 : (findR x p).1.data.size ≠ 0 := fun e => h2 (by
    cases hd : (findR x p).1.data with
    | mk a =>
      rw [hd] at e
      have : a = #[] := Array.size_eq_zero_iff.1 e
      rw [this])
  omega
theorem placeAux_cons {x : Node} {p : B} {r : List B} {a : Int} {l : List File} (h : placeAux x (p :: r) a = some l) : a ≤ 4096 - blocks (dlen x p) ∧ ∃ l', l = (p, a, dlen x p) :: l' ∧ placeAux x r (a + blocks (dlen x p)) = some l' := by
  rw [placeAux] at h
  split at h
  · cases h
  · obtain ⟨l', h1, h2⟩ := Option.map_eq_some_iff.1 h
    exact ⟨by omega, l', h2.symm, h1⟩
theorem placeAux_names {x : Node} : ∀ (o : List B) (a : Int) (l : List File), placeAux x o a = some l → l.map (·.1) = o
  | [], a, l, h => by simp only [placeAux, Option.some.injEq] at h; subst h; rfl
  | p :: r, a, l, h => by
    obtain ⟨_, l', rfl, h2⟩ := placeAux_cons h
    rw [List.map_cons, placeAux_names r _ l' h2]
theorem blocks_nonneg (n : Int) (h : n ≤ 1099511627776) : 0 ≤ blocks n := by
  rcases Int.lt_or_le n 0 with h0 | h0
  · unfold blocks; rw [if_pos (by omega)]; omega
  · exact (blocks_le h0 h).1
theorem dlen_le' {x : Node} (hb : x.bulk ≤ 1048576) (p : B) : dlen x p ≤ 1099511627776 := by
  have := (dlen_le x p).2; omega
theorem filter_one {l1 l2 : List File} {p : B} {a n : Int} (hn : (l1.map (·.1) ++ p :: l2.map (·.1)).Nodup) : (l1 ++ (p, a, n) :: l2).filter (fun f => decide (p = f.1)) = [(p, a, n)] := by
  rw [List.nodup_append, List.nodup_cons] at hn
  have h1 : l1.filter (fun f => decide (p = f.1)) = [] := List.filter_eq_nil_iff.2 (fun f hf he => by
    have : p = f.1 := by simpa using he
    exact hn.2.2 f.1 (List.mem_map_of_mem hf) p List.mem_cons_self this.symm)
  have h2 : l2.filter (fun f => decide (p = f.1)) = [] := List.filter_eq_nil_iff.2 (fun f hf he => by
    have : p = f.1 := by simpa using he
    exact hn.2.1.1 (this ▸ List.mem_map_of_mem hf))
  rw [List.filter_append, List.filter_cons, h1, h2]
  simp
theorem wr_id {n : Int} (h1 : -9223372036854775808 ≤ n) (h2 : n ≤ 9223372036854775807) : wr n = n := wrap_i64 h1 h2
theorem cost_zero {x : Node} (hb : x.bulk ≤ 1048576) : ∀ (once t : List B) (l1 l2 : List File) (a : Int), 0 ≤ a → a ≤ 4096 → placeAux x (once ++ t) a = some l2 → (l1.map (·.1) ++ (once ++ t)).Nodup → (∀ p ∈ once, 0 < dlen x p) → costAcc (l1 ++ l2) once 0 a = some 0
  | [], t, l1, l2, a, _, _, _, _, _ => rfl
  | p :: r, t, l1, l2, a, ha, hm, h, hn, hd => by
    rw [List.cons_append] at h hn
    obtain ⟨h1, l', rfl, h2⟩ := placeAux_cons h
    have hnames := placeAux_names _ _ _ h2
    have hbn := blocks_nonneg (dlen x p) (dlen_le' hb p)
    have hp := hd p List.mem_cons_self
    have hfil := filter_one (l1 := l1) (l2 := l') (p := p) (a := a) (n := dlen x p) (by rw [hnames]; exact hn)
    have hstep : stepG (0, a) (p, a, dlen x p) = (0, a + blocks (dlen x p)) := by
      unfold stepG
      rw [if_pos hp]
      simp only
      have w0 : wr 0 = 0 := wr_id (by omega) (by omega)
      rw [show a - a = 0 by omega, w0, show maxI 0 0 = 0 from rfl, show (0 : Int) + 0 = 0 from rfl, w0, wr_id (n := a + blocks (dlen x p)) (by omega) (by omega)]
    rw [costAcc, step_filter, hfil]
    simp only [List.foldl_cons, List.foldl_nil, hstep, List.isEmpty_cons, Bool.not_false, Bool.or_true, if_true]
    have := cost_zero hb r t (l1 ++ [(p, a, dlen x p)]) l' (a + blocks (dlen x p)) (by omega) (by omega) h2 (by simpa using hn) (fun q hq => hd q (List.mem_cons_of_mem _ hq))
    simpa using this
theorem placeAux_valid {x : Node} (hb : x.bulk ≤ 1048576) : ∀ (o : List B) (a : Int) (l : List File), 0 ≤ a → placeAux x o a = some l → ∀ f ∈ l, validF f = true
  | [], a, l, _, h, f, hf => by
    simp only [placeAux, Option.some.injEq] at h
    subst h; cases hf
  | p :: r, a, l, ha, h, f, hf => by
    obtain ⟨h1, l', rfl, h2⟩ := placeAux_cons h
    have hbn := blocks_nonneg (dlen x p) (dlen_le' hb p)
    have hd := (dlen_le x p).1
    rcases List.mem_cons.1 hf with rfl | hf
    · unfold validF
      simp only [Bool.and_eq_true, decide_eq_true_eq]
      rw [wr_id (by omega) (by omega)]
      omega
    · exact placeAux_valid hb r _ l' (by omega) h2 f hf
theorem costR_zero {x : Node} (hb : x.bulk ≤ 1048576) {once t : List B} {l : List File} (h : placeAux x (once ++ t) 0 = some l) (hn : (once ++ t).Nodup) (hl : (once ++ t).length ≤ 40) (hd : ∀ p ∈ once, 0 < dlen x p) : costR l once = (0, 0) := by
  have hll := placeAux_length _ _ _ h
  have h1 := cost_zero hb once t [] l 0 (by omega) (by omega) h (by simpa using hn) hd
  rw [List.nil_append] at h1
  unfold costR
  rw [List.length_append] at hl
  rw [if_neg (by simp; rw [hll]; simp; omega), if_neg, h1]
  rw [Bool.not_eq_true, List.any_eq_false]
  intro f hf
  rw [placeAux_valid hb _ _ _ (by omega) h f hf]
  decide
theorem streams_ok {x : Node} (hb : x.bulk ≤ 1048576) (hv : valid18 x = true) (hc : x.count ≤ 40) (acc : List B) :
    ((PlaceR x (byA47 x (accFold (files47 x) acc)) 0).2 = 12 ∨ ((PlaceR x (byA47 x (accFold (files47 x) acc)) 0).2 = 0 ∧ costR (PlaceR x (byA47 x (accFold (files47 x) acc)) 0).1 (accFold (files47 x) acc) = (0, 0))) := by
  have hs : Sub (files47 x) (accFold (files47 x) acc) := accFold_sub _ _ (sub_nil _)
  generalize accFold (files47 x) acc = once at hs
  have hp := byA47_perm x once
  rw [PlaceR_perm hv (by omega) hp]
  obtain ⟨t, ht⟩ := byA47_prefix x hs
  rw [ht] at hp
  rw [ht]
  unfold placeR
  cases h : placeAux x (once ++ t) 0 with
  | none => exact .inl rfl
  | some l =>
    refine .inr ⟨rfl, costR_zero hb h (hp.nodup_iff.2 (files47_nodup x)) ?_ (fun p hp => dlen_pos (hs.2 p hp))⟩
    have := files_lt x hc
    rw [hp.length_eq]; omega
end Go.Proofs.Pm
end

/- A part of the proof of one law: the machine on pure values and the walks of functions. -/
import Derived.Test.YtjoikahblpephaaGreatDoorPmLw10P25
import Derived.Test.YtjoikahblpephaaGreatDoorPmLw10P26
set_option linter.all false
section
namespace Go.Proofs.Pm
open Go
theorem Sub.perm {l out : List B} (hl : l.Nodup) (h : Sub l out) (ha : ∀ p ∈ l, p ∈ out) : out.Perm l :=
  perm_of h.1 h.2 (Nat.le_antisymm h.len (nodup_le hl ha))
theorem addFold_mem : ∀ (r out : List B), ∀ p, (p ∈ out ∨ p ∈ r) → p ∈ r.foldl addStep out
  | [], out, p, h => by simpa using h
  | q :: r, out, p, h => by
    rw [List.foldl_cons]
    refine addFold_mem r _ p ?_
    unfold addStep
    split
    · rcases h with h | h
      · exact .inl (List.mem_append_left _ h)
      · rcases List.mem_cons.1 h with rfl | h
        · exact .inl (by simp)
        · exact .inr h
    · rename_i hc
      rcases h with h | h
      · exact .inl h
      · rcases List.mem_cons.1 h with rfl | h
        · exact .inl (has_iff.1 (by simpa using hc))
        · exact .inr h
theorem byA47_perm (x : Node) (acc : List B) : (byA47 x acc).Perm (files47 x) := by
  have hs : Sub (byW47 x) (byA47 x acc) := addFold_sub _ _ (fun p hp => hp) (accFold_sub _ _ (sub_nil _))
  exact (hs.perm (byW47_nodup x) (fun p hp => addFold_mem _ _ p (.inr hp))).trans (byW47_perm x)
theorem PlaceR_perm {x : Node} {o : List B} {s : Int} (hv : valid18 x = true) (hs : 0 ≤ s) (h : o.Perm (files47 x)) : PlaceR x o s = placeR x o s := by
  rw [PlaceR_eq]
  have : placeBad x o s = false := by
    unfold placeBad
    rw [hv, decide_eq_false (by omega), sameStrs_iff.2 (sortS_iff.2 h)]
    rfl
  rw [this]
  rfl
theorem dlen_pos {x : Node} {p : B} (h : p ∈ files47 x) : 0 < dlen x p := by
  have h1 := (List.mem_filter.1 h).2
  unfold isFile at h1
  simp only [Bool.and_eq_true, Bool.not_eq_true'] at h1
  have h2 : (findR x p).1.data ≠ ⟨#[]⟩ := fun e => by
    rw [emptyB_iff.2 e] at h1
    cases h1.2
  unfold dlen
  have h3 : (findR x p).1.data.size ≠ 0 := fun e => h2 (by
    cases hd : (findR x p).1.data with
    | mk a =>
      rw [hd] at e
      have : a = #[] := Array.size_eq_zero_iff.1 e
      rw [this])
  omega
theorem placeAux_cons {x : Node} {p : B} {r : List B} {a : Int} {l : List File} (h : placeAux x (p :: r) a = some l) : a ≤ 4096 - blocks (dlen x p) ∧ ∃ l', l = (p, a, dlen x p) :: l' ∧ placeAux x r (a + blocks (dlen x p)) = some l' := by
  rw [placeAux] at h
  split at h
  · cases h
  · obtain ⟨l', h1, h2⟩ := Option.map_eq_some_iff.1 h
    exact ⟨by omega, l', h2.symm, h1⟩
theorem blocks_nonneg (n : Int) (h : n ≤ 1099511627776) : 0 ≤ blocks n := by
  rcases Int.lt_or_le n 0 with h0 | h0
  · unfold blocks; rw [if_pos (by omega)]; omega
  · exact (blocks_le h0 h).1
theorem dlen_le' {x : Node} (hb : x.bulk ≤ 1048576) (p : B) : dlen x p ≤ 1099511627776 := by
  have := (dlen_le x p).2; omega
end Go.Proofs.Pm
end
section
namespace Go.Proofs.Pm
open Go
theorem paths18_valid {x : Node} {p : B} (h : p ∈ paths18 x) : valid18 x = true := by
  unfold paths18 at h
  split at h
  · assumption
  · cases h
theorem get18_path {x : Node} {p : B} (hp : p ∈ paths18 x) : ∃ z, find47 x p = some z ∧ get18 x p = (z, 0) := by
  obtain ⟨z, hz⟩ := Option.isSome_iff_exists.1 (paths18_found hp)
  refine ⟨z, hz, ?_⟩
  rw [get18_find (paths18_valid hp), hz]
end Go.Proofs.Pm
end
section
namespace Go.Proofs.Pm
open Go
theorem kid_size {x k : Node} (h : k ∈ x.kids) : k.size ≤ x.size := by
  have := sum_ge (f := Node.size) h
  rw [size_eq x]; omega
theorem descend_size : ∀ (ns : List B) (x y : Node), descend x ns = some y → y.size ≤ x.size
  | [], x, y, h => by
    rw [descend] at h
    cases h
    exact Nat.le_refl _
  | n :: r, x, y, h => by
    rw [descend] at h
    split at h
    · split at h
      · rename_i z hz
        exact Nat.le_trans (descend_size r z y h) (kid_size (List.mem_of_getElem? hz))
      · cases h
    · cases h
theorem find47_size {x y : Node} {p : B} (h : find47 x p = some y) : y.size ≤ x.size := by
  unfold find47 at h
  split at h
  · cases h; exact Nat.le_refl _
  · exact descend_size _ _ _ h
theorem dlen_size {x : Node} {p : B} (h : p ∈ files47 x) : dlen x p ≤ x.size := by
  obtain ⟨z, hz⟩ := Option.isSome_iff_exists.1 (files47_found h).1
  have h1 := find47_size hz
  unfold dlen findR
  rw [hz]
  have h2 := size_eq z
  show (z.data.size : Int) ≤ _
  omega
theorem placeAux_fits {x : Node} (hs : x.size ≤ 100000) : ∀ (o : List B) (a : Int), (∀ p ∈ o, p ∈ files47 x) → 0 ≤ a → a + 49 * o.length ≤ 4096 → (placeAux x o a).isSome = true
  | [], a, _, _, _ => rfl
  | p :: r, a, hm, ha, h => by
    have h1 := dlen_size (hm p List.mem_cons_self)
    have h0 := (dlen_le x p).1
    obtain ⟨b1, b2, b3⟩ := blocks_le h0 (by omega)
    have hb : blocks (dlen x p) ≤ 49 := by
      rw [b3]; split <;> omega
    rw [List.length_cons] at h
    rw [placeAux, if_neg (by omega), Option.isSome_map]
    exact placeAux_fits hs r _ (fun q hq => hm q (List.mem_cons_of_mem _ hq)) (by omega) (by omega)
def atP (x : Node) : List B → Int → Nat → Int
  | _, a, 0 => a
  | [], a, _ + 1 => a
  | p :: r, a, j + 1 => atP x r (a + blocks (dlen x p)) j
theorem place_at {x : Node} (hb : x.bulk ≤ 1048576) : ∀ (o : List B) (a : Int) (l : List File), 0 ≤ a → a ≤ 4096 → placeAux x o a = some l → ∀ j, j < o.length → l[j]? = some (getS o j, atP x o a j, dlen x (getS o j)) ∧ atP x o a (j + 1) = atP x o a j + blocks (dlen x (getS o j)) ∧ 0 ≤ atP x o a j ∧ atP x o a j + blocks (dlen x (getS o j)) ≤ 4096
  | [], a, l, _, _, h, j, hj => by cases hj
  | p :: r, a, l, h0, hm, h, j, hj => by
    obtain ⟨h1, l', rfl, h2⟩ := placeAux_cons h
    have hbn := blocks_nonneg (dlen x p) (dlen_le' hb p)
    cases j with
    | zero =>
      refine ⟨rfl, ?_, h0, by show a + blocks (dlen x p) ≤ 4096; omega⟩
      show atP x r (a + blocks (dlen x p)) 0 = a + blocks (dlen x p)
      cases r <;> rfl
    | succ j =>
      have := place_at hb r _ l' (by omega) (by omega) h2 j (by simpa using hj)
      exact this
theorem sorted_adj {l : List B} (hn : l.Nodup) : ∀ i, i + 1 < (sortS l).length → getS (sortS l) (i + 1) ≠ getS (sortS l) i := by
  intro i hi h
  have hd : (sortS l).Nodup := (sortS_perm l).nodup_iff.2 hn
  have h1 : (sortS l)[i + 1]? = (sortS l)[i]? := by rw [getS_get hi, getS_get (by omega), h]
  have := (List.getElem?_inj hi hd).1 h1
  omega
theorem get18_file {x : Node} {p : B} (h : p ∈ files47 x) : ∃ z, get18 x p = (z, 0) ∧ z.kind = 1 ∧ (z.data.size : Int) = dlen x p ∧ dlen x p ≠ 0 := by
  obtain ⟨z, hz, hg⟩ := get18_path (List.mem_filter.1 h).1
  have hf : findR x p = (z, true) := by unfold findR; rw [hz]
  have h1 := (List.mem_filter.1 h).2
  unfold isFile at h1
  rw [hf] at h1
  simp only [Bool.and_eq_true, beq_iff_eq] at h1
  refine ⟨z, hg, h1.1, by unfold dlen; rw [hf], ?_⟩
  have := dlen_pos h
  omega
theorem few_size {x : Node} {n : Nat} (h : fewR x n = true) : x.size ≤ 100000 := by
  simp only [fewR, few18, Bool.and_eq_true, decide_eq_true_eq] at h
  omega
theorem gaps_place {x : Node} (hb : x.bulk ≤ 1048576) (hv : valid18 x = true) (hc : x.count ≤ 40) (hs : x.size ≤ 100000) {o : List B} (ho : o.Perm (files47 x)) {a : Int} (h0 : 0 ≤ a) (h1 : a ≤ 255) :
    ∃ l, PlaceR x o a = (l, 0) ∧ placeAux x o a = some l ∧ l.length = o.length := by
  have hl := files_lt x hc
  have hlen := ho.length_eq
  obtain ⟨l, hl⟩ := Option.isSome_iff_exists.1 (placeAux_fits hs o a (fun p hp => ho.mem_iff.1 hp) h0 (by omega))
  refine ⟨l, ?_, hl, placeAux_length _ _ _ hl⟩
  rw [PlaceR_perm hv h0 ho, placeR, hl]
end Go.Proofs.Pm
end

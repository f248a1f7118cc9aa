/- A part of the proof of one law: the machine on pure values and the walks of functions. -/
import Derived.Test.YtjoikahblpephaaGreatDoorPmLw8P25
import Derived.Test.YtjoikahblpephaaGreatDoorPmLw8P26
set_option linter.all false
section
namespace Go.Proofs.Pm
open Go
theorem idxS_ixL : ∀ {l : List B} {s : B}, s ∈ l → idxS l s = some (ixL l s)
  | q :: r, s, h => by
    unfold idxS
    rw [List.findIdx?_cons, ixL]
    by_cases e : s = q
    · rw [if_pos e, if_pos (beq_iff.2 e)]
    · rw [if_neg e, if_neg (fun h => e (beq_iff.1 h))]
      have := idxS_ixL ((List.mem_cons.1 h).resolve_left e)
      unfold idxS at this
      rw [this]
      rfl
theorem idx_z {l : List B} {s : B} (h : s ∈ l) : kidZ (idxS l s) = (ixL l s : Int) := by
  rw [idxS_ixL h]; rfl
theorem byW47_step (x : Node) {i : Nat} (hi : i + 1 < (byW47 x).length) : weight47 x (getS (byW47 x) (i + 1)) < weight47 x (getS (byW47 x) i) ∨
    (weight47 x (getS (byW47 x) (i + 1)) = weight47 x (getS (byW47 x) i) ∧ kidZ (idxS (files47 x) (getS (byW47 x) i)) ≤ kidZ (idxS (files47 x) (getS (byW47 x) (i + 1)))) := by
  have h := byW47_sorted x
  have e1 : getS (byW47 x) i = (byW47 x)[i] := by simp [getS, show i < (byW47 x).length by omega]
  have e2 : getS (byW47 x) (i + 1) = (byW47 x)[i + 1] := by simp [getS, hi]
  rw [List.pairwise_iff_getElem] at h
  have h1 := h i (i + 1) (by omega) hi (by omega)
  rw [e1, e2, idx_z ((byW47_perm x).mem_iff.1 (List.getElem_mem _)), idx_z ((byW47_perm x).mem_iff.1 (List.getElem_mem _))]
  rcases h1 with h1 | ⟨h1, h2⟩
  · exact .inl h1
  · exact .inr ⟨h1.symm, by omega⟩
theorem paths18_valid {x : Node} {p : B} (h : p ∈ paths18 x) : valid18 x = true := by
  unfold paths18 at h
  split at h
  · assumption
  · cases h
theorem get18_path {x : Node} {p : B} (hp : p ∈ paths18 x) : ∃ z, find47 x p = some z ∧ get18 x p = (z, 0) := by
  obtain ⟨z, hz⟩ := Option.isSome_iff_exists.1 (paths18_found hp)
  refine ⟨z, hz, ?_⟩
  rw [get18_find (paths18_valid hp), hz]
theorem weightR_path {x : Node} {p : B} (hv : valid18 x = true) (h : (find47 x p).isSome = true) : weightR x p = (weight47 x p, 0) := by
  unfold weightR
  rw [hv, if_neg (by decide), if_neg]
  rw [Option.isNone_iff_eq_none]
  intro e; rw [e] at h; cases h
theorem weight_own {x : Node} {p : B} {z : Node} (hv : valid18 x = true) (hz : find47 x p = some z) (hw : z.weight ≠ 0) : weight47 x p = z.weight := by
  by_cases hp : p = ⟨#[]⟩
  · subst hp
    unfold find47 at hz
    rw [if_pos (emptyB_iff.2 rfl)] at hz
    cases hz
    unfold weight47
    rw [if_pos (emptyB_iff.2 rfl)]
  · rw [(weight_cut hv hp hz).2, if_pos hw]
theorem weight_up {x : Node} {p : B} {z : Node} (hv : valid18 x = true) (hz : find47 x p = some z) (hw : z.weight = 0) (hp : p ≠ ⟨#[]⟩) : weightR x (cutP p) = (weight47 x p, 0) := by
  obtain ⟨h1, h2⟩ := weight_cut hv hp hz
  rw [weightR_path hv h1, h2, if_neg (by simpa using hw)]
end Go.Proofs.Pm
end

/- A part of the proof of one law: the machine on pure values and the walks of functions. -/
import Derived.Test.YtjoikahblpephaaGreatDoorPmLw9P24
import Derived.Test.YtjoikahblpephaaGreatDoorPmLw9P25
set_option linter.all false
section
namespace Go.Proofs.Pm
open Go
theorem few_count {x : Node} {n : Nat} (h : fewR x n = true) : x.count ≤ 40 ∧ n ≤ 70 := by
  simp only [fewR, few18, Bool.and_eq_true, decide_eq_true_eq] at h
  omega
end Go.Proofs.Pm
end

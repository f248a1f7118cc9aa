/- A part of the proof of one law: the machine on pure values and the walks of functions. -/
import Derived.Test.YtjoikahblpephaaGreatDoorPmLw9P12
import Derived.Test.YtjoikahblpephaaGreatDoorPmLw9P13
set_option linter.all false
section
namespace Go.Proofs.Pm
open Go
def accStep (l out : List B) (a : B) : List B := if has l a && !has out a then out ++ [a] else out
def addStep (out : List B) (p : B) : List B := if !has out p then out ++ [p] else out
def accFold (l acc : List B) : List B := acc.foldl (accStep l) []
def byA (l acc : List B) : List B := l.foldl addStep (accFold l acc)
def byA47 (x : Node) (acc : List B) : List B := byA (byW47 x) acc
def Sub (l out : List B) : Prop := out.Nodup ∧ ∀ p ∈ out, p ∈ l
theorem Sub.len {l out : List B} (h : Sub l out) : out.length ≤ l.length := nodup_le h.1 h.2
theorem Sub.snoc {l out : List B} {p : B} (h : Sub l out) (hp : p ∈ l) (hn : p ∉ out) : Sub l (out ++ [p]) := by
  refine ⟨?_, fun q hq => ?_⟩
  · rw [List.nodup_append]
    refine ⟨h.1, by simp, fun a ha b hb e => ?_⟩
    rw [List.mem_singleton] at hb
    subst hb e
    exact hn ha
  · rcases List.mem_append.1 hq with hq | hq
    · exact h.2 q hq
    · rw [List.mem_singleton] at hq; subst hq; exact hp
theorem accStep_sub {l out : List B} (a : B) (h : Sub l out) : Sub l (accStep l out a) := by
  unfold accStep
  split
  · rename_i hc
    simp only [Bool.and_eq_true, Bool.not_eq_true'] at hc
    exact h.snoc (has_iff.1 hc.1) (has_not.1 hc.2)
  · exact h
theorem accFold_sub {l : List B} : ∀ (acc out : List B), Sub l out → Sub l (acc.foldl (accStep l) out)
  | [], out, h => h
  | a :: r, out, h => accFold_sub r _ (accStep_sub a h)
theorem sub_nil (l : List B) : Sub l [] := ⟨List.nodup_nil, fun p hp => by cases hp⟩
def dlen (x : Node) (p : B) : Int := ((findR x p).1.data.size : Int)
theorem descend_bulk : ∀ (ns : List B) (x y : Node), descend x ns = some y → y.bulk ≤ x.bulk
  | [], x, y, h => by simp only [descend, Option.some.injEq] at h; subst h; exact Nat.le_refl _
  | n :: r, x, y, h => by
    rw [descend] at h
    split at h
    · rename_i k hk
      split at h
      · rename_i z hz
        have := descend_bulk r z y h
        have := kid_bulk (List.mem_of_getElem? hz)
        omega
      · cases h
    · cases h
theorem find47_bulk {x y : Node} {p : B} (h : find47 x p = some y) : y.bulk ≤ x.bulk := by
  unfold find47 at h
  split at h
  · simp only [Option.some.injEq] at h; subst h; exact Nat.le_refl _
  · exact descend_bulk _ _ _ h
theorem dlen_le (x : Node) (p : B) : 0 ≤ dlen x p ∧ dlen x p ≤ x.bulk := by
  unfold dlen findR
  cases h : find47 x p with
  | none =>
    simp only [zeroN]
    have := bulk_pos x
    rw [bsize0]
    omega
  | some y =>
    have h1 := find47_bulk h
    have h2 := bulk_eq y
    simp only
    omega
theorem blocks_le {n : Int} (h0 : 0 ≤ n) (h : n ≤ 1099511627776) : 0 ≤ blocks n ∧ blocks n ≤ 1099511627776 ∧ blocks n = if n = 0 then 0 else (n - 1) / 2048 + 1 := by
  unfold blocks
  by_cases hn : n ≤ 0
  · obtain rfl : n = 0 := by omega
    simp
  · rw [if_neg hn, if_neg (by omega), wrap_i64 (n := n - 1) (by omega) (by omega), Int.tdiv_eq_ediv_of_nonneg (by omega), wrap_i64 (n := (n - 1) / 2048) (by omega) (by omega), wrap_i64 (by omega) (by omega)]
    omega
def placeAux (x : Node) : List B → Int → Option (List File)
  | [], _ => some []
  | p :: r, a => if 4096 - blocks (dlen x p) < a then none else (placeAux x r (a + blocks (dlen x p))).map ((p, a, dlen x p) :: ·)
def placeR (x : Node) (order : List B) (start : Int) : List File × Int := match placeAux x order start with
  | some l => (l, 0)
  | none => ([], 12)
end Go.Proofs.Pm
end
section
namespace Go.Proofs.Pm
open Go
def ordBad (l : List B) : List B → List B → Bool
  | _, [] => false
  | pre, p :: r => (!has l p || has pre p) || ordBad l (pre ++ [p]) r
def PlaceR (x : Node) (order : List B) (start : Int) : List File × Int :=
  if (!valid18 x || decide (order.length ≠ (files47 x).length)) || decide (start < 0) then ([], 1) else if ordBad (files47 x) [] order then ([], 1) else placeR x order start
def wr (n : Int) : Int := IntKind.i64.wrap n
def maxI (a b : Int) : Int := if b > a then b else a
def validF (f : File) : Bool := decide (0 ≤ f.2.1) && decide (0 ≤ f.2.2) && decide (f.2.1 ≤ 4096) && decide (blocks f.2.2 ≤ wr (4096 - f.2.1))
structure CS where
  sum : Int
  pos : Int
  found : Bool
def stepF (a : B) (s : CS) (f : File) : CS := if f.1.toList == a.toList then (if 0 < f.2.2 then ⟨wr (s.sum + maxI (wr (s.pos - f.2.1)) (wr (f.2.1 - s.pos))), wr (f.2.1 + blocks f.2.2), true⟩ else ⟨s.sum, s.pos, true⟩) else s
def costAcc (files : List File) : List B → Int → Int → Option Int
  | [], sum, _ => some sum
  | a :: r, sum, pos => if (files.foldl (stepF a) ⟨sum, pos, false⟩).found then costAcc files r (files.foldl (stepF a) ⟨sum, pos, false⟩).sum (files.foldl (stepF a) ⟨sum, pos, false⟩).pos else none
def costR (files : List File) (acc : List B) : Int × Int := if decide (1024 < files.length) || decide (1024 < acc.length) then (0, 7) else if files.any (fun f => !validF f) then (0, 1) else match costAcc files acc 0 0 with
  | some c => (c, 0)
  | none => (0, 6)
end Go.Proofs.Pm
end
section
namespace Go.Proofs.Pm
open Go
def sameFiles : List File → List File → Bool
  | [], [] => true
  | f :: r, g :: s => sameFile f g && sameFiles r s
  | _, _ => false
theorem sameFiles_eq : ∀ {a b : List File}, a.length = b.length → sameFiles a b = (List.range a.length).all fun i => match a[i]?, b[i]? with
    | some f, some g => sameFile f g
    | _, _ => false
  | [], [], _ => rfl
  | f :: r, g :: s, h => by
    rw [sameFiles, sameFiles_eq (by simpa using h), List.length_cons, List.range_succ_eq_map, List.all_cons, List.all_map]
    rfl
theorem sameFiles_ne : ∀ {a b : List File}, a.length ≠ b.length → sameFiles a b = false
  | [], [], h => absurd rfl h
  | [], _ :: _, _ => rfl
  | _ :: _, [], _ => rfl
  | f :: r, g :: s, h => by rw [sameFiles, sameFiles_ne (by simpa using h), Bool.and_false]
def ordersR (l : List B) : Nat → List B → List (List B)
  | 0, first => [first]
  | n + 1, first => (l.filter fun p => !has first p).flatMap fun p => ordersR l n (first ++ [p])
def bestStep (x : Node) (acc : List B) (s : Option (List B × Int)) (o : List B) : Option (List B × Int) :=
  match s with
  | none => some (o, (costR (placeR x o 0).1 acc).1)
  | some s => if (costR (placeR x o 0).1 acc).1 < s.2 then some (o, (costR (placeR x o 0).1 acc).1) else some s
def bestO (s : Option (List B × Int)) : List B × Int := match s with
  | some s => s
  | none => ([], 0)
def bestR (x : Node) (acc : List B) : List B × Int :=
  if valid18 x = false then ([], 1) else if decide (6 < (files47 x).length) || decide (64 < acc.length) then ([], 7) else if acc.any (fun a => !has (files47 x) a) then ([], 6)
  else if (PlaceR x (files47 x) 0).2 ≠ 0 then ([], (PlaceR x (files47 x) 0).2) else if (files47 x).length = 0 then ([], 0) else ((bestO ((ordersR (files47 x) (files47 x).length []).foldl (bestStep x acc) none)).1, 0)
end Go.Proofs.Pm
end

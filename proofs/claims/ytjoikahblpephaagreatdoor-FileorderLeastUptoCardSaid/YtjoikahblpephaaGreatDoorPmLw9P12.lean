/- A part of the proof of one law: the machine on pure values and the walks of functions. -/
import Derived.Test.YtjoikahblpephaaGreatDoorPmLw9P8
import Derived.Test.YtjoikahblpephaaGreatDoorPmLw9P11
set_option linter.all false
section
namespace Go.Proofs.Pm
open Go
abbrev B := ByteArray
def strL (ss : List B) : List (List PV) := ss.map fun s => [.s (.string s)]
theorem strL_len (ss : List B) : ∀ y ∈ strL ss, y.length = 1 := fun y hy => by
  obtain ⟨s, _, rfl⟩ := List.mem_map.1 hy
  rfl
theorem strL_length (ss : List B) : (strL ss).length = ss.length := by simp [strL]
theorem strL_append (a b : List B) : strL (a ++ b) = strL a ++ strL b := by simp [strL]
theorem strL_get {ss : List B} {i : Nat} {s : B} (h : ss[i]? = some s) : (strL ss)[i]? = some [.s (.string s)] := by simp [strL, h]
theorem one_len (p : PV) : ∀ y ∈ [[p]], y.length = 1 := fun y hy => by
  rw [List.mem_singleton] at hy; subst hy; rfl
theorem kidsC_len (ks : List Node) : ∀ y ∈ kidsC ks, y.length = 12 := fun y hy => by
  rw [kidsC_eq] at hy
  obtain ⟨s, _, rfl⟩ := List.mem_map.1 hy
  rfl
def intL (l : List Int) : List (List PV) := l.map fun n => [.s (.int .i64 n)]
theorem intL_len (l : List Int) : ∀ y ∈ intL l, y.length = 1 := fun y hy => by
  obtain ⟨s, _, rfl⟩ := List.mem_map.1 hy
  rfl
theorem intL_length (l : List Int) : (intL l).length = l.length := by simp [intL]
def slash : B := ⟨#[47]⟩
theorem bsize1 (c : UInt8) : (ByteArray.mk #[c]).size = 1 := rfl
theorem bsize0 : (ByteArray.mk #[]).size = 0 := rfl
theorem slash_size : slash.size = 1 := rfl
theorem Mv.rowE {R : Nat → Nat → Prop} {xs ys : List (List PV)} {i j : Nat} (hij : R i j) (h : xs = ys) : Mv R (.row xs i) (.row ys j) := by rw [h]; exact .row hij
theorem Mv.lst {R : Nat → Nat → Prop} {xs ys : List (List PV)} (h : xs = ys) : Mv R (.list xs) (.list ys) := by rw [h]; exact .frz rfl
theorem Mv.rowL {R : Nat → Nat → Prop} {xs ys : List (List PV)} {i : Nat} (h : xs = ys) : Mv R (.row xs i) (.list ys) := by rw [h]; exact .frz rfl
theorem MvS.rowE {R : Nat → Nat → Prop} {n m sz : Nat} {t : TypeId} (h : n = m) : MvS R (.row n sz t) (.row m sz t) := by rw [h]; exact .row
theorem awp_seq_to {P : Program} {Γ : Ctx} {x y : Code} {st : St} {Q : Exit → St → Prop} (st2 : St) (h : AWp P Γ x st (Sq (fun st' => ∃ ρ, Le ρ st' st2 ∧ ∀ i, i < Γ.H.length → ρ[i]? = some i) Q)) (h2 : AWp P Γ y st2 Q) : AWp P Γ (.seq x y) st Q := by
  refine awp_seq (awp_mono h (fun e st' hq => ?_))
  cases e with
  | normal => obtain ⟨ρ, k1, k2⟩ := hq; exact awp_weaken st2 ρ k1 k2 h2
  | exit id => exact hq
  | goto l => exact hq
  | ret => exact hq
  | panic c => exact hq
  | outgrown => exact hq
theorem find_at {α : Type} {p : α → Bool} {xs : List α} {i : Nat} (hi : i < xs.length) (hb : ∀ (j : Nat) (h : j < xs.length), j < i → p xs[j] = false) (hp : p xs[i] = true) : xs.findIdx? p = some i := by
  rw [List.findIdx?_eq_some_iff_getElem]
  exact ⟨hi, hp, fun j hj => by simpa using hb j (by omega) hj⟩
theorem find_none {α : Type} {p : α → Bool} {xs : List α} (hb : ∀ (j : Nat) (h : j < xs.length), p xs[j] = false) : xs.findIdx? p = none := by
  rw [List.findIdx?_eq_none_iff]
  intro x hx
  obtain ⟨j, hj, rfl⟩ := List.getElem_of_mem hx
  exact hb j hj
theorem before_succ {α : Type} {p : α → Bool} {xs : List α} {i : Nat} (hi : i < xs.length) (hb : ∀ (j : Nat) (h : j < xs.length), j < i → p xs[j] = false) (hp : p xs[i] = false) : ∀ (j : Nat) (h : j < xs.length), j < i + 1 → p xs[j] = false := by
  intro j h hj
  by_cases e : j = i
  · subst e; exact hp
  · exact hb j h (by omega)
end Go.Proofs.Pm
end
section
namespace Go.Proofs.Pm
open Go
def named (n : B) (k : Node) : Bool := k.name.toList == n.toList
def kidZ (o : Option Nat) : Int := match o with
  | some i => i
  | none => -1
def belowR (path name : B) (level : Nat) : B := if level = 1 then name else path ++ slash ++ name
def has (l : List B) (s : B) : Bool := l.any fun x => x.toList == s.toList
def blocks (n : Int) : Int := if n ≤ 0 then 0 else IntKind.i64.wrap (IntKind.i64.wrap ((IntKind.i64.wrap (n - 1)).tdiv 2048) + 1)
theorem blocks24_spec (n : Int) : FCall Tryz.prog 24 [.s (.int .i64 n)] [] (.s (.int .i64 (blocks n))) [] := by
  refine fcall_intro tab_ok Tryz.call24 Tryz.func24 rfl rfl rfl (fun G w ι => ?_)
  refine awp_seq ?_
  refine awp_reg ?_
  refine ev_assign tab_ok rfl rfl rfl ?_
  refine ev_nil ?_ rfl
  refine awp_seq ?_
  refine awp_seq ?_
  refine awp_reg ?_
  refine ev_move tab_ok rfl rfl rfl ?_
  refine ev_ileq tab_ok rfl rfl rfl rfl ?_
  refine ev_nil ?_ rfl
  refine awp_cond rfl (fun hc => ?_) (fun hc => ?_)
  · refine awp_seq ?_
    refine awp_reg ?_
    refine ev_assign tab_ok rfl rfl rfl ?_
    refine ev_nil ?_ rfl
    refine awp_ret ?_
    exact ⟨_, [], rfl, Mv.int (by rw [blocks, if_pos (by simpa using hc)]), cut_of (by decide) .nil, keep0⟩
  · refine awp_skip ?_
    refine awp_seq ?_
    refine awp_reg ?_
    refine ev_move tab_ok rfl rfl rfl ?_
    refine ev_isub tab_ok rfl rfl rfl rfl ?_
    (refine ev_iquo tab_ok rfl rfl rfl rfl (by decide) ?_)
    (refine ev_iadd tab_ok rfl rfl rfl rfl ?_)
    refine ev_assign tab_ok rfl rfl rfl ?_
    refine ev_nil ?_ rfl
    refine awp_ret ?_
    exact ⟨_, [], rfl, Mv.int (by rw [blocks, if_neg (by simpa using hc)]), cut_of (by decide) .nil, keep0⟩
end Go.Proofs.Pm
end
section
namespace Go.Proofs.Pm
open Go
def Node.span : Node → Nat
  | ⟨_, _, _, _, _, _, _, _, _, _, ks, _⟩ => (ks.attach.map fun x => 1 + x.1.name.size + x.1.span).sum
 termination_by x => SizeOf.sizeOf x
 decreasing_by
  have := List.sizeOf_lt_of_mem x.2
  simp_wf; omega
theorem span_eq (x : Node) : x.span = (x.kids.map fun k => 1 + k.name.size + k.span).sum := by
  cases x
  rw [Node.span]
  simp
theorem span_le (x : Node) : x.span + 1 + x.name.size ≤ x.bulk := by
  induction x using Node.ind with
  | h x ih =>
    have : x.span ≤ (x.kids.map Node.bulk).sum := by
      rw [span_eq]
      exact sum_le_sum (fun k hk => by have := ih k hk; omega)
    rw [bulk_eq]
    omega
theorem kid_span {x k : Node} (h : k ∈ x.kids) : 1 + k.name.size + k.span ≤ x.span := by
  rw [span_eq x]
  exact sum_ge (f := fun k : Node => 1 + k.name.size + k.span) h
theorem belowR_size (path name : B) (level : Nat) : (belowR path name level).size ≤ path.size + 1 + name.size := by
  unfold belowR
  split
  · omega
  · simp [ByteArray.size_append, slash_size]
def pathsR : Node → B → Nat → List B
  | ⟨_, _, _, _, _, _, _, _, _, _, ks, _⟩, path, level => path :: (ks.attach.flatMap fun k => pathsR k.1 (belowR path k.1.name level) (level + 1))
 termination_by x => SizeOf.sizeOf x
 decreasing_by
  have := List.sizeOf_lt_of_mem k.2
  simp_wf; omega
theorem pathsR_eq (x : Node) (path : B) (level : Nat) : pathsR x path level = path :: (x.kids.flatMap fun k => pathsR k (belowR path k.name level) (level + 1)) := by
  cases x
  rw [pathsR]
  simp [List.flatMap, List.map_attach_eq_pmap]
theorem pathsR_length (x : Node) : ∀ (path : B) (level : Nat), (pathsR x path level).length = x.count := by
  induction x using Node.ind with
  | h x ih =>
    intro path level
    rw [pathsR_eq, count_eq, List.length_cons, List.length_flatMap, Nat.add_comm]
    congr 2
    exact List.map_congr_left (fun k hk => ih k hk _ _)
end Go.Proofs.Pm
end
section
namespace Go.Proofs.Pm
open Go
def char17 (n : Int) : Bool := decide (32 ≤ n) && decide (n ≤ 65533) && (decide (n < 55296) || decide (57343 < n))
def byteOf (n : Int) : UInt8 := UInt8.ofNat (n % 256).toNat
def enc (n : Int) : List UInt8 := if n < 128 then [byteOf n] else if n < 2048 then [byteOf (192 + n / 64), byteOf (128 + n % 64)] else [byteOf (224 + n / 4096), byteOf (128 + n / 64 % 64), byteOf (128 + n % 64)]
end Go.Proofs.Pm
end
section
namespace Go.Proofs.Pm
open Go
def byte (s : B) (k : Nat) : UInt8 := (s[k]?).getD 0
def byteZ (s : B) (k : Nat) : Int := ((byte s k).toNat : Int)
theorem byteZ_lt (s : B) (k : Nat) : 0 ≤ byteZ s k ∧ byteZ s k < 256 := by
  have := (byte s k).toNat_lt
  unfold byteZ
  omega
def val17 (s : B) (i : Nat) : Int := if i = 2 then (byteZ s 0 - 192) * 64 + byteZ s 1 - 128 else if i = 3 then (byteZ s 0 - 224) * 4096 + (byteZ s 1 - 128) * 64 + byteZ s 2 - 128 else byteZ s 0
def ok17 (s : B) (i : Nat) : Bool := char17 (val17 s i) && ((⟨(enc (val17 s i)).toArray⟩ : B).toList == (s.extract 0 i).toList)
def firstR (s : B) : Int × Int := if 1 ≤ s.size ∧ ok17 s 1 = true then (val17 s 1, 1) else if 2 ≤ s.size ∧ ok17 s 2 = true then (val17 s 2, 2) else if 3 ≤ s.size ∧ ok17 s 3 = true then (val17 s 3, 3) else (0, 0)
end Go.Proofs.Pm
end
section
namespace Go.Proofs.Pm
open Go
theorem firstR_range (s : B) : ∃ k : Nat, (firstR s).2 = (k : Int) ∧ k ≤ 3 ∧ k ≤ s.size := by
  unfold firstR
  split
  · exact ⟨1, rfl, by omega, by omega⟩
  · split
    · exact ⟨2, rfl, by omega, by omega⟩
    · split
      · exact ⟨3, rfl, by omega, by omega⟩
      · exact ⟨0, rfl, by omega, by omega⟩
def charsAux : Nat → B → Option (List Int)
  | 0, _ => some []
  | f + 1, s => if s.size = 0 then some [] else if (firstR s).2 = 0 then none else (charsAux f (s.extract (firstR s).2.toNat s.size)).map ((firstR s).1 :: ·)
def chars17 (s : B) : List Int × Int := if 65536 < s.size then ([], 7) else match charsAux s.size s with
  | some l => (l, 0)
  | none => ([], 3)
end Go.Proofs.Pm
end
section
namespace Go.Proofs.Pm
open Go
def dotS (s : B) : Bool := s.toList == (ByteArray.mk #[46]).toList || s.toList == (ByteArray.mk #[46, 46]).toList
def slashIn (s : B) : Bool := (List.range s.size).any fun i => byteZ s i == 47
def name18 (s : B) : Bool := !(dotS s || decide (300 < (s.size : Int))) && (!slashIn s && ((chars17 s).2 == 0 && decide (1 ≤ ((chars17 s).1.length : Int)) && decide (((chars17 s).1.length : Int) ≤ 64)))
end Go.Proofs.Pm
end
section
namespace Go.Proofs.Pm
open Go
theorem drop_byte {s : B} {i : Nat} (h : i < s.size) : s.data.toList.drop i = byte s i :: s.data.toList.drop (i + 1) := by
  have hl : i < s.data.toList.length := by simpa using h
  rw [List.drop_eq_getElem_cons hl]
  congr 1
  unfold byte
  rw [getElem?_pos s i h]
  simp [ByteArray.getElem_eq_getElem_data]
def splitAux (c : UInt8) : List UInt8 → B → List B
  | [], part => [part]
  | b :: r, part => if b = c then part :: splitAux c r ⟨#[]⟩ else splitAux c r (part ++ ⟨#[b]⟩)
def split18 (s : B) (c : UInt8) : List B := splitAux c s.data.toList ⟨#[]⟩
def ranged18 (x : Node) : Bool := decide (0 ≤ x.mode) && decide (x.mode ≤ 4095) && decide (0 ≤ x.uid) && decide (x.uid ≤ 65535) && decide (0 ≤ x.gid) && decide (x.gid ≤ 65535) && decide (315532800 ≤ x.time) && decide (x.time ≤ 4102444799) && decide (-1048576 ≤ x.weight) && decide (x.weight ≤ 1048576) && decide (0 ≤ x.hidden) && decide (x.hidden ≤ 15)
def large18 (x : Node) (level : Nat) : Bool := decide (16 < level) || decide (262144 < x.data.size) || decide (64 < x.kids.length) || decide (4 < x.streams.length) || x.streams.any fun s => decide (262144 < s.2.size)
end Go.Proofs.Pm
end
section
namespace Go.Proofs.Pm
open Go
def tail18 (s : B) : B := if byte s 0 = 47 then s.extract 1 s.size else s
def partBad (p : B) : Bool := !(p.toList == (ByteArray.mk #[46]).toList) && !(p.toList == (ByteArray.mk #[46, 46]).toList) && !name18 p
def target18 (s : B) : Bool := !(decide (s.size < 1) || decide (128 < s.size)) && ((s.toList == (ByteArray.mk #[47]).toList) || !((split18 (tail18 s) 47).any partBad))
theorem splitAux_length (c : UInt8) : ∀ (l : List UInt8) (p : B), (splitAux c l p).length ≤ l.length + 1
  | [], p => by simp [splitAux]
  | b :: r, p => by
    rw [splitAux]
    split
    · have := splitAux_length c r ⟨#[]⟩; simp; omega
    · have := splitAux_length c r (p ++ ⟨#[b]⟩); simp; omega
end Go.Proofs.Pm
end
section
namespace Go.Proofs.Pm
open Go
def nE (s : B) : Bool := !(s.toList == (ByteArray.mk #[]).toList)
def kindBad (x : Node) (level : Nat) : Bool := decide (x.kind < 0) || decide (2 < x.kind) || (((level : Int) == 1) && (x.kind != 0))
def nameBad (x : Node) (level : Nat) : Bool := (((level : Int) == 1) && nE x.name) || (decide (1 < (level : Int)) && !name18 x.name)
def partsBad (x : Node) : Bool := ((x.kind != 1) && (nE x.data || decide (0 < (x.streams.length : Int)))) || ((x.kind != 2) && nE x.target) || ((x.kind != 0) && decide (0 < (x.kids.length : Int)))
def targetBad (x : Node) : Bool := (x.kind == 2) && !target18 x.target
def less (a b : B) : Bool := Op.bytesLess a.toList b.toList
def streamErr (ss : List (B × B)) (i : Nat) : Int :=
  match ss[i]?, ss[i - 1]? with
  | some s, some p => if name18 s.1 = false then 4 else if decide (0 < i) && (s.1.toList == p.1.toList) then 5 else if decide (0 < i) && less s.1 p.1 then 1 else 0
  | _, _ => 0
def kidErr (ks : List Node) (i : Nat) : Int :=
  match ks[i]?, ks[i - 1]? with
  | some s, some p => if s.name.toList == p.name.toList then 5 else if less s.name p.name then 1 else 0
  | _, _ => 0
def firstErr (f : Nat → Int) (lo n : Nat) : Int := (((List.range n).filter (fun i => decide (lo ≤ i))).map f).find? (· != 0) |>.getD 0
def one18 (x : Node) (level : Nat) : Int :=
  if kindBad x level then 1 else if nameBad x level then 4 else if partsBad x then 1 else if targetBad x then 4 else if ranged18 x = false then 2 else if large18 x level then 7
  else if firstErr (streamErr x.streams) 0 x.streams.length ≠ 0 then firstErr (streamErr x.streams) 0 x.streams.length else firstErr (kidErr x.kids) 1 x.kids.length
theorem firstErr_at {f : Nat → Int} {lo n i : Nat} (hl : lo ≤ i) (hi : i < n) (hb : ∀ j, lo ≤ j → j < i → f j = 0) (hf : f i ≠ 0) : firstErr f lo n = f i := by
  unfold firstErr
  have : ((((List.range n).filter (fun i => decide (lo ≤ i))).map f).find? (· != 0)) = some (f i) := by
    have hn : n = i + (n - i) := by omega
    rw [hn, List.range_add, List.filter_append, List.map_append, List.find?_append]
    have e1 : (((List.range i).filter (fun i => decide (lo ≤ i))).map f).find? (· != 0) = none := by
      rw [List.find?_eq_none]
      intro y hy
      obtain ⟨j, hj, rfl⟩ := List.mem_map.1 hy
      rw [List.mem_filter, List.mem_range] at hj
      simp [hb j (by simpa using hj.2) hj.1]
    rw [e1]
    obtain ⟨m, hm⟩ : ∃ m, n - i = m + 1 := ⟨n - i - 1, by omega⟩
    rw [hm, List.range_succ_eq_map]
    simp [hl, hf]
  rw [this]; rfl
theorem firstErr_none {f : Nat → Int} {lo n : Nat} (hb : ∀ j, lo ≤ j → j < n → f j = 0) : firstErr f lo n = 0 := by
  unfold firstErr
  have : ((((List.range n).filter (fun i => decide (lo ≤ i))).map f).find? (· != 0)) = none := by
    rw [List.find?_eq_none]
    intro y hy
    obtain ⟨j, hj, rfl⟩ := List.mem_map.1 hy
    rw [List.mem_filter, List.mem_range] at hj
    simp [hb j (by simpa using hj.2) hj.1]
  rw [this]; rfl
end Go.Proofs.Pm
end
section
namespace Go.Proofs.Pm
open Go
theorem kid_sizeOf {x k : Node} (h : k ∈ x.kids) : SizeOf.sizeOf k < SizeOf.sizeOf x := by
  have h1 := List.sizeOf_lt_of_mem h
  cases x
  simp at h1 ⊢
  omega
def check18 (x : Node) (path : B) (level : Nat) : B × Int :=
  if one18 x level ≠ 0 then (path, one18 x level) else ((x.kids.attach.map fun k => check18 k.1 (belowR path k.1.name level) (level + 1)).find? (fun r => r.2 != 0)).getD (⟨#[]⟩, 0)
 termination_by SizeOf.sizeOf x
 decreasing_by exact kid_sizeOf k.2
theorem check18_eq (x : Node) (path : B) (level : Nat) : check18 x path level = if one18 x level ≠ 0 then (path, one18 x level) else ((x.kids.map fun k => check18 k (belowR path k.name level) (level + 1)).find? (fun r => r.2 != 0)).getD (⟨#[]⟩, 0) := by
  rw [check18]
  congr 3
  simp
def check18T (x : Node) : B × Int := if 256 < x.count then (⟨#[]⟩, 7) else check18 x ⟨#[]⟩ 1
def valid18 (x : Node) : Bool := (check18T x).2 == 0
def paths18 (x : Node) : List B := if valid18 x then pathsR x ⟨#[]⟩ 1 else []
end Go.Proofs.Pm
end
section
namespace Go.Proofs.Pm
open Go
def zeroN : Node := ⟨⟨#[]⟩, 0, ⟨#[]⟩, ⟨#[]⟩, 0, 0, 0, 0, 0, 0, [], []⟩
theorem zero_mv {R : Nat → Nat → Prop} {a b c d e f g h i j k l : PV} (ha : a = .s (.string ⟨#[]⟩)) (hb : b = .s (.int .i64 0)) (hc : c = .s (.string ⟨#[]⟩)) (hd : d = .s (.string ⟨#[]⟩)) (he : e = .s (.int .i64 0)) (hf : f = .s (.int .i64 0)) (hg : g = .s (.int .i64 0)) (hh : h = .s (.int .i64 0)) (hi : i = .s (.int .i64 0)) (hj : j = .s (.int .i64 0)) (hk : k = .s (.slice none 0 0)) (hl : l = .s (.slice none 0 0)) :
    MvL R [a, b, c, d, e, f, g, h, i, j, k, l] (nodeC zeroN) := by
  subst_vars
  exact .cons (.frz rfl) (.cons (.frz rfl) (.cons (.frz rfl) (.cons (.frz rfl) (.cons (.frz rfl) (.cons (.frz rfl) (.cons (.frz rfl) (.cons (.frz rfl) (.cons (.frz rfl) (.cons (.frz rfl) (.cons .nilL (.cons .nilL .nil)))))))))))
def zeroC : List PV := [.s (.string ⟨#[]⟩), .s (.int .i64 0), .s (.string ⟨#[]⟩), .s (.string ⟨#[]⟩), .s (.int .i64 0), .s (.int .i64 0), .s (.int .i64 0), .s (.int .i64 0), .s (.int .i64 0), .s (.int .i64 0), .s (.slice none 0 0), .s (.slice none 0 0)]
def descend (x : Node) : List B → Option Node
  | [] => some x
  | n :: r => match x.kids.findIdx? (named n) with
    | some k => match x.kids[k]? with
      | some y => descend y r
      | none => none
    | none => none
def get18 (x : Node) (path : B) : Node × Int := if valid18 x = false then (zeroN, 1) else if path.toList == (ByteArray.mk #[]).toList then (x, 0) else match descend x (split18 path 47) with
  | some y => (y, 0)
  | none => (zeroN, 6)
end Go.Proofs.Pm
end
section
namespace Go.Proofs.Pm
open Go
theorem extract_self (s : B) (i : Nat) : s.extract i i = ⟨#[]⟩ := by
  apply ByteArray.ext
  apply Array.toList_inj.1
  rw [ByteArray.data_extract, Array.toList_extract, List.extract_eq_take_drop]
  simp
theorem extract_step {s : B} {i j : Nat} (h : i < j) (hj : j ≤ s.size) : s.extract i j = (⟨#[byte s i]⟩ : B) ++ s.extract (i + 1) j := by
  have hd := drop_byte (s := s) (i := i) (by omega)
  apply ByteArray.ext
  apply Array.toList_inj.1
  rw [ByteArray.data_append, Array.toList_append, ByteArray.data_extract, ByteArray.data_extract, Array.toList_extract, Array.toList_extract, List.extract_eq_take_drop, List.extract_eq_take_drop, hd, show j - i = (j - (i + 1)) + 1 by omega]
  simp
theorem split_at {s : B} {c : UInt8} : ∀ (m i j : Nat) (p : B), j - i = m → i ≤ j → j ≤ s.size → (∀ k, i ≤ k → k < j → byte s k ≠ c) → (j < s.size → byte s j = c) →
    splitAux c (s.data.toList.drop i) p = (p ++ s.extract i j) :: (if j < s.size then splitAux c (s.data.toList.drop (j + 1)) ⟨#[]⟩ else []) := by
  intro m
  induction m with
  | zero =>
    intro i j p hm hij hjs hno hat
    obtain rfl : i = j := by omega
    have e : p ++ s.extract i i = p := by rw [extract_self]; apply ByteArray.ext; simp
    by_cases hlt : i < s.size
    · rw [if_pos hlt, drop_byte hlt, splitAux, if_pos (hat hlt), e]
    · rw [if_neg hlt, List.drop_of_length_le (by simp; omega), splitAux, e]
  | succ m ih =>
    intro i j p hm hij hjs hno hat
    have hlt : i < s.size := by omega
    rw [drop_byte hlt, splitAux, if_neg (hno i (Nat.le_refl _) (by omega)), ih (i + 1) j _ (by omega) (by omega) hjs (fun k h1 h2 => hno k (by omega) h2) hat, extract_step (by omega : i < j) hjs]
    congr 1
    apply ByteArray.ext
    simp [ByteArray.data_append, Array.append_assoc]
def emptyB (s : B) : Bool := s.toList == (ByteArray.mk #[]).toList
def find47 (x : Node) (path : B) : Option Node := if emptyB path then some x else descend x (split18 path 47)
def findR (x : Node) (path : B) : Node × Bool := match find47 x path with
  | some y => (y, true)
  | none => (zeroN, false)
end Go.Proofs.Pm
end
section
namespace Go.Proofs.Pm
open Go
def descW : Int → Node → List B → Int
  | w, _, [] => w
  | w, x, n :: r => match x.kids.findIdx? (named n) with
    | some k => match x.kids[k]? with
      | some y => descW (if y.weight ≠ 0 then y.weight else w) y r
      | none => w
    | none => w
def weight47 (x : Node) (path : B) : Int := if emptyB path then x.weight else descW x.weight x (split18 path 47)
theorem pathsR_size : ∀ (x : Node) (path : B) (level : Nat) (p : B), p ∈ pathsR x path level → p.size ≤ path.size + x.span := by
  intro x
  induction x using Node.ind with
  | h x ih =>
  intro path level p hp
  rw [pathsR_eq, List.mem_cons, List.mem_flatMap] at hp
  rcases hp with rfl | ⟨k, hk, hp⟩
  · omega
  · have h1 := ih k hk _ _ _ hp
    have h2 := kid_span hk
    have h3 := belowR_size path k.name level
    omega
theorem paths18_size {x : Node} {p : B} (hp : p ∈ paths18 x) : p.size ≤ x.bulk := by
  unfold paths18 at hp
  split at hp
  · have := pathsR_size x _ _ p hp
    have := span_le x
    rw [bsize0] at *
    omega
  · cases hp
theorem paths18_length (x : Node) : (paths18 x).length ≤ x.bulk := by
  unfold paths18
  split
  · rw [pathsR_length]; exact count_le x
  · simp
theorem filter_take_succ {α : Type} {p : α → Bool} {xs : List α} {i : Nat} {x : α} (h : xs[i]? = some x) : (xs.take (i + 1)).filter p = (xs.take i).filter p ++ if p x then [x] else [] := by
  rw [List.take_add_one, h, List.filter_append]
  simp [List.filter_cons]
theorem filter_take_le {α : Type} {p : α → Bool} (xs : List α) (i : Nat) : ((xs.take i).filter p).length ≤ i := by
  have h1 := List.length_filter_le p (xs.take i)
  have h2 := List.length_take_le i xs
  omega
def isFile (x : Node) (p : B) : Bool := (findR x p).1.kind == 1 && !emptyB (findR x p).1.data
def files47 (x : Node) : List B := (paths18 x).filter (isFile x)
theorem files47_found {x : Node} {p : B} (h : p ∈ files47 x) : (find47 x p).isSome = true ∧ p.size ≤ x.bulk := by
  obtain ⟨h1, h2⟩ := List.mem_filter.1 h
  refine ⟨?_, paths18_size h1⟩
  unfold isFile findR at h2
  cases hf : find47 x p with
  | some y => rfl
  | none => rw [hf] at h2; simp [zeroN] at h2
theorem files47_length (x : Node) : (files47 x).length ≤ x.bulk := Nat.le_trans (List.length_filter_le _ _) (paths18_length x)
def weightR (x : Node) (path : B) : Int × Int := if valid18 x = false then (0, 1) else if (find47 x path).isNone then (0, 6) else (weight47 x path, 0)
end Go.Proofs.Pm
end
section
namespace Go.Proofs.Pm
open Go
abbrev us (s : B) : List UInt8 := s.data.toList
theorem us_inj {a b : B} (h : us a = us b) : a = b := by
  apply ByteArray.ext
  exact Array.toList_inj.1 h
theorem us_append (a b : B) : us (a ++ b) = us a ++ us b := by simp [us, ByteArray.data_append]
theorem beq_iff {a b : B} : (a.toList == b.toList) = true ↔ a = b := by
  rw [ByteArray.toList_eq, ByteArray.toList_eq, beq_iff_eq]
  exact ⟨us_inj, fun h => by rw [h]⟩
theorem beq_not {a b : B} : (a.toList == b.toList) = false ↔ a ≠ b := by
  rw [← Bool.not_eq_true, beq_iff]
theorem emptyB_iff {a : B} : emptyB a = true ↔ a = ⟨#[]⟩ := beq_iff
theorem bytesLess_iff : ∀ (a b : List UInt8), Op.bytesLess a b = true ↔ a < b
  | [], [] => by simp [Op.bytesLess]
  | _ :: _, [] => by simp [Op.bytesLess]
  | [], _ :: _ => by simp [Op.bytesLess]
  | a :: x, b :: y => by
    rw [Op.bytesLess, List.cons_lt_cons_iff, Bool.or_eq_true, Bool.and_eq_true, bytesLess_iff x y, decide_eq_true_eq, beq_iff_eq]
theorem u8_tri : ∀ (a b : List UInt8), a < b ∨ a = b ∨ b < a
  | [], [] => .inr (.inl rfl)
  | _ :: _, [] => .inr (.inr (by simp))
  | [], _ :: _ => .inl (by simp)
  | a :: x, b :: y => by
    rw [List.cons_lt_cons_iff, List.cons_lt_cons_iff]
    rcases Nat.lt_trichotomy a.toNat b.toNat with h | h | h
    · exact .inl (.inl (UInt8.lt_iff_toNat_lt.2 h))
    · have e := UInt8.toNat_inj.1 h
      subst e
      rcases u8_tri x y with k | k | k
      · exact .inl (.inr ⟨rfl, k⟩)
      · exact .inr (.inl (by rw [k]))
      · exact .inr (.inr (.inr ⟨rfl, k⟩))
    · exact .inr (.inr (.inl (UInt8.lt_iff_toNat_lt.2 h)))
theorem flatMap_eq {α β : Type} {f g : α → List β} : ∀ {xs : List α}, (∀ x ∈ xs, f x = g x) → xs.flatMap f = xs.flatMap g
  | [], _ => rfl
  | y :: r, h => by rw [List.flatMap_cons, List.flatMap_cons, h y List.mem_cons_self, flatMap_eq (fun x hx => h x (List.mem_cons_of_mem _ hx))]
theorem less_iff {a b : B} : less a b = true ↔ us a < us b := by
  unfold less
  rw [bytesLess_iff, ByteArray.toList_eq, ByteArray.toList_eq]
def NameOk (s : B) : Prop := s ≠ ⟨#[]⟩ ∧ ∀ b ∈ us s, b ≠ 47
theorem byte_us (s : B) {i : Nat} (h : i < s.size) : byte s i = (us s)[i]'(by simpa using h) := by
  unfold byte
  have : s[i]? = some ((us s)[i]'(by simpa using h)) := by
    rw [getElem?_pos s i h]
    simp [us, ByteArray.getElem_eq_getElem_data]
  rw [this]; rfl
theorem name18_ok {s : B} (h : name18 s = true) : NameOk s := by
  simp only [name18, Bool.and_eq_true, Bool.not_eq_true', decide_eq_true_eq] at h
  obtain ⟨_, h2, ⟨_, h3⟩, _⟩ := h
  refine ⟨fun e => ?_, fun b hb e => ?_⟩
  · subst e
    have : (chars17 ⟨#[]⟩).1 = [] := by decide
    rw [this] at h3
    simp at h3
  · obtain ⟨i, hi, rfl⟩ := List.getElem_of_mem hb
    have hi' : i < s.size := by simpa using hi
    unfold slashIn at h2
    rw [List.any_eq_false] at h2
    refine h2 i (List.mem_range.2 hi') ?_
    rw [beq_iff_eq, byteZ, byte_us s hi', e]
    rfl
theorem find_ne {α : Type} {xs : List (α × Int)} {r : α × Int} (h : xs.find? (fun r => r.2 != 0) = some r) : r.2 ≠ 0 := by
  have := List.find?_some h
  simpa using this
inductive OkT : Nat → Node → Prop
  | mk {level x} (one : one18 x level = 0) (sub : ∀ k ∈ x.kids, OkT (level + 1) k) : OkT level x
theorem check18_ok : ∀ (x : Node) (path : B) (level : Nat), (check18 x path level).2 = 0 → OkT level x := by
  intro x
  induction x using Node.ind with
  | h x ih =>
  intro path level h
  rw [check18_eq] at h
  by_cases h1 : one18 x level = 0
  · rw [if_neg (by simpa using h1)] at h
    refine .mk h1 (fun k hk => ih k hk (belowR path k.name level) (level + 1) ?_)
    cases hf : (x.kids.map fun k => check18 k (belowR path k.name level) (level + 1)).find? (fun r => r.2 != 0) with
    | some r => rw [hf] at h; exact absurd h (find_ne hf)
    | none =>
      rw [List.find?_eq_none] at hf
      have := hf _ (List.mem_map.2 ⟨k, hk, rfl⟩)
      simpa using this
  · rw [if_pos h1] at h
    exact absurd h h1
theorem valid18_ok {x : Node} (h : valid18 x = true) : OkT 1 x ∧ x.count ≤ 256 := by
  unfold valid18 check18T at h
  split at h
  · simp at h
  · exact ⟨check18_ok x _ _ (by simpa using h), by omega⟩
theorem OkT.one {level : Nat} {x : Node} (h : OkT level x) : one18 x level = 0 := by cases h; assumption
theorem OkT.sub {level : Nat} {x k : Node} (h : OkT level x) (hk : k ∈ x.kids) : OkT (level + 1) k := by cases h with | mk one sub => exact sub k hk
theorem one18_parts {x : Node} {level : Nat} (h : one18 x level = 0) : kindBad x level = false ∧ nameBad x level = false ∧ partsBad x = false ∧ targetBad x = false ∧ ranged18 x = true ∧ large18 x level = false ∧ firstErr (streamErr x.streams) 0 x.streams.length = 0 ∧ firstErr (kidErr x.kids) 1 x.kids.length = 0 := by
  unfold one18 at h
  split at h
  · cases h
  rename_i h1
  split at h
  · cases h
  rename_i h2
  split at h
  · cases h
  rename_i h3
  split at h
  · cases h
  rename_i h4
  split at h
  · cases h
  rename_i h5
  split at h
  · cases h
  rename_i h6
  split at h
  · rename_i h7; exact absurd h h7
  · rename_i h7
    exact ⟨by simpa using h1, by simpa using h2, by simpa using h3, by simpa using h4, by simpa using h5, by simpa using h6, by simpa using h7, h⟩
theorem firstErr_all {f : Nat → Int} {lo n : Nat} (h : firstErr f lo n = 0) : ∀ j, lo ≤ j → j < n → f j = 0 := by
  intro j h1 h2
  by_cases e : f j = 0
  · exact e
  · exfalso
    unfold firstErr at h
    cases hf : (((List.range n).filter (fun i => decide (lo ≤ i))).map f).find? (· != 0) with
    | none =>
      rw [List.find?_eq_none] at hf
      exact e (by simpa using hf (f j) (List.mem_map.2 ⟨j, by simp [h1, h2], rfl⟩))
    | some y =>
      rw [hf] at h
      have := List.find?_some hf
      simp at h this
      exact this h
theorem kid_nameOk {x k : Node} {level : Nat} (h : OkT level x) (h1 : 1 ≤ level) (hk : k ∈ x.kids) : NameOk k.name := by
  have := (one18_parts (h.sub hk).one).2.1
  simp only [nameBad, Bool.or_eq_false_iff, Bool.and_eq_false_iff, decide_eq_false_iff_not, Bool.not_eq_false'] at this
  rcases this.2 with h2 | h2
  · omega
  · exact name18_ok h2
theorem kids_rise {x : Node} {level : Nat} (h : OkT level x) : x.kids.Pairwise (fun a b => us a.name < us b.name) := by
  have he := firstErr_all (one18_parts h.one).2.2.2.2.2.2.2
  have hadj : ∀ i (hi : i + 1 < x.kids.length), us (x.kids[i]'(by omega)).name < us x.kids[i + 1].name := by
    intro i hi
    have := he (i + 1) (by omega) hi
    unfold kidErr at this
    rw [List.getElem?_eq_getElem hi, Nat.add_sub_cancel, List.getElem?_eq_getElem (by omega : i < x.kids.length)] at this
    simp only at this
    split at this
    · cases this
    rename_i h1
    split at this
    · cases this
    rename_i h2
    have h1' : us x.kids[i + 1].name ≠ us (x.kids[i]'(by omega)).name := fun e => h1 (beq_iff.2 (us_inj e))
    have h2' : ¬ us x.kids[i + 1].name < us (x.kids[i]'(by omega)).name := fun e => h2 (less_iff.2 e)
    rcases u8_tri (us (x.kids[i]'(by omega)).name) (us x.kids[i + 1].name) with h | h | h
    · exact h
    · exact absurd h.symm h1'
    · exact absurd h h2'
  rw [List.pairwise_iff_getElem]
  intro i j hi hj hij
  obtain ⟨d, rfl⟩ : ∃ d, j = i + 1 + d := ⟨j - i - 1, by omega⟩
  induction d with
  | zero => exact hadj i hj
  | succ d ih => exact List.lt_trans (ih (by omega) (by omega)) (hadj (i + 1 + d) hj)
theorem kids_names {x : Node} {level : Nat} (h : OkT level x) : (x.kids.map (·.name)).Nodup := by
  rw [List.Nodup, List.pairwise_map]
  exact (kids_rise h).imp (fun hab e => by rw [e] at hab; exact List.lt_irrefl _ hab)
def namesR : Node → List (List B)
  | ⟨_, _, _, _, _, _, _, _, _, _, ks, _⟩ => [] :: ks.attach.flatMap fun k => (namesR k.1).map (k.1.name :: ·)
 termination_by x => SizeOf.sizeOf x
 decreasing_by
  have := List.sizeOf_lt_of_mem k.2
  simp_wf; omega
theorem namesR_eq (x : Node) : namesR x = [] :: x.kids.flatMap fun k => (namesR k).map (k.name :: ·) := by
  cases x
  rw [namesR]
  simp [List.flatMap, List.map_attach_eq_pmap]
def extP (p : B) : List B → B
  | [] => p
  | n :: r => extP (p ++ slash ++ n) r
def joinP : List B → B
  | [] => ⟨#[]⟩
  | n :: r => extP n r
theorem pathsR_deep : ∀ (x : Node) (path : B) (level : Nat), 2 ≤ level → pathsR x path level = (namesR x).map (extP path) := by
  intro x
  induction x using Node.ind with
  | h x ih =>
  intro path level h
  rw [pathsR_eq, namesR_eq, List.map_cons, List.map_flatMap]
  congr 1
  refine flatMap_eq (fun k hk => ?_)
  rw [ih k hk _ _ (by omega), List.map_map, belowR, if_neg (by omega)]
  rfl
theorem pathsR_root (x : Node) : pathsR x ⟨#[]⟩ 1 = (namesR x).map joinP := by
  rw [pathsR_eq, namesR_eq, List.map_cons, List.map_flatMap]
  congr 1
  refine flatMap_eq (fun k hk => ?_)
  rw [pathsR_deep _ _ _ (Nat.le_refl _), List.map_map, belowR, if_pos rfl]
  rfl
theorem extP_us : ∀ (r : List B) (p : B), us (extP p r) = us p ++ r.flatMap fun m => 47 :: us m
  | [], p => by simp [extP]
  | n :: r, p => by
    rw [extP, extP_us r, us_append, us_append]
    simp [slash, us]
theorem splitAux_one {c : UInt8} : ∀ (l : List UInt8) (p : B), (∀ b ∈ l, b ≠ c) → splitAux c l p = [p ++ ⟨l.toArray⟩]
  | [], p, _ => by simp only [splitAux]; congr 1; apply ByteArray.ext; simp
  | b :: r, p, h => by
    rw [splitAux, if_neg (h b List.mem_cons_self), splitAux_one r _ (fun x hx => h x (List.mem_cons_of_mem _ hx))]
    congr 1
    apply us_inj
    simp [us]
theorem splitAux_cons {c : UInt8} (rest : List UInt8) : ∀ (l : List UInt8) (p : B), (∀ b ∈ l, b ≠ c) → splitAux c (l ++ c :: rest) p = (p ++ ⟨l.toArray⟩) :: splitAux c rest ⟨#[]⟩
  | [], p, _ => by
    simp only [List.nil_append, splitAux, if_pos]
    congr 1; apply ByteArray.ext; simp
  | b :: r, p, h => by
    rw [List.cons_append, splitAux, if_neg (h b List.mem_cons_self), splitAux_cons rest r _ (fun x hx => h x (List.mem_cons_of_mem _ hx))]
    congr 1
    apply us_inj
    simp [us]
theorem empty_append (n : B) : (⟨#[]⟩ : B) ++ ⟨(us n).toArray⟩ = n := by
  apply us_inj; simp [us]
theorem split_join : ∀ (r : List B) (n : B), NameOk n → (∀ m ∈ r, NameOk m) → split18 (extP n r) 47 = n :: r
  | [], n, h, _ => by
    rw [split18, extP, splitAux_one _ _ h.2, empty_append]
  | m :: r, n, h, hr => by
    have e : (extP n (m :: r)).data.toList = us n ++ 47 :: (extP m r).data.toList := by
      have h1 := extP_us (m :: r) n
      have h2 := extP_us r m
      simp only [us] at h1 h2 ⊢
      rw [h1, h2]
      simp
    rw [split18, e, splitAux_cons _ _ _ h.2, empty_append]
    have := split_join r m (hr m List.mem_cons_self) (fun x hx => hr x (List.mem_cons_of_mem _ hx))
    rw [split18] at this
    rw [this]
theorem names_ok : ∀ (x : Node) (level : Nat), OkT level x → 1 ≤ level → ∀ ns ∈ namesR x, ∀ m ∈ ns, NameOk m := by
  intro x
  induction x using Node.ind with
  | h x ih =>
  intro level h h1 ns hns m hm
  rw [namesR_eq, List.mem_cons, List.mem_flatMap] at hns
  rcases hns with rfl | ⟨k, hk, hns⟩
  · cases hm
  · obtain ⟨r, hr, rfl⟩ := List.mem_map.1 hns
    rcases List.mem_cons.1 hm with rfl | hm
    · exact kid_nameOk h h1 hk
    · exact ih k hk _ (h.sub hk) (by omega) r hr m hm
theorem joinP_inj {a b : List B} (ha : ∀ m ∈ a, NameOk m) (hb : ∀ m ∈ b, NameOk m) (h : joinP a = joinP b) : a = b := by
  have key : ∀ {c : List B}, (∀ m ∈ c, NameOk m) → joinP c = ⟨#[]⟩ → c = [] := by
    intro c hc he
    cases c with
    | nil => rfl
    | cons n r =>
      exfalso
      have := extP_us r n
      rw [joinP] at he
      rw [he] at this
      have h0 : us n = [] := by
        have := this.symm
        rw [show us (⟨#[]⟩ : B) = [] from rfl, List.append_eq_nil_iff] at this
        exact this.1
      exact (hc n List.mem_cons_self).1 (us_inj h0)
  cases a with
  | nil => exact (key hb h.symm).symm
  | cons n r =>
    cases b with
    | nil => exact key ha h
    | cons m s =>
      rw [joinP, joinP] at h
      have h1 := split_join r n (ha n List.mem_cons_self) (fun x hx => ha x (List.mem_cons_of_mem _ hx))
      have h2 := split_join s m (hb m List.mem_cons_self) (fun x hx => hb x (List.mem_cons_of_mem _ hx))
      rw [← h1, ← h2, h]
theorem names_nodup : ∀ (x : Node) (level : Nat), OkT level x → (namesR x).Nodup := by
  intro x
  induction x using Node.ind with
  | h x ih =>
  intro level h
  rw [namesR_eq, List.nodup_cons]
  refine ⟨fun hm => ?_, ?_⟩
  · obtain ⟨k, _, hk⟩ := List.mem_flatMap.1 hm
    obtain ⟨r, _, hr⟩ := List.mem_map.1 hk
    cases hr
  · have hn := kids_names h
    have hsub : ∀ k ∈ x.kids, (namesR k).Nodup := fun k hk => ih k hk _ (h.sub hk)
    rw [List.Nodup, List.pairwise_map] at hn
    rw [List.Nodup, List.pairwise_flatMap]
    refine ⟨fun k hk => ?_, hn.imp (fun {a b} hab p hp q hq e => ?_)⟩
    · rw [List.pairwise_map]
      exact (hsub k hk).imp (fun hab e => hab (by simpa using e))
    · obtain ⟨r, _, rfl⟩ := List.mem_map.1 hp
      obtain ⟨s, _, rfl⟩ := List.mem_map.1 hq
      exact hab (by simpa using (List.cons.inj e).1)
theorem nodup_map {α β : Type} {f : α → β} {xs : List α} (h : xs.Nodup) (hf : ∀ a ∈ xs, ∀ b ∈ xs, f a = f b → a = b) : (xs.map f).Nodup := by
  rw [List.Nodup, List.pairwise_map]
  exact List.Pairwise.imp_of_mem (fun {a b} ha hb hab e => hab (hf a ha b hb e)) h
theorem paths18_nodup (x : Node) : (paths18 x).Nodup := by
  unfold paths18
  split
  · rename_i hv
    have hok := (valid18_ok hv).1
    rw [pathsR_root]
    exact nodup_map (names_nodup x 1 hok) (fun a ha b hb e => joinP_inj (names_ok x 1 hok (Nat.le_refl _) a ha) (names_ok x 1 hok (Nat.le_refl _) b hb) e)
  · exact List.nodup_nil
theorem files47_nodup (x : Node) : (files47 x).Nodup := (paths18_nodup x).filter _
end Go.Proofs.Pm
end
section
namespace Go.Proofs.Pm
open Go
theorem has_iff {l : List B} {s : B} : has l s = true ↔ s ∈ l := by
  rw [has, List.any_eq_true]
  exact ⟨fun ⟨y, h1, h2⟩ => by rw [← beq_iff.1 h2]; exact h1, fun h => ⟨s, h, beq_iff.2 rfl⟩⟩
theorem has_not {l : List B} {s : B} : has l s = false ↔ s ∉ l := by
  rw [← has_iff]; simp
theorem nodup_le {α : Type} [DecidableEq α] : ∀ {l m : List α}, l.Nodup → (∀ x ∈ l, x ∈ m) → l.length ≤ m.length
  | [], m, _, _ => Nat.zero_le _
  | x :: r, m, h, hs => by
    rw [List.nodup_cons] at h
    have hx := hs x List.mem_cons_self
    have := nodup_le (l := r) (m := m.erase x) h.2 (fun y hy => (List.mem_erase_of_ne (fun e => h.1 (by rw [← e]; exact hy))).2 (hs y (List.mem_cons_of_mem _ hy)))
    rw [List.length_erase_of_mem hx] at this
    have := List.length_pos_of_mem hx
    simp; omega
def takeW (x : Node) (out : List B) (p : B) (b m : Int) : Bool := !has out p && (decide (b < 0) || decide (m < weight47 x p))
def pickW (x : Node) (out : List B) : List B → Nat → Int → Int → Int
  | [], _, b, _ => b
  | p :: r, i, b, m => if takeW x out p b m then pickW x out r (i + 1) i (weight47 x p) else pickW x out r (i + 1) b m
def pickB (x : Node) (out l : List B) : B := (l[(pickW x out l 0 (-1) 0).toNat]?).getD ⟨#[]⟩
def byWn (x : Node) (l : List B) : Nat → List B
  | 0 => []
  | n + 1 => byWn x l n ++ [pickB x (byWn x l n) l]
def byW47 (x : Node) : List B := byWn x (files47 x) (files47 x).length
end Go.Proofs.Pm
end

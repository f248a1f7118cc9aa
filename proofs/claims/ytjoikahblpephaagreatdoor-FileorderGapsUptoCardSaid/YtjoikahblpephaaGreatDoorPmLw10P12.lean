/- A part of the proof of one law: the machine on pure values and the walks of functions. -/
import Derived.Test.YtjoikahblpephaaGreatDoorPmLw10P8
import Derived.Test.YtjoikahblpephaaGreatDoorPmLw10P11
set_option linter.all false
section
namespace Go.Proofs.Pm
open Go
abbrev B := ByteArray
def strL (ss : List B) : List (List PV) := ss.map fun s => [.s (.string s)]
theorem strL_len (ss : List B) : ∀ y ∈ strL ss, y.length = 1 := fun y hy => by
  obtain ⟨s, _, rfl⟩ := List.mem_map.1 hy
  rfl
theorem strL_length (ss : List B) : (strL ss).length = ss.length := by simp [strL]
theorem strL_append (a b : List B) : strL (a ++ b) = strL a ++ strL b := by simp [strL]
theorem strL_get {ss : List B} {i : Nat} {s : B} (h : ss[i]? = some s) : (strL ss)[i]? = some [.s (.string s)] := by simp [strL, h]
theorem one_len (p : PV) : ∀ y ∈ [[p]], y.length = 1 := fun y hy => by
  rw [List.mem_singleton] at hy; subst hy; rfl
theorem kidsC_len (ks : List Node) : ∀ y ∈ kidsC ks, y.length = 12 := fun y hy => by
  rw [kidsC_eq] at hy
  obtain ⟨s, _, rfl⟩ := List.mem_map.1 hy
  rfl
def intL (l : List Int) : List (List PV) := l.map fun n => [.s (.int .i64 n)]
theorem intL_len (l : List Int) : ∀ y ∈ intL l, y.length = 1 := fun y hy => by
  obtain ⟨s, _, rfl⟩ := List.mem_map.1 hy
  rfl
theorem intL_length (l : List Int) : (intL l).length = l.length := by simp [intL]
def slash : B := ⟨#[47]⟩
theorem bsize1 (c : UInt8) : (ByteArray.mk #[c]).size = 1 := rfl
theorem bsize0 : (ByteArray.mk #[]).size = 0 := rfl
theorem slash_size : slash.size = 1 := rfl
theorem Mv.rowE {R : Nat → Nat → Prop} {xs ys : List (List PV)} {i j : Nat} (hij : R i j) (h : xs = ys) : Mv R (.row xs i) (.row ys j) := by rw [h]; exact .row hij
theorem Mv.lst {R : Nat → Nat → Prop} {xs ys : List (List PV)} (h : xs = ys) : Mv R (.list xs) (.list ys) := by rw [h]; exact .frz rfl
theorem Mv.rowL {R : Nat → Nat → Prop} {xs ys : List (List PV)} {i : Nat} (h : xs = ys) : Mv R (.row xs i) (.list ys) := by rw [h]; exact .frz rfl
theorem MvS.rowE {R : Nat → Nat → Prop} {n m sz : Nat} {t : TypeId} (h : n = m) : MvS R (.row n sz t) (.row m sz t) := by rw [h]; exact .row
theorem awp_seq_to {P : Program} {Γ : Ctx} {x y : Code} {st : St} {Q : Exit → St → Prop} (st2 : St) (h : AWp P Γ x st (Sq (fun st' => ∃ ρ, Le ρ st' st2 ∧ ∀ i, i < Γ.H.length → ρ[i]? = some i) Q)) (h2 : AWp P Γ y st2 Q) : AWp P Γ (.seq x y) st Q := by
  refine awp_seq (awp_mono h (fun e st' hq => ?_))
  cases e with
  | normal => obtain ⟨ρ, k1, k2⟩ := hq; exact awp_weaken st2 ρ k1 k2 h2
  | exit id => exact hq
  | goto l => exact hq
  | ret => exact hq
  | panic c => exact hq
  | outgrown => exact hq
theorem find_at {α : Type} {p : α → Bool} {xs : List α} {i : Nat} (hi : i < xs.length) (hb : ∀ (j : Nat) (h : j < xs.length), j < i → p xs[j] = false) (hp : p xs[i] = true) : xs.findIdx? p = some i := by
  rw [List.findIdx?_eq_some_iff_getElem]
  exact ⟨hi, hp, fun j hj => by simpa using hb j (by omega) hj⟩
theorem find_none {α : Type} {p : α → Bool} {xs : List α} (hb : ∀ (j : Nat) (h : j < xs.length), p xs[j] = false) : xs.findIdx? p = none := by
  rw [List.findIdx?_eq_none_iff]
  intro x hx
  obtain ⟨j, hj, rfl⟩ := List.getElem_of_mem hx
  exact hb j hj
theorem before_succ {α : Type} {p : α → Bool} {xs : List α} {i : Nat} (hi : i < xs.length) (hb : ∀ (j : Nat) (h : j < xs.length), j < i → p xs[j] = false) (hp : p xs[i] = false) : ∀ (j : Nat) (h : j < xs.length), j < i + 1 → p xs[j] = false := by
  intro j h hj
  by_cases e : j = i
  · subst e; exact hp
  · exact hb j h (by omega)
end Go.Proofs.Pm
end
section
namespace Go.Proofs.Pm
open Go
def named (n : B) (k : Node) : Bool := k.name.toList == n.toList
def kidZ (o : Option Nat) : Int := match o with
  | some i => i
  | none => -1
theorem kid_spec (x : Node) (n : B) (hb : x.bulk ≤ 1099511627776) : FCall Tryz.prog 67 [.agg (nodeC x), .s (.string n)] [] (.s (.int .i64 (kidZ (x.kids.findIdx? (named n))))) [] := by
  have hk := kids_len x
  refine fcall_intro tab_ok Tryz.call67 Tryz.func67 rfl rfl rfl (fun G w ι => ?_)
  refine awp_seq ?_
  refine awp_reg ?_
  refine ev_box rfl rfl rfl rfl (by constructor) ?_
  refine ev_assign tab_ok rfl rfl rfl ?_
  refine ev_nil ?_ rfl
  refine awp_seq ?_
  refine awp_seq ?_
  refine awp_reg ?_
  refine ev_assign tab_ok rfl rfl rfl ?_
  refine ev_nil ?_ rfl
  refine awp_block ?_
  refine awp_loop (fun i : Nat => ⟨[(5, .s (.int .i64 i)), (2, .ptr 0 0), (1, .s (.string n))], [.box (nodeC x) 25]⟩) (fun i => i ≤ x.kids.length ∧ ∀ (j : Nat) (h : j < x.kids.length), j < i → named n x.kids[j] = false) (fun i => x.kids.length - i) 0 [0] ?_ ⟨Nat.zero_le _, fun j _ h => by omega⟩ keep0 (fun i hi => ?_)
  · all_goals (try refine le_of (by decide) ?_ ?_)
    repeat' (first | exact trivial | exact .nil | (refine CutL.cons rfl ?_ ?_) | (refine EnvLe.cons rfl ?_ ?_) | (refine MvS.box (mvl_closed rfl)) | exact .ptr rfl | exact .frz rfl | fail)
    all_goals (try simp only [wrap_addL, wrap_addR, wrap_subL, wrap_subR]); all_goals (try (rw [wrap_i64 (by omega) (by omega)]; omega))
  refine awp_seq ?_
  refine awp_seq ?_
  refine awp_reg ?_
  refine ev_move tab_ok rfl rfl rfl ?_
  (refine ev_faB tab_ok rfl rfl rfl rfl rfl rfl rfl ?_)
  (refine ev_loadB tab_ok rfl rfl rfl rfl rfl rfl rfl ?_)
  (refine ev_lenL tab_ok rfl rfl rfl rfl rfl rfl ?_)
  (refine ev_ilss tab_ok rfl rfl rfl rfl ?_)
  refine ev_nil ?_ rfl
  refine awp_cond rfl (fun hc => ?_) (fun hc => ?_)
  · refine awp_skip ?_
    have hlt : i < x.kids.length := by simpa [kidsC_length] using hc
    have hx : x.kids[i]? = some x.kids[i] := List.getElem?_eq_getElem hlt
    refine awp_seq ?_
    refine awp_block ?_
    refine awp_seq ?_
    refine awp_reg ?_
    (refine ev_faB tab_ok rfl rfl rfl rfl rfl rfl rfl ?_)
    (refine ev_loadB tab_ok rfl rfl rfl rfl rfl rfl rfl ?_)
    refine ev_move tab_ok rfl rfl rfl ?_
    (refine ev_iaL tab_ok rfl rfl rfl rfl rfl rfl rfl rfl rfl (by omega) (by rw [Int.toNat_natCast]; exact kidsC_get hx) rfl ?_)
    (refine ev_faE tab_ok rfl rfl rfl rfl rfl rfl rfl rfl ?_)
    (refine ev_loadE tab_ok rfl rfl rfl rfl rfl rfl ?_)
    refine ev_move tab_ok rfl rfl rfl ?_
    (refine ev_seql tab_ok rfl rfl rfl rfl ?_)
    refine ev_nil ?_ rfl
    refine awp_cond rfl (fun hc => ?_) (fun hc => ?_)
    · refine awp_seq ?_
      refine awp_reg ?_
      refine ev_move tab_ok rfl rfl rfl ?_
      refine ev_assign tab_ok rfl rfl rfl ?_
      refine ev_nil ?_ rfl
      refine awp_ret ?_
      exact ⟨_, [], rfl, Mv.int (by rw [find_at hlt hi.2 hc]; rfl), cut_of (by decide) .nil, keep0⟩
    · refine awp_skip ?_
      refine awp_reg ?_
      refine ev_move tab_ok rfl rfl rfl ?_
      (refine ev_iadd tab_ok rfl rfl rfl rfl ?_)
      refine ev_assign tab_ok rfl rfl rfl ?_
      refine ev_nil ?_ rfl
      refine ⟨i + 1, [0], ?_, by omega, ⟨hlt, before_succ hlt hi.2 hc⟩, keep0⟩
      all_goals (try refine le_of (by decide) ?_ ?_)
      repeat' (first | exact trivial | exact .nil | (refine CutL.cons rfl ?_ ?_) | (refine EnvLe.cons rfl ?_ ?_) | (refine MvS.box (mvl_closed rfl)) | exact .ptr rfl | exact .frz rfl | (refine Mv.int ?_))
      all_goals (try simp only [wrap_addL, wrap_addR, wrap_subL, wrap_subR]); all_goals (try (rw [wrap_i64 (by omega) (by omega)]; omega))
  · refine awp_exit ?_
    have hge : i = x.kids.length := by
      have : ¬ i < x.kids.length := by simpa [kidsC_length] using hc
      omega
    subst hge
    refine awp_seq ?_
    refine awp_reg ?_
    refine ev_assign tab_ok rfl rfl rfl ?_
    refine ev_nil ?_ rfl
    refine awp_ret ?_
    exact ⟨_, [], rfl, Mv.int (by rw [find_none (fun j h => hi.2 j h h)]; rfl), cut_of (by decide) .nil, keep0⟩
def belowR (path name : B) (level : Nat) : B := if level = 1 then name else path ++ slash ++ name
theorem below_spec (path name : B) (level : Nat) (hb : path.size + name.size ≤ 4611686018427387904) : FCall Tryz.prog 91 [.s (.string path), .s (.string name), .s (.int .i64 level)] [] (.s (.string (belowR path name level))) [] := by
  refine fcall_intro tab_ok Tryz.call91 Tryz.func91 rfl rfl rfl (fun G w ι => ?_)
  refine awp_seq ?_
  refine awp_reg ?_
  refine ev_assign tab_ok rfl rfl rfl ?_
  refine ev_nil ?_ rfl
  refine awp_seq ?_
  refine awp_seq ?_
  refine awp_reg ?_
  refine ev_move tab_ok rfl rfl rfl ?_
  (refine ev_ieql tab_ok rfl rfl rfl rfl ?_)
  refine ev_nil ?_ rfl
  refine awp_cond rfl (fun hc => ?_) (fun hc => ?_)
  · refine awp_seq ?_
    refine awp_reg ?_
    refine ev_move tab_ok rfl rfl rfl ?_
    refine ev_assign tab_ok rfl rfl rfl ?_
    refine ev_nil ?_ rfl
    refine awp_ret ?_
    have h1 : level = 1 := by
      have : (level : Int) = 1 := by simpa using hc
      omega
    exact ⟨_, [], rfl, Mv.str (by rw [belowR, if_pos h1]), cut_of (by decide) .nil, keep0⟩
  · refine awp_skip ?_
    refine awp_seq ?_
    refine awp_reg ?_
    refine ev_move tab_ok rfl rfl rfl ?_
    (refine ev_sadd tab_ok rfl rfl rfl rfl (by (simp only [ByteArray.size_append, bsize1]; omega)) ?_)
    refine ev_move tab_ok rfl rfl rfl ?_
    (refine ev_sadd tab_ok rfl rfl rfl rfl (by (simp only [ByteArray.size_append, bsize1]; omega)) ?_)
    refine ev_assign tab_ok rfl rfl rfl ?_
    refine ev_nil ?_ rfl
    refine awp_ret ?_
    have h1 : ¬ level = 1 := by
      have : ¬ (level : Int) = 1 := by simpa using hc
      omega
    exact ⟨_, [], rfl, Mv.str (by rw [belowR, if_neg h1]; rfl), cut_of (by decide) .nil, keep0⟩
def has (l : List B) (s : B) : Bool := l.any fun x => x.toList == s.toList
def blocks (n : Int) : Int := if n ≤ 0 then 0 else IntKind.i64.wrap (IntKind.i64.wrap ((IntKind.i64.wrap (n - 1)).tdiv 2048) + 1)
theorem blocks24_spec (n : Int) : FCall Tryz.prog 24 [.s (.int .i64 n)] [] (.s (.int .i64 (blocks n))) [] := by
  refine fcall_intro tab_ok Tryz.call24 Tryz.func24 rfl rfl rfl (fun G w ι => ?_)
  refine awp_seq ?_
  refine awp_reg ?_
  refine ev_assign tab_ok rfl rfl rfl ?_
  refine ev_nil ?_ rfl
  refine awp_seq ?_
  refine awp_seq ?_
  refine awp_reg ?_
  refine ev_move tab_ok rfl rfl rfl ?_
  refine ev_ileq tab_ok rfl rfl rfl rfl ?_
  refine ev_nil ?_ rfl
  refine awp_cond rfl (fun hc => ?_) (fun hc => ?_)
  · refine awp_seq ?_
    refine awp_reg ?_
    refine ev_assign tab_ok rfl rfl rfl ?_
    refine ev_nil ?_ rfl
    refine awp_ret ?_
    exact ⟨_, [], rfl, Mv.int (by rw [blocks, if_pos (by simpa using hc)]), cut_of (by decide) .nil, keep0⟩
  · refine awp_skip ?_
    refine awp_seq ?_
    refine awp_reg ?_
    refine ev_move tab_ok rfl rfl rfl ?_
    refine ev_isub tab_ok rfl rfl rfl rfl ?_
    (refine ev_iquo tab_ok rfl rfl rfl rfl (by decide) ?_)
    (refine ev_iadd tab_ok rfl rfl rfl rfl ?_)
    refine ev_assign tab_ok rfl rfl rfl ?_
    refine ev_nil ?_ rfl
    refine awp_ret ?_
    exact ⟨_, [], rfl, Mv.int (by rw [blocks, if_neg (by simpa using hc)]), cut_of (by decide) .nil, keep0⟩
end Go.Proofs.Pm
end
section
namespace Go.Proofs.Pm
open Go
def Node.span : Node → Nat
  | ⟨_, _, _, _, _, _, _, _, _, _, ks, _⟩ => (ks.attach.map fun x => 1 + x.1.name.size + x.1.span).sum
 termination_by x => SizeOf.sizeOf x
 decreasing_by
  have := List.sizeOf_lt_of_mem x.2
  simp_wf; omega
theorem span_eq (x : Node) : x.span = (x.kids.map fun k => 1 + k.name.size + k.span).sum := by
  cases x
  rw [Node.span]
  simp
theorem span_le (x : Node) : x.span + 1 + x.name.size ≤ x.bulk := by
  induction x using Node.ind with
  | h x ih =>
    have : x.span ≤ (x.kids.map Node.bulk).sum := by
      rw [span_eq]
      exact sum_le_sum (fun k hk => by have := ih k hk; omega)
    rw [bulk_eq]
    omega
theorem kid_span {x k : Node} (h : k ∈ x.kids) : 1 + k.name.size + k.span ≤ x.span := by
  rw [span_eq x]
  exact sum_ge (f := fun k : Node => 1 + k.name.size + k.span) h
theorem belowR_size (path name : B) (level : Nat) : (belowR path name level).size ≤ path.size + 1 + name.size := by
  unfold belowR
  split
  · omega
  · simp [ByteArray.size_append, slash_size]
def pathsR : Node → B → Nat → List B
  | ⟨_, _, _, _, _, _, _, _, _, _, ks, _⟩, path, level => path :: (ks.attach.flatMap fun k => pathsR k.1 (belowR path k.1.name level) (level + 1))
 termination_by x => SizeOf.sizeOf x
 decreasing_by
  have := List.sizeOf_lt_of_mem k.2
  simp_wf; omega
theorem pathsR_eq (x : Node) (path : B) (level : Nat) : pathsR x path level = path :: (x.kids.flatMap fun k => pathsR k (belowR path k.name level) (level + 1)) := by
  cases x
  rw [pathsR]
  simp [List.flatMap, List.map_attach_eq_pmap]
theorem pathsR_length (x : Node) : ∀ (path : B) (level : Nat), (pathsR x path level).length = x.count := by
  induction x using Node.ind with
  | h x ih =>
    intro path level
    rw [pathsR_eq, count_eq, List.length_cons, List.length_flatMap, Nat.add_comm]
    congr 2
    exact List.map_congr_left (fun k hk => ih k hk _ _)
end Go.Proofs.Pm
end
section
namespace Go.Proofs.Pm
open Go
def char17 (n : Int) : Bool := decide (32 ≤ n) && decide (n ≤ 65533) && (decide (n < 55296) || decide (57343 < n))
theorem char17_spec (n : Int) : FCall Tryz.prog 177 [.s (.int .i64 n)] [] (.s (.bool (char17 n))) [] := by
  refine fcall_intro tab_ok Tryz.call177 Tryz.func177 rfl rfl rfl (fun G w ι => ?_)
  refine awp_seq ?_
  refine awp_reg ?_
  refine ev_assign tab_ok rfl rfl rfl ?_
  refine ev_nil ?_ rfl
  refine awp_seq_to ⟨[(2, .s (.bool (char17 n)))], []⟩ ?_ ?_
  · refine awp_reg ?_
    all_goals refine ev_move tab_ok rfl rfl rfl ?_
    all_goals refine ev_igeq tab_ok rfl rfl rfl rfl ?_
    all_goals refine ev_move tab_ok rfl rfl rfl ?_
    all_goals ((refine ev_split rfl rfl rfl (fun hg => ?_) (fun hg => ?_) <;> (first | refine ev_skip rfl rfl ?_ | refine ev_move tab_ok rfl rfl rfl ?_)))
    all_goals (first | refine ev_skip rfl rfl ?_ | refine ev_ileq tab_ok rfl rfl rfl rfl ?_)
    all_goals (first | refine ev_pickT tab_ok rfl rfl rfl rfl rfl ?_ | refine ev_pickF tab_ok rfl rfl rfl rfl rfl ?_)
    all_goals refine ev_move tab_ok rfl rfl rfl ?_
    all_goals (first | refine ev_skip rfl rfl ?_ | (refine ev_split rfl rfl rfl (fun hg => ?_) (fun hg => ?_) <;> (first | refine ev_skip rfl rfl ?_ | refine ev_move tab_ok rfl rfl rfl ?_)))
    all_goals (first | refine ev_skip rfl rfl ?_ | refine ev_ilss tab_ok rfl rfl rfl rfl ?_)
    all_goals (first | refine ev_skip rfl rfl ?_ | refine ev_move tab_ok rfl rfl rfl ?_)
    all_goals (first | refine ev_skip rfl rfl ?_ | (refine ev_split rfl rfl rfl (fun hg => ?_) (fun hg => ?_) <;> (first | refine ev_skip rfl rfl ?_ | refine ev_move tab_ok rfl rfl rfl ?_)))
    all_goals (first | refine ev_skip rfl rfl ?_ | refine ev_igtr tab_ok rfl rfl rfl rfl ?_)
    all_goals (first | refine ev_skip rfl rfl ?_ | refine ev_pickT tab_ok rfl rfl rfl rfl rfl ?_ | refine ev_pickF tab_ok rfl rfl rfl rfl rfl ?_)
    all_goals (first | refine ev_pickT tab_ok rfl rfl rfl rfl rfl ?_ | refine ev_pickF tab_ok rfl rfl rfl rfl rfl ?_)
    all_goals refine ev_assign tab_ok rfl rfl rfl ?_
    all_goals refine ev_nil ?_ rfl
    all_goals (refine ⟨[], le_of (by decide) .nil (EnvLe.cons rfl (Mv.bool ?_) trivial), keep0⟩; first | (simp_all [char17]; done) | (simp_all [char17]; omega))
  · refine awp_ret ?_
    exact ⟨_, [], rfl, .frz rfl, cut_of (by decide) .nil, keep0⟩
def byteOf (n : Int) : UInt8 := UInt8.ofNat (n % 256).toNat
theorem wrap_u8 (n : Int) : IntKind.u8.wrap n = ((byteOf n).toNat : Int) := by
  have h : (byteOf n).toNat = (n % 256).toNat := by
    rw [byteOf, UInt8.toNat_ofNat']
    omega
  rw [h]
  simp [IntKind.wrap, IntKind.bits, IntKind.signed]
  omega
def enc (n : Int) : List UInt8 := if n < 128 then [byteOf n] else if n < 2048 then [byteOf (192 + n / 64), byteOf (128 + n % 64)] else [byteOf (224 + n / 4096), byteOf (128 + n / 64 % 64), byteOf (128 + n % 64)]
theorem enc_spec (n : Int) (h0 : 0 ≤ n) (h1 : n ≤ 65535) : FCall Tryz.prog 178 [.s (.int .i64 n)] [] (.s (.string ⟨(enc n).toArray⟩)) [] := by
  have d64 : n.tdiv 64 = n / 64 := Int.tdiv_eq_ediv_of_nonneg h0
  have d4096 : n.tdiv 4096 = n / 4096 := Int.tdiv_eq_ediv_of_nonneg h0
  have m64 : n.tmod 64 = n % 64 := Int.tmod_eq_emod_of_nonneg h0
  have q0 : 0 ≤ n / 64 := by omega
  have mq : (n / 64).tmod 64 = n / 64 % 64 := Int.tmod_eq_emod_of_nonneg q0
  have w1 : IntKind.i64.wrap (n / 64) = n / 64 := wrap_i64 (by omega) (by omega)
  have w2 : IntKind.i64.wrap (n / 4096) = n / 4096 := wrap_i64 (by omega) (by omega)
  have w3 : IntKind.i64.wrap (192 + n / 64) = 192 + n / 64 := wrap_i64 (by omega) (by omega)
  have w4 : IntKind.i64.wrap (128 + n % 64) = 128 + n % 64 := wrap_i64 (by omega) (by omega)
  have w5 : IntKind.i64.wrap (224 + n / 4096) = 224 + n / 4096 := wrap_i64 (by omega) (by omega)
  have w6 : IntKind.i64.wrap (128 + n / 64 % 64) = 128 + n / 64 % 64 := wrap_i64 (by omega) (by omega)
  refine fcall_intro tab_ok Tryz.call178 Tryz.func178 rfl rfl rfl (fun G w ι => ?_)
  refine awp_seq ?_
  refine awp_reg ?_
  refine ev_assign tab_ok rfl rfl rfl ?_
  refine ev_nil ?_ rfl
  refine awp_seq ?_
  refine awp_seq ?_
  refine awp_reg ?_
  refine ev_move tab_ok rfl rfl rfl ?_
  (refine ev_ilss tab_ok rfl rfl rfl rfl ?_)
  refine ev_nil ?_ rfl
  refine awp_cond rfl (fun hc => ?_) (fun hc => ?_)
  · refine awp_seq ?_
    refine awp_reg ?_
    refine ev_move tab_ok rfl rfl rfl ?_
    (refine ev_conv tab_ok rfl rfl rfl rfl rfl rfl rfl rfl ?_)
    refine ev_buildSlice tab_ok rfl rfl rfl rfl rfl rfl rfl rfl rfl rfl rfl rfl rfl rfl (by constructor) ?_
    refine ev_bytesStr tab_ok rfl rfl rfl rfl rfl rfl rfl rfl rfl rfl rfl rfl rfl (show _ = byteL [byteOf n] by simp only [byteL, List.map_cons, List.map_nil, wrap_u8]) ?_
    refine ev_assign tab_ok rfl rfl rfl ?_
    refine ev_nil ?_ rfl
    refine awp_ret ?_
    exact ⟨_, [], rfl, Mv.str (by rw [enc, if_pos (by simpa using hc)]), cut_of (by decide) .nil, keep0⟩
  · refine awp_skip ?_
    refine awp_seq ?_
    refine awp_seq ?_
    refine awp_reg ?_
    refine ev_move tab_ok rfl rfl rfl ?_
    (refine ev_ilss tab_ok rfl rfl rfl rfl ?_)
    refine ev_nil ?_ rfl
    refine awp_cond rfl (fun hc2 => ?_) (fun hc2 => ?_)
    · refine awp_seq ?_
      refine awp_reg ?_
      refine ev_move tab_ok rfl rfl rfl ?_
      (refine ev_iquo tab_ok rfl rfl rfl rfl (by decide) ?_)
      (refine ev_iadd tab_ok rfl rfl rfl rfl ?_)
      (refine ev_conv tab_ok rfl rfl rfl rfl rfl rfl rfl rfl ?_)
      refine ev_move tab_ok rfl rfl rfl ?_
      (refine ev_irem tab_ok rfl rfl rfl rfl (by decide) ?_)
      (refine ev_iadd tab_ok rfl rfl rfl rfl ?_)
      (refine ev_conv tab_ok rfl rfl rfl rfl rfl rfl rfl rfl ?_)
      refine ev_buildSlice tab_ok rfl rfl rfl rfl rfl rfl rfl rfl rfl rfl rfl rfl rfl rfl (by constructor) ?_
      refine ev_bytesStr tab_ok rfl rfl rfl rfl rfl rfl rfl rfl rfl rfl rfl rfl rfl (show _ = byteL [byteOf (192 + n / 64), byteOf (128 + n % 64)] by simp only [byteL, List.map_cons, List.map_nil, d64, m64, w1, w3, w4, wrap_u8]) ?_
      refine ev_assign tab_ok rfl rfl rfl ?_
      refine ev_nil ?_ rfl
      refine awp_ret ?_
      exact ⟨_, [], rfl, Mv.str (by rw [enc, if_neg (by simpa using hc), if_pos (by simpa using hc2)]), cut_of (by decide) .nil, keep0⟩
    · refine awp_skip ?_
      refine awp_seq ?_
      refine awp_reg ?_
      refine ev_move tab_ok rfl rfl rfl ?_
      (refine ev_iquo tab_ok rfl rfl rfl rfl (by decide) ?_)
      (refine ev_iadd tab_ok rfl rfl rfl rfl ?_)
      (refine ev_conv tab_ok rfl rfl rfl rfl rfl rfl rfl rfl ?_)
      refine ev_move tab_ok rfl rfl rfl ?_
      (refine ev_iquo tab_ok rfl rfl rfl rfl (by decide) ?_)
      (refine ev_irem tab_ok rfl rfl rfl rfl (by decide) ?_)
      (refine ev_iadd tab_ok rfl rfl rfl rfl ?_)
      (refine ev_conv tab_ok rfl rfl rfl rfl rfl rfl rfl rfl ?_)
      refine ev_move tab_ok rfl rfl rfl ?_
      (refine ev_irem tab_ok rfl rfl rfl rfl (by decide) ?_)
      (refine ev_iadd tab_ok rfl rfl rfl rfl ?_)
      (refine ev_conv tab_ok rfl rfl rfl rfl rfl rfl rfl rfl ?_)
      refine ev_buildSlice tab_ok rfl rfl rfl rfl rfl rfl rfl rfl rfl rfl rfl rfl rfl rfl (by constructor) ?_
      refine ev_bytesStr tab_ok rfl rfl rfl rfl rfl rfl rfl rfl rfl rfl rfl rfl rfl (show _ = byteL [byteOf (224 + n / 4096), byteOf (128 + n / 64 % 64), byteOf (128 + n % 64)] by simp only [byteL, List.map_cons, List.map_nil, d64, m64, d4096, mq, w1, w2, w4, w5, w6, wrap_u8]) ?_
      refine ev_assign tab_ok rfl rfl rfl ?_
      refine ev_nil ?_ rfl
      refine awp_ret ?_
      exact ⟨_, [], rfl, Mv.str (by rw [enc, if_neg (by simpa using hc), if_neg (by simpa using hc2)]), cut_of (by decide) .nil, keep0⟩
end Go.Proofs.Pm
end
section
namespace Go.Proofs.Pm
open Go
def byte (s : B) (k : Nat) : UInt8 := (s[k]?).getD 0
theorem byte_at {s : B} {k : Nat} (h : k < s.size) : s[k]? = some (byte s k) := by
  unfold byte
  rw [getElem?_pos s k h]; rfl
def byteZ (s : B) (k : Nat) : Int := ((byte s k).toNat : Int)
theorem byteZ_lt (s : B) (k : Nat) : 0 ≤ byteZ s k ∧ byteZ s k < 256 := by
  have := (byte s k).toNat_lt
  unfold byteZ
  omega
def val17 (s : B) (i : Nat) : Int := if i = 2 then (byteZ s 0 - 192) * 64 + byteZ s 1 - 128 else if i = 3 then (byteZ s 0 - 224) * 4096 + (byteZ s 1 - 128) * 64 + byteZ s 2 - 128 else byteZ s 0
def ok17 (s : B) (i : Nat) : Bool := char17 (val17 s i) && ((⟨(enc (val17 s i)).toArray⟩ : B).toList == (s.extract 0 i).toList)
def firstR (s : B) : Int × Int := if 1 ≤ s.size ∧ ok17 s 1 = true then (val17 s 1, 1) else if 2 ≤ s.size ∧ ok17 s 2 = true then (val17 s 2, 2) else if 3 ≤ s.size ∧ ok17 s 3 = true then (val17 s 3, 3) else (0, 0)
theorem first_spec (s : B) : FCall Tryz.prog 170 [.s (.string s)] [] (.tup [.s (.int .i64 (firstR s).1), .s (.int .i64 (firstR s).2)]) [] := by
  have k0 := byteZ_lt s 0
  have k1 := byteZ_lt s 1
  have k2 := byteZ_lt s 2
  refine fcall_intro tab_ok Tryz.call170 Tryz.func170 rfl rfl rfl (fun G w ι => ?_)
  refine awp_seq ?_
  refine awp_reg ?_
  refine ev_assign tab_ok rfl rfl rfl ?_
  refine ev_assign tab_ok rfl rfl rfl ?_
  refine ev_nil ?_ rfl
  refine awp_seq ?_
  refine awp_seq ?_
  refine awp_reg ?_
  refine ev_assign tab_ok rfl rfl rfl ?_
  refine ev_nil ?_ rfl
  refine awp_block ?_
  refine awp_loop (fun i : Nat => ⟨[(4, .s (.int .i64 i)), (0, .s (.string s))], []⟩) (fun i => 1 ≤ i ∧ i ≤ 4 ∧ (i ≤ 3 → i ≤ s.size + 1) ∧ ∀ j, 1 ≤ j → j < i → j ≤ s.size → ok17 s j = false) (fun i => 4 - i) 1 [] ?_ ⟨by omega, by omega, by omega, fun j _ _ _ => by omega⟩ keep0 (fun i hi => ?_)
  · all_goals (try refine le_of (by decide) ?_ ?_)
    repeat' (first | exact trivial | exact .nil | (refine EnvLe.cons rfl ?_ ?_) | exact .frz rfl | fail)
    all_goals (try simp only [wrap_addL, wrap_addR, wrap_subL, wrap_subR]); all_goals (try (rw [wrap_i64 (by omega) (by omega)]; omega))
  obtain ⟨hi1, hi4, his, hno⟩ := hi
  refine awp_seq ?_
  refine awp_seq_to ⟨[(13, .s (.bool (decide (i ≤ 3) && decide (i ≤ s.size)))), (4, .s (.int .i64 i)), (0, .s (.string s))], []⟩ ?_ ?_
  · refine awp_reg ?_
    all_goals refine ev_move tab_ok rfl rfl rfl ?_
    all_goals refine ev_ileq tab_ok rfl rfl rfl rfl ?_
    all_goals refine ev_move tab_ok rfl rfl rfl ?_
    all_goals ((refine ev_split rfl rfl rfl (fun hg => ?_) (fun hg => ?_) <;> (first | refine ev_skip rfl rfl ?_ | refine ev_move tab_ok rfl rfl rfl ?_)))
    all_goals (first | refine ev_skip rfl rfl ?_ | refine ev_move tab_ok rfl rfl rfl ?_)
    all_goals (first | refine ev_skip rfl rfl ?_ | refine ev_lenS tab_ok rfl rfl rfl rfl rfl rfl ?_)
    all_goals (first | refine ev_skip rfl rfl ?_ | refine ev_ileq tab_ok rfl rfl rfl rfl ?_)
    all_goals (first | refine ev_pickT tab_ok rfl rfl rfl rfl rfl ?_ | refine ev_pickF tab_ok rfl rfl rfl rfl rfl ?_)
    all_goals refine ev_nil ?_ rfl
    all_goals (refine ⟨[], le_of (by decide) .nil (EnvLe.cons rfl (Mv.bool ?_) (EnvLe.cons rfl (.frz rfl) (EnvLe.cons rfl (.frz rfl) trivial))), keep0⟩)
    · have h3 : i ≤ 3 := by
        have : (i : Int) ≤ 3 := by simpa using hg
        omega
      simp [h3]
    · have h3 : ¬ i ≤ 3 := by
        have : ¬ (i : Int) ≤ 3 := by simpa using hg
        omega
      simp [h3]
  refine awp_cond rfl (fun hc => ?_) (fun hc => ?_)
  · refine awp_skip ?_
    simp only [Bool.and_eq_true, decide_eq_true_eq] at hc
    obtain ⟨hc3, hcs⟩ := hc
    refine awp_seq ?_
    refine awp_block ?_
    refine awp_seq ?_
    refine awp_reg ?_
    refine ev_move tab_ok rfl rfl rfl ?_
    refine ev_idxStr tab_ok rfl rfl rfl rfl rfl rfl rfl (by omega) (show s[0]? = _ from byte_at (by omega)) ?_
    (refine ev_conv tab_ok rfl rfl rfl rfl rfl rfl rfl rfl ?_)
    refine ev_assign tab_ok rfl rfl rfl ?_
    refine ev_nil ?_ rfl
    refine awp_seq_to ⟨[(5, .s (.int .i64 (if i = 2 then val17 s 2 else byteZ s 0))), (4, .s (.int .i64 i)), (0, .s (.string s))], []⟩ ?_ ?_
    · refine awp_seq ?_
      refine awp_reg ?_
      refine ev_move tab_ok rfl rfl rfl ?_
      (refine ev_ieql tab_ok rfl rfl rfl rfl ?_)
      refine ev_nil ?_ rfl
      refine awp_cond rfl (fun hc => ?_) (fun hc => ?_)
      · have e2 : i = 2 := by
          have : (i : Int) = 2 := by simpa using hc
          omega
        subst e2
        refine awp_draw mixed ?_
        refine ev_move tab_ok rfl rfl rfl ?_
        refine ev_idxStr tab_ok rfl rfl rfl rfl rfl rfl rfl (by omega) (show s[0]? = _ from byte_at (by omega)) ?_
        (refine ev_conv tab_ok rfl rfl rfl rfl rfl rfl rfl rfl ?_)
        refine ev_isub tab_ok rfl rfl rfl rfl ?_
        refine ev_imul tab_ok rfl rfl rfl rfl ?_
        refine ev_move tab_ok rfl rfl rfl ?_
        refine ev_idxStr tab_ok rfl rfl rfl rfl rfl rfl rfl (by omega) (show s[1]? = _ from byte_at (by omega)) ?_
        (refine ev_conv tab_ok rfl rfl rfl rfl rfl rfl rfl rfl ?_)
        (refine ev_iadd tab_ok rfl rfl rfl rfl ?_)
        refine ev_isub tab_ok rfl rfl rfl rfl ?_
        refine ev_assign tab_ok rfl rfl rfl ?_
        refine ev_nilD ?_ (by kernel_rfl)
        refine ⟨[], ?_, keep0⟩
        all_goals (try refine le_of (by decide) ?_ ?_)
        repeat' (first | exact trivial | exact .nil | (refine EnvLe.cons rfl ?_ ?_) | exact .frz rfl | (refine Mv.int ?_) | fail)
        all_goals (try simp only [wrap_addL, wrap_addR, wrap_subL, wrap_subR]); all_goals (try (rw [wrap_i64 (by omega) (by omega)]; omega))
        have a0 : IntKind.i64.wrap ((byte s 0).toNat : Int) = byteZ s 0 := wrap_i64 (by show _ ≤ byteZ s 0; omega) (by show byteZ s 0 ≤ _; omega)
        have a1 : IntKind.i64.wrap ((byte s 1).toNat : Int) = byteZ s 1 := wrap_i64 (by show _ ≤ byteZ s 1; omega) (by show byteZ s 1 ≤ _; omega)
        have b1 : IntKind.i64.wrap (byteZ s 0 - 192) = byteZ s 0 - 192 := wrap_i64 (by omega) (by omega)
        have b2 : IntKind.i64.wrap ((byteZ s 0 - 192) * 64) = (byteZ s 0 - 192) * 64 := wrap_i64 (by omega) (by omega)
        have b3 : IntKind.i64.wrap ((byteZ s 0 - 192) * 64 + byteZ s 1 - 128) = (byteZ s 0 - 192) * 64 + byteZ s 1 - 128 := wrap_i64 (by omega) (by omega)
        change IntKind.i64.wrap (IntKind.i64.wrap (byteZ s 0 - 192) * 64 + byteZ s 1 - 128) = _
        rw [b1, b3]; simp [val17]
      · refine awp_skip ?_
        have e2 : ¬ i = 2 := by
          have : ¬ (i : Int) = 2 := by simpa using hc
          omega
        refine ⟨[], ?_, keep0⟩
        all_goals (try refine le_of (by decide) ?_ ?_)
        repeat' (first | exact trivial | exact .nil | (refine EnvLe.cons rfl ?_ ?_) | exact .frz rfl | (refine Mv.int ?_) | fail)
        all_goals (try simp only [wrap_addL, wrap_addR, wrap_subL, wrap_subR]); all_goals (try (rw [wrap_i64 (by omega) (by omega)]; omega))
        rw [if_neg e2]
        exact wrap_i64 (by show _ ≤ byteZ s 0; omega) (by show byteZ s 0 ≤ _; omega)
    refine awp_seq_to ⟨[(5, .s (.int .i64 (val17 s i))), (4, .s (.int .i64 i)), (0, .s (.string s))], []⟩ ?_ ?_
    · refine awp_seq ?_
      refine awp_reg ?_
      refine ev_move tab_ok rfl rfl rfl ?_
      (refine ev_ieql tab_ok rfl rfl rfl rfl ?_)
      refine ev_nil ?_ rfl
      refine awp_cond rfl (fun hc => ?_) (fun hc => ?_)
      · have e3 : i = 3 := by
          have : (i : Int) = 3 := by simpa using hc
          omega
        subst e3
        refine awp_draw mixed ?_
        refine ev_move tab_ok rfl rfl rfl ?_
        refine ev_idxStr tab_ok rfl rfl rfl rfl rfl rfl rfl (by omega) (show s[0]? = _ from byte_at (by omega)) ?_
        (refine ev_conv tab_ok rfl rfl rfl rfl rfl rfl rfl rfl ?_)
        refine ev_isub tab_ok rfl rfl rfl rfl ?_
        refine ev_imul tab_ok rfl rfl rfl rfl ?_
        refine ev_move tab_ok rfl rfl rfl ?_
        refine ev_idxStr tab_ok rfl rfl rfl rfl rfl rfl rfl (by omega) (show s[1]? = _ from byte_at (by omega)) ?_
        (refine ev_conv tab_ok rfl rfl rfl rfl rfl rfl rfl rfl ?_)
        refine ev_isub tab_ok rfl rfl rfl rfl ?_
        refine ev_imul tab_ok rfl rfl rfl rfl ?_
        (refine ev_iadd tab_ok rfl rfl rfl rfl ?_)
        refine ev_move tab_ok rfl rfl rfl ?_
        refine ev_idxStr tab_ok rfl rfl rfl rfl rfl rfl rfl (by omega) (show s[2]? = _ from byte_at (by omega)) ?_
        (refine ev_conv tab_ok rfl rfl rfl rfl rfl rfl rfl rfl ?_)
        (refine ev_iadd tab_ok rfl rfl rfl rfl ?_)
        refine ev_isub tab_ok rfl rfl rfl rfl ?_
        refine ev_assign tab_ok rfl rfl rfl ?_
        refine ev_nilD ?_ (by kernel_rfl)
        refine ⟨[], ?_, keep0⟩
        all_goals (try refine le_of (by decide) ?_ ?_)
        repeat' (first | exact trivial | exact .nil | (refine EnvLe.cons rfl ?_ ?_) | exact .frz rfl | (refine Mv.int ?_) | fail)
        all_goals (try simp only [wrap_addL, wrap_addR, wrap_subL, wrap_subR]); all_goals (try (rw [wrap_i64 (by omega) (by omega)]; omega))
        have a0 : IntKind.i64.wrap ((byte s 0).toNat : Int) = byteZ s 0 := wrap_i64 (by show _ ≤ byteZ s 0; omega) (by show byteZ s 0 ≤ _; omega)
        have a1 : IntKind.i64.wrap ((byte s 1).toNat : Int) = byteZ s 1 := wrap_i64 (by show _ ≤ byteZ s 1; omega) (by show byteZ s 1 ≤ _; omega)
        have a2 : IntKind.i64.wrap ((byte s 2).toNat : Int) = byteZ s 2 := wrap_i64 (by show _ ≤ byteZ s 2; omega) (by show byteZ s 2 ≤ _; omega)
        have b1 : IntKind.i64.wrap (byteZ s 0 - 224) = byteZ s 0 - 224 := wrap_i64 (by omega) (by omega)
        have b2 : IntKind.i64.wrap ((byteZ s 0 - 224) * 4096) = (byteZ s 0 - 224) * 4096 := wrap_i64 (by omega) (by omega)
        have b4 : IntKind.i64.wrap (byteZ s 1 - 128) = byteZ s 1 - 128 := wrap_i64 (by omega) (by omega)
        have b5 : IntKind.i64.wrap ((byteZ s 1 - 128) * 64) = (byteZ s 1 - 128) * 64 := wrap_i64 (by omega) (by omega)
        have b3 : IntKind.i64.wrap ((byteZ s 0 - 224) * 4096 + (byteZ s 1 - 128) * 64 + byteZ s 2 - 128) = (byteZ s 0 - 224) * 4096 + (byteZ s 1 - 128) * 64 + byteZ s 2 - 128 := wrap_i64 (by omega) (by omega)
        change IntKind.i64.wrap (IntKind.i64.wrap (byteZ s 0 - 224) * 4096 + IntKind.i64.wrap (byteZ s 1 - 128) * 64 + byteZ s 2 - 128) = _
        rw [b1, b4, b3]; simp [val17]
      · refine awp_skip ?_
        have e3 : ¬ i = 3 := by
          have : ¬ (i : Int) = 3 := by simpa using hc
          omega
        refine ⟨[], ?_, keep0⟩
        all_goals (try refine le_of (by decide) ?_ ?_)
        repeat' (first | exact trivial | exact .nil | (refine EnvLe.cons rfl ?_ ?_) | exact .frz rfl | (refine Mv.int ?_) | fail)
        all_goals (try simp only [wrap_addL, wrap_addR, wrap_subL, wrap_subR]); all_goals (try (rw [wrap_i64 (by omega) (by omega)]; omega))
        unfold val17
        by_cases e2 : i = 2 <;> simp [e2, e3]
    refine awp_seq_to ⟨[(58, .s (.bool (ok17 s i))), (5, .s (.int .i64 (val17 s i))), (4, .s (.int .i64 i)), (0, .s (.string s))], []⟩ ?_ ?_
    · cases hch : char17 (val17 s i)
      · refine awp_draw mixed ?_
        refine ev_move tab_ok rfl rfl rfl ?_
        refine ev_call rfl rfl rfl rfl rfl (char17_spec _) rfl ?_
        try refine ev_is (congrArg Value.bool (hch)) ?_
        refine ev_move tab_ok rfl rfl rfl ?_
        (refine ev_skip rfl rfl ?_)
        (refine ev_skip rfl rfl ?_)
        (refine ev_skip rfl rfl ?_)
        (refine ev_skip rfl rfl ?_)
        (refine ev_skip rfl rfl ?_)
        (refine ev_skip rfl rfl ?_)
        (refine ev_pickF tab_ok rfl rfl rfl rfl rfl ?_)
        refine ev_nilD ?_ (by kernel_rfl)
        refine ⟨[], ?_, keep0⟩
        all_goals (try refine le_of (by decide) ?_ ?_)
        repeat' (first | exact trivial | exact .nil | (refine EnvLe.cons rfl ?_ ?_) | exact .frz rfl | (refine Mv.bool ?_) | fail)
        all_goals (try simp only [wrap_addL, wrap_addR, wrap_subL, wrap_subR]); all_goals (try (rw [wrap_i64 (by omega) (by omega)]; omega))
        simp [ok17, hch]
      · have hv : 32 ≤ val17 s i ∧ val17 s i ≤ 65533 := by
          simp [char17] at hch; omega
        refine awp_draw mixed ?_
        refine ev_move tab_ok rfl rfl rfl ?_
        refine ev_call rfl rfl rfl rfl rfl (char17_spec _) rfl ?_
        try refine ev_is (congrArg Value.bool (hch)) ?_
        refine ev_move tab_ok rfl rfl rfl ?_
        (refine ev_move tab_ok rfl rfl rfl ?_)
        (refine ev_call rfl rfl rfl rfl rfl (enc_spec (val17 s i) (by omega) (by omega)) rfl ?_)
        (refine ev_move tab_ok rfl rfl rfl ?_)
        (refine ev_move tab_ok rfl rfl rfl ?_)
        (refine ev_slS1 tab_ok rfl rfl rfl rfl rfl rfl rfl (by omega) (by omega) ?_)
        (refine ev_seql tab_ok rfl rfl rfl rfl ?_)
        (refine ev_pickT tab_ok rfl rfl rfl rfl rfl ?_)
        refine ev_nilD ?_ (by kernel_rfl)
        refine ⟨[], ?_, keep0⟩
        all_goals (try refine le_of (by decide) ?_ ?_)
        repeat' (first | exact trivial | exact .nil | (refine EnvLe.cons rfl ?_ ?_) | exact .frz rfl | (refine Mv.bool ?_) | fail)
        all_goals (try simp only [wrap_addL, wrap_addR, wrap_subL, wrap_subR]); all_goals (try (rw [wrap_i64 (by omega) (by omega)]; omega))
        simp [ok17, hch]
    refine awp_cond rfl (fun hc => ?_) (fun hc => ?_)
    · refine awp_seq ?_
      refine awp_reg ?_
      refine ev_move tab_ok rfl rfl rfl ?_
      refine ev_move tab_ok rfl rfl rfl ?_
      refine ev_assign tab_ok rfl rfl rfl ?_
      refine ev_assign tab_ok rfl rfl rfl ?_
      refine ev_nil ?_ rfl
      refine awp_ret ?_
      have e : firstR s = (val17 s i, (i : Int)) := by
        have h1 := hno 1 (by omega)
        have h2 := hno 2 (by omega)
        obtain rfl | rfl | rfl : i = 1 ∨ i = 2 ∨ i = 3 := by omega
        · simp [firstR, hcs, hc]
        · have h1 := h1 (by omega) (by omega)
          simp [firstR, hcs, hc, h1]
        · have h1 := h1 (by omega) (by omega)
          have h2 := h2 (by omega) (by omega)
          simp [firstR, hcs, hc, h1, h2]
      exact ⟨_, [], rfl, Mv.val (by rw [e]) rfl, cut_of (by decide) .nil, keep0⟩
    · refine awp_skip ?_
      refine awp_reg ?_
      refine ev_move tab_ok rfl rfl rfl ?_
      (refine ev_iadd tab_ok rfl rfl rfl rfl ?_)
      refine ev_assign tab_ok rfl rfl rfl ?_
      refine ev_nil ?_ rfl
      refine ⟨i + 1, [], ?_, by omega, ⟨by omega, by omega, by omega, fun j h1 h2 h3 => ?_⟩, keep0⟩
      · all_goals (try refine le_of (by decide) ?_ ?_)
        repeat' (first | exact trivial | exact .nil | (refine EnvLe.cons rfl ?_ ?_) | exact .frz rfl | (refine Mv.int ?_) | fail)
        all_goals (try simp only [wrap_addL, wrap_addR, wrap_subL, wrap_subR]); all_goals (try (rw [wrap_i64 (by omega) (by omega)]; omega))
      by_cases e : j = i
      · subst e; exact hc
      · exact hno j h1 (by omega) h3
  · refine awp_exit ?_
    refine awp_seq ?_
    refine awp_reg ?_
    refine ev_assign tab_ok rfl rfl rfl ?_
    refine ev_assign tab_ok rfl rfl rfl ?_
    refine ev_nil ?_ rfl
    refine awp_ret ?_
    have e : firstR s = (0, 0) := by
      have hc' : ¬ (i ≤ 3 ∧ i ≤ s.size) := by
        intro h
        rw [decide_eq_true h.1, decide_eq_true h.2] at hc
        cases hc
      have g : ∀ j, 1 ≤ j → j ≤ 3 → j ≤ s.size → ok17 s j = false := fun j h1 h2 h3 => hno j h1 (by omega) h3
      have g1 := g 1 (by omega) (by omega)
      have g2 := g 2 (by omega) (by omega)
      have g3 := g 3 (by omega) (by omega)
      unfold firstR
      rw [if_neg (fun h => by rw [g1 h.1] at h; cases h.2), if_neg (fun h => by rw [g2 h.1] at h; cases h.2), if_neg (fun h => by rw [g3 h.1] at h; cases h.2)]
    exact ⟨_, [], rfl, Mv.val (by rw [e]) rfl, cut_of (by decide) .nil, keep0⟩
end Go.Proofs.Pm
end
section
namespace Go.Proofs.Pm
open Go
theorem firstR_range (s : B) : ∃ k : Nat, (firstR s).2 = (k : Int) ∧ k ≤ 3 ∧ k ≤ s.size := by
  unfold firstR
  split
  · exact ⟨1, rfl, by omega, by omega⟩
  · split
    · exact ⟨2, rfl, by omega, by omega⟩
    · split
      · exact ⟨3, rfl, by omega, by omega⟩
      · exact ⟨0, rfl, by omega, by omega⟩
def charsAux : Nat → B → Option (List Int)
  | 0, _ => some []
  | f + 1, s => if s.size = 0 then some [] else if (firstR s).2 = 0 then none else (charsAux f (s.extract (firstR s).2.toNat s.size)).map ((firstR s).1 :: ·)
def chars17 (s : B) : List Int × Int := if 65536 < s.size then ([], 7) else match charsAux s.size s with
  | some l => (l, 0)
  | none => ([], 3)
theorem chars_spec (s : B) : FCall Tryz.prog 162 [.s (.string s)] [] (.tup [.list (intL (chars17 s).1), .s (.int .i64 (chars17 s).2)]) [] := by
  refine fcall_intro tab_ok Tryz.call162 Tryz.func162 rfl rfl rfl (fun G w ι => ?_)
  refine awp_seq ?_
  refine awp_reg ?_
  refine ev_assign tab_ok rfl rfl rfl ?_
  refine ev_assign tab_ok rfl rfl rfl ?_
  refine ev_nil ?_ rfl
  refine awp_seq ?_
  refine awp_seq ?_
  refine awp_reg ?_
  refine ev_move tab_ok rfl rfl rfl ?_
  (refine ev_lenS tab_ok rfl rfl rfl rfl rfl rfl ?_)
  refine ev_igtr tab_ok rfl rfl rfl rfl ?_
  refine ev_nil ?_ rfl
  refine awp_cond rfl (fun hc => ?_) (fun hc => ?_)
  · refine awp_seq ?_
    refine awp_reg ?_
    refine ev_assign tab_ok rfl rfl rfl ?_
    refine ev_assign tab_ok rfl rfl rfl ?_
    refine ev_nil ?_ rfl
    refine awp_ghost 2 1 3 rfl (by constructor) ?_
    refine awp_ret ?_
    have hc : 65536 < s.size := by
      have : (65536 : Int) < s.size := by simpa using hc
      omega
    refine ⟨_, [], rfl, ?_, cut_of (by decide) .nil, keep0⟩
    rw [chars17, if_pos hc]
    exact .tupL (.cons (.rowL rfl) (.cons (.frz rfl) .nil))
  · have hsz : s.size ≤ 65536 := by
      have : ¬ (65536 : Int) < s.size := by simpa using hc
      omega
    refine awp_skip ?_
    refine awp_seq ?_
    refine awp_reg ?_
    refine ev_assign tab_ok rfl rfl rfl ?_
    refine ev_nil ?_ rfl
    refine awp_seq ?_
    refine awp_block ?_
    refine awp_ghost 4 1 3 rfl (by constructor) ?_
    refine awp_loop (fun x : Nat × List Int × B => ⟨[(4, .row (intL x.2.1) 0), (0, .s (.string x.2.2))], [.row x.2.1.length 1 3]⟩) (fun x => x.2.2.size ≤ x.1 ∧ x.1 ≤ s.size ∧ x.2.1.length + x.1 ≤ s.size ∧ (charsAux x.1 x.2.2).map (x.2.1 ++ ·) = charsAux s.size s) (fun x => x.1) (s.size, [], s) [0] ?_ ⟨Nat.le_refl _, Nat.le_refl _, by simp, by simp⟩ keep0 (fun x hx => ?_)
    · all_goals (try refine le_of (by decide) ?_ ?_)
      repeat' (first | exact trivial | exact .nil | (refine CutL.cons rfl ?_ ?_) | (refine EnvLe.cons rfl ?_ ?_) | exact MvS.row | exact .row rfl | exact .frz rfl | fail)
      all_goals (try simp only [wrap_addL, wrap_addR, wrap_subL, wrap_subR]); all_goals (try (rw [wrap_i64 (by omega) (by omega)]; omega))
    obtain ⟨f, ac, t⟩ := x
    obtain ⟨h1, h2, h3, h4⟩ := hx
    simp only at h1 h2 h3 h4
    change AWp _ _ _ ⟨[(4, .row (intL ac) 0), (0, .s (.string t))], [.row ac.length 1 3]⟩ _
    refine awp_seq ?_
    refine awp_seq ?_
    refine awp_reg ?_
    refine ev_move tab_ok rfl rfl rfl ?_
    (refine ev_lenS tab_ok rfl rfl rfl rfl rfl rfl ?_)
    refine ev_igtr tab_ok rfl rfl rfl rfl ?_
    refine ev_nil ?_ rfl
    refine awp_cond rfl (fun hc => ?_) (fun hc => ?_)
    · refine awp_skip ?_
      have hc : 0 < t.size := by
        have : (0 : Int) < t.size := by simpa using hc
        omega
      obtain ⟨k, k1, k2, k3⟩ := firstR_range t
      obtain ⟨f, rfl⟩ : ∃ g, f = g + 1 := ⟨f - 1, by omega⟩
      refine awp_block ?_
      refine awp_seq ?_
      refine awp_reg ?_
      refine ev_move tab_ok rfl rfl rfl ?_
      refine ev_call rfl rfl rfl rfl rfl (first_spec t) rfl ?_
      refine ev_move tab_ok rfl rfl rfl ?_
      refine ev_extract tab_ok rfl rfl rfl rfl ?_
      refine ev_extract tab_ok rfl rfl rfl rfl ?_
      try refine ev_as (by rw [k1]) ?_
      refine ev_assign tab_ok rfl rfl rfl ?_
      refine ev_assign tab_ok rfl rfl rfl ?_
      refine ev_nil ?_ rfl
      refine awp_seq ?_
      refine awp_seq ?_
      refine awp_reg ?_
      refine ev_move tab_ok rfl rfl rfl ?_
      (refine ev_ieql tab_ok rfl rfl rfl rfl ?_)
      refine ev_nil ?_ rfl
      rw [charsAux, if_neg (by omega)] at h4
      refine awp_cond rfl (fun hc => ?_) (fun hc => ?_)
      · refine awp_seq ?_
        refine awp_reg ?_
        refine ev_assign tab_ok rfl rfl rfl ?_
        refine ev_assign tab_ok rfl rfl rfl ?_
        refine ev_nil ?_ rfl
        refine awp_ghost 2 1 3 rfl (by constructor) ?_
        refine awp_ret ?_
        have hk : (firstR t).2 = 0 := by rw [k1]; simpa using hc
        rw [if_pos hk] at h4
        refine ⟨_, [], rfl, ?_, cut_of (by decide) .nil, keep0⟩
        rw [chars17, if_neg (by omega), ← h4]
        exact .tupL (.cons (.rowL rfl) (.cons (.frz rfl) .nil))
      · refine awp_skip ?_
        have hk : ¬ (firstR t).2 = 0 := by rw [k1]; simpa using hc
        rw [if_neg hk] at h4
        refine awp_seq ?_
        refine awp_reg ?_
        refine ev_move tab_ok rfl rfl rfl ?_
        refine ev_move tab_ok rfl rfl rfl ?_
        refine ev_buildSlice tab_ok rfl rfl rfl rfl rfl rfl rfl rfl rfl rfl rfl rfl rfl rfl (by constructor) ?_
        refine ev_append tab_ok rfl rfl rfl rfl rfl rfl rfl rfl rfl rfl rfl rfl rfl rfl (by repeat constructor) (by (simp [strL_length, intL_length]; done)) (by exact one_len _) (by exact intL_len _) (by (simp only [intL_length, List.length_append, List.length_cons, List.length_nil]; omega)) (by (simp only [intL_length, List.length_append, List.length_cons, List.length_nil]; omega)) ?_
        refine ev_assign tab_ok rfl rfl rfl ?_
        refine ev_nil ?_ rfl
        refine awp_reg ?_
        refine ev_move tab_ok rfl rfl rfl ?_
        refine ev_move tab_ok rfl rfl rfl ?_
        (refine ev_slS0 tab_ok rfl rfl rfl rfl rfl rfl rfl (by omega) (by omega) ?_)
        refine ev_assign tab_ok rfl rfl rfl ?_
        refine ev_nil ?_ rfl
        refine ⟨(f, ac ++ [(firstR t).1], t.extract (firstR t).2.toNat t.size), [0], ?_, by show f < f + 1; omega, ⟨?_, by show f ≤ _; omega, ?_, ?_⟩, keep0⟩
        · all_goals (try refine le_of (by decide) ?_ ?_)
          repeat' (first | exact trivial | exact .nil | (refine CutL.cons rfl ?_ ?_) | (refine EnvLe.cons rfl ?_ ?_) | (refine Mv.rowE rfl ?_) | (refine MvS.rowE ?_) | (refine Mv.str ?_))
          all_goals (try simp only [wrap_addL, wrap_addR, wrap_subL, wrap_subR]); all_goals (try (rw [wrap_i64 (by omega) (by omega)]; omega))
          all_goals simp [intL, k1]
        · show (t.extract (firstR t).2.toNat t.size).size ≤ f
          rw [k1]; simp [ByteArray.size_extract]; omega
        · show (ac ++ [(firstR t).1]).length + f ≤ _
          simp; omega
        · rw [← h4, Option.map_map]
          congr 1
          funext l
          simp
    · refine awp_exit ?_
      have ht0 : t.size = 0 := by
        have : ¬ (0 : Int) < t.size := by simpa using hc
        omega
      refine awp_seq ?_
      refine awp_reg ?_
      refine ev_move tab_ok rfl rfl rfl ?_
      refine ev_assign tab_ok rfl rfl rfl ?_
      refine ev_assign tab_ok rfl rfl rfl ?_
      refine ev_nil ?_ rfl
      refine awp_ret ?_
      refine ⟨_, [], rfl, ?_, cut_of (by decide) .nil, keep0⟩
      have e : charsAux f t = some [] := by
        cases f with
        | zero => rfl
        | succ f => rw [charsAux, if_pos ht0]
      rw [e] at h4
      simp only [Option.map_some, List.append_nil] at h4
      rw [chars17, if_neg (by omega), ← h4]
      exact .tupL (.cons (.rowL rfl) (.cons (.frz rfl) .nil))
end Go.Proofs.Pm
end
section
namespace Go.Proofs.Pm
open Go
def dotS (s : B) : Bool := s.toList == (ByteArray.mk #[46]).toList || s.toList == (ByteArray.mk #[46, 46]).toList
def slashIn (s : B) : Bool := (List.range s.size).any fun i => byteZ s i == 47
def name18 (s : B) : Bool := !(dotS s || decide (300 < (s.size : Int))) && (!slashIn s && ((chars17 s).2 == 0 && decide (1 ≤ ((chars17 s).1.length : Int)) && decide (((chars17 s).1.length : Int) ≤ 64)))
theorem name18_spec (s : B) : FCall Tryz.prog 147 [.s (.string s)] [] (.s (.bool (name18 s))) [] := by
  refine fcall_intro tab_ok Tryz.call147 Tryz.func147 rfl rfl rfl (fun G w ι => ?_)
  refine awp_seq ?_
  refine awp_reg ?_
  refine ev_assign tab_ok rfl rfl rfl ?_
  refine ev_nil ?_ rfl
  refine awp_seq ?_
  refine awp_seq_to ⟨[(16, .s (.bool (dotS s || decide (300 < (s.size : Int))))), (0, .s (.string s))], []⟩ ?_ ?_
  · cases h1 : (s.toList == (ByteArray.mk #[46]).toList) <;> cases h2 : (s.toList == (ByteArray.mk #[46, 46]).toList)
    all_goals
      refine awp_reg ?_
      refine ev_move tab_ok rfl rfl rfl ?_
      (refine ev_seql tab_ok rfl rfl rfl rfl ?_)
      try refine ev_is (congrArg Value.bool (h1)) ?_
      refine ev_move tab_ok rfl rfl rfl ?_
      (first | refine ev_skip rfl rfl ?_ | refine ev_move tab_ok rfl rfl rfl ?_)
      (first | refine ev_skip rfl rfl ?_ | refine ev_seql tab_ok rfl rfl rfl rfl ?_)
      try refine ev_is (congrArg Value.bool (h2)) ?_
      (first | refine ev_pickT tab_ok rfl rfl rfl rfl rfl ?_ | refine ev_pickF tab_ok rfl rfl rfl rfl rfl ?_)
      refine ev_move tab_ok rfl rfl rfl ?_
      (first | refine ev_skip rfl rfl ?_ | refine ev_move tab_ok rfl rfl rfl ?_)
      (first | refine ev_skip rfl rfl ?_ | refine ev_lenS tab_ok rfl rfl rfl rfl rfl rfl ?_)
      (first | refine ev_skip rfl rfl ?_ | refine ev_igtr tab_ok rfl rfl rfl rfl ?_)
      (first | refine ev_pickT tab_ok rfl rfl rfl rfl rfl ?_ | refine ev_pickF tab_ok rfl rfl rfl rfl rfl ?_)
      refine ev_nil ?_ rfl
      refine ⟨[], le_of (by decide) .nil (EnvLe.cons rfl (Mv.bool (by unfold dotS; rw [h1, h2]; rfl)) (EnvLe.cons rfl (.frz rfl) trivial)), keep0⟩
  refine awp_cond rfl (fun hc => ?_) (fun hc0 => ?_)
  · refine awp_seq ?_
    refine awp_reg ?_
    refine ev_assign tab_ok rfl rfl rfl ?_
    refine ev_nil ?_ rfl
    refine awp_ret ?_
    exact ⟨_, [], rfl, Mv.bool (by simp only [name18, hc]; rfl), cut_of (by decide) .nil, keep0⟩
  · refine awp_skip ?_
    have hsz : s.size ≤ 300 := by
      simp only [Bool.or_eq_false_iff, decide_eq_false_iff_not] at hc0
      omega
    refine awp_seq ?_
    refine awp_seq ?_
    refine awp_reg ?_
    refine ev_assign tab_ok rfl rfl rfl ?_
    refine ev_nil ?_ rfl
    refine awp_block ?_
    refine awp_loop (fun i : Nat => ⟨[(3, .s (.int .i64 i)), (0, .s (.string s))], []⟩) (fun i => i ≤ s.size ∧ ∀ j, j < i → (byteZ s j == 47) = false) (fun i => s.size - i) 0 [] ?_ ⟨Nat.zero_le _, fun j h => by omega⟩ keep0 (fun i hi => ?_)
    · all_goals (try refine le_of (by decide) ?_ ?_)
      repeat' (first | exact trivial | exact .nil | (refine EnvLe.cons rfl ?_ ?_) | exact .frz rfl | fail)
      all_goals (try simp only [wrap_addL, wrap_addR, wrap_subL, wrap_subR]); all_goals (try (rw [wrap_i64 (by omega) (by omega)]; omega))
    refine awp_seq ?_
    refine awp_seq ?_
    refine awp_reg ?_
    refine ev_move tab_ok rfl rfl rfl ?_
    refine ev_move tab_ok rfl rfl rfl ?_
    (refine ev_lenS tab_ok rfl rfl rfl rfl rfl rfl ?_)
    (refine ev_ilss tab_ok rfl rfl rfl rfl ?_)
    refine ev_nil ?_ rfl
    refine awp_cond rfl (fun hc => ?_) (fun hc => ?_)
    · refine awp_skip ?_
      have hlt : i < s.size := by
        have : (i : Int) < s.size := by simpa using hc
        omega
      refine awp_seq ?_
      refine awp_block ?_
      refine awp_seq ?_
      refine awp_reg ?_
      refine ev_move tab_ok rfl rfl rfl ?_
      refine ev_move tab_ok rfl rfl rfl ?_
      refine ev_idxStr tab_ok rfl rfl rfl rfl rfl rfl rfl (by omega) (by rw [Int.toNat_natCast]; exact byte_at hlt) ?_
      (refine ev_ieql tab_ok rfl rfl rfl rfl ?_)
      refine ev_nil ?_ rfl
      refine awp_cond rfl (fun hc => ?_) (fun hc => ?_)
      · refine awp_seq ?_
        refine awp_reg ?_
        refine ev_assign tab_ok rfl rfl rfl ?_
        refine ev_nil ?_ rfl
        refine awp_ret ?_
        have e : slashIn s = true := by
          rw [slashIn, List.any_eq_true]
          exact ⟨i, List.mem_range.2 hlt, hc⟩
        exact ⟨_, [], rfl, Mv.bool (by simp [name18, e]), cut_of (by decide) .nil, keep0⟩
      · refine awp_skip ?_
        refine awp_reg ?_
        refine ev_move tab_ok rfl rfl rfl ?_
        (refine ev_iadd tab_ok rfl rfl rfl rfl ?_)
        refine ev_assign tab_ok rfl rfl rfl ?_
        refine ev_nil ?_ rfl
        refine ⟨i + 1, [], ?_, by omega, ⟨hlt, fun j hj => ?_⟩, keep0⟩
        · all_goals (try refine le_of (by decide) ?_ ?_)
          repeat' (first | exact trivial | exact .nil | (refine EnvLe.cons rfl ?_ ?_) | exact .frz rfl | (refine Mv.int ?_) | fail)
          all_goals (try simp only [wrap_addL, wrap_addR, wrap_subL, wrap_subR]); all_goals (try (rw [wrap_i64 (by omega) (by omega)]; omega))
        by_cases e : j = i
        · subst e; exact hc
        · exact hi.2 j (by omega)
    · refine awp_exit ?_
      have hge : i = s.size := by
        have : ¬ (i : Int) < s.size := by simpa using hc
        omega
      subst hge
      have e : slashIn s = false := by
        rw [slashIn, List.any_eq_false]
        intro j hj
        simpa using hi.2 j (List.mem_range.1 hj)
      refine awp_seq ?_
      refine awp_reg ?_
      refine ev_move tab_ok rfl rfl rfl ?_
      refine ev_call rfl rfl rfl rfl rfl (chars_spec s) rfl ?_
      refine ev_move tab_ok rfl rfl rfl ?_
      refine ev_extract tab_ok rfl rfl rfl rfl ?_
      refine ev_extract tab_ok rfl rfl rfl rfl ?_
      refine ev_assign tab_ok rfl rfl rfl ?_
      refine ev_assign tab_ok rfl rfl rfl ?_
      refine ev_nil ?_ rfl
      cases h1 : ((chars17 s).2 == 0) <;> cases h2 : decide (1 ≤ ((chars17 s).1.length : Int))
      all_goals
        refine awp_seq ?_
        refine awp_reg ?_
        refine ev_move tab_ok rfl rfl rfl ?_
        (refine ev_ieql tab_ok rfl rfl rfl rfl ?_)
        try refine ev_is (congrArg Value.bool (h1)) ?_
        refine ev_move tab_ok rfl rfl rfl ?_
        (first | refine ev_skip rfl rfl ?_ | refine ev_move tab_ok rfl rfl rfl ?_)
        (first | refine ev_skip rfl rfl ?_ | refine ev_lenL tab_ok rfl rfl rfl rfl rfl rfl ?_)
        try refine ev_as (by rw [intL_length]) ?_
        (first | refine ev_skip rfl rfl ?_ | refine ev_igeq tab_ok rfl rfl rfl rfl ?_)
        try refine ev_is (congrArg Value.bool (h2)) ?_
        (first | refine ev_pickT tab_ok rfl rfl rfl rfl rfl ?_ | refine ev_pickF tab_ok rfl rfl rfl rfl rfl ?_)
        refine ev_move tab_ok rfl rfl rfl ?_
        (first | refine ev_skip rfl rfl ?_ | refine ev_move tab_ok rfl rfl rfl ?_)
        (first | refine ev_skip rfl rfl ?_ | refine ev_lenL tab_ok rfl rfl rfl rfl rfl rfl ?_)
        try refine ev_as (by rw [intL_length]) ?_
        (first | refine ev_skip rfl rfl ?_ | refine ev_ileq tab_ok rfl rfl rfl rfl ?_)
        (first | refine ev_pickT tab_ok rfl rfl rfl rfl rfl ?_ | refine ev_pickF tab_ok rfl rfl rfl rfl rfl ?_)
        refine ev_assign tab_ok rfl rfl rfl ?_
        refine ev_nil ?_ rfl
        refine awp_ret ?_
        exact ⟨_, [], rfl, Mv.bool (by simp [name18, hc0, e, h1, h2]), cut_of (by decide) .nil, keep0⟩
end Go.Proofs.Pm
end
section
namespace Go.Proofs.Pm
open Go
theorem drop_byte {s : B} {i : Nat} (h : i < s.size) : s.data.toList.drop i = byte s i :: s.data.toList.drop (i + 1) := by
  have hl : i < s.data.toList.length := by simpa using h
  rw [List.drop_eq_getElem_cons hl]
  congr 1
  unfold byte
  rw [getElem?_pos s i h]
  simp [ByteArray.getElem_eq_getElem_data]
theorem extract_byte {s : B} {i : Nat} (h : i < s.size) : s.extract i (i + 1) = ⟨#[byte s i]⟩ := by
  have hd := drop_byte h
  apply ByteArray.ext
  apply Array.toList_inj.1
  rw [ByteArray.data_extract, Array.toList_extract, List.extract_eq_take_drop, hd]
  simp
def splitAux (c : UInt8) : List UInt8 → B → List B
  | [], part => [part]
  | b :: r, part => if b = c then part :: splitAux c r ⟨#[]⟩ else splitAux c r (part ++ ⟨#[b]⟩)
def split18 (s : B) (c : UInt8) : List B := splitAux c s.data.toList ⟨#[]⟩
theorem split_spec (s : B) (c : UInt8) (hs : s.size ≤ 4398046511104) : FCall Tryz.prog 66 [.s (.string s), .s (.int .u8 (c.toNat : Int))] [] (.list (strL (split18 s c))) [] := by
  refine fcall_intro tab_ok Tryz.call66 Tryz.func66 rfl rfl rfl (fun G w ι => ?_)
  refine awp_seq ?_
  refine awp_reg ?_
  refine ev_assign tab_ok rfl rfl rfl ?_
  refine ev_nil ?_ rfl
  refine awp_seq ?_
  refine awp_reg ?_
  refine ev_bs0 tab_ok rfl rfl rfl rfl rfl rfl rfl (by constructor) ?_
  refine ev_assign tab_ok rfl rfl rfl ?_
  refine ev_nil ?_ rfl
  refine awp_seq ?_
  refine awp_reg ?_
  refine ev_assign tab_ok rfl rfl rfl ?_
  refine ev_nil ?_ rfl
  refine awp_seq ?_
  refine awp_seq ?_
  refine awp_reg ?_
  refine ev_assign tab_ok rfl rfl rfl ?_
  refine ev_nil ?_ rfl
  refine awp_block ?_
  refine awp_loop (fun x : Nat × List B × B => ⟨[(7, .s (.int .i64 x.1)), (5, .row (strL x.2.1) 0), (6, .s (.string x.2.2)), (0, .s (.string s)), (1, .s (.int .u8 (c.toNat : Int)))], [.row x.2.1.length 1 9]⟩) (fun x => x.1 ≤ s.size ∧ x.2.1.length ≤ x.1 ∧ x.2.2.size ≤ x.1 ∧ x.2.1 ++ splitAux c (s.data.toList.drop x.1) x.2.2 = split18 s c) (fun x => s.size - x.1) (0, [], ⟨#[]⟩) [0] ?_ ⟨Nat.zero_le _, Nat.le_refl _, Nat.le_refl _, by simp [split18]⟩ keep0 (fun x hx => ?_)
  · all_goals (try refine le_of (by decide) ?_ ?_)
    repeat' (first | exact trivial | exact .nil | (refine CutL.cons rfl ?_ ?_) | (refine EnvLe.cons rfl ?_ ?_) | exact MvS.row | exact .row rfl | exact .frz rfl | fail)
    all_goals (try simp only [wrap_addL, wrap_addR, wrap_subL, wrap_subR]); all_goals (try (rw [wrap_i64 (by omega) (by omega)]; omega))
  obtain ⟨i, out, part⟩ := x
  obtain ⟨h1, h2, h3, h4⟩ := hx
  simp only at h1 h2 h3 h4
  change AWp _ _ _ ⟨[(7, .s (.int .i64 i)), (5, .row (strL out) 0), (6, .s (.string part)), (0, .s (.string s)), (1, .s (.int .u8 (c.toNat : Int)))], [.row out.length 1 9]⟩ _
  refine awp_seq ?_
  refine awp_seq ?_
  refine awp_reg ?_
  refine ev_move tab_ok rfl rfl rfl ?_
  refine ev_move tab_ok rfl rfl rfl ?_
  (refine ev_lenS tab_ok rfl rfl rfl rfl rfl rfl ?_)
  (refine ev_ilss tab_ok rfl rfl rfl rfl ?_)
  refine ev_nil ?_ rfl
  refine awp_cond rfl (fun hc => ?_) (fun hc => ?_)
  · refine awp_skip ?_
    have hlt : i < s.size := by
      have : (i : Int) < s.size := by simpa using hc
      omega
    rw [drop_byte hlt, splitAux] at h4
    refine awp_seq ?_
    refine awp_block ?_
    refine awp_seq ?_
    refine awp_reg ?_
    refine ev_move tab_ok rfl rfl rfl ?_
    refine ev_move tab_ok rfl rfl rfl ?_
    refine ev_idxStr tab_ok rfl rfl rfl rfl rfl rfl rfl (by omega) (by rw [Int.toNat_natCast]; exact byte_at hlt) ?_
    refine ev_move tab_ok rfl rfl rfl ?_
    (refine ev_ieql tab_ok rfl rfl rfl rfl ?_)
    refine ev_nil ?_ rfl
    refine awp_cond rfl (fun hc => ?_) (fun hc => ?_)
    · have hb : byte s i = c := by
        have : ((byte s i).toNat : Int) = (c.toNat : Int) := by simpa using hc
        exact UInt8.toNat_inj.1 (by omega)
      rw [if_pos hb] at h4
      refine awp_seq ?_
      refine awp_reg ?_
      refine ev_move tab_ok rfl rfl rfl ?_
      refine ev_move tab_ok rfl rfl rfl ?_
      refine ev_buildSlice tab_ok rfl rfl rfl rfl rfl rfl rfl rfl rfl rfl rfl rfl rfl rfl (by constructor) ?_
      refine ev_append tab_ok rfl rfl rfl rfl rfl rfl rfl rfl rfl rfl rfl rfl rfl rfl (by repeat constructor) (by (simp [strL_length, intL_length]; done)) (by exact one_len _) (by exact strL_len _) (by (simp only [strL_length, List.length_append, List.length_cons, List.length_nil]; omega)) (by (simp only [strL_length, List.length_append, List.length_cons, List.length_nil]; omega)) ?_
      refine ev_assign tab_ok rfl rfl rfl ?_
      refine ev_nil ?_ rfl
      refine awp_reg ?_
      refine ev_assign tab_ok rfl rfl rfl ?_
      refine ev_nil ?_ rfl
      refine awp_reg ?_
      refine ev_move tab_ok rfl rfl rfl ?_
      (refine ev_iadd tab_ok rfl rfl rfl rfl ?_)
      refine ev_assign tab_ok rfl rfl rfl ?_
      refine ev_nil ?_ rfl
      refine ⟨(i + 1, out ++ [part], ⟨#[]⟩), [0], ?_, by show s.size - (i + 1) < s.size - i; omega, ⟨hlt, by simp; omega, Nat.zero_le _, by simpa using h4⟩, keep0⟩
      all_goals (try refine le_of (by decide) ?_ ?_)
      repeat' (first | exact trivial | exact .nil | (refine CutL.cons rfl ?_ ?_) | (refine EnvLe.cons rfl ?_ ?_) | exact .frz rfl | (refine Mv.rowE rfl ?_) | (refine MvS.rowE ?_) | (refine Mv.int ?_) | fail)
      all_goals (try simp only [wrap_addL, wrap_addR, wrap_subL, wrap_subR]); all_goals (try (rw [wrap_i64 (by omega) (by omega)]; omega))
      all_goals simp [strL]
    · have hb : ¬ byte s i = c := by
        intro e
        subst e
        simp at hc
      rw [if_neg hb] at h4
      have e1 : IntKind.i64.wrap ((i : Int) + 1) = ((i + 1 : Nat) : Int) := by rw [wrap_i64 (by omega) (by omega)]; omega
      have e2 : part.size + (s.extract i (i + 1)).size ≤ 9223372036854775807 := by rw [extract_byte hlt, bsize1]; omega
      refine awp_reg ?_
      refine ev_move tab_ok rfl rfl rfl ?_
      refine ev_move tab_ok rfl rfl rfl ?_
      refine ev_move tab_ok rfl rfl rfl ?_
      refine ev_move tab_ok rfl rfl rfl ?_
      (refine ev_iadd tab_ok rfl rfl rfl rfl ?_)
      try refine ev_as (by rw [e1]) ?_
      refine ev_slS2 tab_ok rfl rfl rfl rfl rfl rfl rfl rfl (by omega) (by omega) (by omega) ?_
      (refine ev_sadd tab_ok rfl rfl rfl rfl (by assumption) ?_)
      refine ev_assign tab_ok rfl rfl rfl ?_
      refine ev_nil ?_ rfl
      refine awp_reg ?_
      refine ev_move tab_ok rfl rfl rfl ?_
      (refine ev_iadd tab_ok rfl rfl rfl rfl ?_)
      refine ev_assign tab_ok rfl rfl rfl ?_
      refine ev_nil ?_ rfl
      refine ⟨(i + 1, out, part ++ ⟨#[byte s i]⟩), [0], ?_, by show s.size - (i + 1) < s.size - i; omega, ⟨hlt, by show out.length ≤ i + 1; omega, by show (part ++ _).size ≤ i + 1; rw [ByteArray.size_append, bsize1]; omega, h4⟩, keep0⟩
      all_goals (try refine le_of (by decide) ?_ ?_)
      repeat' (first | exact trivial | exact .nil | (refine CutL.cons rfl ?_ ?_) | (refine EnvLe.cons rfl ?_ ?_) | exact MvS.row | exact .row rfl | exact .frz rfl | (refine Mv.int ?_) | (refine Mv.str ?_))
      all_goals (try simp only [wrap_addL, wrap_addR, wrap_subL, wrap_subR]); all_goals (try (rw [wrap_i64 (by omega) (by omega)]; omega))
      simp only [Int.toNat_natCast]
      rw [extract_byte hlt]
  · refine awp_exit ?_
    have hge : i = s.size := by
      have : ¬ (i : Int) < s.size := by simpa using hc
      omega
    subst hge
    refine awp_seq ?_
    refine awp_reg ?_
    refine ev_move tab_ok rfl rfl rfl ?_
    refine ev_move tab_ok rfl rfl rfl ?_
    refine ev_buildSlice tab_ok rfl rfl rfl rfl rfl rfl rfl rfl rfl rfl rfl rfl rfl rfl (by constructor) ?_
    refine ev_append tab_ok rfl rfl rfl rfl rfl rfl rfl rfl rfl rfl rfl rfl rfl rfl (by repeat constructor) (by (simp [strL_length, intL_length]; done)) (by exact one_len _) (by exact strL_len _) (by (simp only [strL_length, List.length_append, List.length_cons, List.length_nil]; omega)) (by (simp only [strL_length, List.length_append, List.length_cons, List.length_nil]; omega)) ?_
    refine ev_assign tab_ok rfl rfl rfl ?_
    refine ev_nil ?_ rfl
    refine awp_ret ?_
    refine ⟨_, [], rfl, Mv.rowL ?_, cut_of (by decide) .nil, keep0⟩
    rw [← h4, List.drop_of_length_le (by simp), splitAux, strL_append]
    rfl
def ranged18 (x : Node) : Bool := decide (0 ≤ x.mode) && decide (x.mode ≤ 4095) && decide (0 ≤ x.uid) && decide (x.uid ≤ 65535) && decide (0 ≤ x.gid) && decide (x.gid ≤ 65535) && decide (315532800 ≤ x.time) && decide (x.time ≤ 4102444799) && decide (-1048576 ≤ x.weight) && decide (x.weight ≤ 1048576) && decide (0 ≤ x.hidden) && decide (x.hidden ≤ 15)
theorem ranged_spec (x : Node) : FCall Tryz.prog 149 [.agg (nodeC x)] [] (.s (.bool (ranged18 x))) [] := by
  refine fcall_intro tab_ok Tryz.call149 Tryz.func149 rfl rfl rfl (fun G w ι => ?_)
  refine awp_seq ?_
  refine awp_reg ?_
  refine ev_box rfl rfl rfl rfl (by constructor) ?_
  refine ev_assign tab_ok rfl rfl rfl ?_
  refine ev_nil ?_ rfl
  refine awp_seq_to ⟨[(2, .s (.bool (ranged18 x)))], []⟩ ?_ ?_
  · refine awp_reg ?_
    all_goals (refine ev_faB tab_ok rfl rfl rfl rfl rfl rfl rfl ?_)
    all_goals (refine ev_loadB tab_ok rfl rfl rfl rfl rfl rfl rfl ?_)
    all_goals refine ev_igeq tab_ok rfl rfl rfl rfl ?_
    all_goals refine ev_move tab_ok rfl rfl rfl ?_
    all_goals ((refine ev_split rfl rfl rfl (fun hg => ?_) (fun hg => ?_) <;> (first | refine ev_skip rfl rfl ?_ | refine ev_faB tab_ok rfl rfl rfl rfl rfl rfl rfl ?_)))
    all_goals (first | refine ev_skip rfl rfl ?_ | refine ev_loadB tab_ok rfl rfl rfl rfl rfl rfl rfl ?_)
    all_goals (first | refine ev_skip rfl rfl ?_ | refine ev_ileq tab_ok rfl rfl rfl rfl ?_)
    all_goals (first | refine ev_pickT tab_ok rfl rfl rfl rfl rfl ?_ | refine ev_pickF tab_ok rfl rfl rfl rfl rfl ?_)
    all_goals refine ev_move tab_ok rfl rfl rfl ?_
    all_goals (first | refine ev_skip rfl rfl ?_ | (refine ev_split rfl rfl rfl (fun hg => ?_) (fun hg => ?_) <;> (first | refine ev_skip rfl rfl ?_ | refine ev_faB tab_ok rfl rfl rfl rfl rfl rfl rfl ?_)))
    all_goals (first | refine ev_skip rfl rfl ?_ | refine ev_loadB tab_ok rfl rfl rfl rfl rfl rfl rfl ?_)
    all_goals (first | refine ev_skip rfl rfl ?_ | refine ev_igeq tab_ok rfl rfl rfl rfl ?_)
    all_goals (first | refine ev_pickT tab_ok rfl rfl rfl rfl rfl ?_ | refine ev_pickF tab_ok rfl rfl rfl rfl rfl ?_)
    all_goals refine ev_move tab_ok rfl rfl rfl ?_
    all_goals (first | refine ev_skip rfl rfl ?_ | (refine ev_split rfl rfl rfl (fun hg => ?_) (fun hg => ?_) <;> (first | refine ev_skip rfl rfl ?_ | refine ev_faB tab_ok rfl rfl rfl rfl rfl rfl rfl ?_)))
    all_goals (first | refine ev_skip rfl rfl ?_ | refine ev_loadB tab_ok rfl rfl rfl rfl rfl rfl rfl ?_)
    all_goals (first | refine ev_skip rfl rfl ?_ | refine ev_ileq tab_ok rfl rfl rfl rfl ?_)
    all_goals (first | refine ev_pickT tab_ok rfl rfl rfl rfl rfl ?_ | refine ev_pickF tab_ok rfl rfl rfl rfl rfl ?_)
    all_goals refine ev_move tab_ok rfl rfl rfl ?_
    all_goals (first | refine ev_skip rfl rfl ?_ | (refine ev_split rfl rfl rfl (fun hg => ?_) (fun hg => ?_) <;> (first | refine ev_skip rfl rfl ?_ | refine ev_faB tab_ok rfl rfl rfl rfl rfl rfl rfl ?_)))
    all_goals (first | refine ev_skip rfl rfl ?_ | refine ev_loadB tab_ok rfl rfl rfl rfl rfl rfl rfl ?_)
    all_goals (first | refine ev_skip rfl rfl ?_ | refine ev_igeq tab_ok rfl rfl rfl rfl ?_)
    all_goals (first | refine ev_pickT tab_ok rfl rfl rfl rfl rfl ?_ | refine ev_pickF tab_ok rfl rfl rfl rfl rfl ?_)
    all_goals refine ev_move tab_ok rfl rfl rfl ?_
    all_goals (first | refine ev_skip rfl rfl ?_ | (refine ev_split rfl rfl rfl (fun hg => ?_) (fun hg => ?_) <;> (first | refine ev_skip rfl rfl ?_ | refine ev_faB tab_ok rfl rfl rfl rfl rfl rfl rfl ?_)))
    all_goals (first | refine ev_skip rfl rfl ?_ | refine ev_loadB tab_ok rfl rfl rfl rfl rfl rfl rfl ?_)
    all_goals (first | refine ev_skip rfl rfl ?_ | refine ev_ileq tab_ok rfl rfl rfl rfl ?_)
    all_goals (first | refine ev_pickT tab_ok rfl rfl rfl rfl rfl ?_ | refine ev_pickF tab_ok rfl rfl rfl rfl rfl ?_)
    all_goals refine ev_move tab_ok rfl rfl rfl ?_
    all_goals (first | refine ev_skip rfl rfl ?_ | (refine ev_split rfl rfl rfl (fun hg => ?_) (fun hg => ?_) <;> (first | refine ev_skip rfl rfl ?_ | refine ev_faB tab_ok rfl rfl rfl rfl rfl rfl rfl ?_)))
    all_goals (first | refine ev_skip rfl rfl ?_ | refine ev_loadB tab_ok rfl rfl rfl rfl rfl rfl rfl ?_)
    all_goals (first | refine ev_skip rfl rfl ?_ | refine ev_igeq tab_ok rfl rfl rfl rfl ?_)
    all_goals (first | refine ev_pickT tab_ok rfl rfl rfl rfl rfl ?_ | refine ev_pickF tab_ok rfl rfl rfl rfl rfl ?_)
    all_goals refine ev_move tab_ok rfl rfl rfl ?_
    all_goals (first | refine ev_skip rfl rfl ?_ | (refine ev_split rfl rfl rfl (fun hg => ?_) (fun hg => ?_) <;> (first | refine ev_skip rfl rfl ?_ | refine ev_faB tab_ok rfl rfl rfl rfl rfl rfl rfl ?_)))
    all_goals (first | refine ev_skip rfl rfl ?_ | refine ev_loadB tab_ok rfl rfl rfl rfl rfl rfl rfl ?_)
    all_goals (first | refine ev_skip rfl rfl ?_ | refine ev_ileq tab_ok rfl rfl rfl rfl ?_)
    all_goals (first | refine ev_pickT tab_ok rfl rfl rfl rfl rfl ?_ | refine ev_pickF tab_ok rfl rfl rfl rfl rfl ?_)
    all_goals refine ev_move tab_ok rfl rfl rfl ?_
    all_goals (first | refine ev_skip rfl rfl ?_ | (refine ev_split rfl rfl rfl (fun hg => ?_) (fun hg => ?_) <;> (first | refine ev_skip rfl rfl ?_ | refine ev_faB tab_ok rfl rfl rfl rfl rfl rfl rfl ?_)))
    all_goals (first | refine ev_skip rfl rfl ?_ | refine ev_loadB tab_ok rfl rfl rfl rfl rfl rfl rfl ?_)
    all_goals (first | refine ev_skip rfl rfl ?_ | refine ev_igeq tab_ok rfl rfl rfl rfl ?_)
    all_goals (first | refine ev_pickT tab_ok rfl rfl rfl rfl rfl ?_ | refine ev_pickF tab_ok rfl rfl rfl rfl rfl ?_)
    all_goals refine ev_move tab_ok rfl rfl rfl ?_
    all_goals (first | refine ev_skip rfl rfl ?_ | (refine ev_split rfl rfl rfl (fun hg => ?_) (fun hg => ?_) <;> (first | refine ev_skip rfl rfl ?_ | refine ev_faB tab_ok rfl rfl rfl rfl rfl rfl rfl ?_)))
    all_goals (first | refine ev_skip rfl rfl ?_ | refine ev_loadB tab_ok rfl rfl rfl rfl rfl rfl rfl ?_)
    all_goals (first | refine ev_skip rfl rfl ?_ | refine ev_ileq tab_ok rfl rfl rfl rfl ?_)
    all_goals (first | refine ev_pickT tab_ok rfl rfl rfl rfl rfl ?_ | refine ev_pickF tab_ok rfl rfl rfl rfl rfl ?_)
    all_goals refine ev_move tab_ok rfl rfl rfl ?_
    all_goals (first | refine ev_skip rfl rfl ?_ | (refine ev_split rfl rfl rfl (fun hg => ?_) (fun hg => ?_) <;> (first | refine ev_skip rfl rfl ?_ | refine ev_faB tab_ok rfl rfl rfl rfl rfl rfl rfl ?_)))
    all_goals (first | refine ev_skip rfl rfl ?_ | refine ev_loadB tab_ok rfl rfl rfl rfl rfl rfl rfl ?_)
    all_goals (first | refine ev_skip rfl rfl ?_ | refine ev_igeq tab_ok rfl rfl rfl rfl ?_)
    all_goals (first | refine ev_pickT tab_ok rfl rfl rfl rfl rfl ?_ | refine ev_pickF tab_ok rfl rfl rfl rfl rfl ?_)
    all_goals refine ev_move tab_ok rfl rfl rfl ?_
    all_goals (first | refine ev_skip rfl rfl ?_ | (refine ev_split rfl rfl rfl (fun hg => ?_) (fun hg => ?_) <;> (first | refine ev_skip rfl rfl ?_ | refine ev_faB tab_ok rfl rfl rfl rfl rfl rfl rfl ?_)))
    all_goals (first | refine ev_skip rfl rfl ?_ | refine ev_loadB tab_ok rfl rfl rfl rfl rfl rfl rfl ?_)
    all_goals (first | refine ev_skip rfl rfl ?_ | refine ev_ileq tab_ok rfl rfl rfl rfl ?_)
    all_goals (first | refine ev_pickT tab_ok rfl rfl rfl rfl rfl ?_ | refine ev_pickF tab_ok rfl rfl rfl rfl rfl ?_)
    all_goals refine ev_assign tab_ok rfl rfl rfl ?_
    all_goals refine ev_nil ?_ rfl
    all_goals (refine ⟨[], le_of (by decide) .nil (EnvLe.cons rfl (Mv.bool ?_) trivial), keep0⟩; first | (simp_all [ranged18]; done) | (simp_all [ranged18]; omega))
  · refine awp_ret ?_
    exact ⟨_, [], rfl, .frz rfl, cut_of (by decide) .nil, keep0⟩
def large18 (x : Node) (level : Nat) : Bool := decide (16 < level) || decide (262144 < x.data.size) || decide (64 < x.kids.length) || decide (4 < x.streams.length) || x.streams.any fun s => decide (262144 < s.2.size)
theorem large_spec (x : Node) (level : Nat) (hb : x.bulk ≤ 1099511627776) : FCall Tryz.prog 150 [.agg (nodeC x), .s (.int .i64 level)] [] (.s (.bool (large18 x level))) [] := by
  have hs := streams_len x
  refine fcall_intro tab_ok Tryz.call150 Tryz.func150 rfl rfl rfl (fun G w ι => ?_)
  refine awp_seq ?_
  refine awp_reg ?_
  refine ev_box rfl rfl rfl rfl (by constructor) ?_
  refine ev_assign tab_ok rfl rfl rfl ?_
  refine ev_nil ?_ rfl
  refine awp_seq ?_
  refine awp_seq_to ⟨[(25, .s (.bool (decide (16 < level) || decide (262144 < x.data.size) || decide (64 < x.kids.length) || decide (4 < x.streams.length)))), (2, .ptr 0 0)], [.box (nodeC x) 25]⟩ ?_ ?_
  · refine awp_reg ?_
    all_goals refine ev_move tab_ok rfl rfl rfl ?_
    all_goals refine ev_igtr tab_ok rfl rfl rfl rfl ?_
    all_goals refine ev_move tab_ok rfl rfl rfl ?_
    all_goals ((refine ev_split rfl rfl rfl (fun hg => ?_) (fun hg => ?_) <;> (first | refine ev_skip rfl rfl ?_ | refine ev_faB tab_ok rfl rfl rfl rfl rfl rfl rfl ?_)))
    all_goals (first | refine ev_skip rfl rfl ?_ | refine ev_loadB tab_ok rfl rfl rfl rfl rfl rfl rfl ?_)
    all_goals (first | refine ev_skip rfl rfl ?_ | refine ev_lenS tab_ok rfl rfl rfl rfl rfl rfl ?_)
    all_goals (first | refine ev_skip rfl rfl ?_ | refine ev_igtr tab_ok rfl rfl rfl rfl ?_)
    all_goals (first | refine ev_pickT tab_ok rfl rfl rfl rfl rfl ?_ | refine ev_pickF tab_ok rfl rfl rfl rfl rfl ?_)
    all_goals refine ev_move tab_ok rfl rfl rfl ?_
    all_goals (first | refine ev_skip rfl rfl ?_ | (refine ev_split rfl rfl rfl (fun hg => ?_) (fun hg => ?_) <;> (first | refine ev_skip rfl rfl ?_ | refine ev_faB tab_ok rfl rfl rfl rfl rfl rfl rfl ?_)))
    all_goals (first | refine ev_skip rfl rfl ?_ | refine ev_loadB tab_ok rfl rfl rfl rfl rfl rfl rfl ?_)
    all_goals (first | refine ev_skip rfl rfl ?_ | refine ev_lenL tab_ok rfl rfl rfl rfl rfl rfl ?_)
    all_goals (first | refine ev_skip rfl rfl ?_ | refine ev_igtr tab_ok rfl rfl rfl rfl ?_)
    all_goals (first | refine ev_pickT tab_ok rfl rfl rfl rfl rfl ?_ | refine ev_pickF tab_ok rfl rfl rfl rfl rfl ?_)
    all_goals refine ev_move tab_ok rfl rfl rfl ?_
    all_goals (first | refine ev_skip rfl rfl ?_ | (refine ev_split rfl rfl rfl (fun hg => ?_) (fun hg => ?_) <;> (first | refine ev_skip rfl rfl ?_ | refine ev_faB tab_ok rfl rfl rfl rfl rfl rfl rfl ?_)))
    all_goals (first | refine ev_skip rfl rfl ?_ | refine ev_loadB tab_ok rfl rfl rfl rfl rfl rfl rfl ?_)
    all_goals (first | refine ev_skip rfl rfl ?_ | refine ev_lenL tab_ok rfl rfl rfl rfl rfl rfl ?_)
    all_goals (first | refine ev_skip rfl rfl ?_ | refine ev_igtr tab_ok rfl rfl rfl rfl ?_)
    all_goals (first | refine ev_pickT tab_ok rfl rfl rfl rfl rfl ?_ | refine ev_pickF tab_ok rfl rfl rfl rfl rfl ?_)
    all_goals refine ev_nil ?_ rfl
    all_goals (refine ⟨[0], le_of (by decide) (.cons rfl (.box (mvl_closed rfl)) .nil) (EnvLe.cons rfl (Mv.bool ?_) (EnvLe.cons rfl (.ptr rfl) trivial)), keep0⟩)
    all_goals (first | (simp_all [kidsC_length]; omega) | (simp_all [kidsC_length]; rw [Bool.eq_iff_iff]; simp; omega))
  refine awp_cond rfl (fun hc => ?_) (fun hc => ?_)
  · refine awp_seq ?_
    refine awp_reg ?_
    refine ev_assign tab_ok rfl rfl rfl ?_
    refine ev_nil ?_ rfl
    refine awp_ret ?_
    exact ⟨_, [], rfl, Mv.bool (by rw [large18, hc]; rfl), cut_of (by decide) .nil, keep0⟩
  · refine awp_skip ?_
    refine awp_seq ?_
    refine awp_seq ?_
    refine awp_reg ?_
    refine ev_assign tab_ok rfl rfl rfl ?_
    refine ev_nil ?_ rfl
    refine awp_block ?_
    refine awp_loop (fun i : Nat => ⟨[(5, .s (.int .i64 i)), (2, .ptr 0 0)], [.box (nodeC x) 25]⟩) (fun i => i ≤ x.streams.length ∧ ∀ (j : Nat) (h : j < x.streams.length), j < i → decide (262144 < x.streams[j].2.size) = false) (fun i => x.streams.length - i) 0 [0] ?_ ⟨Nat.zero_le _, fun j _ h => by omega⟩ keep0 (fun i hi => ?_)
    · all_goals (try refine le_of (by decide) ?_ ?_)
      repeat' (first | exact trivial | exact .nil | (refine CutL.cons rfl ?_ ?_) | (refine EnvLe.cons rfl ?_ ?_) | (refine MvS.box (mvl_closed rfl)) | exact .ptr rfl | exact .frz rfl | fail)
      all_goals (try simp only [wrap_addL, wrap_addR, wrap_subL, wrap_subR]); all_goals (try (rw [wrap_i64 (by omega) (by omega)]; omega))
    refine awp_seq ?_
    refine awp_seq ?_
    refine awp_reg ?_
    refine ev_move tab_ok rfl rfl rfl ?_
    (refine ev_faB tab_ok rfl rfl rfl rfl rfl rfl rfl ?_)
    (refine ev_loadB tab_ok rfl rfl rfl rfl rfl rfl rfl ?_)
    (refine ev_lenL tab_ok rfl rfl rfl rfl rfl rfl ?_)
    (refine ev_ilss tab_ok rfl rfl rfl rfl ?_)
    refine ev_nil ?_ rfl
    refine awp_cond rfl (fun hc => ?_) (fun hc2 => ?_)
    · refine awp_skip ?_
      have hlt : i < x.streams.length := by simpa using hc
      have hx : x.streams[i]? = some x.streams[i] := List.getElem?_eq_getElem hlt
      refine awp_seq ?_
      refine awp_block ?_
      refine awp_seq ?_
      refine awp_reg ?_
      (refine ev_faB tab_ok rfl rfl rfl rfl rfl rfl rfl ?_)
      (refine ev_loadB tab_ok rfl rfl rfl rfl rfl rfl rfl ?_)
      refine ev_move tab_ok rfl rfl rfl ?_
      (refine ev_iaL tab_ok rfl rfl rfl rfl rfl rfl rfl rfl rfl (by omega) (by rw [Int.toNat_natCast]; exact strC_get hx) rfl ?_)
      (refine ev_faE tab_ok rfl rfl rfl rfl rfl rfl rfl rfl ?_)
      (refine ev_loadE tab_ok rfl rfl rfl rfl rfl rfl ?_)
      (refine ev_lenS tab_ok rfl rfl rfl rfl rfl rfl ?_)
      refine ev_igtr tab_ok rfl rfl rfl rfl ?_
      refine ev_nil ?_ rfl
      refine awp_cond rfl (fun hc => ?_) (fun hc => ?_)
      · refine awp_seq ?_
        refine awp_reg ?_
        refine ev_assign tab_ok rfl rfl rfl ?_
        refine ev_nil ?_ rfl
        refine awp_ret ?_
        have e : (x.streams.any fun s => decide (262144 < s.2.size)) = true := by
          rw [List.any_eq_true]
          exact ⟨_, List.getElem_mem hlt, by have : (262144 : Int) < x.streams[i].2.size := by simpa using hc
                                             simp; omega⟩
        exact ⟨_, [], rfl, Mv.bool (by rw [large18, e, Bool.or_true]), cut_of (by decide) .nil, keep0⟩
      · refine awp_skip ?_
        refine awp_reg ?_
        refine ev_move tab_ok rfl rfl rfl ?_
        (refine ev_iadd tab_ok rfl rfl rfl rfl ?_)
        refine ev_assign tab_ok rfl rfl rfl ?_
        refine ev_nil ?_ rfl
        refine ⟨i + 1, [0], ?_, by omega, ⟨hlt, fun j h hj => ?_⟩, keep0⟩
        · all_goals (try refine le_of (by decide) ?_ ?_)
          repeat' (first | exact trivial | exact .nil | (refine CutL.cons rfl ?_ ?_) | (refine EnvLe.cons rfl ?_ ?_) | (refine MvS.box (mvl_closed rfl)) | exact .ptr rfl | (refine Mv.int ?_) | fail)
          all_goals (try simp only [wrap_addL, wrap_addR, wrap_subL, wrap_subR]); all_goals (try (rw [wrap_i64 (by omega) (by omega)]; omega))
        by_cases e : j = i
        · subst e
          have : ¬ (262144 : Int) < x.streams[j].2.size := by simpa using hc
          simp; omega
        · exact hi.2 j h (by omega)
    · refine awp_exit ?_
      have hge : i = x.streams.length := by
        have : ¬ i < x.streams.length := by simpa using hc2
        omega
      subst hge
      refine awp_seq ?_
      refine awp_reg ?_
      refine ev_assign tab_ok rfl rfl rfl ?_
      refine ev_nil ?_ rfl
      refine awp_ret ?_
      have e : (x.streams.any fun s => decide (262144 < s.2.size)) = false := by
        rw [List.any_eq_false]
        intro y hy
        obtain ⟨j, hj, rfl⟩ := List.getElem_of_mem hy
        have := hi.2 j hj hj
        rw [this]; decide
      exact ⟨_, [], rfl, Mv.bool (by rw [large18, hc, e]; rfl), cut_of (by decide) .nil, keep0⟩
end Go.Proofs.Pm
end
section
namespace Go.Proofs.Pm
open Go
def tail18 (s : B) : B := if byte s 0 = 47 then s.extract 1 s.size else s
def partBad (p : B) : Bool := !(p.toList == (ByteArray.mk #[46]).toList) && !(p.toList == (ByteArray.mk #[46, 46]).toList) && !name18 p
def target18 (s : B) : Bool := !(decide (s.size < 1) || decide (128 < s.size)) && ((s.toList == (ByteArray.mk #[47]).toList) || !((split18 (tail18 s) 47).any partBad))
theorem splitAux_length (c : UInt8) : ∀ (l : List UInt8) (p : B), (splitAux c l p).length ≤ l.length + 1
  | [], p => by simp [splitAux]
  | b :: r, p => by
    rw [splitAux]
    split
    · have := splitAux_length c r ⟨#[]⟩; simp; omega
    · have := splitAux_length c r (p ++ ⟨#[b]⟩); simp; omega
theorem target_spec (s : B) : FCall Tryz.prog 148 [.s (.string s)] [] (.s (.bool (target18 s))) [] := by
  refine fcall_intro tab_ok Tryz.call148 Tryz.func148 rfl rfl rfl (fun G w ι => ?_)
  refine awp_seq ?_
  refine awp_reg ?_
  refine ev_assign tab_ok rfl rfl rfl ?_
  refine ev_nil ?_ rfl
  refine awp_seq ?_
  refine awp_seq_to ⟨[(12, .s (.bool (decide (s.size < 1) || decide (128 < s.size)))), (0, .s (.string s))], []⟩ ?_ ?_
  · refine awp_reg ?_
    all_goals refine ev_move tab_ok rfl rfl rfl ?_
    all_goals (refine ev_lenS tab_ok rfl rfl rfl rfl rfl rfl ?_)
    all_goals (refine ev_ilss tab_ok rfl rfl rfl rfl ?_)
    all_goals refine ev_move tab_ok rfl rfl rfl ?_
    all_goals ((refine ev_split rfl rfl rfl (fun hg => ?_) (fun hg => ?_) <;> (first | refine ev_skip rfl rfl ?_ | refine ev_move tab_ok rfl rfl rfl ?_)))
    all_goals (first | refine ev_skip rfl rfl ?_ | refine ev_lenS tab_ok rfl rfl rfl rfl rfl rfl ?_)
    all_goals (first | refine ev_skip rfl rfl ?_ | refine ev_igtr tab_ok rfl rfl rfl rfl ?_)
    all_goals (first | refine ev_pickT tab_ok rfl rfl rfl rfl rfl ?_ | refine ev_pickF tab_ok rfl rfl rfl rfl rfl ?_)
    all_goals refine ev_nil ?_ rfl
    all_goals (refine ⟨[], le_of (by decide) .nil (EnvLe.cons rfl (Mv.bool ?_) (EnvLe.cons rfl (.frz rfl) trivial)), keep0⟩)
    · have h3 : s.size < 1 := by
        have : (s.size : Int) < 1 := of_decide_eq_true hg
        omega
      rw [decide_eq_true h3]; rfl
    · have h3 : ¬ s.size < 1 := by
        have : ¬ (s.size : Int) < 1 := of_decide_eq_false hg
        omega
      rw [decide_eq_false h3, Bool.false_or, decide_eq_decide]
      omega
  refine awp_cond rfl (fun hc => ?_) (fun hc => ?_)
  · refine awp_seq ?_
    refine awp_reg ?_
    refine ev_assign tab_ok rfl rfl rfl ?_
    refine ev_nil ?_ rfl
    refine awp_ret ?_
    exact ⟨_, [], rfl, Mv.bool (by rw [target18, hc]; rfl), cut_of (by decide) .nil, keep0⟩
  · have hs : 1 ≤ s.size ∧ s.size ≤ 128 := by
      simp only [Bool.or_eq_false_iff, decide_eq_false_iff_not] at hc
      omega
    have ht : target18 s = ((s.toList == (ByteArray.mk #[47]).toList) || !((split18 (tail18 s) 47).any partBad)) := by rw [target18, hc]; rfl
    have hts : (tail18 s).size ≤ 128 := by
      unfold tail18
      split
      · simp [ByteArray.size_extract]; omega
      · omega
    have hpl : (split18 (tail18 s) 47).length ≤ 129 := by
      have := splitAux_length 47 (tail18 s).data.toList ⟨#[]⟩
      have e : (tail18 s).data.toList.length = (tail18 s).size := by simp
      unfold split18; omega
    refine awp_skip ?_
    refine awp_seq ?_
    refine awp_seq ?_
    refine awp_reg ?_
    refine ev_move tab_ok rfl rfl rfl ?_
    (refine ev_seql tab_ok rfl rfl rfl rfl ?_)
    refine ev_nil ?_ rfl
    refine awp_cond rfl (fun hc => ?_) (fun hc => ?_)
    · refine awp_seq ?_
      refine awp_reg ?_
      refine ev_assign tab_ok rfl rfl rfl ?_
      refine ev_nil ?_ rfl
      refine awp_ret ?_
      exact ⟨_, [], rfl, Mv.bool (by rw [ht, hc]; rfl), cut_of (by decide) .nil, keep0⟩
    · rw [hc, Bool.false_or] at ht
      refine awp_skip ?_
      refine awp_seq_to ⟨[(0, .s (.string (tail18 s)))], []⟩ ?_ ?_
      · refine awp_seq ?_
        refine awp_reg ?_
        refine ev_move tab_ok rfl rfl rfl ?_
        refine ev_idxStr tab_ok rfl rfl rfl rfl rfl rfl rfl (by omega) (show s[0]? = _ from byte_at (by omega)) ?_
        (refine ev_ieql tab_ok rfl rfl rfl rfl ?_)
        refine ev_nil ?_ rfl
        refine awp_cond rfl (fun hc => ?_) (fun hc => ?_)
        · have hb : byte s 0 = 47 := by
            have : ((byte s 0).toNat : Int) = 47 := by simpa using hc
            exact UInt8.toNat_inj.1 (by show (byte s 0).toNat = 47; omega)
          refine awp_reg ?_
          refine ev_move tab_ok rfl rfl rfl ?_
          (refine ev_slS0 tab_ok rfl rfl rfl rfl rfl rfl rfl (by omega) (by omega) ?_)
          refine ev_assign tab_ok rfl rfl rfl ?_
          refine ev_nil ?_ rfl
          refine ⟨[], le_of (by decide) .nil (EnvLe.cons rfl (Mv.str ?_) trivial), keep0⟩
          rw [tail18, if_pos hb]; rfl
        · have hb : ¬ byte s 0 = 47 := by
            intro e
            rw [e] at hc
            cases hc
          refine awp_skip ?_
          refine ⟨[], le_of (by decide) .nil (EnvLe.cons rfl (Mv.str ?_) trivial), keep0⟩
          rw [tail18, if_neg hb]
      refine awp_seq ?_
      refine awp_reg ?_
      refine ev_move tab_ok rfl rfl rfl ?_
      refine ev_call rfl rfl rfl rfl rfl (split_spec (tail18 s) 47 (by omega)) rfl ?_
      refine ev_assign tab_ok rfl rfl rfl ?_
      refine ev_nil ?_ rfl
      refine awp_seq ?_
      refine awp_seq ?_
      refine awp_reg ?_
      refine ev_assign tab_ok rfl rfl rfl ?_
      refine ev_nil ?_ rfl
      generalize split18 (tail18 s) 47 = ps at *
      refine awp_block ?_
      refine awp_loop (fun i : Nat => ⟨[(4, .s (.int .i64 i)), (3, .list (strL ps))], []⟩) (fun i => i ≤ ps.length ∧ ∀ (j : Nat) (h : j < ps.length), j < i → partBad ps[j] = false) (fun i => ps.length - i) 0 [] ?_ ⟨Nat.zero_le _, fun j _ h => by omega⟩ keep0 (fun i hi => ?_)
      · all_goals (try refine le_of (by decide) ?_ ?_)
        repeat' (first | exact trivial | exact .nil | (refine EnvLe.cons rfl ?_ ?_) | exact .frz rfl | fail)
        all_goals (try simp only [wrap_addL, wrap_addR, wrap_subL, wrap_subR]); all_goals (try (rw [wrap_i64 (by omega) (by omega)]; omega))
      refine awp_seq ?_
      refine awp_seq ?_
      refine awp_reg ?_
      refine ev_move tab_ok rfl rfl rfl ?_
      refine ev_move tab_ok rfl rfl rfl ?_
      (refine ev_lenL tab_ok rfl rfl rfl rfl rfl rfl ?_)
      (refine ev_ilss tab_ok rfl rfl rfl rfl ?_)
      refine ev_nil ?_ rfl
      refine awp_cond rfl (fun hc => ?_) (fun hc => ?_)
      · refine awp_skip ?_
        have hlt : i < ps.length := by simpa [strL_length] using hc
        have hx : ps[i]? = some ps[i] := List.getElem?_eq_getElem hlt
        refine awp_seq ?_
        refine awp_block ?_
        refine awp_seq_to ⟨[(47, .s (.bool (partBad ps[i]))), (4, .s (.int .i64 i)), (3, .list (strL ps))], []⟩ ?_ ?_
        · cases h1 : !(ps[i].toList == (ByteArray.mk #[46]).toList) <;> cases h2 : !(ps[i].toList == (ByteArray.mk #[46, 46]).toList)
          all_goals
            refine awp_reg ?_
            refine ev_move tab_ok rfl rfl rfl ?_
            refine ev_move tab_ok rfl rfl rfl ?_
            (refine ev_iaL tab_ok rfl rfl rfl rfl rfl rfl rfl rfl rfl (by omega) (by rw [Int.toNat_natCast]; exact strL_get hx) rfl ?_)
            (refine ev_loadE tab_ok rfl rfl rfl rfl rfl rfl ?_)
            (refine ev_sneq tab_ok rfl rfl rfl rfl ?_)
            try refine ev_is (congrArg Value.bool (h1)) ?_
            refine ev_move tab_ok rfl rfl rfl ?_
            (first | refine ev_skip rfl rfl ?_ | refine ev_move tab_ok rfl rfl rfl ?_)
            (first | refine ev_skip rfl rfl ?_ | refine ev_move tab_ok rfl rfl rfl ?_)
            (first | refine ev_skip rfl rfl ?_ | refine ev_iaL tab_ok rfl rfl rfl rfl rfl rfl rfl rfl rfl (by omega) (by rw [Int.toNat_natCast]; exact strL_get hx) rfl ?_)
            (first | refine ev_skip rfl rfl ?_ | refine ev_loadE tab_ok rfl rfl rfl rfl rfl rfl ?_)
            (first | refine ev_skip rfl rfl ?_ | refine ev_sneq tab_ok rfl rfl rfl rfl ?_)
            try refine ev_is (congrArg Value.bool (h2)) ?_
            (first | refine ev_pickT tab_ok rfl rfl rfl rfl rfl ?_ | refine ev_pickF tab_ok rfl rfl rfl rfl rfl ?_)
            refine ev_move tab_ok rfl rfl rfl ?_
            (first | refine ev_skip rfl rfl ?_ | refine ev_move tab_ok rfl rfl rfl ?_)
            (first | refine ev_skip rfl rfl ?_ | refine ev_move tab_ok rfl rfl rfl ?_)
            (first | refine ev_skip rfl rfl ?_ | refine ev_iaL tab_ok rfl rfl rfl rfl rfl rfl rfl rfl rfl (by omega) (by rw [Int.toNat_natCast]; exact strL_get hx) rfl ?_)
            (first | refine ev_skip rfl rfl ?_ | refine ev_loadE tab_ok rfl rfl rfl rfl rfl rfl ?_)
            (first | refine ev_skip rfl rfl ?_ | refine ev_call rfl rfl rfl rfl rfl (name18_spec ps[i]) rfl ?_)
            (first | refine ev_skip rfl rfl ?_ | refine ev_not tab_ok rfl rfl rfl ?_)
            (first | refine ev_pickT tab_ok rfl rfl rfl rfl rfl ?_ | refine ev_pickF tab_ok rfl rfl rfl rfl rfl ?_)
            refine ev_nil ?_ rfl
            refine ⟨[], le_of (by decide) .nil (EnvLe.cons rfl (Mv.bool (by unfold partBad; rw [h1, h2]; rfl)) (EnvLe.cons rfl (.frz rfl) (EnvLe.cons rfl (.frz rfl) trivial))), keep0⟩
        refine awp_cond rfl (fun hc => ?_) (fun hc => ?_)
        · refine awp_seq ?_
          refine awp_reg ?_
          refine ev_assign tab_ok rfl rfl rfl ?_
          refine ev_nil ?_ rfl
          refine awp_ret ?_
          exact ⟨_, [], rfl, Mv.bool (by rw [ht, List.any_eq_true.2 ⟨_, List.getElem_mem hlt, hc⟩]; rfl), cut_of (by decide) .nil, keep0⟩
        · refine awp_skip ?_
          refine awp_reg ?_
          refine ev_move tab_ok rfl rfl rfl ?_
          (refine ev_iadd tab_ok rfl rfl rfl rfl ?_)
          refine ev_assign tab_ok rfl rfl rfl ?_
          refine ev_nil ?_ rfl
          refine ⟨i + 1, [], ?_, by omega, ⟨hlt, before_succ hlt hi.2 hc⟩, keep0⟩
          all_goals (try refine le_of (by decide) ?_ ?_)
          repeat' (first | exact trivial | exact .nil | (refine EnvLe.cons rfl ?_ ?_) | exact .frz rfl | (refine Mv.int ?_) | fail)
          all_goals (try simp only [wrap_addL, wrap_addR, wrap_subL, wrap_subR]); all_goals (try (rw [wrap_i64 (by omega) (by omega)]; omega))
      · refine awp_exit ?_
        have hge : i = ps.length := by
          have : ¬ i < ps.length := by simpa [strL_length] using hc
          omega
        subst hge
        refine awp_seq ?_
        refine awp_reg ?_
        refine ev_assign tab_ok rfl rfl rfl ?_
        refine ev_nil ?_ rfl
        refine awp_ret ?_
        have e : ps.any partBad = false := by
          rw [List.any_eq_false]
          intro y hy
          obtain ⟨j, hj, rfl⟩ := List.getElem_of_mem hy
          rw [hi.2 j hj hj]; decide
        exact ⟨_, [], rfl, Mv.bool (by rw [ht, e]; rfl), cut_of (by decide) .nil, keep0⟩
end Go.Proofs.Pm
end
section
namespace Go.Proofs.Pm
open Go
def nE (s : B) : Bool := !(s.toList == (ByteArray.mk #[]).toList)
def kindBad (x : Node) (level : Nat) : Bool := decide (x.kind < 0) || decide (2 < x.kind) || (((level : Int) == 1) && (x.kind != 0))
def nameBad (x : Node) (level : Nat) : Bool := (((level : Int) == 1) && nE x.name) || (decide (1 < (level : Int)) && !name18 x.name)
def partsBad (x : Node) : Bool := ((x.kind != 1) && (nE x.data || decide (0 < (x.streams.length : Int)))) || ((x.kind != 2) && nE x.target) || ((x.kind != 0) && decide (0 < (x.kids.length : Int)))
def targetBad (x : Node) : Bool := (x.kind == 2) && !target18 x.target
def less (a b : B) : Bool := Op.bytesLess a.toList b.toList
def streamErr (ss : List (B × B)) (i : Nat) : Int :=
  match ss[i]?, ss[i - 1]? with
  | some s, some p => if name18 s.1 = false then 4 else if decide (0 < i) && (s.1.toList == p.1.toList) then 5 else if decide (0 < i) && less s.1 p.1 then 1 else 0
  | _, _ => 0
def kidErr (ks : List Node) (i : Nat) : Int :=
  match ks[i]?, ks[i - 1]? with
  | some s, some p => if s.name.toList == p.name.toList then 5 else if less s.name p.name then 1 else 0
  | _, _ => 0
def firstErr (f : Nat → Int) (lo n : Nat) : Int := (((List.range n).filter (fun i => decide (lo ≤ i))).map f).find? (· != 0) |>.getD 0
def one18 (x : Node) (level : Nat) : Int :=
  if kindBad x level then 1 else if nameBad x level then 4 else if partsBad x then 1 else if targetBad x then 4 else if ranged18 x = false then 2 else if large18 x level then 7
  else if firstErr (streamErr x.streams) 0 x.streams.length ≠ 0 then firstErr (streamErr x.streams) 0 x.streams.length else firstErr (kidErr x.kids) 1 x.kids.length
theorem firstErr_at {f : Nat → Int} {lo n i : Nat} (hl : lo ≤ i) (hi : i < n) (hb : ∀ j, lo ≤ j → j < i → f j = 0) (hf : f i ≠ 0) : firstErr f lo n = f i := by
  unfold firstErr
  have : ((((List.range n).filter (fun i => decide (lo ≤ i))).map f).find? (· != 0)) = some (f i) := by
    have hn : n = i + (n - i) := by omega
    rw [hn, List.range_add, List.filter_append, List.map_append, List.find?_append]
    have e1 : (((List.range i).filter (fun i => decide (lo ≤ i))).map f).find? (· != 0) = none := by
      rw [List.find?_eq_none]
      intro y hy
      obtain ⟨j, hj, rfl⟩ := List.mem_map.1 hy
      rw [List.mem_filter, List.mem_range] at hj
      simp [hb j (by simpa using hj.2) hj.1]
    rw [e1]
    obtain ⟨m, hm⟩ : ∃ m, n - i = m + 1 := ⟨n - i - 1, by omega⟩
    rw [hm, List.range_succ_eq_map]
    simp [hl, hf]
  rw [this]; rfl
theorem firstErr_none {f : Nat → Int} {lo n : Nat} (hb : ∀ j, lo ≤ j → j < n → f j = 0) : firstErr f lo n = 0 := by
  unfold firstErr
  have : ((((List.range n).filter (fun i => decide (lo ≤ i))).map f).find? (· != 0)) = none := by
    rw [List.find?_eq_none]
    intro y hy
    obtain ⟨j, hj, rfl⟩ := List.mem_map.1 hy
    rw [List.mem_filter, List.mem_range] at hj
    simp [hb j (by simpa using hj.2) hj.1]
  rw [this]; rfl
theorem one_spec (x : Node) (level : Nat) (hb : x.bulk ≤ 1099511627776) (hl : 1 ≤ level ∧ level ≤ 2199023255552) : FCall Tryz.prog 128 [.agg (nodeC x), .s (.int .i64 level)] [] (.s (.int .i64 (one18 x level))) [] := by
  refine fcall_intro tab_ok Tryz.call128 Tryz.func128 rfl rfl rfl (fun G w ι => ?_)
  refine awp_seq ?_
  refine awp_reg ?_
  refine ev_box rfl rfl rfl rfl (by constructor) ?_
  refine ev_assign tab_ok rfl rfl rfl ?_
  refine ev_nil ?_ rfl
  refine awp_seq ?_
  refine awp_seq_to ⟨[(23, .s (.bool (kindBad x level))), (2, .ptr 0 0), (1, .s (.int .i64 level))], [.box (nodeC x) 25]⟩ ?_ ?_
  · refine awp_reg ?_
    all_goals (refine ev_faB tab_ok rfl rfl rfl rfl rfl rfl rfl ?_)
    all_goals (refine ev_loadB tab_ok rfl rfl rfl rfl rfl rfl rfl ?_)
    all_goals (refine ev_ilss tab_ok rfl rfl rfl rfl ?_)
    all_goals refine ev_move tab_ok rfl rfl rfl ?_
    all_goals ((refine ev_split rfl rfl rfl (fun hg => ?_) (fun hg => ?_) <;> (first | refine ev_skip rfl rfl ?_ | refine ev_faB tab_ok rfl rfl rfl rfl rfl rfl rfl ?_)))
    all_goals (first | refine ev_skip rfl rfl ?_ | refine ev_loadB tab_ok rfl rfl rfl rfl rfl rfl rfl ?_)
    all_goals (first | refine ev_skip rfl rfl ?_ | refine ev_igtr tab_ok rfl rfl rfl rfl ?_)
    all_goals (first | refine ev_pickT tab_ok rfl rfl rfl rfl rfl ?_ | refine ev_pickF tab_ok rfl rfl rfl rfl rfl ?_)
    all_goals refine ev_move tab_ok rfl rfl rfl ?_
    all_goals (first | refine ev_skip rfl rfl ?_ | (refine ev_split rfl rfl rfl (fun hg => ?_) (fun hg => ?_) <;> (first | refine ev_skip rfl rfl ?_ | refine ev_move tab_ok rfl rfl rfl ?_)))
    all_goals (first | refine ev_skip rfl rfl ?_ | refine ev_ieql tab_ok rfl rfl rfl rfl ?_)
    all_goals (first | refine ev_skip rfl rfl ?_ | refine ev_move tab_ok rfl rfl rfl ?_)
    all_goals (first | refine ev_skip rfl rfl ?_ | (refine ev_split rfl rfl rfl (fun hg => ?_) (fun hg => ?_) <;> (first | refine ev_skip rfl rfl ?_ | refine ev_faB tab_ok rfl rfl rfl rfl rfl rfl rfl ?_)))
    all_goals (first | refine ev_skip rfl rfl ?_ | refine ev_loadB tab_ok rfl rfl rfl rfl rfl rfl rfl ?_)
    all_goals (first | refine ev_skip rfl rfl ?_ | refine ev_ineq tab_ok rfl rfl rfl rfl ?_)
    all_goals (first | refine ev_skip rfl rfl ?_ | refine ev_pickT tab_ok rfl rfl rfl rfl rfl ?_ | refine ev_pickF tab_ok rfl rfl rfl rfl rfl ?_)
    all_goals (first | refine ev_pickT tab_ok rfl rfl rfl rfl rfl ?_ | refine ev_pickF tab_ok rfl rfl rfl rfl rfl ?_)
    all_goals refine ev_nil ?_ rfl
    all_goals (refine ⟨[0], le_of (by decide) (.cons rfl (.box (mvl_closed rfl)) .nil) (EnvLe.cons rfl (Mv.bool ?_) (EnvLe.cons rfl (.ptr rfl) (EnvLe.cons rfl (.frz rfl) trivial))), keep0⟩)
    all_goals (first | (simp_all [kindBad]; done) | (simp_all [kindBad]; omega))
  refine awp_cond rfl (fun hc => ?_) (fun h1 => ?_)
  · refine awp_seq ?_
    refine awp_reg ?_
    refine ev_assign tab_ok rfl rfl rfl ?_
    refine ev_nil ?_ rfl
    refine awp_ret ?_
    exact ⟨_, [], rfl, Mv.int (by rw [one18, if_pos hc]), cut_of (by decide) .nil, keep0⟩
  refine awp_skip ?_
  refine awp_seq ?_
  refine awp_seq_to ⟨[(40, .s (.bool (nameBad x level))), (2, .ptr 0 0), (1, .s (.int .i64 level))], [.box (nodeC x) 25]⟩ ?_ ?_
  · refine awp_reg ?_
    all_goals refine ev_move tab_ok rfl rfl rfl ?_
    all_goals (refine ev_ieql tab_ok rfl rfl rfl rfl ?_)
    all_goals refine ev_move tab_ok rfl rfl rfl ?_
    all_goals ((refine ev_split rfl rfl rfl (fun hg => ?_) (fun hg => ?_) <;> (first | refine ev_skip rfl rfl ?_ | refine ev_faB tab_ok rfl rfl rfl rfl rfl rfl rfl ?_)))
    all_goals (first | refine ev_skip rfl rfl ?_ | refine ev_loadB tab_ok rfl rfl rfl rfl rfl rfl rfl ?_)
    all_goals (first | refine ev_skip rfl rfl ?_ | refine ev_sneq tab_ok rfl rfl rfl rfl ?_)
    all_goals (first | refine ev_pickT tab_ok rfl rfl rfl rfl rfl ?_ | refine ev_pickF tab_ok rfl rfl rfl rfl rfl ?_)
    all_goals refine ev_move tab_ok rfl rfl rfl ?_
    all_goals (first | refine ev_move tab_ok rfl rfl rfl ?_ | (refine ev_split rfl rfl rfl (fun hg => ?_) (fun hg => ?_) <;> (first | refine ev_skip rfl rfl ?_ | refine ev_move tab_ok rfl rfl rfl ?_)))
    all_goals (first | refine ev_skip rfl rfl ?_ | refine ev_igtr tab_ok rfl rfl rfl rfl ?_)
    all_goals (first | refine ev_skip rfl rfl ?_ | refine ev_move tab_ok rfl rfl rfl ?_)
    all_goals (first | refine ev_skip rfl rfl ?_ | (refine ev_split rfl rfl rfl (fun hg => ?_) (fun hg => ?_) <;> (first | refine ev_skip rfl rfl ?_ | refine ev_faB tab_ok rfl rfl rfl rfl rfl rfl rfl ?_)))
    all_goals (first | refine ev_skip rfl rfl ?_ | refine ev_loadB tab_ok rfl rfl rfl rfl rfl rfl rfl ?_)
    all_goals (first | refine ev_skip rfl rfl ?_ | refine ev_call rfl rfl rfl rfl rfl (name18_spec x.name) rfl ?_)
    all_goals (first | refine ev_skip rfl rfl ?_ | refine ev_not tab_ok rfl rfl rfl ?_)
    all_goals (first | refine ev_skip rfl rfl ?_ | refine ev_pickT tab_ok rfl rfl rfl rfl rfl ?_ | refine ev_pickF tab_ok rfl rfl rfl rfl rfl ?_)
    all_goals (first | refine ev_pickT tab_ok rfl rfl rfl rfl rfl ?_ | refine ev_pickF tab_ok rfl rfl rfl rfl rfl ?_)
    all_goals refine ev_nil ?_ rfl
    all_goals (refine ⟨[0], le_of (by decide) (.cons rfl (.box (mvl_closed rfl)) .nil) (EnvLe.cons rfl (Mv.bool ?_) (EnvLe.cons rfl (.ptr rfl) (EnvLe.cons rfl (.frz rfl) trivial))), keep0⟩)
    all_goals (first | (simp_all [nameBad, nE]; done) | (simp_all [nameBad, nE]; omega))
  refine awp_cond rfl (fun hc => ?_) (fun h2 => ?_)
  · refine awp_seq ?_
    refine awp_reg ?_
    refine ev_assign tab_ok rfl rfl rfl ?_
    refine ev_nil ?_ rfl
    refine awp_ret ?_
    exact ⟨_, [], rfl, Mv.int (by rw [one18, h1, if_neg (by simp), if_pos hc]), cut_of (by decide) .nil, keep0⟩
  refine awp_skip ?_
  refine awp_seq ?_
  refine awp_seq_to ⟨[(75, .s (.bool (partsBad x))), (2, .ptr 0 0), (1, .s (.int .i64 level))], [.box (nodeC x) 25]⟩ ?_ ?_
  · refine awp_reg ?_
    all_goals (refine ev_faB tab_ok rfl rfl rfl rfl rfl rfl rfl ?_)
    all_goals (refine ev_loadB tab_ok rfl rfl rfl rfl rfl rfl rfl ?_)
    all_goals (refine ev_ineq tab_ok rfl rfl rfl rfl ?_)
    all_goals refine ev_move tab_ok rfl rfl rfl ?_
    all_goals ((refine ev_split rfl rfl rfl (fun hg => ?_) (fun hg => ?_) <;> (first | refine ev_skip rfl rfl ?_ | refine ev_faB tab_ok rfl rfl rfl rfl rfl rfl rfl ?_)))
    all_goals (first | refine ev_skip rfl rfl ?_ | refine ev_loadB tab_ok rfl rfl rfl rfl rfl rfl rfl ?_)
    all_goals (first | refine ev_skip rfl rfl ?_ | refine ev_sneq tab_ok rfl rfl rfl rfl ?_)
    all_goals (first | refine ev_skip rfl rfl ?_ | refine ev_move tab_ok rfl rfl rfl ?_)
    all_goals (first | refine ev_skip rfl rfl ?_ | (refine ev_split rfl rfl rfl (fun hg => ?_) (fun hg => ?_) <;> (first | refine ev_skip rfl rfl ?_ | refine ev_faB tab_ok rfl rfl rfl rfl rfl rfl rfl ?_)))
    all_goals (first | refine ev_skip rfl rfl ?_ | refine ev_loadB tab_ok rfl rfl rfl rfl rfl rfl rfl ?_)
    all_goals (first | refine ev_skip rfl rfl ?_ | refine ev_lenL tab_ok rfl rfl rfl rfl rfl rfl ?_)
    all_goals (first | refine ev_skip rfl rfl ?_ | refine ev_igtr tab_ok rfl rfl rfl rfl ?_)
    all_goals (first | refine ev_skip rfl rfl ?_ | refine ev_pickT tab_ok rfl rfl rfl rfl rfl ?_ | refine ev_pickF tab_ok rfl rfl rfl rfl rfl ?_)
    all_goals (first | refine ev_pickT tab_ok rfl rfl rfl rfl rfl ?_ | refine ev_pickF tab_ok rfl rfl rfl rfl rfl ?_)
    all_goals refine ev_move tab_ok rfl rfl rfl ?_
    all_goals (first | refine ev_skip rfl rfl ?_ | refine ev_faB tab_ok rfl rfl rfl rfl rfl rfl rfl ?_ | (refine ev_split rfl rfl rfl (fun hg => ?_) (fun hg => ?_) <;> (first | refine ev_skip rfl rfl ?_ | refine ev_faB tab_ok rfl rfl rfl rfl rfl rfl rfl ?_)))
    all_goals (first | refine ev_skip rfl rfl ?_ | refine ev_loadB tab_ok rfl rfl rfl rfl rfl rfl rfl ?_)
    all_goals (first | refine ev_skip rfl rfl ?_ | refine ev_ineq tab_ok rfl rfl rfl rfl ?_)
    all_goals (first | refine ev_skip rfl rfl ?_ | refine ev_move tab_ok rfl rfl rfl ?_)
    all_goals (first | refine ev_skip rfl rfl ?_ | (refine ev_split rfl rfl rfl (fun hg => ?_) (fun hg => ?_) <;> (first | refine ev_skip rfl rfl ?_ | refine ev_faB tab_ok rfl rfl rfl rfl rfl rfl rfl ?_)))
    all_goals (first | refine ev_skip rfl rfl ?_ | refine ev_loadB tab_ok rfl rfl rfl rfl rfl rfl rfl ?_)
    all_goals (first | refine ev_skip rfl rfl ?_ | refine ev_sneq tab_ok rfl rfl rfl rfl ?_)
    all_goals (first | refine ev_skip rfl rfl ?_ | refine ev_pickT tab_ok rfl rfl rfl rfl rfl ?_ | refine ev_pickF tab_ok rfl rfl rfl rfl rfl ?_)
    all_goals (first | refine ev_pickT tab_ok rfl rfl rfl rfl rfl ?_ | refine ev_pickF tab_ok rfl rfl rfl rfl rfl ?_)
    all_goals refine ev_move tab_ok rfl rfl rfl ?_
    all_goals (first | refine ev_skip rfl rfl ?_ | refine ev_faB tab_ok rfl rfl rfl rfl rfl rfl rfl ?_ | (refine ev_split rfl rfl rfl (fun hg => ?_) (fun hg => ?_) <;> (first | refine ev_skip rfl rfl ?_ | refine ev_faB tab_ok rfl rfl rfl rfl rfl rfl rfl ?_)))
    all_goals (first | refine ev_skip rfl rfl ?_ | refine ev_loadB tab_ok rfl rfl rfl rfl rfl rfl rfl ?_)
    all_goals (first | refine ev_skip rfl rfl ?_ | refine ev_ineq tab_ok rfl rfl rfl rfl ?_)
    all_goals (first | refine ev_skip rfl rfl ?_ | refine ev_move tab_ok rfl rfl rfl ?_)
    all_goals (first | refine ev_skip rfl rfl ?_ | (refine ev_split rfl rfl rfl (fun hg => ?_) (fun hg => ?_) <;> (first | refine ev_skip rfl rfl ?_ | refine ev_faB tab_ok rfl rfl rfl rfl rfl rfl rfl ?_)))
    all_goals (first | refine ev_skip rfl rfl ?_ | refine ev_loadB tab_ok rfl rfl rfl rfl rfl rfl rfl ?_)
    all_goals (first | refine ev_skip rfl rfl ?_ | refine ev_lenL tab_ok rfl rfl rfl rfl rfl rfl ?_)
    all_goals (first | refine ev_skip rfl rfl ?_ | refine ev_igtr tab_ok rfl rfl rfl rfl ?_)
    all_goals (first | refine ev_skip rfl rfl ?_ | refine ev_pickT tab_ok rfl rfl rfl rfl rfl ?_ | refine ev_pickF tab_ok rfl rfl rfl rfl rfl ?_)
    all_goals (first | refine ev_pickT tab_ok rfl rfl rfl rfl rfl ?_ | refine ev_pickF tab_ok rfl rfl rfl rfl rfl ?_)
    all_goals refine ev_nil ?_ rfl
    all_goals (refine ⟨[0], le_of (by decide) (.cons rfl (.box (mvl_closed rfl)) .nil) (EnvLe.cons rfl (Mv.bool ?_) (EnvLe.cons rfl (.ptr rfl) (EnvLe.cons rfl (.frz rfl) trivial))), keep0⟩)
    all_goals ((simp_all [partsBad, nE, kidsC_length]; done))
  refine awp_cond rfl (fun hc => ?_) (fun h3 => ?_)
  · refine awp_seq ?_
    refine awp_reg ?_
    refine ev_assign tab_ok rfl rfl rfl ?_
    refine ev_nil ?_ rfl
    refine awp_ret ?_
    exact ⟨_, [], rfl, Mv.int (by rw [one18, h1, h2, if_neg (by simp), if_neg (by simp), if_pos hc]), cut_of (by decide) .nil, keep0⟩
  refine awp_skip ?_
  refine awp_seq ?_
  refine awp_seq_to ⟨[(84, .s (.bool (targetBad x))), (2, .ptr 0 0), (1, .s (.int .i64 level))], [.box (nodeC x) 25]⟩ ?_ ?_
  · refine awp_reg ?_
    all_goals (refine ev_faB tab_ok rfl rfl rfl rfl rfl rfl rfl ?_)
    all_goals (refine ev_loadB tab_ok rfl rfl rfl rfl rfl rfl rfl ?_)
    all_goals (refine ev_ieql tab_ok rfl rfl rfl rfl ?_)
    all_goals refine ev_move tab_ok rfl rfl rfl ?_
    all_goals ((refine ev_split rfl rfl rfl (fun hg => ?_) (fun hg => ?_) <;> (first | refine ev_skip rfl rfl ?_ | refine ev_faB tab_ok rfl rfl rfl rfl rfl rfl rfl ?_)))
    all_goals (first | refine ev_skip rfl rfl ?_ | refine ev_loadB tab_ok rfl rfl rfl rfl rfl rfl rfl ?_)
    all_goals (first | refine ev_skip rfl rfl ?_ | refine ev_call rfl rfl rfl rfl rfl (target_spec x.target) rfl ?_)
    all_goals (first | refine ev_skip rfl rfl ?_ | refine ev_not tab_ok rfl rfl rfl ?_)
    all_goals (first | refine ev_pickT tab_ok rfl rfl rfl rfl rfl ?_ | refine ev_pickF tab_ok rfl rfl rfl rfl rfl ?_)
    all_goals refine ev_nil ?_ rfl
    all_goals (refine ⟨[0], le_of (by decide) (.cons rfl (.box (mvl_closed rfl)) .nil) (EnvLe.cons rfl (Mv.bool ?_) (EnvLe.cons rfl (.ptr rfl) (EnvLe.cons rfl (.frz rfl) trivial))), keep0⟩)
    all_goals ((simp_all [targetBad]; done))
  refine awp_cond rfl (fun hc => ?_) (fun h4 => ?_)
  · refine awp_seq ?_
    refine awp_reg ?_
    refine ev_assign tab_ok rfl rfl rfl ?_
    refine ev_nil ?_ rfl
    refine awp_ret ?_
    exact ⟨_, [], rfl, Mv.int (by rw [one18, h1, h2, h3, if_neg (by simp), if_neg (by simp), if_neg (by simp), if_pos hc]), cut_of (by decide) .nil, keep0⟩
  refine awp_skip ?_
  refine awp_seq ?_
  refine awp_seq ?_
  refine awp_reg ?_
  (refine ev_loadB tab_ok rfl rfl rfl rfl rfl rfl rfl ?_)
  refine ev_call rfl rfl rfl rfl rfl (ranged_spec x) rfl ?_
  refine ev_not tab_ok rfl rfl rfl ?_
  refine ev_nil ?_ rfl
  refine awp_cond rfl (fun hc => ?_) (fun h5 => ?_)
  · refine awp_seq ?_
    refine awp_reg ?_
    refine ev_assign tab_ok rfl rfl rfl ?_
    refine ev_nil ?_ rfl
    refine awp_ret ?_
    exact ⟨_, [], rfl, Mv.int (by rw [one18, h1, h2, h3, h4, if_neg (by simp), if_neg (by simp), if_neg (by simp), if_neg (by simp), if_pos (by simpa using hc)]), cut_of (by decide) .nil, keep0⟩
  refine awp_skip ?_
  refine awp_seq ?_
  refine awp_seq ?_
  refine awp_reg ?_
  (refine ev_loadB tab_ok rfl rfl rfl rfl rfl rfl rfl ?_)
  refine ev_move tab_ok rfl rfl rfl ?_
  refine ev_call rfl rfl rfl rfl rfl (large_spec x level hb) rfl ?_
  refine ev_nil ?_ rfl
  refine awp_cond rfl (fun hc => ?_) (fun h6 => ?_)
  · refine awp_seq ?_
    refine awp_reg ?_
    refine ev_assign tab_ok rfl rfl rfl ?_
    refine ev_nil ?_ rfl
    refine awp_ret ?_
    exact ⟨_, [], rfl, Mv.int (by rw [one18, h1, h2, h3, h4, if_neg (by simp), if_neg (by simp), if_neg (by simp), if_neg (by simp), if_neg (by simpa using h5), if_pos hc]), cut_of (by decide) .nil, keep0⟩
  have ho : one18 x level = if firstErr (streamErr x.streams) 0 x.streams.length ≠ 0 then firstErr (streamErr x.streams) 0 x.streams.length else firstErr (kidErr x.kids) 1 x.kids.length := by
    rw [one18, h1, h2, h3, h4, h6, if_neg (by simp), if_neg (by simp), if_neg (by simp), if_neg (by simp), if_neg (by simpa using h5), if_neg (by simp)]
  have hs := streams_len x
  have hk := kids_len x
  refine awp_skip ?_
  refine awp_seq ?_
  refine awp_seq ?_
  refine awp_reg ?_
  refine ev_assign tab_ok rfl rfl rfl ?_
  refine ev_nil ?_ rfl
  refine awp_block ?_
  refine awp_loop (fun i : Nat => ⟨[(5, .s (.int .i64 i)), (2, .ptr 0 0)], [.box (nodeC x) 25]⟩) (fun i => i ≤ x.streams.length ∧ ∀ j, j < i → streamErr x.streams j = 0) (fun i => x.streams.length - i) 0 [0] ?_ ⟨Nat.zero_le _, fun j h => by omega⟩ keep0 (fun i hi => ?_)
  · all_goals (try refine le_of (by decide) ?_ ?_)
    repeat' (first | exact trivial | exact .nil | (refine CutL.cons rfl ?_ ?_) | (refine EnvLe.cons rfl ?_ ?_) | (refine MvS.box (mvl_closed rfl)) | exact .ptr rfl | exact .frz rfl | fail)
    all_goals (try simp only [wrap_addL, wrap_addR, wrap_subL, wrap_subR]); all_goals (try (rw [wrap_i64 (by omega) (by omega)]; omega))
  refine awp_seq ?_
  refine awp_seq ?_
  refine awp_reg ?_
  refine ev_move tab_ok rfl rfl rfl ?_
  (refine ev_faB tab_ok rfl rfl rfl rfl rfl rfl rfl ?_)
  (refine ev_loadB tab_ok rfl rfl rfl rfl rfl rfl rfl ?_)
  (refine ev_lenL tab_ok rfl rfl rfl rfl rfl rfl ?_)
  (refine ev_ilss tab_ok rfl rfl rfl rfl ?_)
  refine ev_nil ?_ rfl
  refine awp_cond rfl (fun hc => ?_) (fun hc => ?_)
  · refine awp_skip ?_
    have hlt : i < x.streams.length := by simpa using hc
    have hx : x.streams[i]? = some x.streams[i] := List.getElem?_eq_getElem hlt
    refine awp_seq ?_
    refine awp_block ?_
    refine awp_seq ?_
    refine awp_seq ?_
    refine awp_reg ?_
    (refine ev_faB tab_ok rfl rfl rfl rfl rfl rfl rfl ?_)
    (refine ev_loadB tab_ok rfl rfl rfl rfl rfl rfl rfl ?_)
    refine ev_move tab_ok rfl rfl rfl ?_
    (refine ev_iaL tab_ok rfl rfl rfl rfl rfl rfl rfl rfl rfl (by omega) (by rw [Int.toNat_natCast]; exact strC_get hx) rfl ?_)
    (refine ev_faE tab_ok rfl rfl rfl rfl rfl rfl rfl rfl ?_)
    (refine ev_loadE tab_ok rfl rfl rfl rfl rfl rfl ?_)
    refine ev_call rfl rfl rfl rfl rfl (name18_spec x.streams[i].1) rfl ?_
    refine ev_not tab_ok rfl rfl rfl ?_
    refine ev_nil ?_ rfl
    have hp : x.streams[i - 1]? = some (x.streams[i - 1]'(by omega)) := List.getElem?_eq_getElem (by omega)
    have he : streamErr x.streams i = if name18 x.streams[i].1 = false then 4 else if decide (0 < i) && (x.streams[i].1.toList == (x.streams[i - 1]'(by omega)).1.toList) then 5 else if decide (0 < i) && less x.streams[i].1 (x.streams[i - 1]'(by omega)).1 then 1 else 0 := by
      unfold streamErr; rw [hx, hp]
    have hret : ∀ e : Int, e ≠ 0 → streamErr x.streams i = e → e = one18 x level := by
      intro e h0 h1
      have h2 := firstErr_at (f := streamErr x.streams) (lo := 0) (Nat.zero_le i) hlt (fun j _ hj => hi.2 j hj) (by rw [h1]; exact h0)
      rw [ho, h2, h1, if_pos h0]
    refine awp_cond rfl (fun hc => ?_) (fun hn => ?_)
    · refine awp_seq ?_
      refine awp_reg ?_
      refine ev_assign tab_ok rfl rfl rfl ?_
      refine ev_nil ?_ rfl
      refine awp_ret ?_
      exact ⟨_, [], rfl, Mv.int (hret 4 (by decide) (by rw [he, if_pos (by simpa using hc)])), cut_of (by decide) .nil, keep0⟩
    refine awp_skip ?_
    rw [if_neg (by simpa using hn)] at he
    refine awp_seq ?_
    refine awp_seq ?_
    cases hz : decide ((0 : Int) < (i : Int))
    · have hz0 : decide (0 < i) = false := by
        have : ¬ (0 : Int) < (i : Int) := of_decide_eq_false hz
        exact decide_eq_false (by omega)
      rw [hz0] at he
      refine awp_draw mixed ?_
      refine ev_move tab_ok rfl rfl rfl ?_
      refine ev_igtr tab_ok rfl rfl rfl rfl ?_
      try refine ev_is (congrArg Value.bool (hz)) ?_
      refine ev_move tab_ok rfl rfl rfl ?_
      (refine ev_skip rfl rfl ?_)
      (refine ev_skip rfl rfl ?_)
      (refine ev_skip rfl rfl ?_)
      (refine ev_skip rfl rfl ?_)
      (refine ev_skip rfl rfl ?_)
      (refine ev_skip rfl rfl ?_)
      (refine ev_skip rfl rfl ?_)
      (refine ev_skip rfl rfl ?_)
      (refine ev_skip rfl rfl ?_)
      (refine ev_skip rfl rfl ?_)
      (refine ev_skip rfl rfl ?_)
      (refine ev_skip rfl rfl ?_)
      (refine ev_skip rfl rfl ?_)
      (refine ev_skip rfl rfl ?_)
      (refine ev_pickF tab_ok rfl rfl rfl rfl rfl ?_)
      refine ev_nilD ?_ (by kernel_rfl)
      refine awp_cond rfl (fun hc => by cases hc) (fun _ => ?_)
      refine awp_skip ?_
      refine awp_seq ?_
      refine awp_draw mixed ?_
      refine ev_move tab_ok rfl rfl rfl ?_
      refine ev_igtr tab_ok rfl rfl rfl rfl ?_
      try refine ev_is (congrArg Value.bool (hz)) ?_
      refine ev_move tab_ok rfl rfl rfl ?_
      (refine ev_skip rfl rfl ?_)
      (refine ev_skip rfl rfl ?_)
      (refine ev_skip rfl rfl ?_)
      (refine ev_skip rfl rfl ?_)
      (refine ev_skip rfl rfl ?_)
      (refine ev_skip rfl rfl ?_)
      (refine ev_skip rfl rfl ?_)
      (refine ev_skip rfl rfl ?_)
      (refine ev_skip rfl rfl ?_)
      (refine ev_skip rfl rfl ?_)
      (refine ev_skip rfl rfl ?_)
      (refine ev_skip rfl rfl ?_)
      (refine ev_skip rfl rfl ?_)
      (refine ev_skip rfl rfl ?_)
      (refine ev_pickF tab_ok rfl rfl rfl rfl rfl ?_)
      refine ev_nilD ?_ (by kernel_rfl)
      refine awp_cond rfl (fun hc => by cases hc) (fun _ => ?_)
      refine awp_skip ?_
      refine awp_reg ?_
      refine ev_move tab_ok rfl rfl rfl ?_
      (refine ev_iadd tab_ok rfl rfl rfl rfl ?_)
      refine ev_assign tab_ok rfl rfl rfl ?_
      refine ev_nil ?_ rfl
      refine ⟨i + 1, [0], ?_, by omega, ⟨hlt, fun j hj => ?_⟩, keep0⟩
      · all_goals (try refine le_of (by decide) ?_ ?_)
        repeat' (first | exact trivial | exact .nil | (refine CutL.cons rfl ?_ ?_) | (refine EnvLe.cons rfl ?_ ?_) | (refine MvS.box (mvl_closed rfl)) | exact .ptr rfl | (refine Mv.int ?_) | fail)
        all_goals (try simp only [wrap_addL, wrap_addR, wrap_subL, wrap_subR]); all_goals (try (rw [wrap_i64 (by omega) (by omega)]; omega))
      by_cases e : j = i
      · subst e; rw [he]; rfl
      · exact hi.2 j (by omega)
    · have hz0 : decide (0 < i) = true := by
        have : (0 : Int) < (i : Int) := of_decide_eq_true hz
        exact decide_eq_true (by omega)
      have hz1 := of_decide_eq_true hz0
      rw [hz0, Bool.true_and, Bool.true_and] at he
      have e1 : IntKind.i64.wrap ((i : Int) - 1) = ((i - 1 : Nat) : Int) := by rw [wrap_i64 (by omega) (by omega)]; omega
      refine awp_draw mixed ?_
      refine ev_move tab_ok rfl rfl rfl ?_
      refine ev_igtr tab_ok rfl rfl rfl rfl ?_
      try refine ev_is (congrArg Value.bool (hz)) ?_
      refine ev_move tab_ok rfl rfl rfl ?_
      (refine ev_faB tab_ok rfl rfl rfl rfl rfl rfl rfl ?_)
      (refine ev_loadB tab_ok rfl rfl rfl rfl rfl rfl rfl ?_)
      (refine ev_move tab_ok rfl rfl rfl ?_)
      (refine ev_iaL tab_ok rfl rfl rfl rfl rfl rfl rfl rfl rfl (by omega) (by rw [Int.toNat_natCast]; exact strC_get hx) rfl ?_)
      (refine ev_faE tab_ok rfl rfl rfl rfl rfl rfl rfl rfl ?_)
      (refine ev_loadE tab_ok rfl rfl rfl rfl rfl rfl ?_)
      (refine ev_faB tab_ok rfl rfl rfl rfl rfl rfl rfl ?_)
      (refine ev_loadB tab_ok rfl rfl rfl rfl rfl rfl rfl ?_)
      (refine ev_move tab_ok rfl rfl rfl ?_)
      (refine ev_isub tab_ok rfl rfl rfl rfl ?_)
      try refine ev_as (by rw [e1]) ?_
      (refine ev_iaL tab_ok rfl rfl rfl rfl rfl rfl rfl rfl rfl (by omega) (by rw [Int.toNat_natCast]; exact strC_get hp) rfl ?_)
      (refine ev_faE tab_ok rfl rfl rfl rfl rfl rfl rfl rfl ?_)
      (refine ev_loadE tab_ok rfl rfl rfl rfl rfl rfl ?_)
      (refine ev_seql tab_ok rfl rfl rfl rfl ?_)
      (refine ev_pickT tab_ok rfl rfl rfl rfl rfl ?_)
      refine ev_nilD ?_ (by kernel_rfl)
      refine awp_cond rfl (fun hc => ?_) (fun hc => ?_)
      · refine awp_seq ?_
        refine awp_reg ?_
        refine ev_assign tab_ok rfl rfl rfl ?_
        refine ev_nil ?_ rfl
        refine awp_ret ?_
        exact ⟨_, [], rfl, Mv.int (hret 5 (by decide) (by rw [he, if_pos hc])), cut_of (by decide) .nil, keep0⟩
      rw [if_neg (by rw [hc]; decide)] at he
      refine awp_skip ?_
      refine awp_seq ?_
      refine awp_draw mixed ?_
      refine ev_move tab_ok rfl rfl rfl ?_
      refine ev_igtr tab_ok rfl rfl rfl rfl ?_
      try refine ev_is (congrArg Value.bool (hz)) ?_
      refine ev_move tab_ok rfl rfl rfl ?_
      (refine ev_faB tab_ok rfl rfl rfl rfl rfl rfl rfl ?_)
      (refine ev_loadB tab_ok rfl rfl rfl rfl rfl rfl rfl ?_)
      (refine ev_move tab_ok rfl rfl rfl ?_)
      (refine ev_iaL tab_ok rfl rfl rfl rfl rfl rfl rfl rfl rfl (by omega) (by rw [Int.toNat_natCast]; exact strC_get hx) rfl ?_)
      (refine ev_faE tab_ok rfl rfl rfl rfl rfl rfl rfl rfl ?_)
      (refine ev_loadE tab_ok rfl rfl rfl rfl rfl rfl ?_)
      (refine ev_faB tab_ok rfl rfl rfl rfl rfl rfl rfl ?_)
      (refine ev_loadB tab_ok rfl rfl rfl rfl rfl rfl rfl ?_)
      (refine ev_move tab_ok rfl rfl rfl ?_)
      (refine ev_isub tab_ok rfl rfl rfl rfl ?_)
      try refine ev_as (by rw [e1]) ?_
      (refine ev_iaL tab_ok rfl rfl rfl rfl rfl rfl rfl rfl rfl (by omega) (by rw [Int.toNat_natCast]; exact strC_get hp) rfl ?_)
      (refine ev_faE tab_ok rfl rfl rfl rfl rfl rfl rfl rfl ?_)
      (refine ev_loadE tab_ok rfl rfl rfl rfl rfl rfl ?_)
      (refine ev_slss tab_ok rfl rfl rfl rfl ?_)
      (refine ev_pickT tab_ok rfl rfl rfl rfl rfl ?_)
      refine ev_nilD ?_ (by kernel_rfl)
      refine awp_cond rfl (fun hc => ?_) (fun hc => ?_)
      · refine awp_seq ?_
        refine awp_reg ?_
        refine ev_assign tab_ok rfl rfl rfl ?_
        refine ev_nil ?_ rfl
        refine awp_ret ?_
        exact ⟨_, [], rfl, Mv.int (hret 1 (by decide) (by rw [he, if_pos (show less _ _ = true from hc)])), cut_of (by decide) .nil, keep0⟩
      refine awp_skip ?_
      refine awp_reg ?_
      refine ev_move tab_ok rfl rfl rfl ?_
      (refine ev_iadd tab_ok rfl rfl rfl rfl ?_)
      refine ev_assign tab_ok rfl rfl rfl ?_
      refine ev_nil ?_ rfl
      refine ⟨i + 1, [0], ?_, by omega, ⟨hlt, fun j hj => ?_⟩, keep0⟩
      · all_goals (try refine le_of (by decide) ?_ ?_)
        repeat' (first | exact trivial | exact .nil | (refine CutL.cons rfl ?_ ?_) | (refine EnvLe.cons rfl ?_ ?_) | (refine MvS.box (mvl_closed rfl)) | exact .ptr rfl | (refine Mv.int ?_) | fail)
        all_goals (try simp only [wrap_addL, wrap_addR, wrap_subL, wrap_subR]); all_goals (try (rw [wrap_i64 (by omega) (by omega)]; omega))
      by_cases e : j = i
      · subst e; rw [he, if_neg (by rw [less, hc]; decide)]
      · exact hi.2 j (by omega)
  · refine awp_exit ?_
    have hge : i = x.streams.length := by
      have : ¬ i < x.streams.length := by simpa using hc
      omega
    have hst : firstErr (streamErr x.streams) 0 x.streams.length = 0 := firstErr_none (fun j _ hj => hi.2 j (by omega))
    rw [hst, if_neg (by simp)] at ho
    clear hi hc
    refine awp_seq ?_
    refine awp_seq ?_
    refine awp_reg ?_
    refine ev_assign tab_ok rfl rfl rfl ?_
    refine ev_nil ?_ rfl
    refine awp_block ?_
    refine awp_loop (fun k : Nat => ⟨[(6, .s (.int .i64 k)), (2, .ptr 0 0)], [.box (nodeC x) 25]⟩) (fun k => 1 ≤ k ∧ (k ≤ x.kids.length ∨ k = 1) ∧ ∀ j, 1 ≤ j → j < k → kidErr x.kids j = 0) (fun k => x.kids.length - k) 1 [0] ?_ ⟨Nat.le_refl _, .inr rfl, fun j h1 h2 => by omega⟩ keep0 (fun k hi => ?_)
    · all_goals (try refine le_of (by decide) ?_ ?_)
      repeat' (first | exact trivial | exact .nil | (refine CutL.cons rfl ?_ ?_) | (refine EnvLe.cons rfl ?_ ?_) | (refine MvS.box (mvl_closed rfl)) | exact .ptr rfl | exact .frz rfl | fail)
      all_goals (try simp only [wrap_addL, wrap_addR, wrap_subL, wrap_subR]); all_goals (try (rw [wrap_i64 (by omega) (by omega)]; omega))
    refine awp_seq ?_
    refine awp_seq ?_
    refine awp_reg ?_
    refine ev_move tab_ok rfl rfl rfl ?_
    (refine ev_faB tab_ok rfl rfl rfl rfl rfl rfl rfl ?_)
    (refine ev_loadB tab_ok rfl rfl rfl rfl rfl rfl rfl ?_)
    (refine ev_lenL tab_ok rfl rfl rfl rfl rfl rfl ?_)
    (refine ev_ilss tab_ok rfl rfl rfl rfl ?_)
    refine ev_nil ?_ rfl
    refine awp_cond rfl (fun hc => ?_) (fun hc => ?_)
    · refine awp_skip ?_
      have hlt : k < x.kids.length := by simpa [kidsC_length] using hc
      have hx : x.kids[k]? = some x.kids[k] := List.getElem?_eq_getElem hlt
      have hp : x.kids[k - 1]? = some (x.kids[k - 1]'(by omega)) := List.getElem?_eq_getElem (by omega)
      have he : kidErr x.kids k = if x.kids[k].name.toList == (x.kids[k - 1]'(by omega)).name.toList then 5 else if less x.kids[k].name (x.kids[k - 1]'(by omega)).name then 1 else 0 := by
        unfold kidErr; rw [hx, hp]
      have hret : ∀ e : Int, e ≠ 0 → kidErr x.kids k = e → e = one18 x level := by
        intro e h0 h1
        rw [ho, firstErr_at (f := kidErr x.kids) hi.1 hlt hi.2.2 (by rw [h1]; exact h0), h1]
      have e1 : IntKind.i64.wrap ((k : Int) - 1) = ((k - 1 : Nat) : Int) := by
        have := hi.1
        rw [wrap_i64 (by omega) (by omega)]; omega
      refine awp_seq ?_
      refine awp_block ?_
      refine awp_seq ?_
      refine awp_seq ?_
      refine awp_draw mixed ?_
      (refine ev_faB tab_ok rfl rfl rfl rfl rfl rfl rfl ?_)
      (refine ev_loadB tab_ok rfl rfl rfl rfl rfl rfl rfl ?_)
      refine ev_move tab_ok rfl rfl rfl ?_
      (refine ev_iaL tab_ok rfl rfl rfl rfl rfl rfl rfl rfl rfl (by omega) (by rw [Int.toNat_natCast]; exact kidsC_get hx) rfl ?_)
      (refine ev_faE tab_ok rfl rfl rfl rfl rfl rfl rfl rfl ?_)
      (refine ev_loadE tab_ok rfl rfl rfl rfl rfl rfl ?_)
      (refine ev_faB tab_ok rfl rfl rfl rfl rfl rfl rfl ?_)
      (refine ev_loadB tab_ok rfl rfl rfl rfl rfl rfl rfl ?_)
      refine ev_move tab_ok rfl rfl rfl ?_
      refine ev_isub tab_ok rfl rfl rfl rfl ?_
      try refine ev_as (by rw [e1]) ?_
      (refine ev_iaL tab_ok rfl rfl rfl rfl rfl rfl rfl rfl rfl (by omega) (by rw [Int.toNat_natCast]; exact kidsC_get hp) rfl ?_)
      (refine ev_faE tab_ok rfl rfl rfl rfl rfl rfl rfl rfl ?_)
      (refine ev_loadE tab_ok rfl rfl rfl rfl rfl rfl ?_)
      (refine ev_seql tab_ok rfl rfl rfl rfl ?_)
      refine ev_nilD ?_ (by kernel_rfl)
      refine awp_cond rfl (fun hc => ?_) (fun hc => ?_)
      · refine awp_seq ?_
        refine awp_reg ?_
        refine ev_assign tab_ok rfl rfl rfl ?_
        refine ev_nil ?_ rfl
        refine awp_ret ?_
        exact ⟨_, [], rfl, Mv.int (hret 5 (by decide) (by rw [he, if_pos hc])), cut_of (by decide) .nil, keep0⟩
      rw [if_neg (by rw [hc]; decide)] at he
      refine awp_skip ?_
      refine awp_seq ?_
      refine awp_draw mixed ?_
      (refine ev_faB tab_ok rfl rfl rfl rfl rfl rfl rfl ?_)
      (refine ev_loadB tab_ok rfl rfl rfl rfl rfl rfl rfl ?_)
      refine ev_move tab_ok rfl rfl rfl ?_
      (refine ev_iaL tab_ok rfl rfl rfl rfl rfl rfl rfl rfl rfl (by omega) (by rw [Int.toNat_natCast]; exact kidsC_get hx) rfl ?_)
      (refine ev_faE tab_ok rfl rfl rfl rfl rfl rfl rfl rfl ?_)
      (refine ev_loadE tab_ok rfl rfl rfl rfl rfl rfl ?_)
      (refine ev_faB tab_ok rfl rfl rfl rfl rfl rfl rfl ?_)
      (refine ev_loadB tab_ok rfl rfl rfl rfl rfl rfl rfl ?_)
      refine ev_move tab_ok rfl rfl rfl ?_
      refine ev_isub tab_ok rfl rfl rfl rfl ?_
      try refine ev_as (by rw [e1]) ?_
      (refine ev_iaL tab_ok rfl rfl rfl rfl rfl rfl rfl rfl rfl (by omega) (by rw [Int.toNat_natCast]; exact kidsC_get hp) rfl ?_)
      (refine ev_faE tab_ok rfl rfl rfl rfl rfl rfl rfl rfl ?_)
      (refine ev_loadE tab_ok rfl rfl rfl rfl rfl rfl ?_)
      (refine ev_slss tab_ok rfl rfl rfl rfl ?_)
      refine ev_nilD ?_ (by kernel_rfl)
      refine awp_cond rfl (fun hc => ?_) (fun hc => ?_)
      · refine awp_seq ?_
        refine awp_reg ?_
        refine ev_assign tab_ok rfl rfl rfl ?_
        refine ev_nil ?_ rfl
        refine awp_ret ?_
        exact ⟨_, [], rfl, Mv.int (hret 1 (by decide) (by rw [he, if_pos (show less _ _ = true from hc)])), cut_of (by decide) .nil, keep0⟩
      refine awp_skip ?_
      refine awp_reg ?_
      refine ev_move tab_ok rfl rfl rfl ?_
      (refine ev_iadd tab_ok rfl rfl rfl rfl ?_)
      refine ev_assign tab_ok rfl rfl rfl ?_
      refine ev_nil ?_ rfl
      refine ⟨k + 1, [0], ?_, by omega, ⟨by omega, .inl hlt, fun j h1 h2 => ?_⟩, keep0⟩
      · all_goals (try refine le_of (by decide) ?_ ?_)
        repeat' (first | exact trivial | exact .nil | (refine CutL.cons rfl ?_ ?_) | (refine EnvLe.cons rfl ?_ ?_) | (refine MvS.box (mvl_closed rfl)) | exact .ptr rfl | (refine Mv.int ?_) | fail)
        all_goals (try simp only [wrap_addL, wrap_addR, wrap_subL, wrap_subR]); all_goals (try (rw [wrap_i64 (by omega) (by omega)]; omega))
      by_cases e : j = k
      · subst e; rw [he, if_neg (by rw [less, hc]; decide)]
      · exact hi.2.2 j h1 (by omega)
    · refine awp_exit ?_
      have hge : ¬ k < x.kids.length := by simpa [kidsC_length] using hc
      refine awp_seq ?_
      refine awp_reg ?_
      refine ev_assign tab_ok rfl rfl rfl ?_
      refine ev_nil ?_ rfl
      refine awp_ret ?_
      exact ⟨_, [], rfl, Mv.int (by rw [ho, firstErr_none (fun j h1 h2 => hi.2.2 j h1 (by omega))]), cut_of (by decide) .nil, keep0⟩
end Go.Proofs.Pm
end
section
namespace Go.Proofs.Pm
open Go
theorem kid_sizeOf {x k : Node} (h : k ∈ x.kids) : SizeOf.sizeOf k < SizeOf.sizeOf x := by
  have h1 := List.sizeOf_lt_of_mem h
  cases x
  simp at h1 ⊢
  omega
def check18 (x : Node) (path : B) (level : Nat) : B × Int :=
  if one18 x level ≠ 0 then (path, one18 x level) else ((x.kids.attach.map fun k => check18 k.1 (belowR path k.1.name level) (level + 1)).find? (fun r => r.2 != 0)).getD (⟨#[]⟩, 0)
 termination_by SizeOf.sizeOf x
 decreasing_by exact kid_sizeOf k.2
theorem check18_eq (x : Node) (path : B) (level : Nat) : check18 x path level = if one18 x level ≠ 0 then (path, one18 x level) else ((x.kids.map fun k => check18 k (belowR path k.name level) (level + 1)).find? (fun r => r.2 != 0)).getD (⟨#[]⟩, 0) := by
  rw [check18]
  congr 3
  simp
theorem find_first {α β : Type} {g : α → β} {p : β → Bool} {xs : List α} {i : Nat} (hi : i < xs.length) (hb : ∀ (j : Nat) (h : j < xs.length), j < i → p (g xs[j]) = false) (hp : p (g xs[i]) = true) : (xs.map g).find? p = some (g xs[i]) := by
  rw [List.find?_eq_some_iff_getElem]
  refine ⟨hp, i, by simpa using hi, by simp, fun j hj => ?_⟩
  have hjl : j < xs.length := by omega
  simp [hb j hjl hj]
theorem check_spec : ∀ (x : Node) (path : B) (level : Nat), x.bulk ≤ 1099511627776 → path.size + x.span ≤ 2199023255552 → 1 ≤ level → level + x.bulk ≤ 2199023255552 →
    FCall Tryz.prog 90 [.agg (nodeC x), .s (.string path), .s (.int .i64 level)] [] (.tup [.s (.string (check18 x path level).1), .s (.int .i64 (check18 x path level).2)]) [] := by
  intro x
  induction x using Node.ind with
  | h x ih =>
  intro path level hb hp hv1 hv
  have hk := kids_len x
  refine fcall_intro tab_ok Tryz.call90 Tryz.func90 rfl rfl rfl (fun G w ι => ?_)
  refine awp_seq ?_
  refine awp_reg ?_
  refine ev_box rfl rfl rfl rfl (by constructor) ?_
  refine ev_assign tab_ok rfl rfl rfl ?_
  refine ev_assign tab_ok rfl rfl rfl ?_
  refine ev_nil ?_ rfl
  refine awp_seq ?_
  refine awp_seq ?_
  refine awp_reg ?_
  (refine ev_loadB tab_ok rfl rfl rfl rfl rfl rfl rfl ?_)
  refine ev_move tab_ok rfl rfl rfl ?_
  refine ev_call rfl rfl rfl rfl rfl (one_spec x level hb ⟨hv1, by omega⟩) rfl ?_
  refine ev_assign tab_ok rfl rfl rfl ?_
  refine ev_nil ?_ rfl
  refine awp_seq ?_
  refine awp_reg ?_
  refine ev_move tab_ok rfl rfl rfl ?_
  (refine ev_ineq tab_ok rfl rfl rfl rfl ?_)
  refine ev_nil ?_ rfl
  refine awp_cond rfl (fun hc => ?_) (fun hc => ?_)
  · refine awp_seq ?_
    refine awp_reg ?_
    refine ev_move tab_ok rfl rfl rfl ?_
    refine ev_move tab_ok rfl rfl rfl ?_
    refine ev_assign tab_ok rfl rfl rfl ?_
    refine ev_assign tab_ok rfl rfl rfl ?_
    refine ev_nil ?_ rfl
    refine awp_ret ?_
    have h0 : one18 x level ≠ 0 := by simpa using hc
    exact ⟨_, [], rfl, Mv.val (by rw [check18_eq, if_pos h0]) rfl, cut_of (by decide) .nil, keep0⟩
  · have h0 : ¬ one18 x level ≠ 0 := by simpa using hc
    have hch := check18_eq x path level
    rw [if_neg h0] at hch
    refine awp_skip ?_
    refine awp_seq ?_
    refine awp_seq ?_
    refine awp_reg ?_
    refine ev_assign tab_ok rfl rfl rfl ?_
    refine ev_nil ?_ rfl
    refine awp_block ?_
    refine awp_loop (fun i : Nat => ⟨[(9, .s (.int .i64 i)), (3, .ptr 0 0), (1, .s (.string path)), (2, .s (.int .i64 level))], [.box (nodeC x) 25]⟩) (fun i => i ≤ x.kids.length ∧ ∀ (j : Nat) (h : j < x.kids.length), j < i → (check18 x.kids[j] (belowR path x.kids[j].name level) (level + 1)).2 = 0) (fun i => x.kids.length - i) 0 [0] ?_ ⟨Nat.zero_le _, fun j _ h => by omega⟩ keep0 (fun i hi => ?_)
    · all_goals (try refine le_of (by decide) ?_ ?_)
      repeat' (first | exact trivial | exact .nil | (refine CutL.cons rfl ?_ ?_) | (refine EnvLe.cons rfl ?_ ?_) | (refine MvS.box (mvl_closed rfl)) | exact .ptr rfl | exact .frz rfl | fail)
      all_goals (try simp only [wrap_addL, wrap_addR, wrap_subL, wrap_subR]); all_goals (try (rw [wrap_i64 (by omega) (by omega)]; omega))
    refine awp_seq ?_
    refine awp_seq ?_
    refine awp_reg ?_
    refine ev_move tab_ok rfl rfl rfl ?_
    (refine ev_faB tab_ok rfl rfl rfl rfl rfl rfl rfl ?_)
    (refine ev_loadB tab_ok rfl rfl rfl rfl rfl rfl rfl ?_)
    (refine ev_lenL tab_ok rfl rfl rfl rfl rfl rfl ?_)
    (refine ev_ilss tab_ok rfl rfl rfl rfl ?_)
    refine ev_nil ?_ rfl
    refine awp_cond rfl (fun hc => ?_) (fun hc => ?_)
    · refine awp_skip ?_
      have hlt : i < x.kids.length := by simpa [kidsC_length] using hc
      have hx : x.kids[i]? = some x.kids[i] := List.getElem?_eq_getElem hlt
      have hm : x.kids[i] ∈ x.kids := List.getElem_mem _
      have h1 := kid_bulk hm
      have h2 := kid_span hm
      have h3 := belowR_size path x.kids[i].name level
      have e1 : IntKind.i64.wrap ((level : Int) + 1) = ((level + 1 : Nat) : Int) := by rw [wrap_i64 (by omega) (by omega)]; omega
      refine awp_seq ?_
      refine awp_block ?_
      refine awp_seq ?_
      refine awp_draw mixed ?_
      (refine ev_faB tab_ok rfl rfl rfl rfl rfl rfl rfl ?_)
      (refine ev_loadB tab_ok rfl rfl rfl rfl rfl rfl rfl ?_)
      refine ev_move tab_ok rfl rfl rfl ?_
      (refine ev_iaL tab_ok rfl rfl rfl rfl rfl rfl rfl rfl rfl (by omega) (by rw [Int.toNat_natCast]; exact kidsC_get hx) rfl ?_)
      (refine ev_loadE tab_ok rfl rfl rfl rfl rfl rfl ?_)
      refine ev_move tab_ok rfl rfl rfl ?_
      (refine ev_faB tab_ok rfl rfl rfl rfl rfl rfl rfl ?_)
      (refine ev_loadB tab_ok rfl rfl rfl rfl rfl rfl rfl ?_)
      refine ev_move tab_ok rfl rfl rfl ?_
      (refine ev_iaL tab_ok rfl rfl rfl rfl rfl rfl rfl rfl rfl (by omega) (by rw [Int.toNat_natCast]; exact kidsC_get hx) rfl ?_)
      (refine ev_faE tab_ok rfl rfl rfl rfl rfl rfl rfl rfl ?_)
      (refine ev_loadE tab_ok rfl rfl rfl rfl rfl rfl ?_)
      refine ev_move tab_ok rfl rfl rfl ?_
      refine ev_call rfl rfl rfl rfl rfl (below_spec path x.kids[i].name level (by omega)) rfl ?_
      refine ev_move tab_ok rfl rfl rfl ?_
      (refine ev_iadd tab_ok rfl rfl rfl rfl ?_)
      try refine ev_as (by rw [e1]) ?_
      refine ev_call rfl rfl rfl rfl rfl (ih _ hm _ _ (by omega) (by omega) (by omega) (by omega)) rfl ?_
      refine ev_move tab_ok rfl rfl rfl ?_
      refine ev_extract tab_ok rfl rfl rfl rfl ?_
      refine ev_extract tab_ok rfl rfl rfl rfl ?_
      refine ev_assign tab_ok rfl rfl rfl ?_
      refine ev_assign tab_ok rfl rfl rfl ?_
      refine ev_nilD ?_ (by kernel_rfl)
      refine awp_seq ?_
      refine awp_reg ?_
      refine ev_move tab_ok rfl rfl rfl ?_
      (refine ev_ineq tab_ok rfl rfl rfl rfl ?_)
      refine ev_nil ?_ rfl
      refine awp_cond rfl (fun hc => ?_) (fun hc => ?_)
      · refine awp_seq ?_
        refine awp_reg ?_
        refine ev_move tab_ok rfl rfl rfl ?_
        refine ev_move tab_ok rfl rfl rfl ?_
        refine ev_assign tab_ok rfl rfl rfl ?_
        refine ev_assign tab_ok rfl rfl rfl ?_
        refine ev_nil ?_ rfl
        refine awp_ret ?_
        have hf : ((x.kids.map fun k => check18 k (belowR path k.name level) (level + 1)).find? (fun r => r.2 != 0)) = some (check18 x.kids[i] (belowR path x.kids[i].name level) (level + 1)) := by
          exact find_first (g := fun k => check18 k (belowR path k.name level) (level + 1)) (p := fun r => r.2 != 0) hlt (fun j h hj => by simp [hi.2 j h hj]) hc
        rw [hf] at hch
        exact ⟨_, [], rfl, Mv.val (by rw [hch]; rfl) rfl, cut_of (by decide) .nil, keep0⟩
      · refine awp_skip ?_
        refine awp_reg ?_
        refine ev_move tab_ok rfl rfl rfl ?_
        (refine ev_iadd tab_ok rfl rfl rfl rfl ?_)
        refine ev_assign tab_ok rfl rfl rfl ?_
        refine ev_nil ?_ rfl
        refine ⟨i + 1, [0], ?_, by omega, ⟨hlt, fun j h hj => ?_⟩, keep0⟩
        · all_goals (try refine le_of (by decide) ?_ ?_)
          repeat' (first | exact trivial | exact .nil | (refine CutL.cons rfl ?_ ?_) | (refine EnvLe.cons rfl ?_ ?_) | (refine MvS.box (mvl_closed rfl)) | exact .ptr rfl | exact .frz rfl | (refine Mv.int ?_) | fail)
          all_goals (try simp only [wrap_addL, wrap_addR, wrap_subL, wrap_subR]); all_goals (try (rw [wrap_i64 (by omega) (by omega)]; omega))
        by_cases e : j = i
        · subst e; simpa using hc
        · exact hi.2 j h (by omega)
    · refine awp_exit ?_
      have hge : i = x.kids.length := by
        have : ¬ i < x.kids.length := by simpa [kidsC_length] using hc
        omega
      subst hge
      refine awp_seq ?_
      refine awp_reg ?_
      refine ev_assign tab_ok rfl rfl rfl ?_
      refine ev_assign tab_ok rfl rfl rfl ?_
      refine ev_nil ?_ rfl
      refine awp_ret ?_
      have hf : ((x.kids.map fun k => check18 k (belowR path k.name level) (level + 1)).find? (fun r => r.2 != 0)) = none := by
        rw [List.find?_eq_none]
        intro y hy
        obtain ⟨k, hk, rfl⟩ := List.mem_map.1 hy
        obtain ⟨j, hj, rfl⟩ := List.getElem_of_mem hk
        simp [hi.2 j hj hj]
      rw [hf] at hch
      exact ⟨_, [], rfl, Mv.val (by rw [hch]; rfl) rfl, cut_of (by decide) .nil, keep0⟩
def check18T (x : Node) : B × Int := if 256 < x.count then (⟨#[]⟩, 7) else check18 x ⟨#[]⟩ 1
theorem checkT_spec (x : Node) (hb : x.bulk ≤ 1099511627776) : FCall Tryz.prog 64 [.agg (nodeC x)] [] (.tup [.s (.string (check18T x).1), .s (.int .i64 (check18T x).2)]) [] := by
  have hs := span_le x
  refine fcall_intro tab_ok Tryz.call64 Tryz.func64 rfl rfl rfl (fun G w ι => ?_)
  refine awp_seq ?_
  refine awp_reg ?_
  refine ev_box rfl rfl rfl rfl (by constructor) ?_
  refine ev_assign tab_ok rfl rfl rfl ?_
  refine ev_assign tab_ok rfl rfl rfl ?_
  refine ev_nil ?_ rfl
  refine awp_seq ?_
  refine awp_seq ?_
  refine awp_reg ?_
  (refine ev_loadB tab_ok rfl rfl rfl rfl rfl rfl rfl ?_)
  refine ev_call rfl rfl rfl rfl rfl (count_spec x hb) rfl ?_
  refine ev_igtr tab_ok rfl rfl rfl rfl ?_
  refine ev_nil ?_ rfl
  refine awp_cond rfl (fun hc => ?_) (fun hc => ?_)
  · have h : 256 < x.count := by
      have : (256 : Int) < x.count := by simpa using hc
      omega
    refine awp_seq ?_
    refine awp_reg ?_
    refine ev_assign tab_ok rfl rfl rfl ?_
    refine ev_assign tab_ok rfl rfl rfl ?_
    refine ev_nil ?_ rfl
    refine awp_ret ?_
    exact ⟨_, [], rfl, Mv.val (by rw [check18T, if_pos h]) rfl, cut_of (by decide) .nil, keep0⟩
  · have h : ¬ 256 < x.count := by
      have : ¬ (256 : Int) < x.count := by simpa using hc
      omega
    refine awp_skip ?_
    refine awp_seq ?_
    refine awp_reg ?_
    (refine ev_loadB tab_ok rfl rfl rfl rfl rfl rfl rfl ?_)
    refine ev_call rfl rfl rfl rfl rfl (check_spec x ⟨#[]⟩ 1 hb (by rw [bsize0]; omega) (by omega) (by omega)) rfl ?_
    refine ev_extract tab_ok rfl rfl rfl rfl ?_
    refine ev_extract tab_ok rfl rfl rfl rfl ?_
    refine ev_assign tab_ok rfl rfl rfl ?_
    refine ev_assign tab_ok rfl rfl rfl ?_
    refine ev_nil ?_ rfl
    refine awp_ret ?_
    exact ⟨_, [], rfl, Mv.val (by rw [check18T, if_neg h]) rfl, cut_of (by decide) .nil, keep0⟩
def valid18 (x : Node) : Bool := (check18T x).2 == 0
theorem valid18_spec (x : Node) (hb : x.bulk ≤ 1099511627776) : FCall Tryz.prog 31 [.agg (nodeC x)] [] (.s (.bool (valid18 x))) [] := by
  refine fcall_intro tab_ok Tryz.call31 Tryz.func31 rfl rfl rfl (fun G w ι => ?_)
  refine awp_seq ?_
  refine awp_reg ?_
  refine ev_box rfl rfl rfl rfl (by constructor) ?_
  refine ev_assign tab_ok rfl rfl rfl ?_
  refine ev_nil ?_ rfl
  refine awp_seq ?_
  refine awp_reg ?_
  (refine ev_loadB tab_ok rfl rfl rfl rfl rfl rfl rfl ?_)
  refine ev_call rfl rfl rfl rfl rfl (checkT_spec x hb) rfl ?_
  refine ev_move tab_ok rfl rfl rfl ?_
  refine ev_extract tab_ok rfl rfl rfl rfl ?_
  refine ev_extract tab_ok rfl rfl rfl rfl ?_
  refine ev_assign tab_ok rfl rfl rfl ?_
  refine ev_assign tab_ok rfl rfl rfl ?_
  refine ev_nil ?_ rfl
  refine awp_seq ?_
  refine awp_reg ?_
  refine ev_move tab_ok rfl rfl rfl ?_
  (refine ev_ieql tab_ok rfl rfl rfl rfl ?_)
  refine ev_assign tab_ok rfl rfl rfl ?_
  refine ev_nil ?_ rfl
  refine awp_ret ?_
  exact ⟨_, [], rfl, .frz rfl, cut_of (by decide) .nil, keep0⟩
def paths18 (x : Node) : List B := if valid18 x then pathsR x ⟨#[]⟩ 1 else []
end Go.Proofs.Pm
end
section
namespace Go.Proofs.Pm
open Go
def zeroN : Node := ⟨⟨#[]⟩, 0, ⟨#[]⟩, ⟨#[]⟩, 0, 0, 0, 0, 0, 0, [], []⟩
theorem zero_mv {R : Nat → Nat → Prop} {a b c d e f g h i j k l : PV} (ha : a = .s (.string ⟨#[]⟩)) (hb : b = .s (.int .i64 0)) (hc : c = .s (.string ⟨#[]⟩)) (hd : d = .s (.string ⟨#[]⟩)) (he : e = .s (.int .i64 0)) (hf : f = .s (.int .i64 0)) (hg : g = .s (.int .i64 0)) (hh : h = .s (.int .i64 0)) (hi : i = .s (.int .i64 0)) (hj : j = .s (.int .i64 0)) (hk : k = .s (.slice none 0 0)) (hl : l = .s (.slice none 0 0)) :
    MvL R [a, b, c, d, e, f, g, h, i, j, k, l] (nodeC zeroN) := by
  subst_vars
  exact .cons (.frz rfl) (.cons (.frz rfl) (.cons (.frz rfl) (.cons (.frz rfl) (.cons (.frz rfl) (.cons (.frz rfl) (.cons (.frz rfl) (.cons (.frz rfl) (.cons (.frz rfl) (.cons (.frz rfl) (.cons .nilL (.cons .nilL .nil)))))))))))
def zeroC : List PV := [.s (.string ⟨#[]⟩), .s (.int .i64 0), .s (.string ⟨#[]⟩), .s (.string ⟨#[]⟩), .s (.int .i64 0), .s (.int .i64 0), .s (.int .i64 0), .s (.int .i64 0), .s (.int .i64 0), .s (.int .i64 0), .s (.slice none 0 0), .s (.slice none 0 0)]
def descend (x : Node) : List B → Option Node
  | [] => some x
  | n :: r => match x.kids.findIdx? (named n) with
    | some k => match x.kids[k]? with
      | some y => descend y r
      | none => none
    | none => none
def get18 (x : Node) (path : B) : Node × Int := if valid18 x = false then (zeroN, 1) else if path.toList == (ByteArray.mk #[]).toList then (x, 0) else match descend x (split18 path 47) with
  | some y => (y, 0)
  | none => (zeroN, 6)
theorem get18_spec (x : Node) (path : B) (hb : x.bulk ≤ 1099511627776) (hp : path.size ≤ 4398046511104) : FCall Tryz.prog 35 [.agg (nodeC x), .s (.string path)] [] (.tup [.agg (nodeC (get18 x path).1), .s (.int .i64 (get18 x path).2)]) [] := by
  refine fcall_intro tab_ok Tryz.call35 Tryz.func35 rfl rfl rfl (fun G w ι => ?_)
  refine awp_seq ?_
  refine awp_reg ?_
  refine ev_box rfl rfl rfl rfl (by constructor) ?_
  refine ev_alloc tab_ok rfl rfl rfl rfl rfl rfl (by constructor) ?_
  refine ev_assign tab_ok rfl rfl rfl ?_
  refine ev_nil ?_ rfl
  refine awp_seq ?_
  refine awp_seq ?_
  refine awp_reg ?_
  (refine ev_loadB tab_ok rfl rfl rfl rfl rfl rfl rfl ?_)
  refine ev_call rfl rfl rfl rfl rfl (valid18_spec x hb) rfl ?_
  refine ev_not tab_ok rfl rfl rfl ?_
  refine ev_nil ?_ rfl
  refine awp_cond rfl (fun hc => ?_) (fun hc => ?_)
  · have h : valid18 x = false := by simpa using hc
    refine awp_seq ?_
    refine awp_reg ?_
    refine ev_build tab_ok rfl rfl rfl rfl rfl rfl rfl rfl rfl rfl rfl rfl ?_
    refine ev_store tab_ok rfl rfl rfl rfl rfl rfl rfl rfl rfl (by repeat constructor) ?_
    refine ev_assign tab_ok rfl rfl rfl ?_
    refine ev_nil ?_ rfl
    refine awp_ret ?_
    refine ⟨_, [], rfl, ?_, cut_of (by decide) .nil, keep0⟩
    rw [get18, if_pos h]
    exact .tupL (.cons (.aggL (zero_mv rfl rfl rfl rfl rfl rfl rfl rfl rfl rfl rfl rfl)) (.cons (.frz rfl) .nil))
  · have h : ¬ valid18 x = false := by simpa using hc
    refine awp_skip ?_
    refine awp_seq ?_
    refine awp_seq ?_
    refine awp_reg ?_
    refine ev_move tab_ok rfl rfl rfl ?_
    (refine ev_seql tab_ok rfl rfl rfl rfl ?_)
    refine ev_nil ?_ rfl
    refine awp_cond rfl (fun hc => ?_) (fun hc => ?_)
    · refine awp_seq ?_
      refine awp_reg ?_
      (refine ev_loadB tab_ok rfl rfl rfl rfl rfl rfl rfl ?_)
      refine ev_store tab_ok rfl rfl rfl rfl rfl rfl rfl rfl rfl (by repeat constructor) ?_
      refine ev_assign tab_ok rfl rfl rfl ?_
      refine ev_nil ?_ rfl
      refine awp_ret ?_
      refine ⟨_, [], rfl, ?_, cut_of (by decide) .nil, keep0⟩
      rw [get18, if_neg h, if_pos hc]
      exact .frz rfl
    · refine awp_skip ?_
      refine awp_seq ?_
      refine awp_reg ?_
      refine ev_move tab_ok rfl rfl rfl ?_
      refine ev_call rfl rfl rfl rfl rfl (split_spec path 47 hp) rfl ?_
      refine ev_assign tab_ok rfl rfl rfl ?_
      refine ev_nil ?_ rfl
      have hpl : (split18 path 47).length ≤ 4398046511105 := by
        have := splitAux_length 47 path.data.toList ⟨#[]⟩
        have e : path.data.toList.length = path.size := by simp
        unfold split18; omega
      have hg : get18 x path = match descend x (split18 path 47) with
          | some y => (y, 0)
          | none => (zeroN, 6) := by rw [get18, if_neg h, if_neg (by rw [hc]; decide)]
      generalize split18 path 47 = ps at *
      refine awp_seq ?_
      refine awp_seq ?_
      refine awp_reg ?_
      refine ev_assign tab_ok rfl rfl rfl ?_
      refine ev_nil ?_ rfl
      refine awp_block ?_
      refine awp_loop (fun q : Nat × Node => ⟨[(7, .s (.int .i64 q.1)), (6, .list (strL ps)), (2, .ptr 0 0), (4, .ptr 1 0)], [.box (nodeC q.2) 25, .box zeroC 25]⟩) (fun q => q.1 ≤ ps.length ∧ q.2.bulk ≤ x.bulk ∧ descend x ps = descend q.2 (ps.drop q.1)) (fun q => ps.length - q.1) (0, x) [0, 1] ?_ ⟨Nat.zero_le _, Nat.le_refl _, rfl⟩ keep0 (fun q hq => ?_)
      · all_goals (try refine le_of (by decide) ?_ ?_)
        repeat' (first | exact trivial | exact .nil | (refine CutL.cons rfl ?_ ?_) | (refine EnvLe.cons rfl ?_ ?_) | (refine MvS.box (mvl_closed rfl)) | exact .ptr rfl | exact .frz rfl | fail)
        all_goals (try simp only [wrap_addL, wrap_addR, wrap_subL, wrap_subR]); all_goals (try (rw [wrap_i64 (by omega) (by omega)]; omega))
      obtain ⟨i, y⟩ := q
      obtain ⟨h1, h2, h3⟩ := hq
      simp only at h1 h2 h3
      change AWp _ _ _ ⟨[(7, .s (.int .i64 i)), (6, .list (strL ps)), (2, .ptr 0 0), (4, .ptr 1 0)], [.box (nodeC y) 25, .box zeroC 25]⟩ _
      refine awp_seq ?_
      refine awp_seq ?_
      refine awp_reg ?_
      refine ev_move tab_ok rfl rfl rfl ?_
      refine ev_move tab_ok rfl rfl rfl ?_
      (refine ev_lenL tab_ok rfl rfl rfl rfl rfl rfl ?_)
      (refine ev_ilss tab_ok rfl rfl rfl rfl ?_)
      refine ev_nil ?_ rfl
      refine awp_cond rfl (fun hc => ?_) (fun hc => ?_)
      · refine awp_skip ?_
        have hlt : i < ps.length := by simpa [strL_length] using hc
        have hx : ps[i]? = some ps[i] := List.getElem?_eq_getElem hlt
        rw [List.drop_eq_getElem_cons hlt, descend] at h3
        refine awp_seq ?_
        refine awp_block ?_
        refine awp_seq ?_
        cases hk : y.kids.findIdx? (named ps[i]) with
        | none =>
          rw [hk] at h3
          refine awp_draw mixed ?_
          (refine ev_loadB tab_ok rfl rfl rfl rfl rfl rfl rfl ?_)
          refine ev_move tab_ok rfl rfl rfl ?_
          refine ev_move tab_ok rfl rfl rfl ?_
          (refine ev_iaL tab_ok rfl rfl rfl rfl rfl rfl rfl rfl rfl (by omega) (by rw [Int.toNat_natCast]; exact strL_get hx) rfl ?_)
          (refine ev_loadE tab_ok rfl rfl rfl rfl rfl rfl ?_)
          refine ev_call rfl rfl rfl rfl rfl (kid_spec y ps[i] (by omega)) rfl ?_
          try refine ev_as (show _ = PV.s (.int .i64 (-1)) by rw [hk]; rfl) ?_
          refine ev_assign tab_ok rfl rfl rfl ?_
          refine ev_nilD ?_ (by kernel_rfl)
          refine awp_seq ?_
          refine awp_seq ?_
          refine awp_reg ?_
          refine ev_move tab_ok rfl rfl rfl ?_
          (refine ev_ilss tab_ok rfl rfl rfl rfl ?_)
          refine ev_nil ?_ rfl
          refine awp_cond rfl (fun hc => ?_) (fun hc => by cases hc)
          refine awp_seq ?_
          refine awp_reg ?_
          refine ev_build tab_ok rfl rfl rfl rfl rfl rfl rfl rfl rfl rfl rfl rfl ?_
          refine ev_store tab_ok rfl rfl rfl rfl rfl rfl rfl rfl rfl (by repeat constructor) ?_
          refine ev_assign tab_ok rfl rfl rfl ?_
          refine ev_nil ?_ rfl
          refine awp_ret ?_
          refine ⟨_, [], rfl, ?_, cut_of (by decide) .nil, keep0⟩
          rw [hg, h3]
          exact .tupL (.cons (.aggL (zero_mv rfl rfl rfl rfl rfl rfl rfl rfl rfl rfl rfl rfl)) (.cons (.frz rfl) .nil))
        | some k =>
          have hkl : k < y.kids.length := (List.findIdx?_eq_some_iff_getElem.1 hk).1
          have hy : y.kids[k]? = some y.kids[k] := List.getElem?_eq_getElem hkl
          have hm : y.kids[k] ∈ y.kids := List.getElem_mem _
          have hkb := kid_bulk hm
          simp only [hk, hy] at h3
          refine awp_draw mixed ?_
          (refine ev_loadB tab_ok rfl rfl rfl rfl rfl rfl rfl ?_)
          refine ev_move tab_ok rfl rfl rfl ?_
          refine ev_move tab_ok rfl rfl rfl ?_
          (refine ev_iaL tab_ok rfl rfl rfl rfl rfl rfl rfl rfl rfl (by omega) (by rw [Int.toNat_natCast]; exact strL_get hx) rfl ?_)
          (refine ev_loadE tab_ok rfl rfl rfl rfl rfl rfl ?_)
          refine ev_call rfl rfl rfl rfl rfl (kid_spec y ps[i] (by omega)) rfl ?_
          try refine ev_as (show _ = PV.s (.int .i64 (k : Int)) by rw [hk]; rfl) ?_
          refine ev_assign tab_ok rfl rfl rfl ?_
          refine ev_nilD ?_ (by kernel_rfl)
          refine awp_seq ?_
          refine awp_seq ?_
          refine awp_reg ?_
          refine ev_move tab_ok rfl rfl rfl ?_
          (refine ev_ilss tab_ok rfl rfl rfl rfl ?_)
          refine ev_nil ?_ rfl
          refine awp_cond rfl (fun hc => ?_) (fun hc => ?_)
          · exfalso
            have : (k : Int) < 0 := by simpa using hc
            omega
          · refine awp_skip ?_
            refine awp_reg ?_
            (refine ev_faB tab_ok rfl rfl rfl rfl rfl rfl rfl ?_)
            (refine ev_loadB tab_ok rfl rfl rfl rfl rfl rfl rfl ?_)
            refine ev_move tab_ok rfl rfl rfl ?_
            (refine ev_iaL tab_ok rfl rfl rfl rfl rfl rfl rfl rfl rfl (by omega) (by rw [Int.toNat_natCast]; exact kidsC_get hy) rfl ?_)
            (refine ev_loadE tab_ok rfl rfl rfl rfl rfl rfl ?_)
            refine ev_store tab_ok rfl rfl rfl rfl rfl rfl rfl rfl rfl (by repeat constructor) ?_
            refine ev_nil ?_ rfl
            refine awp_reg ?_
            refine ev_move tab_ok rfl rfl rfl ?_
            (refine ev_iadd tab_ok rfl rfl rfl rfl ?_)
            refine ev_assign tab_ok rfl rfl rfl ?_
            refine ev_nil ?_ rfl
            refine ⟨(i + 1, y.kids[k]), [0, 1], ?_, by show ps.length - (i + 1) < ps.length - i; omega, ⟨hlt, by show y.kids[k].bulk ≤ _; omega, h3⟩, keep0⟩
            all_goals (try refine le_of (by decide) ?_ ?_)
            repeat' (first | exact trivial | exact .nil | (refine CutL.cons rfl ?_ ?_) | (refine EnvLe.cons rfl ?_ ?_) | (refine MvS.box (mvl_closed rfl)) | exact .ptr rfl | exact .frz rfl | (refine Mv.int ?_) | fail)
            all_goals (try simp only [wrap_addL, wrap_addR, wrap_subL, wrap_subR]); all_goals (try (rw [wrap_i64 (by omega) (by omega)]; omega))
      · refine awp_exit ?_
        have hge : i = ps.length := by
          have : ¬ i < ps.length := by simpa [strL_length] using hc
          omega
        subst hge
        rw [List.drop_length, descend] at h3
        refine awp_seq ?_
        refine awp_reg ?_
        (refine ev_loadB tab_ok rfl rfl rfl rfl rfl rfl rfl ?_)
        refine ev_store tab_ok rfl rfl rfl rfl rfl rfl rfl rfl rfl (by repeat constructor) ?_
        refine ev_assign tab_ok rfl rfl rfl ?_
        refine ev_nil ?_ rfl
        refine awp_ret ?_
        refine ⟨_, [], rfl, ?_, cut_of (by decide) .nil, keep0⟩
        rw [hg, h3]
        exact .frz rfl
end Go.Proofs.Pm
end
section
namespace Go.Proofs.Pm
open Go
theorem extract_self (s : B) (i : Nat) : s.extract i i = ⟨#[]⟩ := by
  apply ByteArray.ext
  apply Array.toList_inj.1
  rw [ByteArray.data_extract, Array.toList_extract, List.extract_eq_take_drop]
  simp
theorem extract_step {s : B} {i j : Nat} (h : i < j) (hj : j ≤ s.size) : s.extract i j = (⟨#[byte s i]⟩ : B) ++ s.extract (i + 1) j := by
  have hd := drop_byte (s := s) (i := i) (by omega)
  apply ByteArray.ext
  apply Array.toList_inj.1
  rw [ByteArray.data_append, Array.toList_append, ByteArray.data_extract, ByteArray.data_extract, Array.toList_extract, Array.toList_extract, List.extract_eq_take_drop, List.extract_eq_take_drop, hd, show j - i = (j - (i + 1)) + 1 by omega]
  simp
theorem split_at {s : B} {c : UInt8} : ∀ (m i j : Nat) (p : B), j - i = m → i ≤ j → j ≤ s.size → (∀ k, i ≤ k → k < j → byte s k ≠ c) → (j < s.size → byte s j = c) →
    splitAux c (s.data.toList.drop i) p = (p ++ s.extract i j) :: (if j < s.size then splitAux c (s.data.toList.drop (j + 1)) ⟨#[]⟩ else []) := by
  intro m
  induction m with
  | zero =>
    intro i j p hm hij hjs hno hat
    obtain rfl : i = j := by omega
    have e : p ++ s.extract i i = p := by rw [extract_self]; apply ByteArray.ext; simp
    by_cases hlt : i < s.size
    · rw [if_pos hlt, drop_byte hlt, splitAux, if_pos (hat hlt), e]
    · rw [if_neg hlt, List.drop_of_length_le (by simp; omega), splitAux, e]
  | succ m ih =>
    intro i j p hm hij hjs hno hat
    have hlt : i < s.size := by omega
    rw [drop_byte hlt, splitAux, if_neg (hno i (Nat.le_refl _) (by omega)), ih (i + 1) j _ (by omega) (by omega) hjs (fun k h1 h2 => hno k (by omega) h2) hat, extract_step (by omega : i < j) hjs]
    congr 1
    apply ByteArray.ext
    simp [ByteArray.data_append, Array.append_assoc]
def emptyB (s : B) : Bool := s.toList == (ByteArray.mk #[]).toList
def find47 (x : Node) (path : B) : Option Node := if emptyB path then some x else descend x (split18 path 47)
def findR (x : Node) (path : B) : Node × Bool := match find47 x path with
  | some y => (y, true)
  | none => (zeroN, false)
end Go.Proofs.Pm
end
section
namespace Go.Proofs.Pm
open Go
def descW : Int → Node → List B → Int
  | w, _, [] => w
  | w, x, n :: r => match x.kids.findIdx? (named n) with
    | some k => match x.kids[k]? with
      | some y => descW (if y.weight ≠ 0 then y.weight else w) y r
      | none => w
    | none => w
def weight47 (x : Node) (path : B) : Int := if emptyB path then x.weight else descW x.weight x (split18 path 47)
theorem pathsR_size : ∀ (x : Node) (path : B) (level : Nat) (p : B), p ∈ pathsR x path level → p.size ≤ path.size + x.span := by
  intro x
  induction x using Node.ind with
  | h x ih =>
  intro path level p hp
  rw [pathsR_eq, List.mem_cons, List.mem_flatMap] at hp
  rcases hp with rfl | ⟨k, hk, hp⟩
  · omega
  · have h1 := ih k hk _ _ _ hp
    have h2 := kid_span hk
    have h3 := belowR_size path k.name level
    omega
theorem paths18_size {x : Node} {p : B} (hp : p ∈ paths18 x) : p.size ≤ x.bulk := by
  unfold paths18 at hp
  split at hp
  · have := pathsR_size x _ _ p hp
    have := span_le x
    rw [bsize0] at *
    omega
  · cases hp
theorem paths18_length (x : Node) : (paths18 x).length ≤ x.bulk := by
  unfold paths18
  split
  · rw [pathsR_length]; exact count_le x
  · simp
theorem filter_take_succ {α : Type} {p : α → Bool} {xs : List α} {i : Nat} {x : α} (h : xs[i]? = some x) : (xs.take (i + 1)).filter p = (xs.take i).filter p ++ if p x then [x] else [] := by
  rw [List.take_add_one, h, List.filter_append]
  simp [List.filter_cons]
theorem filter_take_le {α : Type} {p : α → Bool} (xs : List α) (i : Nat) : ((xs.take i).filter p).length ≤ i := by
  have h1 := List.length_filter_le p (xs.take i)
  have h2 := List.length_take_le i xs
  omega
def isFile (x : Node) (p : B) : Bool := (findR x p).1.kind == 1 && !emptyB (findR x p).1.data
def files47 (x : Node) : List B := (paths18 x).filter (isFile x)
theorem files47_found {x : Node} {p : B} (h : p ∈ files47 x) : (find47 x p).isSome = true ∧ p.size ≤ x.bulk := by
  obtain ⟨h1, h2⟩ := List.mem_filter.1 h
  refine ⟨?_, paths18_size h1⟩
  unfold isFile findR at h2
  cases hf : find47 x p with
  | some y => rfl
  | none => rw [hf] at h2; simp [zeroN] at h2
theorem files47_length (x : Node) : (files47 x).length ≤ x.bulk := Nat.le_trans (List.length_filter_le _ _) (paths18_length x)
def weightR (x : Node) (path : B) : Int × Int := if valid18 x = false then (0, 1) else if (find47 x path).isNone then (0, 6) else (weight47 x path, 0)
end Go.Proofs.Pm
end
section
namespace Go.Proofs.Pm
open Go
abbrev us (s : B) : List UInt8 := s.data.toList
theorem us_inj {a b : B} (h : us a = us b) : a = b := by
  apply ByteArray.ext
  exact Array.toList_inj.1 h
theorem us_append (a b : B) : us (a ++ b) = us a ++ us b := by simp [us, ByteArray.data_append]
theorem beq_iff {a b : B} : (a.toList == b.toList) = true ↔ a = b := by
  rw [ByteArray.toList_eq, ByteArray.toList_eq, beq_iff_eq]
  exact ⟨us_inj, fun h => by rw [h]⟩
theorem beq_not {a b : B} : (a.toList == b.toList) = false ↔ a ≠ b := by
  rw [← Bool.not_eq_true, beq_iff]
theorem emptyB_iff {a : B} : emptyB a = true ↔ a = ⟨#[]⟩ := beq_iff
theorem bytesLess_iff : ∀ (a b : List UInt8), Op.bytesLess a b = true ↔ a < b
  | [], [] => by simp [Op.bytesLess]
  | _ :: _, [] => by simp [Op.bytesLess]
  | [], _ :: _ => by simp [Op.bytesLess]
  | a :: x, b :: y => by
    rw [Op.bytesLess, List.cons_lt_cons_iff, Bool.or_eq_true, Bool.and_eq_true, bytesLess_iff x y, decide_eq_true_eq, beq_iff_eq]
theorem u8_tri : ∀ (a b : List UInt8), a < b ∨ a = b ∨ b < a
  | [], [] => .inr (.inl rfl)
  | _ :: _, [] => .inr (.inr (by simp))
  | [], _ :: _ => .inl (by simp)
  | a :: x, b :: y => by
    rw [List.cons_lt_cons_iff, List.cons_lt_cons_iff]
    rcases Nat.lt_trichotomy a.toNat b.toNat with h | h | h
    · exact .inl (.inl (UInt8.lt_iff_toNat_lt.2 h))
    · have e := UInt8.toNat_inj.1 h
      subst e
      rcases u8_tri x y with k | k | k
      · exact .inl (.inr ⟨rfl, k⟩)
      · exact .inr (.inl (by rw [k]))
      · exact .inr (.inr (.inr ⟨rfl, k⟩))
    · exact .inr (.inr (.inl (UInt8.lt_iff_toNat_lt.2 h)))
theorem flatMap_eq {α β : Type} {f g : α → List β} : ∀ {xs : List α}, (∀ x ∈ xs, f x = g x) → xs.flatMap f = xs.flatMap g
  | [], _ => rfl
  | y :: r, h => by rw [List.flatMap_cons, List.flatMap_cons, h y List.mem_cons_self, flatMap_eq (fun x hx => h x (List.mem_cons_of_mem _ hx))]
theorem less_iff {a b : B} : less a b = true ↔ us a < us b := by
  unfold less
  rw [bytesLess_iff, ByteArray.toList_eq, ByteArray.toList_eq]
def NameOk (s : B) : Prop := s ≠ ⟨#[]⟩ ∧ ∀ b ∈ us s, b ≠ 47
theorem byte_us (s : B) {i : Nat} (h : i < s.size) : byte s i = (us s)[i]'(by simpa using h) := by
  unfold byte
  have : s[i]? = some ((us s)[i]'(by simpa using h)) := by
    rw [getElem?_pos s i h]
    simp [us, ByteArray.getElem_eq_getElem_data]
  rw [this]; rfl
theorem name18_ok {s : B} (h : name18 s = true) : NameOk s := by
  simp only [name18, Bool.and_eq_true, Bool.not_eq_true', decide_eq_true_eq] at h
  obtain ⟨_, h2, ⟨_, h3⟩, _⟩ := h
  refine ⟨fun e => ?_, fun b hb e => ?_⟩
  · subst e
    have : (chars17 ⟨#[]⟩).1 = [] := by decide
    rw [this] at h3
    simp at h3
  · obtain ⟨i, hi, rfl⟩ := List.getElem_of_mem hb
    have hi' : i < s.size := by simpa using hi
    unfold slashIn at h2
    rw [List.any_eq_false] at h2
    refine h2 i (List.mem_range.2 hi') ?_
    rw [beq_iff_eq, byteZ, byte_us s hi', e]
    rfl
theorem find_ne {α : Type} {xs : List (α × Int)} {r : α × Int} (h : xs.find? (fun r => r.2 != 0) = some r) : r.2 ≠ 0 := by
  have := List.find?_some h
  simpa using this
inductive OkT : Nat → Node → Prop
  | mk {level x} (one : one18 x level = 0) (sub : ∀ k ∈ x.kids, OkT (level + 1) k) : OkT level x
theorem check18_ok : ∀ (x : Node) (path : B) (level : Nat), (check18 x path level).2 = 0 → OkT level x := by
  intro x
  induction x using Node.ind with
  | h x ih =>
  intro path level h
  rw [check18_eq] at h
  by_cases h1 : one18 x level = 0
  · rw [if_neg (by simpa using h1)] at h
    refine .mk h1 (fun k hk => ih k hk (belowR path k.name level) (level + 1) ?_)
    cases hf : (x.kids.map fun k => check18 k (belowR path k.name level) (level + 1)).find? (fun r => r.2 != 0) with
    | some r => rw [hf] at h; exact absurd h (find_ne hf)
    | none =>
      rw [List.find?_eq_none] at hf
      have := hf _ (List.mem_map.2 ⟨k, hk, rfl⟩)
      simpa using this
  · rw [if_pos h1] at h
    exact absurd h h1
theorem valid18_ok {x : Node} (h : valid18 x = true) : OkT 1 x ∧ x.count ≤ 256 := by
  unfold valid18 check18T at h
  split at h
  · simp at h
  · exact ⟨check18_ok x _ _ (by simpa using h), by omega⟩
theorem OkT.one {level : Nat} {x : Node} (h : OkT level x) : one18 x level = 0 := by cases h; assumption
theorem OkT.sub {level : Nat} {x k : Node} (h : OkT level x) (hk : k ∈ x.kids) : OkT (level + 1) k := by cases h with | mk one sub => exact sub k hk
theorem one18_parts {x : Node} {level : Nat} (h : one18 x level = 0) : kindBad x level = false ∧ nameBad x level = false ∧ partsBad x = false ∧ targetBad x = false ∧ ranged18 x = true ∧ large18 x level = false ∧ firstErr (streamErr x.streams) 0 x.streams.length = 0 ∧ firstErr (kidErr x.kids) 1 x.kids.length = 0 := by
  unfold one18 at h
  split at h
  · cases h
  rename_i h1
  split at h
  · cases h
  rename_i h2
  split at h
  · cases h
  rename_i h3
  split at h
  · cases h
  rename_i h4
  split at h
  · cases h
  rename_i h5
  split at h
  · cases h
  rename_i h6
  split at h
  · rename_i h7; exact absurd h h7
  · rename_i h7
    exact ⟨by simpa using h1, by simpa using h2, by simpa using h3, by simpa using h4, by simpa using h5, by simpa using h6, by simpa using h7, h⟩
theorem firstErr_all {f : Nat → Int} {lo n : Nat} (h : firstErr f lo n = 0) : ∀ j, lo ≤ j → j < n → f j = 0 := by
  intro j h1 h2
  by_cases e : f j = 0
  · exact e
  · exfalso
    unfold firstErr at h
    cases hf : (((List.range n).filter (fun i => decide (lo ≤ i))).map f).find? (· != 0) with
    | none =>
      rw [List.find?_eq_none] at hf
      exact e (by simpa using hf (f j) (List.mem_map.2 ⟨j, by simp [h1, h2], rfl⟩))
    | some y =>
      rw [hf] at h
      have := List.find?_some hf
      simp at h this
      exact this h
theorem kid_nameOk {x k : Node} {level : Nat} (h : OkT level x) (h1 : 1 ≤ level) (hk : k ∈ x.kids) : NameOk k.name := by
  have := (one18_parts (h.sub hk).one).2.1
  simp only [nameBad, Bool.or_eq_false_iff, Bool.and_eq_false_iff, decide_eq_false_iff_not, Bool.not_eq_false'] at this
  rcases this.2 with h2 | h2
  · omega
  · exact name18_ok h2
theorem kids_rise {x : Node} {level : Nat} (h : OkT level x) : x.kids.Pairwise (fun a b => us a.name < us b.name) := by
  have he := firstErr_all (one18_parts h.one).2.2.2.2.2.2.2
  have hadj : ∀ i (hi : i + 1 < x.kids.length), us (x.kids[i]'(by omega)).name < us x.kids[i + 1].name := by
    intro i hi
    have := he (i + 1) (by omega) hi
    unfold kidErr at this
    rw [List.getElem?_eq_getElem hi, Nat.add_sub_cancel, List.getElem?_eq_getElem (by omega : i < x.kids.length)] at this
    simp only at this
    split at this
    · cases this
    rename_i h1
    split at this
    · cases this
    rename_i h2
    have h1' : us x.kids[i + 1].name ≠ us (x.kids[i]'(by omega)).name := fun e => h1 (beq_iff.2 (us_inj e))
    have h2' : ¬ us x.kids[i + 1].name < us (x.kids[i]'(by omega)).name := fun e => h2 (less_iff.2 e)
    rcases u8_tri (us (x.kids[i]'(by omega)).name) (us x.kids[i + 1].name) with h | h | h
    · exact h
    · exact absurd h.symm h1'
    · exact absurd h h2'
  rw [List.pairwise_iff_getElem]
  intro i j hi hj hij
  obtain ⟨d, rfl⟩ : ∃ d, j = i + 1 + d := ⟨j - i - 1, by omega⟩
  induction d with
  | zero => exact hadj i hj
  | succ d ih => exact List.lt_trans (ih (by omega) (by omega)) (hadj (i + 1 + d) hj)
theorem kids_names {x : Node} {level : Nat} (h : OkT level x) : (x.kids.map (·.name)).Nodup := by
  rw [List.Nodup, List.pairwise_map]
  exact (kids_rise h).imp (fun hab e => by rw [e] at hab; exact List.lt_irrefl _ hab)
def namesR : Node → List (List B)
  | ⟨_, _, _, _, _, _, _, _, _, _, ks, _⟩ => [] :: ks.attach.flatMap fun k => (namesR k.1).map (k.1.name :: ·)
 termination_by x => SizeOf.sizeOf x
 decreasing_by
  have := List.sizeOf_lt_of_mem k.2
  simp_wf; omega
theorem namesR_eq (x : Node) : namesR x = [] :: x.kids.flatMap fun k => (namesR k).map (k.name :: ·) := by
  cases x
  rw [namesR]
  simp [List.flatMap, List.map_attach_eq_pmap]
def extP (p : B) : List B → B
  | [] => p
  | n :: r => extP (p ++ slash ++ n) r
def joinP : List B → B
  | [] => ⟨#[]⟩
  | n :: r => extP n r
theorem pathsR_deep : ∀ (x : Node) (path : B) (level : Nat), 2 ≤ level → pathsR x path level = (namesR x).map (extP path) := by
  intro x
  induction x using Node.ind with
  | h x ih =>
  intro path level h
  rw [pathsR_eq, namesR_eq, List.map_cons, List.map_flatMap]
  congr 1
  refine flatMap_eq (fun k hk => ?_)
  rw [ih k hk _ _ (by omega), List.map_map, belowR, if_neg (by omega)]
  rfl
theorem pathsR_root (x : Node) : pathsR x ⟨#[]⟩ 1 = (namesR x).map joinP := by
  rw [pathsR_eq, namesR_eq, List.map_cons, List.map_flatMap]
  congr 1
  refine flatMap_eq (fun k hk => ?_)
  rw [pathsR_deep _ _ _ (Nat.le_refl _), List.map_map, belowR, if_pos rfl]
  rfl
theorem extP_us : ∀ (r : List B) (p : B), us (extP p r) = us p ++ r.flatMap fun m => 47 :: us m
  | [], p => by simp [extP]
  | n :: r, p => by
    rw [extP, extP_us r, us_append, us_append]
    simp [slash, us]
theorem splitAux_one {c : UInt8} : ∀ (l : List UInt8) (p : B), (∀ b ∈ l, b ≠ c) → splitAux c l p = [p ++ ⟨l.toArray⟩]
  | [], p, _ => by simp only [splitAux]; congr 1; apply ByteArray.ext; simp
  | b :: r, p, h => by
    rw [splitAux, if_neg (h b List.mem_cons_self), splitAux_one r _ (fun x hx => h x (List.mem_cons_of_mem _ hx))]
    congr 1
    apply us_inj
    simp [us]
theorem splitAux_cons {c : UInt8} (rest : List UInt8) : ∀ (l : List UInt8) (p : B), (∀ b ∈ l, b ≠ c) → splitAux c (l ++ c :: rest) p = (p ++ ⟨l.toArray⟩) :: splitAux c rest ⟨#[]⟩
  | [], p, _ => by
    simp only [List.nil_append, splitAux, if_pos]
    congr 1; apply ByteArray.ext; simp
  | b :: r, p, h => by
    rw [List.cons_append, splitAux, if_neg (h b List.mem_cons_self), splitAux_cons rest r _ (fun x hx => h x (List.mem_cons_of_mem _ hx))]
    congr 1
    apply us_inj
    simp [us]
theorem empty_append (n : B) : (⟨#[]⟩ : B) ++ ⟨(us n).toArray⟩ = n := by
  apply us_inj; simp [us]
theorem split_join : ∀ (r : List B) (n : B), NameOk n → (∀ m ∈ r, NameOk m) → split18 (extP n r) 47 = n :: r
  | [], n, h, _ => by
    rw [split18, extP, splitAux_one _ _ h.2, empty_append]
  | m :: r, n, h, hr => by
    have e : (extP n (m :: r)).data.toList = us n ++ 47 :: (extP m r).data.toList := by
      have h1 := extP_us (m :: r) n
      have h2 := extP_us r m
      simp only [us] at h1 h2 ⊢
      rw [h1, h2]
      simp
    rw [split18, e, splitAux_cons _ _ _ h.2, empty_append]
    have := split_join r m (hr m List.mem_cons_self) (fun x hx => hr x (List.mem_cons_of_mem _ hx))
    rw [split18] at this
    rw [this]
theorem names_ok : ∀ (x : Node) (level : Nat), OkT level x → 1 ≤ level → ∀ ns ∈ namesR x, ∀ m ∈ ns, NameOk m := by
  intro x
  induction x using Node.ind with
  | h x ih =>
  intro level h h1 ns hns m hm
  rw [namesR_eq, List.mem_cons, List.mem_flatMap] at hns
  rcases hns with rfl | ⟨k, hk, hns⟩
  · cases hm
  · obtain ⟨r, hr, rfl⟩ := List.mem_map.1 hns
    rcases List.mem_cons.1 hm with rfl | hm
    · exact kid_nameOk h h1 hk
    · exact ih k hk _ (h.sub hk) (by omega) r hr m hm
theorem joinP_inj {a b : List B} (ha : ∀ m ∈ a, NameOk m) (hb : ∀ m ∈ b, NameOk m) (h : joinP a = joinP b) : a = b := by
  have key : ∀ {c : List B}, (∀ m ∈ c, NameOk m) → joinP c = ⟨#[]⟩ → c = [] := by
    intro c hc he
    cases c with
    | nil => rfl
    | cons n r =>
      exfalso
      have := extP_us r n
      rw [joinP] at he
      rw [he] at this
      have h0 : us n = [] := by
        have := this.symm
        rw [show us (⟨#[]⟩ : B) = [] from rfl, List.append_eq_nil_iff] at this
        exact this.1
      exact (hc n List.mem_cons_self).1 (us_inj h0)
  cases a with
  | nil => exact (key hb h.symm).symm
  | cons n r =>
    cases b with
    | nil => exact key ha h
    | cons m s =>
      rw [joinP, joinP] at h
      have h1 := split_join r n (ha n List.mem_cons_self) (fun x hx => ha x (List.mem_cons_of_mem _ hx))
      have h2 := split_join s m (hb m List.mem_cons_self) (fun x hx => hb x (List.mem_cons_of_mem _ hx))
      rw [← h1, ← h2, h]
theorem names_nodup : ∀ (x : Node) (level : Nat), OkT level x → (namesR x).Nodup := by
  intro x
  induction x using Node.ind with
  | h x ih =>
  intro level h
  rw [namesR_eq, List.nodup_cons]
  refine ⟨fun hm => ?_, ?_⟩
  · obtain ⟨k, _, hk⟩ := List.mem_flatMap.1 hm
    obtain ⟨r, _, hr⟩ := List.mem_map.1 hk
    cases hr
  · have hn := kids_names h
    have hsub : ∀ k ∈ x.kids, (namesR k).Nodup := fun k hk => ih k hk _ (h.sub hk)
    rw [List.Nodup, List.pairwise_map] at hn
    rw [List.Nodup, List.pairwise_flatMap]
    refine ⟨fun k hk => ?_, hn.imp (fun {a b} hab p hp q hq e => ?_)⟩
    · rw [List.pairwise_map]
      exact (hsub k hk).imp (fun hab e => hab (by simpa using e))
    · obtain ⟨r, _, rfl⟩ := List.mem_map.1 hp
      obtain ⟨s, _, rfl⟩ := List.mem_map.1 hq
      exact hab (by simpa using (List.cons.inj e).1)
theorem nodup_map {α β : Type} {f : α → β} {xs : List α} (h : xs.Nodup) (hf : ∀ a ∈ xs, ∀ b ∈ xs, f a = f b → a = b) : (xs.map f).Nodup := by
  rw [List.Nodup, List.pairwise_map]
  exact List.Pairwise.imp_of_mem (fun {a b} ha hb hab e => hab (hf a ha b hb e)) h
theorem paths18_nodup (x : Node) : (paths18 x).Nodup := by
  unfold paths18
  split
  · rename_i hv
    have hok := (valid18_ok hv).1
    rw [pathsR_root]
    exact nodup_map (names_nodup x 1 hok) (fun a ha b hb e => joinP_inj (names_ok x 1 hok (Nat.le_refl _) a ha) (names_ok x 1 hok (Nat.le_refl _) b hb) e)
  · exact List.nodup_nil
theorem files47_nodup (x : Node) : (files47 x).Nodup := (paths18_nodup x).filter _
theorem descend_names : ∀ (x : Node) (level : Nat), OkT level x → ∀ ns ∈ namesR x, (descend x ns).isSome = true := by
  intro x
  induction x using Node.ind with
  | h x ih =>
  intro level h ns hns
  rw [namesR_eq, List.mem_cons, List.mem_flatMap] at hns
  rcases hns with rfl | ⟨k, hk, hns⟩
  · rfl
  · obtain ⟨r, hr, rfl⟩ := List.mem_map.1 hns
    have hidx : ∃ i : Nat, x.kids.findIdx? (named k.name) = some i ∧ x.kids[i]? = some k := by
      obtain ⟨i, hi, hik⟩ := List.getElem_of_mem hk
      refine ⟨i, find_at hi (fun j hj hji => ?_) (by rw [named, beq_iff, hik]), by rw [List.getElem?_eq_getElem hi, hik]⟩
      rw [named, beq_not]
      intro e
      have := (List.pairwise_iff_getElem.1 (kids_rise h)) j i hj hi hji
      rw [hik, e] at this
      exact List.lt_irrefl _ this
    obtain ⟨i, h1, h2⟩ := hidx
    rw [descend, h1]
    simp only [h2]
    exact ih k hk _ (h.sub hk) r hr
theorem find47_join {x : Node} {ns : List B} (hok : ∀ m ∈ ns, NameOk m) : find47 x (joinP ns) = descend x ns := by
  cases ns with
  | nil => rw [find47, if_pos (emptyB_iff.2 (show joinP [] = ⟨#[]⟩ from rfl)), descend]
  | cons n r =>
    have h1 := split_join r n (hok n List.mem_cons_self) (fun m hm => hok m (List.mem_cons_of_mem _ hm))
    have hne : emptyB (joinP (n :: r)) = false := by
      cases he : emptyB (joinP (n :: r)) with
      | false => rfl
      | true =>
        have := joinP_inj (a := n :: r) (b := []) hok (fun m hm => by cases hm) (emptyB_iff.1 he)
        cases this
    rw [find47, hne, if_neg (by decide), joinP, h1]
theorem paths18_found {x : Node} {p : B} (h : p ∈ paths18 x) : (find47 x p).isSome = true := by
  unfold paths18 at h
  split at h
  · rename_i hv
    have hok := (valid18_ok hv).1
    rw [pathsR_root] at h
    obtain ⟨ns, hns, rfl⟩ := List.mem_map.1 h
    rw [find47_join (names_ok x 1 hok (Nat.le_refl _) ns hns)]
    exact descend_names x 1 hok ns hns
  · cases h
end Go.Proofs.Pm
end
section
namespace Go.Proofs.Pm
open Go
theorem has_iff {l : List B} {s : B} : has l s = true ↔ s ∈ l := by
  rw [has, List.any_eq_true]
  exact ⟨fun ⟨y, h1, h2⟩ => by rw [← beq_iff.1 h2]; exact h1, fun h => ⟨s, h, beq_iff.2 rfl⟩⟩
theorem has_not {l : List B} {s : B} : has l s = false ↔ s ∉ l := by
  rw [← has_iff]; simp
theorem nodup_le {α : Type} [DecidableEq α] : ∀ {l m : List α}, l.Nodup → (∀ x ∈ l, x ∈ m) → l.length ≤ m.length
  | [], m, _, _ => Nat.zero_le _
  | x :: r, m, h, hs => by
    rw [List.nodup_cons] at h
    have hx := hs x List.mem_cons_self
    have := nodup_le (l := r) (m := m.erase x) h.2 (fun y hy => (List.mem_erase_of_ne (fun e => h.1 (by rw [← e]; exact hy))).2 (hs y (List.mem_cons_of_mem _ hy)))
    rw [List.length_erase_of_mem hx] at this
    have := List.length_pos_of_mem hx
    simp; omega
theorem not_all {l m : List B} (h : l.Nodup) (hl : m.length < l.length) : ∃ p ∈ l, has m p = false := by
  rcases Classical.em (∃ p ∈ l, has m p = false) with h1 | h1
  · exact h1
  · exfalso
    have : l.length ≤ m.length := nodup_le h (fun x hx => by
      cases hm : has m x with
      | true => exact has_iff.1 hm
      | false => exact absurd ⟨x, hx, hm⟩ h1)
    omega
def takeW (x : Node) (out : List B) (p : B) (b m : Int) : Bool := !has out p && (decide (b < 0) || decide (m < weight47 x p))
def pickW (x : Node) (out : List B) : List B → Nat → Int → Int → Int
  | [], _, b, _ => b
  | p :: r, i, b, m => if takeW x out p b m then pickW x out r (i + 1) i (weight47 x p) else pickW x out r (i + 1) b m
def pickB (x : Node) (out l : List B) : B := (l[(pickW x out l 0 (-1) 0).toNat]?).getD ⟨#[]⟩
def byWn (x : Node) (l : List B) : Nat → List B
  | 0 => []
  | n + 1 => byWn x l n ++ [pickB x (byWn x l n) l]
def byW47 (x : Node) : List B := byWn x (files47 x) (files47 x).length
theorem byWn_length (x : Node) (l : List B) : ∀ n, (byWn x l n).length = n
  | 0 => rfl
  | n + 1 => by rw [byWn, List.length_append, byWn_length x l n]; rfl
theorem pickW_ok {x : Node} {out l : List B} : ∀ (r pre : List B) (i : Nat) (b m : Int), l = pre ++ r → pre.length = i → (b = -1 ∨ ∃ (j : Nat) (p : B), b = j ∧ l[j]? = some p ∧ has out p = false) →
    (pickW x out r i b m = -1 ∧ b = -1 ∧ ∀ p ∈ r, has out p = true) ∨ ∃ (j : Nat) (p : B), pickW x out r i b m = j ∧ l[j]? = some p ∧ has out p = false
  | [], pre, i, b, m, hl, hi, h => by
    rcases h with h | h
    · exact .inl ⟨h, h, fun p hp => by cases hp⟩
    · exact .inr h
  | p :: r, pre, i, b, m, hl, hi, h => by
    rw [pickW]
    split
    · rename_i hc
      simp only [takeW, Bool.and_eq_true, Bool.not_eq_true'] at hc
      rcases pickW_ok (x := x) (out := out) (l := l) r (pre ++ [p]) (i + 1) i (weight47 x p) (by rw [hl]; simp) (by simp [hi]) (.inr ⟨i, p, rfl, by rw [hl, ← hi]; simp, hc.1⟩) with ⟨_, h2, _⟩ | h2
      · omega
      · exact .inr h2
    · rename_i hc
      rcases pickW_ok (x := x) (out := out) (l := l) r (pre ++ [p]) (i + 1) b m (by rw [hl]; simp) (by simp [hi]) h with ⟨h1, h2, h3⟩ | h2
      · refine .inl ⟨h1, h2, fun q hq => ?_⟩
        rcases List.mem_cons.1 hq with rfl | hq
        · subst h2
          cases hh : has out q with
          | true => rfl
          | false => simp [takeW, hh] at hc
        · exact h3 q hq
      · exact .inr h2
theorem pickB_at {x : Node} {out l : List B} (hn : ∃ p ∈ l, has out p = false) : ∃ (j : Nat) (p : B), pickW x out l 0 (-1) 0 = j ∧ l[j]? = some p ∧ pickB x out l = p ∧ has out p = false := by
  rcases pickW_ok (x := x) (out := out) (l := l) l [] 0 (-1) 0 rfl rfl (.inl rfl) with ⟨_, _, h⟩ | ⟨j, p, h1, h2, h3⟩
  · obtain ⟨p, hp, hh⟩ := hn
    rw [h p hp] at hh; cases hh
  · exact ⟨j, p, h1, h2, by rw [pickB, h1]; simp [h2], h3⟩
theorem byWn_ok {x : Node} {l : List B} (hl : l.Nodup) : ∀ n, n ≤ l.length → (byWn x l n).Nodup ∧ ∀ p ∈ byWn x l n, p ∈ l
  | 0, _ => ⟨List.nodup_nil, fun p hp => by cases hp⟩
  | n + 1, h => by
    obtain ⟨h1, h2⟩ := byWn_ok hl n (by omega)
    obtain ⟨j, p, _, k2, k3, k4⟩ := pickB_at (x := x) (not_all (m := byWn x l n) hl (by rw [byWn_length]; omega))
    rw [byWn, k3]
    refine ⟨?_, fun q hq => ?_⟩
    · rw [List.nodup_append]
      refine ⟨h1, by simp, fun a ha b hb e => ?_⟩
      rw [List.mem_singleton] at hb
      subst hb e
      exact has_not.1 k4 ha
    · rcases List.mem_append.1 hq with hq | hq
      · exact h2 q hq
      · rw [List.mem_singleton] at hq
        subst hq
        exact List.mem_of_getElem? k2
end Go.Proofs.Pm
end

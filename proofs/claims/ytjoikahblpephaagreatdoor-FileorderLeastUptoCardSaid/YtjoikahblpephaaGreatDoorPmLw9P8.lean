/- A part of the proof of one law: the machine on pure values and the walks of functions. -/
import Derived.Test.YtjoikahblpephaaGreatDoorPmLw9P6
import Derived.Test.YtjoikahblpephaaGreatDoorPmLw9P7
set_option linter.all false
section
namespace Go.Proofs.Pm
open Go
structure Node where
  name : ByteArray
  kind : Int
  data : ByteArray
  target : ByteArray
  mode : Int
  uid : Int
  gid : Int
  time : Int
  weight : Int
  hidden : Int
  kids : List Node
  streams : List (ByteArray × ByteArray)
def strC (s : ByteArray × ByteArray) : List PV := [.s (.string s.1), .s (.string s.2)]
def Node.cells : Node → List PV
  | ⟨a, b, c, d, e, f, g, h, i, j, ks, ss⟩ => [.s (.string a), .s (.int .i64 b), .s (.string c), .s (.string d), .s (.int .i64 e), .s (.int .i64 f), .s (.int .i64 g), .s (.int .i64 h), .s (.int .i64 i), .s (.int .i64 j), .list (ks.attach.map fun x => x.1.cells), .list (ss.map strC)]
 termination_by x => SizeOf.sizeOf x
 decreasing_by
  have := List.sizeOf_lt_of_mem x.2
  simp_wf; omega
def kidsC (ks : List Node) : List (List PV) := ks.map Node.cells
def nodeC (x : Node) : List PV := [.s (.string x.name), .s (.int .i64 x.kind), .s (.string x.data), .s (.string x.target), .s (.int .i64 x.mode), .s (.int .i64 x.uid), .s (.int .i64 x.gid), .s (.int .i64 x.time), .s (.int .i64 x.weight), .s (.int .i64 x.hidden), .list (kidsC x.kids), .list (x.streams.map strC)]
theorem cells_eq (x : Node) : x.cells = nodeC x := by
  cases x
  rw [Node.cells]
  simp [nodeC, kidsC]
theorem kidsC_eq (ks : List Node) : kidsC ks = ks.map nodeC := List.map_congr_left fun x _ => cells_eq x
theorem kidsC_get {ks : List Node} {i : Nat} {x : Node} (h : ks[i]? = some x) : (kidsC ks)[i]? = some (nodeC x) := by rw [kidsC_eq]; simp [h]
theorem kidsC_length (ks : List Node) : (kidsC ks).length = ks.length := by simp [kidsC]
theorem Node.ind {p : Node → Prop} (h : ∀ x, (∀ k ∈ x.kids, p k) → p x) (x : Node) : p x := by
  have : ∀ n (x : Node), SizeOf.sizeOf x ≤ n → p x := by
    intro n
    induction n with
    | zero => intro x hx; cases x; simp at hx
    | succ n ih =>
      intro x hx
      refine h x (fun k hk => ih k ?_)
      have h1 := List.sizeOf_lt_of_mem hk
      cases x
      simp at hx h1 ⊢
      omega
  exact this _ x (Nat.le_refl _)
def Node.bulk : Node → Nat
  | ⟨a, _, c, d, _, _, _, _, _, _, ks, ss⟩ => 1 + a.size + c.size + d.size + (ss.map fun s => 1 + s.1.size + s.2.size).sum + (ks.attach.map fun x => x.1.bulk).sum
 termination_by x => SizeOf.sizeOf x
 decreasing_by
  have := List.sizeOf_lt_of_mem x.2
  simp_wf; omega
theorem bulk_eq (x : Node) : x.bulk = 1 + x.name.size + x.data.size + x.target.size + (x.streams.map fun s => 1 + s.1.size + s.2.size).sum + (x.kids.map Node.bulk).sum := by
  cases x
  rw [Node.bulk]
  simp
theorem sum_ge {α : Type} {f : α → Nat} : ∀ {xs : List α} {x : α}, x ∈ xs → f x ≤ (xs.map f).sum
  | y :: r, x, h => by
    simp only [List.map_cons, List.sum_cons]
    rcases List.mem_cons.1 h with rfl | h
    · omega
    · have := sum_ge (f := f) h; omega
theorem sum_len {α : Type} {f : α → Nat} (hf : ∀ x, 1 ≤ f x) : ∀ (xs : List α), xs.length ≤ (xs.map f).sum
  | [] => by simp
  | y :: r => by
    simp only [List.map_cons, List.sum_cons, List.length_cons]
    have := sum_len hf r; have := hf y; omega
theorem sum_take_le {α : Type} {f : α → Nat} : ∀ (xs : List α) (i : Nat), ((xs.take i).map f).sum ≤ (xs.map f).sum
  | [], i => by simp
  | y :: r, 0 => by simp
  | y :: r, i + 1 => by
    simp only [List.take_succ_cons, List.map_cons, List.sum_cons]
    have := sum_take_le (f := f) r i; omega
theorem sum_take_succ {α : Type} {f : α → Nat} {xs : List α} {i : Nat} {x : α} (h : xs[i]? = some x) : ((xs.take (i + 1)).map f).sum = ((xs.take i).map f).sum + f x := by
  rw [List.take_add_one, h]; simp
theorem bulk_pos (x : Node) : 1 ≤ x.bulk := by rw [bulk_eq]; omega
theorem kid_bulk {x k : Node} (h : k ∈ x.kids) : k.bulk + 1 ≤ x.bulk := by
  have := sum_ge (f := Node.bulk) h
  rw [bulk_eq x]; omega
theorem kids_len (x : Node) : x.kids.length + 1 ≤ x.bulk := by
  have := sum_len bulk_pos x.kids
  rw [bulk_eq x]; omega
theorem streams_len (x : Node) : x.streams.length + 1 ≤ x.bulk := by
  have := sum_len (f := fun s : ByteArray × ByteArray => 1 + s.1.size + s.2.size) (fun s => by omega) x.streams
  rw [bulk_eq x]; omega
theorem wrap_i64 {n : Int} (h1 : -9223372036854775808 ≤ n) (h2 : n ≤ 9223372036854775807) : IntKind.i64.wrap n = n := by
  simp [IntKind.wrap, IntKind.bits, IntKind.signed]
  omega
theorem wrap_addL (a b : Int) : IntKind.i64.wrap (IntKind.i64.wrap a + b) = IntKind.i64.wrap (a + b) := by
  simp only [IntKind.wrap, IntKind.bits, IntKind.signed]
  simp
  split <;> split <;> (try split) <;> omega
theorem wrap_addR (a b : Int) : IntKind.i64.wrap (a + IntKind.i64.wrap b) = IntKind.i64.wrap (a + b) := by
  simp only [IntKind.wrap, IntKind.bits, IntKind.signed]
  simp
  split <;> split <;> (try split) <;> omega
theorem wrap_subL (a b : Int) : IntKind.i64.wrap (IntKind.i64.wrap a - b) = IntKind.i64.wrap (a - b) := by
  simp only [IntKind.wrap, IntKind.bits, IntKind.signed]
  simp
  split <;> split <;> (try split) <;> omega
theorem wrap_subR (a b : Int) : IntKind.i64.wrap (a - IntKind.i64.wrap b) = IntKind.i64.wrap (a - b) := by
  simp only [IntKind.wrap, IntKind.bits, IntKind.signed]
  simp
  split <;> split <;> (try split) <;> omega
theorem foldl_take_succ {α β : Type} {f : β → α → β} {b : β} {xs : List α} {i : Nat} {x : α} (h : xs[i]? = some x) : (xs.take (i + 1)).foldl f b = f ((xs.take i).foldl f b) x := by
  rw [List.take_add_one, h]; simp
theorem Mv.int {R : Nat → Nat → Prop} {k : IntKind} {a b : Int} (h : a = b) : Mv R (.s (.int k a)) (.s (.int k b)) := by rw [h]; exact .frz rfl
theorem Mv.bool {R : Nat → Nat → Prop} {a b : Bool} (h : a = b) : Mv R (.s (.bool a)) (.s (.bool b)) := by rw [h]; exact .frz rfl
theorem Mv.str {R : Nat → Nat → Prop} {a b : ByteArray} (h : a = b) : Mv R (.s (.string a)) (.s (.string b)) := by rw [h]; exact .frz rfl
theorem Mv.val {R : Nat → Nat → Prop} {a b : PV} (h : a = b) (hc : closedB b = true) : Mv R a b := by rw [h]; exact .closed hc
def Node.count : Node → Nat
  | ⟨_, _, _, _, _, _, _, _, _, _, ks, _⟩ => 1 + (ks.attach.map fun x => x.1.count).sum
 termination_by x => SizeOf.sizeOf x
 decreasing_by
  have := List.sizeOf_lt_of_mem x.2
  simp_wf; omega
theorem count_eq (x : Node) : x.count = 1 + (x.kids.map Node.count).sum := by
  cases x
  rw [Node.count]
  simp
def Node.levels : Node → Nat
  | ⟨_, _, _, _, _, _, _, _, _, _, ks, _⟩ => (ks.attach.map fun x => x.1.levels).foldl max 0 + 1
 termination_by x => SizeOf.sizeOf x
 decreasing_by
  have := List.sizeOf_lt_of_mem x.2
  simp_wf; omega
theorem levels_eq (x : Node) : x.levels = (x.kids.map Node.levels).foldl max 0 + 1 := by
  cases x
  rw [Node.levels]
  simp
def Node.size : Node → Nat
  | ⟨a, _, c, d, _, _, _, _, _, _, ks, ss⟩ => 20 + a.size + c.size + d.size + (ss.map fun s => 20 + s.1.size + s.2.size).sum + (ks.attach.map fun x => x.1.size).sum
 termination_by x => SizeOf.sizeOf x
 decreasing_by
  have := List.sizeOf_lt_of_mem x.2
  simp_wf; omega
theorem size_eq (x : Node) : x.size = 20 + x.name.size + x.data.size + x.target.size + (x.streams.map fun s => 20 + s.1.size + s.2.size).sum + (x.kids.map Node.size).sum := by
  cases x
  rw [Node.size]
  simp
theorem sum_le_sum {α : Type} {f g : α → Nat} : ∀ {xs : List α}, (∀ x ∈ xs, f x ≤ g x) → (xs.map f).sum ≤ (xs.map g).sum
  | [], _ => by simp
  | y :: r, h => by
    simp only [List.map_cons, List.sum_cons]
    have := sum_le_sum (fun x hx => h x (List.mem_cons_of_mem _ hx)); have := h y List.mem_cons_self; omega
theorem sum_mul {α : Type} {f : α → Nat} (c : Nat) : ∀ (xs : List α), (xs.map fun x => c * f x).sum = c * (xs.map f).sum
  | [] => by simp
  | y :: r => by simp only [List.map_cons, List.sum_cons]; rw [sum_mul c r, Nat.mul_add]
theorem count_le (x : Node) : x.count ≤ x.bulk := by
  induction x using Node.ind with
  | h x ih =>
    rw [count_eq, bulk_eq]
    have := sum_le_sum ih
    omega
theorem size_le (x : Node) : x.size ≤ 20 * x.bulk := by
  induction x using Node.ind with
  | h x ih =>
    rw [size_eq, bulk_eq]
    have h1 := sum_le_sum ih
    rw [sum_mul] at h1
    have h2 : (x.streams.map fun s => 20 + s.1.size + s.2.size).sum ≤ (x.streams.map fun s => 20 * (1 + s.1.size + s.2.size)).sum := sum_le_sum (fun s _ => by omega)
    rw [sum_mul (f := fun s : ByteArray × ByteArray => 1 + s.1.size + s.2.size)] at h2
    omega
theorem foldl_max_le : ∀ {xs : List Nat} {b c : Nat}, b ≤ c → (∀ x ∈ xs, x ≤ c) → xs.foldl max b ≤ c
  | [], b, c, hb, _ => hb
  | y :: r, b, c, hb, h => foldl_max_le (b := max b y) (by have := h y List.mem_cons_self; omega) (fun x hx => h x (List.mem_cons_of_mem _ hx))
theorem levels_le (x : Node) : x.levels ≤ x.bulk := by
  induction x using Node.ind with
  | h x ih =>
    rw [levels_eq]
    have : (x.kids.map Node.levels).foldl max 0 ≤ x.bulk - 1 := by
      refine foldl_max_le (by omega) (fun n hn => ?_)
      obtain ⟨k, hk, rfl⟩ := List.mem_map.1 hn
      have := ih k hk
      have := kid_bulk hk
      omega
    have := bulk_pos x
    omega
end Go.Proofs.Pm
end
section
namespace Go.Proofs.Pm
open Go
theorem count_spec : ∀ x : Node, x.bulk ≤ 1099511627776 → FCall Tryz.prog 75 [.agg (nodeC x)] [] (.s (.int .i64 x.count)) [] := by
  intro x
  induction x using Node.ind with
  | h x ih =>
  intro hb
  have hk := kids_len x
  refine fcall_intro tab_ok Tryz.call75 Tryz.func75 rfl rfl rfl (fun G w ι => ?_)
  refine awp_seq ?_
  refine awp_reg ?_
  refine ev_box rfl rfl rfl rfl (by constructor) ?_
  refine ev_assign tab_ok rfl rfl rfl ?_
  refine ev_nil ?_ rfl
  refine awp_seq ?_
  refine awp_reg ?_
  refine ev_assign tab_ok rfl rfl rfl ?_
  refine ev_nil ?_ rfl
  refine awp_seq ?_
  refine awp_seq ?_
  refine awp_reg ?_
  refine ev_assign tab_ok rfl rfl rfl ?_
  refine ev_nil ?_ rfl
  refine awp_block ?_
  refine awp_loop (fun i : Nat => ⟨[(4, .s (.int .i64 i)), (3, .s (.int .i64 ((1 + ((x.kids.take i).map Node.count).sum : Nat) : Int))), (1, .ptr 0 0)], [.box (nodeC x) 25]⟩) (fun i => i ≤ x.kids.length) (fun i => x.kids.length - i) 0 [0] ?_ (Nat.zero_le _) keep0 (fun i hi => ?_)
  · all_goals (try refine le_of (by decide) ?_ ?_)
    repeat' (first | exact trivial | exact .nil | (refine CutL.cons rfl ?_ ?_) | (refine EnvLe.cons rfl ?_ ?_) | (refine MvS.box (mvl_closed rfl)) | exact .ptr rfl | exact .frz rfl | fail)
    all_goals (try simp only [wrap_addL, wrap_addR, wrap_subL, wrap_subR]); all_goals (try (rw [wrap_i64 (by omega) (by omega)]; omega))
  refine awp_seq ?_
  refine awp_seq ?_
  refine awp_reg ?_
  refine ev_move tab_ok rfl rfl rfl ?_
  (refine ev_faB tab_ok rfl rfl rfl rfl rfl rfl rfl ?_)
  (refine ev_loadB tab_ok rfl rfl rfl rfl rfl rfl rfl ?_)
  (refine ev_lenL tab_ok rfl rfl rfl rfl rfl rfl ?_)
  (refine ev_ilss tab_ok rfl rfl rfl rfl ?_)
  refine ev_nil ?_ rfl
  refine awp_cond rfl (fun hc => ?_) (fun hc => ?_)
  · refine awp_skip ?_
    have hlt : i < x.kids.length := by simpa [kidsC_length] using hc
    have hx : x.kids[i]? = some x.kids[i] := List.getElem?_eq_getElem hlt
    have hm : x.kids[i] ∈ x.kids := List.getElem_mem _
    refine awp_seq ?_
    refine awp_block ?_
    refine awp_reg ?_
    refine ev_move tab_ok rfl rfl rfl ?_
    (refine ev_faB tab_ok rfl rfl rfl rfl rfl rfl rfl ?_)
    (refine ev_loadB tab_ok rfl rfl rfl rfl rfl rfl rfl ?_)
    refine ev_move tab_ok rfl rfl rfl ?_
    (refine ev_iaL tab_ok rfl rfl rfl rfl rfl rfl rfl rfl rfl (by omega) (by rw [Int.toNat_natCast]; exact kidsC_get hx) rfl ?_)
    (refine ev_loadE tab_ok rfl rfl rfl rfl rfl rfl ?_)
    refine ev_call rfl rfl rfl rfl rfl (ih _ hm (by have := kid_bulk hm; omega)) rfl ?_
    (refine ev_iadd tab_ok rfl rfl rfl rfl ?_)
    refine ev_assign tab_ok rfl rfl rfl ?_
    refine ev_nil ?_ rfl
    refine awp_reg ?_
    refine ev_move tab_ok rfl rfl rfl ?_
    (refine ev_iadd tab_ok rfl rfl rfl rfl ?_)
    refine ev_assign tab_ok rfl rfl rfl ?_
    refine ev_nil ?_ rfl
    refine ⟨i + 1, [0], ?_, by omega, hlt, keep0⟩
    have h1 := sum_take_succ (f := Node.count) hx
    have h2 := count_le x
    rw [count_eq] at h2
    have h3 := sum_take_le (f := Node.count) x.kids (i + 1)
    all_goals (try refine le_of (by decide) ?_ ?_)
    repeat' (first | exact trivial | exact .nil | (refine CutL.cons rfl ?_ ?_) | (refine EnvLe.cons rfl ?_ ?_) | (refine MvS.box (mvl_closed rfl)) | exact .ptr rfl | (refine Mv.int ?_))
    all_goals (try simp only [wrap_addL, wrap_addR, wrap_subL, wrap_subR]); all_goals (try (rw [wrap_i64 (by omega) (by omega)]; omega))
  · refine awp_exit ?_
    have hge : i = x.kids.length := by
      have : ¬ i < x.kids.length := by simpa [kidsC_length] using hc
      omega
    subst hge
    refine awp_seq ?_
    refine awp_reg ?_
    refine ev_move tab_ok rfl rfl rfl ?_
    refine ev_assign tab_ok rfl rfl rfl ?_
    refine ev_nil ?_ rfl
    refine awp_ret ?_
    exact ⟨_, [], rfl, Mv.int (by rw [count_eq, List.take_length]), cut_of (by decide) .nil, keep0⟩
theorem levels_spec : ∀ x : Node, x.bulk ≤ 1099511627776 → FCall Tryz.prog 76 [.agg (nodeC x)] [] (.s (.int .i64 x.levels)) [] := by
  intro x
  induction x using Node.ind with
  | h x ih =>
  intro hb
  have hk := kids_len x
  refine fcall_intro tab_ok Tryz.call76 Tryz.func76 rfl rfl rfl (fun G w ι => ?_)
  refine awp_seq ?_
  refine awp_reg ?_
  refine ev_box rfl rfl rfl rfl (by constructor) ?_
  refine ev_assign tab_ok rfl rfl rfl ?_
  refine ev_nil ?_ rfl
  refine awp_seq ?_
  refine awp_reg ?_
  refine ev_assign tab_ok rfl rfl rfl ?_
  refine ev_nil ?_ rfl
  refine awp_seq ?_
  refine awp_seq ?_
  refine awp_reg ?_
  refine ev_assign tab_ok rfl rfl rfl ?_
  refine ev_nil ?_ rfl
  refine awp_block ?_
  refine awp_loop (fun i : Nat => ⟨[(4, .s (.int .i64 i)), (3, .s (.int .i64 ((((x.kids.map Node.levels).take i).foldl max 0 : Nat) : Int))), (1, .ptr 0 0)], [.box (nodeC x) 25]⟩) (fun i => i ≤ x.kids.length) (fun i => x.kids.length - i) 0 [0] ?_ (Nat.zero_le _) keep0 (fun i hi => ?_)
  · all_goals (try refine le_of (by decide) ?_ ?_)
    repeat' (first | exact trivial | exact .nil | (refine CutL.cons rfl ?_ ?_) | (refine EnvLe.cons rfl ?_ ?_) | (refine MvS.box (mvl_closed rfl)) | exact .ptr rfl | exact .frz rfl | fail)
    all_goals (try simp only [wrap_addL, wrap_addR, wrap_subL, wrap_subR]); all_goals (try (rw [wrap_i64 (by omega) (by omega)]; omega))
  refine awp_seq ?_
  refine awp_seq ?_
  refine awp_reg ?_
  refine ev_move tab_ok rfl rfl rfl ?_
  (refine ev_faB tab_ok rfl rfl rfl rfl rfl rfl rfl ?_)
  (refine ev_loadB tab_ok rfl rfl rfl rfl rfl rfl rfl ?_)
  (refine ev_lenL tab_ok rfl rfl rfl rfl rfl rfl ?_)
  (refine ev_ilss tab_ok rfl rfl rfl rfl ?_)
  refine ev_nil ?_ rfl
  refine awp_cond rfl (fun hc => ?_) (fun hc => ?_)
  · refine awp_skip ?_
    have hlt : i < x.kids.length := by simpa [kidsC_length] using hc
    have hx : x.kids[i]? = some x.kids[i] := List.getElem?_eq_getElem hlt
    have hm : x.kids[i] ∈ x.kids := List.getElem_mem _
    refine awp_seq ?_
    refine awp_block ?_
    refine awp_reg ?_
    refine ev_move tab_ok rfl rfl rfl ?_
    (refine ev_faB tab_ok rfl rfl rfl rfl rfl rfl rfl ?_)
    (refine ev_loadB tab_ok rfl rfl rfl rfl rfl rfl rfl ?_)
    refine ev_move tab_ok rfl rfl rfl ?_
    (refine ev_iaL tab_ok rfl rfl rfl rfl rfl rfl rfl rfl rfl (by omega) (by rw [Int.toNat_natCast]; exact kidsC_get hx) rfl ?_)
    (refine ev_loadE tab_ok rfl rfl rfl rfl rfl rfl ?_)
    refine ev_call rfl rfl rfl rfl rfl (ih _ hm (by have := kid_bulk hm; omega)) rfl ?_
    refine ev_imax tab_ok rfl rfl rfl rfl ?_
    refine ev_assign tab_ok rfl rfl rfl ?_
    refine ev_nil ?_ rfl
    refine awp_reg ?_
    refine ev_move tab_ok rfl rfl rfl ?_
    (refine ev_iadd tab_ok rfl rfl rfl rfl ?_)
    refine ev_assign tab_ok rfl rfl rfl ?_
    refine ev_nil ?_ rfl
    refine ⟨i + 1, [0], ?_, by omega, hlt, keep0⟩
    have h1 := foldl_take_succ (f := max) (b := 0) (xs := x.kids.map Node.levels) (x := x.kids[i].levels) (i := i) (by simp [hx])
    all_goals (try refine le_of (by decide) ?_ ?_)
    repeat' (first | exact trivial | exact .nil | (refine CutL.cons rfl ?_ ?_) | (refine EnvLe.cons rfl ?_ ?_) | (refine MvS.box (mvl_closed rfl)) | exact .ptr rfl | (refine Mv.int ?_))
    all_goals (try simp only [wrap_addL, wrap_addR, wrap_subL, wrap_subR]); all_goals (try (rw [wrap_i64 (by omega) (by omega)]; omega))
    rw [h1]
    split <;> omega
  · refine awp_exit ?_
    have hge : i = x.kids.length := by
      have : ¬ i < x.kids.length := by simpa [kidsC_length] using hc
      omega
    subst hge
    refine awp_seq ?_
    refine awp_reg ?_
    refine ev_move tab_ok rfl rfl rfl ?_
    (refine ev_iadd tab_ok rfl rfl rfl rfl ?_)
    refine ev_assign tab_ok rfl rfl rfl ?_
    refine ev_nil ?_ rfl
    refine awp_ret ?_
    have h1 := levels_le x
    have h2 := levels_eq x
    rw [List.take_of_length_le (by simp)]
    exact ⟨_, [], rfl, Mv.int (by rw [wrap_i64 (by omega) (by omega)]; omega), cut_of (by decide) .nil, keep0⟩
theorem strC_get {ss : List (ByteArray × ByteArray)} {i : Nat} {s : ByteArray × ByteArray} (h : ss[i]? = some s) : (ss.map strC)[i]? = some (strC s) := by simp [h]
theorem size_spec : ∀ x : Node, x.bulk ≤ 1099511627776 → FCall Tryz.prog 77 [.agg (nodeC x)] [] (.s (.int .i64 x.size)) [] := by
  intro x
  induction x using Node.ind with
  | h x ih =>
  intro hb
  have hk := kids_len x
  have hs := streams_len x
  have hle := size_le x
  rw [size_eq] at hle
  refine fcall_intro tab_ok Tryz.call77 Tryz.func77 rfl rfl rfl (fun G w ι => ?_)
  refine awp_seq ?_
  refine awp_reg ?_
  refine ev_box rfl rfl rfl rfl (by constructor) ?_
  refine ev_assign tab_ok rfl rfl rfl ?_
  refine ev_nil ?_ rfl
  refine awp_seq ?_
  refine awp_reg ?_
  (refine ev_faB tab_ok rfl rfl rfl rfl rfl rfl rfl ?_)
  (refine ev_loadB tab_ok rfl rfl rfl rfl rfl rfl rfl ?_)
  (refine ev_lenS tab_ok rfl rfl rfl rfl rfl rfl ?_)
  (refine ev_iadd tab_ok rfl rfl rfl rfl ?_)
  (refine ev_faB tab_ok rfl rfl rfl rfl rfl rfl rfl ?_)
  (refine ev_loadB tab_ok rfl rfl rfl rfl rfl rfl rfl ?_)
  (refine ev_lenS tab_ok rfl rfl rfl rfl rfl rfl ?_)
  (refine ev_iadd tab_ok rfl rfl rfl rfl ?_)
  (refine ev_faB tab_ok rfl rfl rfl rfl rfl rfl rfl ?_)
  (refine ev_loadB tab_ok rfl rfl rfl rfl rfl rfl rfl ?_)
  (refine ev_lenS tab_ok rfl rfl rfl rfl rfl rfl ?_)
  (refine ev_iadd tab_ok rfl rfl rfl rfl ?_)
  refine ev_assign tab_ok rfl rfl rfl ?_
  refine ev_nil ?_ rfl
  refine awp_seq ?_
  refine awp_seq ?_
  refine awp_reg ?_
  refine ev_assign tab_ok rfl rfl rfl ?_
  refine ev_nil ?_ rfl
  refine awp_block ?_
  refine awp_loop (fun i : Nat => ⟨[(4, .s (.int .i64 i)), (3, .s (.int .i64 ((20 + x.name.size + x.data.size + x.target.size + ((x.streams.take i).map fun s => 20 + s.1.size + s.2.size).sum : Nat) : Int))), (1, .ptr 0 0)], [.box (nodeC x) 25]⟩) (fun i => i ≤ x.streams.length) (fun i => x.streams.length - i) 0 [0] ?_ (Nat.zero_le _) keep0 (fun i hi => ?_)
  · all_goals (try refine le_of (by decide) ?_ ?_)
    repeat' (first | exact trivial | exact .nil | (refine CutL.cons rfl ?_ ?_) | (refine EnvLe.cons rfl ?_ ?_) | (refine MvS.box (mvl_closed rfl)) | exact .ptr rfl | exact .frz rfl | (refine Mv.int ?_))
    all_goals (try simp only [wrap_addL, wrap_addR, wrap_subL, wrap_subR]); all_goals (try (rw [wrap_i64 (by omega) (by omega)]; omega))
    rw [wrap_i64 (by omega) (by omega)]; simp
  refine awp_seq ?_
  refine awp_seq ?_
  refine awp_reg ?_
  refine ev_move tab_ok rfl rfl rfl ?_
  (refine ev_faB tab_ok rfl rfl rfl rfl rfl rfl rfl ?_)
  (refine ev_loadB tab_ok rfl rfl rfl rfl rfl rfl rfl ?_)
  (refine ev_lenL tab_ok rfl rfl rfl rfl rfl rfl ?_)
  (refine ev_ilss tab_ok rfl rfl rfl rfl ?_)
  refine ev_nil ?_ rfl
  refine awp_cond rfl (fun hc => ?_) (fun hc => ?_)
  · refine awp_skip ?_
    have hlt : i < x.streams.length := by simpa using hc
    have hx : x.streams[i]? = some x.streams[i] := List.getElem?_eq_getElem hlt
    refine awp_seq ?_
    refine awp_block ?_
    refine awp_draw mixed ?_
    refine ev_move tab_ok rfl rfl rfl ?_
    (refine ev_iadd tab_ok rfl rfl rfl rfl ?_)
    (refine ev_faB tab_ok rfl rfl rfl rfl rfl rfl rfl ?_)
    (refine ev_loadB tab_ok rfl rfl rfl rfl rfl rfl rfl ?_)
    refine ev_move tab_ok rfl rfl rfl ?_
    (refine ev_iaL tab_ok rfl rfl rfl rfl rfl rfl rfl rfl rfl (by omega) (by rw [Int.toNat_natCast]; exact strC_get hx) rfl ?_)
    (refine ev_faE tab_ok rfl rfl rfl rfl rfl rfl rfl rfl ?_)
    (refine ev_loadE tab_ok rfl rfl rfl rfl rfl rfl ?_)
    (refine ev_lenS tab_ok rfl rfl rfl rfl rfl rfl ?_)
    (refine ev_iadd tab_ok rfl rfl rfl rfl ?_)
    (refine ev_faB tab_ok rfl rfl rfl rfl rfl rfl rfl ?_)
    (refine ev_loadB tab_ok rfl rfl rfl rfl rfl rfl rfl ?_)
    refine ev_move tab_ok rfl rfl rfl ?_
    (refine ev_iaL tab_ok rfl rfl rfl rfl rfl rfl rfl rfl rfl (by omega) (by rw [Int.toNat_natCast]; exact strC_get hx) rfl ?_)
    (refine ev_faE tab_ok rfl rfl rfl rfl rfl rfl rfl rfl ?_)
    (refine ev_loadE tab_ok rfl rfl rfl rfl rfl rfl ?_)
    (refine ev_lenS tab_ok rfl rfl rfl rfl rfl rfl ?_)
    (refine ev_iadd tab_ok rfl rfl rfl rfl ?_)
    refine ev_assign tab_ok rfl rfl rfl ?_
    refine ev_nilD ?_ (by kernel_rfl)
    refine awp_reg ?_
    refine ev_move tab_ok rfl rfl rfl ?_
    (refine ev_iadd tab_ok rfl rfl rfl rfl ?_)
    refine ev_assign tab_ok rfl rfl rfl ?_
    refine ev_nil ?_ rfl
    refine ⟨i + 1, [0], ?_, by omega, hlt, keep0⟩
    have h1 := sum_take_succ (f := fun s : ByteArray × ByteArray => 20 + s.1.size + s.2.size) hx
    have h3 := sum_take_le (f := fun s : ByteArray × ByteArray => 20 + s.1.size + s.2.size) x.streams (i + 1)
    all_goals (try refine le_of (by decide) ?_ ?_)
    repeat' (first | exact trivial | exact .nil | (refine CutL.cons rfl ?_ ?_) | (refine EnvLe.cons rfl ?_ ?_) | (refine MvS.box (mvl_closed rfl)) | exact .ptr rfl | (refine Mv.int ?_))
    all_goals (try simp only [wrap_addL, wrap_addR, wrap_subL, wrap_subR]); all_goals (try (rw [wrap_i64 (by omega) (by omega)]; omega))
  · refine awp_exit ?_
    have hge : i = x.streams.length := by
      have : ¬ i < x.streams.length := by simpa using hc
      omega
    subst hge
    refine awp_seq ?_
    refine awp_seq ?_
    refine awp_reg ?_
    refine ev_assign tab_ok rfl rfl rfl ?_
    refine ev_nil ?_ rfl
    refine awp_block ?_
    refine awp_loop (fun i : Nat => ⟨[(5, .s (.int .i64 i)), (3, .s (.int .i64 ((20 + x.name.size + x.data.size + x.target.size + (x.streams.map fun s => 20 + s.1.size + s.2.size).sum + ((x.kids.take i).map Node.size).sum : Nat) : Int))), (1, .ptr 0 0)], [.box (nodeC x) 25]⟩) (fun i => i ≤ x.kids.length) (fun i => x.kids.length - i) 0 [0] ?_ (Nat.zero_le _) keep0 (fun i hi => ?_)
    · all_goals (try refine le_of (by decide) ?_ ?_)
      repeat' (first | exact trivial | exact .nil | (refine CutL.cons rfl ?_ ?_) | (refine EnvLe.cons rfl ?_ ?_) | (refine MvS.box (mvl_closed rfl)) | exact .ptr rfl | exact .frz rfl | (refine Mv.int ?_))
      all_goals (try simp only [wrap_addL, wrap_addR, wrap_subL, wrap_subR]); all_goals (try (rw [wrap_i64 (by omega) (by omega)]; omega))
      simp
    refine awp_seq ?_
    refine awp_seq ?_
    refine awp_reg ?_
    refine ev_move tab_ok rfl rfl rfl ?_
    (refine ev_faB tab_ok rfl rfl rfl rfl rfl rfl rfl ?_)
    (refine ev_loadB tab_ok rfl rfl rfl rfl rfl rfl rfl ?_)
    (refine ev_lenL tab_ok rfl rfl rfl rfl rfl rfl ?_)
    (refine ev_ilss tab_ok rfl rfl rfl rfl ?_)
    refine ev_nil ?_ rfl
    refine awp_cond rfl (fun hc => ?_) (fun hc => ?_)
    · refine awp_skip ?_
      have hlt : i < x.kids.length := by simpa [kidsC_length] using hc
      have hx : x.kids[i]? = some x.kids[i] := List.getElem?_eq_getElem hlt
      have hm : x.kids[i] ∈ x.kids := List.getElem_mem _
      refine awp_seq ?_
      refine awp_block ?_
      refine awp_reg ?_
      refine ev_move tab_ok rfl rfl rfl ?_
      (refine ev_faB tab_ok rfl rfl rfl rfl rfl rfl rfl ?_)
      (refine ev_loadB tab_ok rfl rfl rfl rfl rfl rfl rfl ?_)
      refine ev_move tab_ok rfl rfl rfl ?_
      (refine ev_iaL tab_ok rfl rfl rfl rfl rfl rfl rfl rfl rfl (by omega) (by rw [Int.toNat_natCast]; exact kidsC_get hx) rfl ?_)
      (refine ev_loadE tab_ok rfl rfl rfl rfl rfl rfl ?_)
      refine ev_call rfl rfl rfl rfl rfl (ih _ hm (by have := kid_bulk hm; omega)) rfl ?_
      (refine ev_iadd tab_ok rfl rfl rfl rfl ?_)
      refine ev_assign tab_ok rfl rfl rfl ?_
      refine ev_nil ?_ rfl
      refine awp_reg ?_
      refine ev_move tab_ok rfl rfl rfl ?_
      (refine ev_iadd tab_ok rfl rfl rfl rfl ?_)
      refine ev_assign tab_ok rfl rfl rfl ?_
      refine ev_nil ?_ rfl
      refine ⟨i + 1, [0], ?_, by omega, hlt, keep0⟩
      have h1 := sum_take_succ (f := Node.size) hx
      have h3 := sum_take_le (f := Node.size) x.kids (i + 1)
      all_goals (try refine le_of (by decide) ?_ ?_)
      repeat' (first | exact trivial | exact .nil | (refine CutL.cons rfl ?_ ?_) | (refine EnvLe.cons rfl ?_ ?_) | (refine MvS.box (mvl_closed rfl)) | exact .ptr rfl | (refine Mv.int ?_))
      all_goals (try simp only [wrap_addL, wrap_addR, wrap_subL, wrap_subR]); all_goals (try (rw [wrap_i64 (by omega) (by omega)]; omega))
    · refine awp_exit ?_
      have hge : i = x.kids.length := by
        have : ¬ i < x.kids.length := by simpa [kidsC_length] using hc
        omega
      subst hge
      refine awp_seq ?_
      refine awp_reg ?_
      refine ev_move tab_ok rfl rfl rfl ?_
      refine ev_assign tab_ok rfl rfl rfl ?_
      refine ev_nil ?_ rfl
      refine awp_ret ?_
      exact ⟨_, [], rfl, Mv.int (by rw [size_eq, List.take_length]), cut_of (by decide) .nil, keep0⟩
def few18 (x : Node) (m : Int) : Bool := decide ((x.count : Int) ≤ 40) && decide ((x.levels : Int) ≤ 20) && decide ((x.size : Int) ≤ m)
theorem few18_spec (x : Node) (m : Int) (hb : x.bulk ≤ 1099511627776) : FCall Tryz.prog 47 [.agg (nodeC x), .s (.int .i64 m)] [] (.s (.bool (few18 x m))) [] := by
  refine fcall_intro tab_ok Tryz.call47 Tryz.func47 rfl rfl rfl (fun G w ι => ?_)
  refine awp_seq ?_
  refine awp_reg ?_
  refine ev_box rfl rfl rfl rfl (by constructor) ?_
  refine ev_assign tab_ok rfl rfl rfl ?_
  refine ev_nil ?_ rfl
  refine awp_seq ?_
  cases h1 : decide ((x.count : Int) ≤ 40) <;> cases h2 : decide ((x.levels : Int) ≤ 20)
  all_goals
    refine awp_reg ?_
    (refine ev_loadB tab_ok rfl rfl rfl rfl rfl rfl rfl ?_)
    refine ev_call rfl rfl rfl rfl rfl (count_spec x hb) rfl ?_
    refine ev_ileq tab_ok rfl rfl rfl rfl ?_
    try refine ev_is (congrArg Value.bool (h1)) ?_
    refine ev_move tab_ok rfl rfl rfl ?_
    (first | refine ev_skip rfl rfl ?_ | refine ev_loadB tab_ok rfl rfl rfl rfl rfl rfl rfl ?_)
    (first | refine ev_skip rfl rfl ?_ | refine ev_call rfl rfl rfl rfl rfl (levels_spec x hb) rfl ?_)
    (first | refine ev_skip rfl rfl ?_ | refine ev_ileq tab_ok rfl rfl rfl rfl ?_)
    try refine ev_is (congrArg Value.bool (h2)) ?_
    (first | refine ev_pickT tab_ok rfl rfl rfl rfl rfl ?_ | refine ev_pickF tab_ok rfl rfl rfl rfl rfl ?_)
    refine ev_move tab_ok rfl rfl rfl ?_
    (first | refine ev_skip rfl rfl ?_ | refine ev_loadB tab_ok rfl rfl rfl rfl rfl rfl rfl ?_)
    (first | refine ev_skip rfl rfl ?_ | refine ev_call rfl rfl rfl rfl rfl (size_spec x hb) rfl ?_)
    (first | refine ev_skip rfl rfl ?_ | refine ev_move tab_ok rfl rfl rfl ?_)
    (first | refine ev_skip rfl rfl ?_ | refine ev_ileq tab_ok rfl rfl rfl rfl ?_)
    (first | refine ev_pickT tab_ok rfl rfl rfl rfl rfl ?_ | refine ev_pickF tab_ok rfl rfl rfl rfl rfl ?_)
    refine ev_assign tab_ok rfl rfl rfl ?_
    refine ev_nil ?_ rfl
    refine awp_ret ?_
    exact ⟨_, [], rfl, Mv.bool (by simp [few18, h1, h2]), cut_of (by decide) .nil, keep0⟩
def fewR (x : Node) (n : Nat) : Bool := few18 x 100000 && decide ((n : Int) ≤ 70)
theorem fewR_spec (x : Node) (l : List (List PV)) (hb : x.bulk ≤ 1099511627776) : FCall Tryz.prog 12 [.agg (nodeC x), .list l] [] (.s (.bool (fewR x l.length))) [] := by
  refine fcall_intro tab_ok Tryz.call12 Tryz.func12 rfl rfl rfl (fun G w ι => ?_)
  refine awp_seq ?_
  refine awp_reg ?_
  refine ev_box rfl rfl rfl rfl (by constructor) ?_
  refine ev_assign tab_ok rfl rfl rfl ?_
  refine ev_nil ?_ rfl
  refine awp_seq ?_
  cases h1 : few18 x 100000
  all_goals
    refine awp_reg ?_
    (refine ev_loadB tab_ok rfl rfl rfl rfl rfl rfl rfl ?_)
    refine ev_call rfl rfl rfl rfl rfl (few18_spec x 100000 hb) rfl ?_
    try refine ev_is (congrArg Value.bool (h1)) ?_
    refine ev_move tab_ok rfl rfl rfl ?_
    (first | refine ev_skip rfl rfl ?_ | refine ev_move tab_ok rfl rfl rfl ?_)
    (first | refine ev_skip rfl rfl ?_ | refine ev_lenL tab_ok rfl rfl rfl rfl rfl rfl ?_)
    (first | refine ev_skip rfl rfl ?_ | refine ev_ileq tab_ok rfl rfl rfl rfl ?_)
    (first | refine ev_pickT tab_ok rfl rfl rfl rfl rfl ?_ | refine ev_pickF tab_ok rfl rfl rfl rfl rfl ?_)
    refine ev_assign tab_ok rfl rfl rfl ?_
    refine ev_nil ?_ rfl
    refine awp_ret ?_
    exact ⟨_, [], rfl, Mv.bool (by simp [fewR, h1]), cut_of (by decide) .nil, keep0⟩
end Go.Proofs.Pm
end

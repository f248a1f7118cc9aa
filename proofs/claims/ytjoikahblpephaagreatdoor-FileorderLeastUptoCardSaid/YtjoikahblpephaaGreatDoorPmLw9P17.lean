/- A part of the proof of one law: the machine on pure values and the walks of functions. -/
import Derived.Test.YtjoikahblpephaaGreatDoorPmLw9P13
import Derived.Test.YtjoikahblpephaaGreatDoorPmLw9P16
set_option linter.all false
section
namespace Go.Proofs.Pm
open Go
def sameStrs : List B → List B → Bool
  | [], [] => true
  | f :: r, g :: s => (f.toList == g.toList) && sameStrs r s
  | _, _ => false
theorem sameStrs_iff : ∀ {a b : List B}, sameStrs a b = true ↔ a = b
  | [], [] => by simp [sameStrs]
  | [], _ :: _ => by simp [sameStrs]
  | _ :: _, [] => by simp [sameStrs]
  | f :: r, g :: s => by rw [sameStrs, Bool.and_eq_true, beq_iff, sameStrs_iff, List.cons.injEq]
theorem sameStrs_eq : ∀ {a b : List B}, a.length = b.length → sameStrs a b = (List.range a.length).all fun i => match a[i]?, b[i]? with
    | some f, some g => f.toList == g.toList
    | _, _ => false
  | [], [], _ => rfl
  | f :: r, g :: s, h => by
    rw [sameStrs, sameStrs_eq (by simpa using h), List.length_cons, List.range_succ_eq_map, List.all_cons, List.all_map]
    rfl
theorem sameStrs_ne : ∀ {a b : List B}, a.length ≠ b.length → sameStrs a b = false
  | [], [], h => absurd rfl h
  | [], _ :: _, _ => rfl
  | _ :: _, [], _ => rfl
  | f :: r, g :: s, h => by rw [sameStrs, sameStrs_ne (by simpa using h), Bool.and_false]
theorem equal_spec (a b : List B) : FCall Tryz.prog 15 [.list (strL a), .list (strL b)] [] (.s (.bool (sameStrs a b))) [] := by
  refine fcall_intro tab_ok Tryz.call15 Tryz.func15 rfl rfl rfl (fun G w ι => ?_)
  refine awp_len 0 rfl (fun hal => ?_)
  rw [strL_length] at hal
  refine awp_seq ?_
  refine awp_reg ?_
  refine ev_assign tab_ok rfl rfl rfl ?_
  refine ev_nil ?_ rfl
  refine awp_seq ?_
  refine awp_seq ?_
  refine awp_reg ?_
  refine ev_move tab_ok rfl rfl rfl ?_
  (refine ev_lenL tab_ok rfl rfl rfl rfl rfl rfl ?_)
  refine ev_move tab_ok rfl rfl rfl ?_
  (refine ev_lenL tab_ok rfl rfl rfl rfl rfl rfl ?_)
  (refine ev_ineq tab_ok rfl rfl rfl rfl ?_)
  refine ev_nil ?_ rfl
  refine awp_cond rfl (fun hc => ?_) (fun hc => ?_)
  · have hne : a.length ≠ b.length := by
      intro e
      simp [strL_length, e] at hc
    refine awp_seq ?_
    refine awp_reg ?_
    refine ev_assign tab_ok rfl rfl rfl ?_
    refine ev_nil ?_ rfl
    refine awp_ret ?_
    exact ⟨_, [], rfl, Mv.bool (sameStrs_ne hne).symm, cut_of (by decide) .nil, keep0⟩
  · have hl : a.length = b.length := by
      have : (a.length : Int) = b.length := by simpa [strL_length] using hc
      omega
    have hfin := sameStrs_eq hl
    refine awp_skip ?_
    refine awp_seq ?_
    refine awp_seq ?_
    refine awp_reg ?_
    refine ev_move tab_ok rfl rfl rfl ?_
    (refine ev_lenL tab_ok rfl rfl rfl rfl rfl rfl ?_)
    refine ev_move tab_ok rfl rfl rfl ?_
    refine ev_nil ?_ rfl
    refine awp_block ?_
    refine awp_loop (fun i : Nat => ⟨[(13, .s (.int .i64 i)), (12, .s (.int .i64 a.length)), (0, .list (strL a)), (1, .list (strL b))], []⟩) (fun i => i ≤ a.length ∧ ∀ (j : Nat) (h : j < a.length) (h' : j < b.length), j < i → (a[j].toList == b[j].toList) = true) (fun i => a.length - i) 0 [] ?_ ⟨Nat.zero_le _, fun j _ _ h => by omega⟩ keep0 (fun i hi => ?_)
    · all_goals (try refine le_of (by decide) ?_ ?_)
      repeat' (first | exact trivial | exact .nil | (refine EnvLe.cons rfl ?_ ?_) | exact .frz rfl | (refine Mv.int ?_) | fail)
      all_goals (try simp only [wrap_addL, wrap_addR, wrap_subL, wrap_subR]); all_goals (try (rw [wrap_i64 (by omega) (by omega)]; omega))
      all_goals simp [strL_length]
    refine awp_seq ?_
    refine awp_reg ?_
    (refine ev_ilss tab_ok rfl rfl rfl rfl ?_)
    refine ev_nil ?_ rfl
    refine awp_seq ?_
    refine awp_cond rfl (fun hc => ?_) (fun hc => ?_)
    · refine awp_skip ?_
      have hlt : i < a.length := by simpa using hc
      have hltb : i < b.length := by omega
      have hx : a[i]? = some a[i] := List.getElem?_eq_getElem hlt
      have hy : b[i]? = some b[i] := List.getElem?_eq_getElem hltb
      refine awp_seq ?_
      refine awp_block ?_
      refine awp_seq ?_
      refine awp_reg ?_
      refine ev_move tab_ok rfl rfl rfl ?_
      refine ev_assign tab_ok rfl rfl rfl ?_
      refine ev_nil ?_ rfl
      refine awp_seq ?_
      refine awp_draw mixed ?_
      refine ev_move tab_ok rfl rfl rfl ?_
      refine ev_move tab_ok rfl rfl rfl ?_
      (refine ev_iaL tab_ok rfl rfl rfl rfl rfl rfl rfl rfl rfl (by omega) (by rw [Int.toNat_natCast]; exact strL_get hx) rfl ?_)
      (refine ev_loadE tab_ok rfl rfl rfl rfl rfl rfl ?_)
      refine ev_move tab_ok rfl rfl rfl ?_
      refine ev_move tab_ok rfl rfl rfl ?_
      (refine ev_iaL tab_ok rfl rfl rfl rfl rfl rfl rfl rfl rfl (by omega) (by rw [Int.toNat_natCast]; exact strL_get hy) rfl ?_)
      (refine ev_loadE tab_ok rfl rfl rfl rfl rfl rfl ?_)
      (refine ev_sneq tab_ok rfl rfl rfl rfl ?_)
      refine ev_nilD ?_ (by kernel_rfl)
      refine awp_cond rfl (fun hc => ?_) (fun hc => ?_)
      · refine awp_seq ?_
        refine awp_reg ?_
        refine ev_assign tab_ok rfl rfl rfl ?_
        refine ev_nil ?_ rfl
        refine awp_ret ?_
        refine ⟨_, [], rfl, Mv.bool ?_, cut_of (by decide) .nil, keep0⟩
        rw [hfin, eq_comm, List.all_eq_false]
        refine ⟨i, List.mem_range.2 hlt, ?_⟩
        rw [hx, hy]
        simpa using hc
      · refine awp_skip ?_
        refine awp_reg ?_
        (refine ev_iadd tab_ok rfl rfl rfl rfl ?_)
        refine ev_move tab_ok rfl rfl rfl ?_
        refine ev_nil ?_ rfl
        refine ⟨i + 1, [], ?_, by omega, ⟨hlt, fun j h h' hj => ?_⟩, keep0⟩
        · all_goals (try refine le_of (by decide) ?_ ?_)
          repeat' (first | exact trivial | exact .nil | (refine EnvLe.cons rfl ?_ ?_) | exact .frz rfl | (refine Mv.int ?_) | fail)
          all_goals (try simp only [wrap_addL, wrap_addR, wrap_subL, wrap_subR]); all_goals (try (rw [wrap_i64 (by omega) (by omega)]; omega))
        by_cases e : j = i
        · subst e; simpa using hc
        · exact hi.2 j h h' (by omega)
    · refine awp_exit ?_
      have hge : i = a.length := by
        have : ¬ i < a.length := by simpa using hc
        omega
      subst hge
      refine awp_seq ?_
      refine awp_reg ?_
      refine ev_assign tab_ok rfl rfl rfl ?_
      refine ev_nil ?_ rfl
      refine awp_ret ?_
      refine ⟨_, [], rfl, Mv.bool ?_, cut_of (by decide) .nil, keep0⟩
      rw [hfin, eq_comm, List.all_eq_true]
      intro j hj
      have hj := List.mem_range.1 hj
      rw [List.getElem?_eq_getElem hj, List.getElem?_eq_getElem (by omega : j < b.length)]
      exact hi.2 j hj (by omega) hj
def idxS (l : List B) (s : B) : Option Nat := l.findIdx? fun y => s.toList == y.toList
theorem idxS_has (l : List B) (s : B) : decide (0 ≤ kidZ (idxS l s)) = has l s := by
  unfold idxS
  cases h : l.findIdx? (fun y => s.toList == y.toList) with
  | none =>
    rw [List.findIdx?_eq_none_iff] at h
    have : has l s = false := by
      rw [has_not]
      intro hm
      have := h s hm
      rw [beq_not] at this
      exact this rfl
    rw [this]; rfl
  | some i =>
    obtain ⟨hi, hb, _⟩ := List.findIdx?_eq_some_iff_getElem.1 h
    have : has l s = true := has_iff.2 (by rw [beq_iff.1 hb]; exact List.getElem_mem hi)
    rw [this]
    simp [kidZ]
theorem index_spec (l : List B) (s : B) : FCall Tryz.prog 33 [.list (strL l), .s (.string s)] [] (.s (.int .i64 (kidZ (idxS l s)))) [] := by
  refine fcall_intro tab_ok Tryz.call33 Tryz.func33 rfl rfl rfl (fun G w ι => ?_)
  refine awp_len 0 rfl (fun hal => ?_)
  rw [strL_length] at hal
  refine awp_seq ?_
  refine awp_reg ?_
  refine ev_assign tab_ok rfl rfl rfl ?_
  refine ev_nil ?_ rfl
  refine awp_seq ?_
  refine awp_seq ?_
  refine awp_reg ?_
  refine ev_move tab_ok rfl rfl rfl ?_
  (refine ev_lenL tab_ok rfl rfl rfl rfl rfl rfl ?_)
  refine ev_move tab_ok rfl rfl rfl ?_
  refine ev_nil ?_ rfl
  refine awp_block ?_
  refine awp_loop (fun i : Nat => ⟨[(8, .s (.int .i64 i)), (7, .s (.int .i64 l.length)), (0, .list (strL l)), (1, .s (.string s))], []⟩) (fun i => i ≤ l.length ∧ ∀ (j : Nat) (h : j < l.length), j < i → (s.toList == l[j].toList) = false) (fun i => l.length - i) 0 [] ?_ ⟨Nat.zero_le _, fun j _ h => by omega⟩ keep0 (fun i hi => ?_)
  · all_goals (try refine le_of (by decide) ?_ ?_)
    repeat' (first | exact trivial | exact .nil | (refine EnvLe.cons rfl ?_ ?_) | exact .frz rfl | (refine Mv.int ?_) | fail)
    all_goals (try simp only [wrap_addL, wrap_addR, wrap_subL, wrap_subR]); all_goals (try (rw [wrap_i64 (by omega) (by omega)]; omega))
    all_goals simp [strL_length]
  refine awp_seq ?_
  refine awp_reg ?_
  (refine ev_ilss tab_ok rfl rfl rfl rfl ?_)
  refine ev_nil ?_ rfl
  refine awp_seq ?_
  refine awp_cond rfl (fun hc => ?_) (fun hc => ?_)
  · refine awp_skip ?_
    have hlt : i < l.length := by simpa using hc
    have hx : l[i]? = some l[i] := List.getElem?_eq_getElem hlt
    refine awp_seq ?_
    refine awp_block ?_
    refine awp_seq ?_
    refine awp_reg ?_
    refine ev_move tab_ok rfl rfl rfl ?_
    refine ev_assign tab_ok rfl rfl rfl ?_
    refine ev_nil ?_ rfl
    refine awp_seq ?_
    refine awp_reg ?_
    refine ev_move tab_ok rfl rfl rfl ?_
    refine ev_move tab_ok rfl rfl rfl ?_
    refine ev_move tab_ok rfl rfl rfl ?_
    (refine ev_iaL tab_ok rfl rfl rfl rfl rfl rfl rfl rfl rfl (by omega) (by rw [Int.toNat_natCast]; exact strL_get hx) rfl ?_)
    (refine ev_loadE tab_ok rfl rfl rfl rfl rfl rfl ?_)
    (refine ev_seql tab_ok rfl rfl rfl rfl ?_)
    refine ev_nil ?_ rfl
    refine awp_cond rfl (fun hc => ?_) (fun hc => ?_)
    · refine awp_seq ?_
      refine awp_reg ?_
      refine ev_move tab_ok rfl rfl rfl ?_
      refine ev_assign tab_ok rfl rfl rfl ?_
      refine ev_nil ?_ rfl
      refine awp_ret ?_
      exact ⟨_, [], rfl, Mv.int (by rw [idxS, find_at (p := fun y => s.toList == y.toList) hlt hi.2 hc]; rfl), cut_of (by decide) .nil, keep0⟩
    · refine awp_skip ?_
      refine awp_reg ?_
      (refine ev_iadd tab_ok rfl rfl rfl rfl ?_)
      refine ev_move tab_ok rfl rfl rfl ?_
      refine ev_nil ?_ rfl
      refine ⟨i + 1, [], ?_, by omega, ⟨hlt, before_succ (p := fun y => s.toList == y.toList) hlt hi.2 hc⟩, keep0⟩
      all_goals (try refine le_of (by decide) ?_ ?_)
      repeat' (first | exact trivial | exact .nil | (refine EnvLe.cons rfl ?_ ?_) | exact .frz rfl | (refine Mv.int ?_) | fail)
      all_goals (try simp only [wrap_addL, wrap_addR, wrap_subL, wrap_subR]); all_goals (try (rw [wrap_i64 (by omega) (by omega)]; omega))
  · refine awp_exit ?_
    have hge : i = l.length := by
      have : ¬ i < l.length := by simpa using hc
      omega
    subst hge
    refine awp_seq ?_
    refine awp_reg ?_
    refine ev_assign tab_ok rfl rfl rfl ?_
    refine ev_nil ?_ rfl
    refine awp_ret ?_
    exact ⟨_, [], rfl, Mv.int (by rw [idxS, find_none (p := fun y => s.toList == y.toList) (fun j h => hi.2 j h h)]; rfl), cut_of (by decide) .nil, keep0⟩
theorem contains_spec (l : List B) (s : B) : FCall Tryz.prog 32 [.list (strL l), .s (.string s)] [] (.s (.bool (has l s))) [] := by
  refine fcall_intro tab_ok Tryz.call32 Tryz.func32 rfl rfl rfl (fun G w ι => ?_)
  refine awp_seq ?_
  refine awp_reg ?_
  refine ev_assign tab_ok rfl rfl rfl ?_
  refine ev_nil ?_ rfl
  refine awp_seq ?_
  refine awp_reg ?_
  refine ev_move tab_ok rfl rfl rfl ?_
  refine ev_move tab_ok rfl rfl rfl ?_
  refine ev_call rfl rfl rfl rfl rfl (index_spec l s) rfl ?_
  refine ev_igeq tab_ok rfl rfl rfl rfl ?_
  refine ev_assign tab_ok rfl rfl rfl ?_
  refine ev_nil ?_ rfl
  refine awp_ret ?_
  exact ⟨_, [], rfl, Mv.bool (idxS_has l s), cut_of (by decide) .nil, keep0⟩
def idxI (l : List Int) (s : Int) : Option Nat := l.findIdx? fun y => s == y
def hasI (l : List Int) (s : Int) : Bool := l.any fun y => s == y
theorem idxI_has (l : List Int) (s : Int) : decide (0 ≤ kidZ (idxI l s)) = hasI l s := by
  unfold idxI hasI
  cases h : l.findIdx? (fun y => s == y) with
  | none =>
    rw [List.findIdx?_eq_none_iff] at h
    have : (l.any fun y => s == y) = false := by
      rw [List.any_eq_false]
      intro y hy
      simp [h y hy]
    rw [this]; rfl
  | some i =>
    obtain ⟨hi, hb, _⟩ := List.findIdx?_eq_some_iff_getElem.1 h
    have : (l.any fun y => s == y) = true := List.any_eq_true.2 ⟨_, List.getElem_mem hi, hb⟩
    rw [this]
    simp [kidZ]
theorem intL_get {l : List Int} {i : Nat} {s : Int} (h : l[i]? = some s) : (intL l)[i]? = some [.s (.int .i64 s)] := by simp [intL, h]
theorem indexI_spec (l : List Int) (s : Int) : FCall Tryz.prog 127 [.list (intL l), .s (.int .i64 s)] [] (.s (.int .i64 (kidZ (idxI l s)))) [] := by
  refine fcall_intro tab_ok Tryz.call127 Tryz.func127 rfl rfl rfl (fun G w ι => ?_)
  refine awp_len 0 rfl (fun hal => ?_)
  rw [intL_length] at hal
  refine awp_seq ?_
  refine awp_reg ?_
  refine ev_assign tab_ok rfl rfl rfl ?_
  refine ev_nil ?_ rfl
  refine awp_seq ?_
  refine awp_seq ?_
  refine awp_reg ?_
  refine ev_move tab_ok rfl rfl rfl ?_
  (refine ev_lenL tab_ok rfl rfl rfl rfl rfl rfl ?_)
  refine ev_move tab_ok rfl rfl rfl ?_
  refine ev_nil ?_ rfl
  refine awp_block ?_
  refine awp_loop (fun i : Nat => ⟨[(8, .s (.int .i64 i)), (7, .s (.int .i64 l.length)), (0, .list (intL l)), (1, .s (.int .i64 s))], []⟩) (fun i => i ≤ l.length ∧ ∀ (j : Nat) (h : j < l.length), j < i → (s == l[j]) = false) (fun i => l.length - i) 0 [] ?_ ⟨Nat.zero_le _, fun j _ h => by omega⟩ keep0 (fun i hi => ?_)
  · all_goals (try refine le_of (by decide) ?_ ?_)
    repeat' (first | exact trivial | exact .nil | (refine EnvLe.cons rfl ?_ ?_) | exact .frz rfl | (refine Mv.int ?_) | fail)
    all_goals (try simp only [wrap_addL, wrap_addR, wrap_subL, wrap_subR]); all_goals (try (rw [wrap_i64 (by omega) (by omega)]; omega))
    all_goals simp [intL_length]
  refine awp_seq ?_
  refine awp_reg ?_
  (refine ev_ilss tab_ok rfl rfl rfl rfl ?_)
  refine ev_nil ?_ rfl
  refine awp_seq ?_
  refine awp_cond rfl (fun hc => ?_) (fun hc => ?_)
  · refine awp_skip ?_
    have hlt : i < l.length := by simpa using hc
    have hx : l[i]? = some l[i] := List.getElem?_eq_getElem hlt
    refine awp_seq ?_
    refine awp_block ?_
    refine awp_seq ?_
    refine awp_reg ?_
    refine ev_move tab_ok rfl rfl rfl ?_
    refine ev_assign tab_ok rfl rfl rfl ?_
    refine ev_nil ?_ rfl
    refine awp_seq ?_
    refine awp_reg ?_
    refine ev_move tab_ok rfl rfl rfl ?_
    refine ev_move tab_ok rfl rfl rfl ?_
    refine ev_move tab_ok rfl rfl rfl ?_
    (refine ev_iaL tab_ok rfl rfl rfl rfl rfl rfl rfl rfl rfl (by omega) (by rw [Int.toNat_natCast]; exact intL_get hx) rfl ?_)
    (refine ev_loadE tab_ok rfl rfl rfl rfl rfl rfl ?_)
    (refine ev_ieql tab_ok rfl rfl rfl rfl ?_)
    refine ev_nil ?_ rfl
    refine awp_cond rfl (fun hc => ?_) (fun hc => ?_)
    · refine awp_seq ?_
      refine awp_reg ?_
      refine ev_move tab_ok rfl rfl rfl ?_
      refine ev_assign tab_ok rfl rfl rfl ?_
      refine ev_nil ?_ rfl
      refine awp_ret ?_
      exact ⟨_, [], rfl, Mv.int (by rw [idxI, find_at (p := fun y => s == y) hlt hi.2 hc]; rfl), cut_of (by decide) .nil, keep0⟩
    · refine awp_skip ?_
      refine awp_reg ?_
      (refine ev_iadd tab_ok rfl rfl rfl rfl ?_)
      refine ev_move tab_ok rfl rfl rfl ?_
      refine ev_nil ?_ rfl
      refine ⟨i + 1, [], ?_, by omega, ⟨hlt, before_succ (p := fun y => s == y) hlt hi.2 hc⟩, keep0⟩
      all_goals (try refine le_of (by decide) ?_ ?_)
      repeat' (first | exact trivial | exact .nil | (refine EnvLe.cons rfl ?_ ?_) | exact .frz rfl | (refine Mv.int ?_) | fail)
      all_goals (try simp only [wrap_addL, wrap_addR, wrap_subL, wrap_subR]); all_goals (try (rw [wrap_i64 (by omega) (by omega)]; omega))
  · refine awp_exit ?_
    have hge : i = l.length := by
      have : ¬ i < l.length := by simpa using hc
      omega
    subst hge
    refine awp_seq ?_
    refine awp_reg ?_
    refine ev_assign tab_ok rfl rfl rfl ?_
    refine ev_nil ?_ rfl
    refine awp_ret ?_
    exact ⟨_, [], rfl, Mv.int (by rw [idxI, find_none (p := fun y => s == y) (fun j h => hi.2 j h h)]; rfl), cut_of (by decide) .nil, keep0⟩
theorem containsI_spec (l : List Int) (s : Int) : FCall Tryz.prog 89 [.list (intL l), .s (.int .i64 s)] [] (.s (.bool (hasI l s))) [] := by
  refine fcall_intro tab_ok Tryz.call89 Tryz.func89 rfl rfl rfl (fun G w ι => ?_)
  refine awp_seq ?_
  refine awp_reg ?_
  refine ev_assign tab_ok rfl rfl rfl ?_
  refine ev_nil ?_ rfl
  refine awp_seq ?_
  refine awp_reg ?_
  refine ev_move tab_ok rfl rfl rfl ?_
  refine ev_move tab_ok rfl rfl rfl ?_
  refine ev_call rfl rfl rfl rfl rfl (indexI_spec l s) rfl ?_
  refine ev_igeq tab_ok rfl rfl rfl rfl ?_
  refine ev_assign tab_ok rfl rfl rfl ?_
  refine ev_nil ?_ rfl
  refine awp_ret ?_
  exact ⟨_, [], rfl, Mv.bool (idxI_has l s), cut_of (by decide) .nil, keep0⟩
theorem clone_spec (l : List B) (hl : l.length ≤ 1099511627776) : FCall Tryz.prog 38 [.list (strL l)] [] (.row (strL l) 0) [.row l.length 1 9] := by
  refine fcall_intro tab_ok Tryz.call38 Tryz.func38 rfl rfl rfl (fun G w ι => ?_)
  cases l with
  | nil =>
    refine awp_nil 0 rfl ?_ (fun A m hm hA => ?_)
    · refine awp_seq ?_
      refine awp_reg ?_
      refine ev_assign tab_ok rfl rfl rfl ?_
      refine ev_nil ?_ rfl
      refine awp_seq ?_
      refine awp_seq ?_
      refine awp_reg ?_
      refine ev_move tab_ok rfl rfl rfl ?_
      refine ev_nilS tab_ok rfl rfl rfl rfl rfl rfl rfl ?_
      refine ev_nil ?_ rfl
      refine awp_cond rfl (fun hc => ?_) (fun hc => by cases hc)
      refine awp_seq ?_
      refine awp_reg ?_
      refine ev_assign tab_ok rfl rfl rfl ?_
      refine ev_nil ?_ rfl
      refine awp_ghost 2 1 9 rfl (by constructor) ?_
      refine awp_ret ?_
      exact ⟨_, [0], rfl, .row rfl, cut_of (by decide) (.cons rfl .row .nil), keep0⟩
    · refine awp_seq ?_
      refine awp_reg ?_
      refine ev_assign tab_ok rfl rfl rfl ?_
      refine ev_nil ?_ rfl
      refine awp_seq ?_
      refine awp_seq ?_
      refine awp_reg ?_
      refine ev_move tab_ok rfl rfl rfl ?_
      refine ev_nilS tab_ok rfl rfl rfl rfl rfl rfl rfl ?_
      refine ev_nil ?_ rfl
      refine awp_cond rfl (fun hc => ?_) (fun hc => ?_)
      · refine awp_seq ?_
        refine awp_reg ?_
        refine ev_assign tab_ok rfl rfl rfl ?_
        refine ev_nil ?_ rfl
        refine awp_ghost 2 1 9 rfl (by constructor) ?_
        refine awp_ret ?_
        exact ⟨_, [0], rfl, .row rfl, cut_of (by decide) (.cons rfl .row .nil), keep0⟩
      · refine awp_skip ?_
        refine awp_unnil 0 rfl hm ?_
        refine awp_seq ?_
        refine awp_reg ?_
        refine ev_bs0 tab_ok rfl rfl rfl rfl rfl rfl rfl (by constructor) ?_
        refine ev_move tab_ok rfl rfl rfl ?_
        (refine ev_append tab_ok rfl rfl rfl rfl rfl rfl rfl rfl rfl rfl rfl rfl rfl rfl (by repeat constructor) (by rfl) (by simp [fileC]) (by simp [fileC]) (by (simp only [strL_length, intL_length, List.length_append, List.length_cons, List.length_nil]; omega)) (by (simp only [strL_length, intL_length, List.length_append, List.length_cons, List.length_nil]; omega)) ?_)
        refine ev_assign tab_ok rfl rfl rfl ?_
        refine ev_nil ?_ rfl
        refine awp_ret ?_
        exact ⟨_, [0], rfl, .row rfl, cut_of (by decide) (.cons rfl .row .nil), keep0⟩
  | cons s r =>
    refine awp_seq ?_
    refine awp_reg ?_
    refine ev_assign tab_ok rfl rfl rfl ?_
    refine ev_nil ?_ rfl
    refine awp_seq ?_
    refine awp_seq ?_
    refine awp_reg ?_
    refine ev_move tab_ok rfl rfl rfl ?_
    refine ev_nilS tab_ok rfl rfl rfl rfl rfl rfl rfl ?_
    refine ev_nil ?_ rfl
    refine awp_cond rfl (fun hc => by cases hc) (fun hc => ?_)
    refine awp_skip ?_
    refine awp_seq ?_
    have hl2 : (strL (s :: r)).length ≤ 1099511627776 := by rw [strL_length]; exact hl
    have hb1 : (0 + (strL (s :: r)).length) * 16 ≤ 140737488355328 := by omega
    have hb2 : 0 + (strL (s :: r)).length ≤ 9223372036854775807 := by omega
    refine awp_reg ?_
    refine ev_bs0 tab_ok rfl rfl rfl rfl rfl rfl rfl (by constructor) ?_
    refine ev_move tab_ok rfl rfl rfl ?_
    (refine ev_append tab_ok rfl rfl rfl rfl rfl rfl rfl rfl rfl rfl rfl rfl rfl rfl (by repeat constructor) (by rfl) (by exact strL_len _) (by simp [fileC]) (by assumption) (by assumption) ?_)
    refine ev_assign tab_ok rfl rfl rfl ?_
    refine ev_nil ?_ rfl
    refine awp_ret ?_
    exact ⟨_, [0], rfl, .row rfl, cut_of (by decide) (.cons rfl (MvS.rowE (by simp [strL])) .nil), keep0⟩
theorem cloneI_spec (l : List Int) (hl : l.length ≤ 1099511627776) : FCall Tryz.prog 88 [.list (intL l)] [] (.row (intL l) 0) [.row l.length 1 3] := by
  refine fcall_intro tab_ok Tryz.call88 Tryz.func88 rfl rfl rfl (fun G w ι => ?_)
  cases l with
  | nil =>
    refine awp_nil 0 rfl ?_ (fun A m hm hA => ?_)
    · refine awp_seq ?_
      refine awp_reg ?_
      refine ev_assign tab_ok rfl rfl rfl ?_
      refine ev_nil ?_ rfl
      refine awp_seq ?_
      refine awp_seq ?_
      refine awp_reg ?_
      refine ev_move tab_ok rfl rfl rfl ?_
      refine ev_nilS tab_ok rfl rfl rfl rfl rfl rfl rfl ?_
      refine ev_nil ?_ rfl
      refine awp_cond rfl (fun hc => ?_) (fun hc => by cases hc)
      refine awp_seq ?_
      refine awp_reg ?_
      refine ev_assign tab_ok rfl rfl rfl ?_
      refine ev_nil ?_ rfl
      refine awp_ghost 2 1 3 rfl (by constructor) ?_
      refine awp_ret ?_
      exact ⟨_, [0], rfl, .row rfl, cut_of (by decide) (.cons rfl .row .nil), keep0⟩
    · refine awp_seq ?_
      refine awp_reg ?_
      refine ev_assign tab_ok rfl rfl rfl ?_
      refine ev_nil ?_ rfl
      refine awp_seq ?_
      refine awp_seq ?_
      refine awp_reg ?_
      refine ev_move tab_ok rfl rfl rfl ?_
      refine ev_nilS tab_ok rfl rfl rfl rfl rfl rfl rfl ?_
      refine ev_nil ?_ rfl
      refine awp_cond rfl (fun hc => ?_) (fun hc => ?_)
      · refine awp_seq ?_
        refine awp_reg ?_
        refine ev_assign tab_ok rfl rfl rfl ?_
        refine ev_nil ?_ rfl
        refine awp_ghost 2 1 3 rfl (by constructor) ?_
        refine awp_ret ?_
        exact ⟨_, [0], rfl, .row rfl, cut_of (by decide) (.cons rfl .row .nil), keep0⟩
      · refine awp_skip ?_
        refine awp_unnil 0 rfl hm ?_
        refine awp_seq ?_
        refine awp_reg ?_
        refine ev_bs0 tab_ok rfl rfl rfl rfl rfl rfl rfl (by constructor) ?_
        refine ev_move tab_ok rfl rfl rfl ?_
        (refine ev_append tab_ok rfl rfl rfl rfl rfl rfl rfl rfl rfl rfl rfl rfl rfl rfl (by repeat constructor) (by rfl) (by simp [fileC]) (by simp [fileC]) (by (simp only [strL_length, intL_length, List.length_append, List.length_cons, List.length_nil]; omega)) (by (simp only [strL_length, intL_length, List.length_append, List.length_cons, List.length_nil]; omega)) ?_)
        refine ev_assign tab_ok rfl rfl rfl ?_
        refine ev_nil ?_ rfl
        refine awp_ret ?_
        exact ⟨_, [0], rfl, .row rfl, cut_of (by decide) (.cons rfl .row .nil), keep0⟩
  | cons s r =>
    refine awp_seq ?_
    refine awp_reg ?_
    refine ev_assign tab_ok rfl rfl rfl ?_
    refine ev_nil ?_ rfl
    refine awp_seq ?_
    refine awp_seq ?_
    refine awp_reg ?_
    refine ev_move tab_ok rfl rfl rfl ?_
    refine ev_nilS tab_ok rfl rfl rfl rfl rfl rfl rfl ?_
    refine ev_nil ?_ rfl
    refine awp_cond rfl (fun hc => by cases hc) (fun hc => ?_)
    refine awp_skip ?_
    refine awp_seq ?_
    have hl2 : (intL (s :: r)).length ≤ 1099511627776 := by rw [intL_length]; exact hl
    have hb1 : (0 + (intL (s :: r)).length) * 8 ≤ 140737488355328 := by omega
    have hb2 : 0 + (intL (s :: r)).length ≤ 9223372036854775807 := by omega
    refine awp_reg ?_
    refine ev_bs0 tab_ok rfl rfl rfl rfl rfl rfl rfl (by constructor) ?_
    refine ev_move tab_ok rfl rfl rfl ?_
    (refine ev_append tab_ok rfl rfl rfl rfl rfl rfl rfl rfl rfl rfl rfl rfl rfl rfl (by repeat constructor) (by rfl) (by exact intL_len _) (by simp [fileC]) (by assumption) (by assumption) ?_)
    refine ev_assign tab_ok rfl rfl rfl ?_
    refine ev_nil ?_ rfl
    refine awp_ret ?_
    exact ⟨_, [0], rfl, .row rfl, cut_of (by decide) (.cons rfl (MvS.rowE (by simp [intL])) .nil), keep0⟩
theorem strsC_len (l : List (B × B)) : ∀ y ∈ l.map strC, y.length = 2 := fun y hy => by
  obtain ⟨s, _, rfl⟩ := List.mem_map.1 hy
  rfl
theorem cloneS_spec (l : List (B × B)) (hl : l.length ≤ 1099511627776) : FCall Tryz.prog 113 [.list (l.map strC)] [] (.list (l.map strC)) [] := by
  have hlen := strsC_len l
  refine fcall_intro tab_ok Tryz.call113 Tryz.func113 rfl rfl rfl (fun G w ι => ?_)
  cases l with
  | nil =>
    refine awp_nil 0 rfl ?_ (fun A m hm hA => ?_)
    · refine awp_seq ?_
      refine awp_reg ?_
      refine ev_assign tab_ok rfl rfl rfl ?_
      refine ev_nil ?_ rfl
      refine awp_seq ?_
      refine awp_seq ?_
      refine awp_reg ?_
      refine ev_move tab_ok rfl rfl rfl ?_
      refine ev_nilS tab_ok rfl rfl rfl rfl rfl rfl rfl ?_
      refine ev_nil ?_ rfl
      refine awp_cond rfl (fun hc => ?_) (fun hc => by cases hc)
      refine awp_seq ?_
      refine awp_reg ?_
      refine ev_assign tab_ok rfl rfl rfl ?_
      refine ev_nil ?_ rfl
      refine awp_ret ?_
      exact ⟨_, [], rfl, .nilL, cut_of (by decide) .nil, keep0⟩
    · refine awp_seq ?_
      refine awp_reg ?_
      refine ev_assign tab_ok rfl rfl rfl ?_
      refine ev_nil ?_ rfl
      refine awp_seq ?_
      refine awp_seq ?_
      refine awp_reg ?_
      refine ev_move tab_ok rfl rfl rfl ?_
      refine ev_nilS tab_ok rfl rfl rfl rfl rfl rfl rfl ?_
      refine ev_nil ?_ rfl
      refine awp_cond rfl (fun hc => ?_) (fun hc => ?_)
      · refine awp_seq ?_
        refine awp_reg ?_
        refine ev_assign tab_ok rfl rfl rfl ?_
        refine ev_nil ?_ rfl
        refine awp_ret ?_
        exact ⟨_, [], rfl, .nilL, cut_of (by decide) .nil, keep0⟩
      · refine awp_skip ?_
        refine awp_unnil 0 rfl hm ?_
        refine awp_seq ?_
        refine awp_reg ?_
        refine ev_bs0 tab_ok rfl rfl rfl rfl rfl rfl rfl (by constructor) ?_
        refine ev_move tab_ok rfl rfl rfl ?_
        (refine ev_append tab_ok rfl rfl rfl rfl rfl rfl rfl rfl rfl rfl rfl rfl rfl rfl (by repeat constructor) (by rfl) (by assumption) (by assumption) (by (simp only [strL_length, intL_length, List.length_append, List.length_cons, List.length_nil]; omega)) (by (simp only [strL_length, intL_length, List.length_append, List.length_cons, List.length_nil]; omega)) ?_)
        refine ev_assign tab_ok rfl rfl rfl ?_
        refine ev_nil ?_ rfl
        refine awp_ret ?_
        exact ⟨_, [], rfl, .frz rfl, cut_of (by decide) .nil, keep0⟩
  | cons s r =>
    refine awp_seq ?_
    refine awp_reg ?_
    refine ev_assign tab_ok rfl rfl rfl ?_
    refine ev_nil ?_ rfl
    refine awp_seq ?_
    refine awp_seq ?_
    refine awp_reg ?_
    refine ev_move tab_ok rfl rfl rfl ?_
    refine ev_nilS tab_ok rfl rfl rfl rfl rfl rfl rfl ?_
    refine ev_nil ?_ rfl
    refine awp_cond rfl (fun hc => by cases hc) (fun hc => ?_)
    refine awp_skip ?_
    refine awp_seq ?_
    have hl2 : (strC s :: r.map strC).length ≤ 1099511627776 := by simpa using hl
    have hb1 : (0 + (strC s :: r.map strC).length) * 32 ≤ 140737488355328 := by omega
    have hb2 : 0 + (strC s :: r.map strC).length ≤ 9223372036854775807 := by omega
    refine awp_reg ?_
    refine ev_bs0 tab_ok rfl rfl rfl rfl rfl rfl rfl (by constructor) ?_
    refine ev_move tab_ok rfl rfl rfl ?_
    (refine ev_append tab_ok rfl rfl rfl rfl rfl rfl rfl rfl rfl rfl rfl rfl rfl rfl (by repeat constructor) (by rfl) (by assumption) (by simp [fileC]) (by assumption) (by assumption) ?_)
    refine ev_assign tab_ok rfl rfl rfl ?_
    refine ev_nil ?_ rfl
    refine awp_ret ?_
    exact ⟨_, [], rfl, .frz rfl, cut_of (by decide) .nil, keep0⟩
theorem isNaN_spec (a : Int) : FCall Tryz.prog 83 [.s (.int .i64 a)] [] (.s (.bool false)) [] := by
  refine fcall_intro tab_ok Tryz.call83 Tryz.func83 rfl rfl rfl (fun G w ι => ?_)
  refine awp_seq ?_
  refine awp_reg ?_
  refine ev_assign tab_ok rfl rfl rfl ?_
  refine ev_nil ?_ rfl
  refine awp_seq ?_
  refine awp_reg ?_
  refine ev_move tab_ok rfl rfl rfl ?_
  refine ev_move tab_ok rfl rfl rfl ?_
  (refine ev_ineq tab_ok rfl rfl rfl rfl ?_)
  refine ev_assign tab_ok rfl rfl rfl ?_
  refine ev_nil ?_ rfl
  refine awp_ret ?_
  exact ⟨_, [], rfl, Mv.bool (by simp), cut_of (by decide) .nil, keep0⟩
def cmpI (a b : Int) : Int := if a < b then -1 else if b < a then 1 else 0
theorem cmpI_spec (a b : Int) : FCall Tryz.prog 54 [.s (.int .i64 a), .s (.int .i64 b)] [] (.s (.int .i64 (cmpI a b))) [] := by
  refine fcall_intro tab_ok Tryz.call54 Tryz.func54 rfl rfl rfl (fun G w ι => ?_)
  refine awp_seq ?_
  refine awp_reg ?_
  refine ev_assign tab_ok rfl rfl rfl ?_
  refine ev_nil ?_ rfl
  refine awp_seq ?_
  refine awp_reg ?_
  refine ev_move tab_ok rfl rfl rfl ?_
  refine ev_call rfl rfl rfl rfl rfl (isNaN_spec a) rfl ?_
  refine ev_assign tab_ok rfl rfl rfl ?_
  refine ev_nil ?_ rfl
  refine awp_seq ?_
  refine awp_reg ?_
  refine ev_move tab_ok rfl rfl rfl ?_
  refine ev_call rfl rfl rfl rfl rfl (isNaN_spec b) rfl ?_
  refine ev_assign tab_ok rfl rfl rfl ?_
  refine ev_nil ?_ rfl
  refine awp_seq ?_
  refine awp_seq ?_
  refine awp_reg ?_
  refine ev_move tab_ok rfl rfl rfl ?_
  refine ev_nil ?_ rfl
  refine awp_cond rfl (fun hc => by cases hc) (fun hc => ?_)
  refine awp_skip ?_
  refine awp_seq ?_
  refine awp_seq ?_
  refine awp_reg ?_
  refine ev_move tab_ok rfl rfl rfl ?_
  refine ev_nil ?_ rfl
  refine awp_cond rfl (fun hc => by cases hc) (fun hc => ?_)
  refine awp_skip ?_
  refine awp_seq ?_
  refine awp_seq ?_
  refine awp_reg ?_
  refine ev_move tab_ok rfl rfl rfl ?_
  refine ev_move tab_ok rfl rfl rfl ?_
  (refine ev_ilss tab_ok rfl rfl rfl rfl ?_)
  refine ev_nil ?_ rfl
  refine awp_cond rfl (fun hc => ?_) (fun hc => ?_)
  · refine awp_seq ?_
    refine awp_reg ?_
    refine ev_assign tab_ok rfl rfl rfl ?_
    refine ev_nil ?_ rfl
    refine awp_ret ?_
    have h : a < b := by simpa using hc
    exact ⟨_, [], rfl, Mv.int (by rw [cmpI, if_pos h]), cut_of (by decide) .nil, keep0⟩
  · have h : ¬ a < b := by simpa using hc
    refine awp_skip ?_
    refine awp_seq ?_
    refine awp_seq ?_
    refine awp_reg ?_
    refine ev_move tab_ok rfl rfl rfl ?_
    refine ev_move tab_ok rfl rfl rfl ?_
    refine ev_igtr tab_ok rfl rfl rfl rfl ?_
    refine ev_nil ?_ rfl
    refine awp_cond rfl (fun hc => ?_) (fun hc => ?_)
    · refine awp_seq ?_
      refine awp_reg ?_
      refine ev_assign tab_ok rfl rfl rfl ?_
      refine ev_nil ?_ rfl
      refine awp_ret ?_
      have h2 : b < a := by simpa using hc
      exact ⟨_, [], rfl, Mv.int (by rw [cmpI, if_neg h, if_pos h2]), cut_of (by decide) .nil, keep0⟩
    · have h2 : ¬ b < a := by simpa using hc
      refine awp_skip ?_
      refine awp_seq ?_
      refine awp_reg ?_
      refine ev_assign tab_ok rfl rfl rfl ?_
      refine ev_nil ?_ rfl
      refine awp_ret ?_
      exact ⟨_, [], rfl, Mv.int (by rw [cmpI, if_neg h, if_neg h2]), cut_of (by decide) .nil, keep0⟩
end Go.Proofs.Pm
end

/- A part of the proof of one law: the machine on pure values and the walks of functions. -/
import Derived.Test.YtjoikahblpephaaGreatDoorPmLw9P13
import Derived.Test.YtjoikahblpephaaGreatDoorPmLw9P21
set_option linter.all false
section
namespace Go.Proofs.Pm
open Go
def errAt (x : Node) (level : Nat) : Nat → Int
  | 0 => if kindBad x level then 1 else 0
  | 1 => if nameBad x level then 4 else 0
  | 2 => if partsBad x then 1 else 0
  | 3 => if targetBad x then 4 else 0
  | 4 => if ranged18 x = false then 2 else 0
  | 5 => if large18 x level then 7 else 0
  | 6 => firstErr (streamErr x.streams) 0 x.streams.length
  | _ => firstErr (kidErr x.kids) 1 x.kids.length
theorem one18_at {x : Node} {level i : Nat} (hi : i < 8) (h0 : ∀ j, j < i → errAt x level j = 0) (h : errAt x level i ≠ 0) : one18 x level = errAt x level i := by
  have a0 := fun h => h0 0 h
  have a1 := fun h => h0 1 h
  have a2 := fun h => h0 2 h
  have a3 := fun h => h0 3 h
  have a4 := fun h => h0 4 h
  have a5 := fun h => h0 5 h
  have a6 := fun h => h0 6 h
  clear h0
  unfold one18
  obtain rfl | rfl | rfl | rfl | rfl | rfl | rfl | rfl : i = 0 ∨ i = 1 ∨ i = 2 ∨ i = 3 ∨ i = 4 ∨ i = 5 ∨ i = 6 ∨ i = 7 := by omega
  all_goals
    simp only [errAt] at *
    simp_all
theorem one18_zero {x : Node} {level : Nat} (h0 : ∀ j, j < 8 → errAt x level j = 0) : one18 x level = 0 := by
  have a0 := h0 0 (by decide)
  have a1 := h0 1 (by decide)
  have a2 := h0 2 (by decide)
  have a3 := h0 3 (by decide)
  have a4 := h0 4 (by decide)
  have a5 := h0 5 (by decide)
  have a6 := h0 6 (by decide)
  have a7 := h0 7 (by decide)
  unfold one18
  simp only [errAt] at *
  simp_all
def fnsC (x : Node) (level : Nat) : List (List PV) := [[.fn 119 [.agg (ruleC x level)] []], [.fn 120 [.agg (ruleC x level)] []], [.fn 121 [.agg (ruleC x level)] []], [.fn 122 [.agg (ruleC x level)] []], [.fn 123 [.agg (ruleC x level)] []], [.fn 124 [.agg (ruleC x level)] []], [.fn 125 [.agg (ruleC x level)] []], [.fn 126 [.agg (ruleC x level)] []]]
def stepC (s : B × Int) (x : Node) (path : B) (level : Nat) : (B × Int) × Bool := if one18 x level ≠ 0 then ((path, one18 x level), false) else ((s.1, 0), true)
theorem checkStep_spec (s : B × Int) (x : Node) (path : B) (level : Nat) (hb : x.bulk ≤ 1099511627776) :
    FCall Tryz.prog 118 [.agg (nodeC x), .s (.string path), .s (.int .i64 level), .ptr 0 0, .ptr 1 0] [.box [.s (.int .i64 s.2)] 29, .box [.s (.string s.1)] 9] (.s (.bool (stepC s x path level).2)) [.box [.s (.int .i64 (stepC s x path level).1.2)] 29, .box [.s (.string (stepC s x path level).1.1)] 9] := by
  refine fcall_intro tab_ok Tryz.call118 Tryz.func118 rfl rfl rfl (fun G w ι => ?_)
  refine awp_seq ?_
  refine awp_reg ?_
  refine ev_box rfl rfl rfl rfl (by constructor) ?_
  refine ev_assign tab_ok rfl rfl rfl ?_
  refine ev_nil ?_ rfl
  refine awp_seq ?_
  refine awp_reg ?_
  (refine ev_loadB tab_ok rfl rfl rfl rfl rfl rfl rfl ?_)
  refine ev_move tab_ok rfl rfl rfl ?_
  refine ev_build tab_ok rfl rfl rfl rfl rfl rfl rfl rfl rfl rfl rfl rfl ?_
  try refine ev_as (show _ = PV.agg (ruleC x level) by rfl) ?_
  refine ev_alloc tab_ok rfl rfl rfl rfl rfl rfl (by constructor) ?_
  refine ev_store tab_ok rfl rfl rfl rfl rfl rfl rfl rfl rfl (by repeat constructor) ?_
  refine ev_nil ?_ rfl
  refine awp_seq ?_
  refine awp_seq ?_
  refine awp_reg ?_
  (refine ev_loadB tab_ok rfl rfl rfl rfl rfl rfl rfl ?_)
  refine ev_mkFn tab_ok rfl rfl rfl rfl rfl ?_
  (refine ev_loadB tab_ok rfl rfl rfl rfl rfl rfl rfl ?_)
  refine ev_mkFn tab_ok rfl rfl rfl rfl rfl ?_
  (refine ev_loadB tab_ok rfl rfl rfl rfl rfl rfl rfl ?_)
  refine ev_mkFn tab_ok rfl rfl rfl rfl rfl ?_
  (refine ev_loadB tab_ok rfl rfl rfl rfl rfl rfl rfl ?_)
  refine ev_mkFn tab_ok rfl rfl rfl rfl rfl ?_
  (refine ev_loadB tab_ok rfl rfl rfl rfl rfl rfl rfl ?_)
  refine ev_mkFn tab_ok rfl rfl rfl rfl rfl ?_
  (refine ev_loadB tab_ok rfl rfl rfl rfl rfl rfl rfl ?_)
  refine ev_mkFn tab_ok rfl rfl rfl rfl rfl ?_
  (refine ev_loadB tab_ok rfl rfl rfl rfl rfl rfl rfl ?_)
  refine ev_mkFn tab_ok rfl rfl rfl rfl rfl ?_
  (refine ev_loadB tab_ok rfl rfl rfl rfl rfl rfl rfl ?_)
  refine ev_mkFn tab_ok rfl rfl rfl rfl rfl ?_
  refine ev_buildSlice tab_ok rfl rfl rfl rfl rfl rfl rfl rfl rfl rfl rfl rfl rfl rfl (by constructor) ?_
  try refine ev_as (show _ = PV.row (fnsC x level) _ by rfl) ?_
  (refine ev_lenR tab_ok rfl rfl rfl rfl rfl rfl ?_)
  refine ev_move tab_ok rfl rfl rfl ?_
  refine ev_nil ?_ rfl
  refine awp_block ?_
  refine awp_loop (fun i : Nat => ⟨[(33, .s (.int .i64 i)), (32, .s (.int .i64 8)), (31, .list (fnsC x level)), (1, .s (.string path)), (3, .ptr 0 0), (4, .ptr 1 0)], [.box [.s (.int .i64 (if i = 0 then s.2 else 0))] 29, .box [.s (.string s.1)] 9]⟩) (fun i => i ≤ 8 ∧ ∀ j, j < i → errAt x level j = 0) (fun i => 8 - i) 0 [0, 1] ?_ ⟨Nat.zero_le _, fun j h => by omega⟩ keep2 (fun i hi => ?_)
  · all_goals (try refine le_of (by decide) ?_ ?_)
    repeat' (first | exact trivial | exact .nil | (refine CutL.cons rfl ?_ ?_) | (refine EnvLe.cons rfl ?_ ?_) | (refine MvS.box (mvl_closed rfl)) | exact .ptr rfl | exact .frz rfl | fail)
    all_goals (try simp only [wrap_addL, wrap_addR, wrap_subL, wrap_subR]); all_goals (try (rw [wrap_i64 (by omega) (by omega)]; omega))
  obtain ⟨hi, h0⟩ := hi
  refine awp_seq ?_
  refine awp_reg ?_
  (refine ev_ilss tab_ok rfl rfl rfl rfl ?_)
  refine ev_nil ?_ rfl
  refine awp_seq ?_
  refine awp_cond rfl (fun hc => ?_) (fun hc => ?_)
  · refine awp_skip ?_
    have hlt : i < 8 := by
      have : (i : Int) < 8 := by simpa using hc
      omega
    have hone := fun h => one18_at (x := x) (level := level) hlt h0 h
    clear hc
    obtain rfl | rfl | rfl | rfl | rfl | rfl | rfl | rfl : i = 0 ∨ i = 1 ∨ i = 2 ∨ i = 3 ∨ i = 4 ∨ i = 5 ∨ i = 6 ∨ i = 7 := by omega
    · refine awp_seq ?_
      refine awp_block ?_
      refine awp_seq ?_
      refine awp_reg ?_
      (refine ev_iaL tab_ok rfl rfl rfl rfl rfl rfl rfl rfl rfl (by omega) (by rfl) rfl ?_)
      (refine ev_loadE tab_ok rfl rfl rfl rfl rfl rfl ?_)
      refine ev_assign tab_ok rfl rfl rfl ?_
      refine ev_nil ?_ rfl
      refine awp_seq ?_
      refine awp_reg ?_
      refine ev_move tab_ok rfl rfl rfl ?_
      refine ev_call rfl rfl rfl rfl rfl (kindE_spec x level) rfl ?_
      refine ev_store tab_ok rfl rfl rfl rfl rfl rfl rfl rfl rfl (by repeat constructor) ?_
      refine ev_nil ?_ rfl
      refine awp_seq ?_
      refine awp_reg ?_
      (refine ev_loadB tab_ok rfl rfl rfl rfl rfl rfl rfl ?_)
      (refine ev_ineq tab_ok rfl rfl rfl rfl ?_)
      refine ev_nil ?_ rfl
      refine awp_cond rfl (fun hc => ?_) (fun hc => ?_)
      · have he : errAt x level 0 ≠ 0 := by simpa [errAt] using hc
        have ho := hone he
        refine awp_seq ?_
        refine awp_reg ?_
        refine ev_move tab_ok rfl rfl rfl ?_
        refine ev_store tab_ok rfl rfl rfl rfl rfl rfl rfl rfl rfl (by repeat constructor) ?_
        refine ev_nil ?_ rfl
        refine awp_seq ?_
        refine awp_reg ?_
        refine ev_assign tab_ok rfl rfl rfl ?_
        refine ev_nil ?_ rfl
        refine awp_ret ?_
        have h1 : one18 x level ≠ 0 := by rw [ho]; exact he
        refine ⟨_, [0, 1], rfl, Mv.bool (by rw [stepC, if_pos h1]), ?_, keep2⟩
        rw [stepC, if_pos h1]
        exact cut_of (by decide) (.cons rfl (.box (.cons (Mv.int ho.symm) .nil)) (.cons rfl (.box (.cons (.frz rfl) .nil)) .nil))
      · have he : errAt x level 0 = 0 := by simpa [errAt] using hc
        refine awp_skip ?_
        refine awp_reg ?_
        (refine ev_iadd tab_ok rfl rfl rfl rfl ?_)
        refine ev_move tab_ok rfl rfl rfl ?_
        refine ev_nil ?_ rfl
        refine ⟨1, [0, 1], ?_, by decide, ⟨by decide, fun j hj => ?_⟩, keep2⟩
        · refine le_of (by decide) (.cons rfl (.box (.cons (Mv.int he) .nil)) (.cons rfl (.box (.cons (.frz rfl) .nil)) .nil)) ?_
          repeat' (first | exact trivial | (refine EnvLe.cons rfl ?_ ?_) | exact .ptr rfl | exact .frz rfl)
        by_cases e : j = 0
        · subst e; exact he
        · exact h0 j (by omega)
    · refine awp_seq ?_
      refine awp_block ?_
      refine awp_seq ?_
      refine awp_reg ?_
      (refine ev_iaL tab_ok rfl rfl rfl rfl rfl rfl rfl rfl rfl (by omega) (by rfl) rfl ?_)
      (refine ev_loadE tab_ok rfl rfl rfl rfl rfl rfl ?_)
      refine ev_assign tab_ok rfl rfl rfl ?_
      refine ev_nil ?_ rfl
      refine awp_seq ?_
      refine awp_reg ?_
      refine ev_move tab_ok rfl rfl rfl ?_
      refine ev_call rfl rfl rfl rfl rfl (nameE_spec x level) rfl ?_
      refine ev_store tab_ok rfl rfl rfl rfl rfl rfl rfl rfl rfl (by repeat constructor) ?_
      refine ev_nil ?_ rfl
      refine awp_seq ?_
      refine awp_reg ?_
      (refine ev_loadB tab_ok rfl rfl rfl rfl rfl rfl rfl ?_)
      (refine ev_ineq tab_ok rfl rfl rfl rfl ?_)
      refine ev_nil ?_ rfl
      refine awp_cond rfl (fun hc => ?_) (fun hc => ?_)
      · have he : errAt x level 1 ≠ 0 := by simpa [errAt] using hc
        have ho := hone he
        refine awp_seq ?_
        refine awp_reg ?_
        refine ev_move tab_ok rfl rfl rfl ?_
        refine ev_store tab_ok rfl rfl rfl rfl rfl rfl rfl rfl rfl (by repeat constructor) ?_
        refine ev_nil ?_ rfl
        refine awp_seq ?_
        refine awp_reg ?_
        refine ev_assign tab_ok rfl rfl rfl ?_
        refine ev_nil ?_ rfl
        refine awp_ret ?_
        have h1 : one18 x level ≠ 0 := by rw [ho]; exact he
        refine ⟨_, [0, 1], rfl, Mv.bool (by rw [stepC, if_pos h1]), ?_, keep2⟩
        rw [stepC, if_pos h1]
        exact cut_of (by decide) (.cons rfl (.box (.cons (Mv.int ho.symm) .nil)) (.cons rfl (.box (.cons (.frz rfl) .nil)) .nil))
      · have he : errAt x level 1 = 0 := by simpa [errAt] using hc
        refine awp_skip ?_
        refine awp_reg ?_
        (refine ev_iadd tab_ok rfl rfl rfl rfl ?_)
        refine ev_move tab_ok rfl rfl rfl ?_
        refine ev_nil ?_ rfl
        refine ⟨2, [0, 1], ?_, by decide, ⟨by decide, fun j hj => ?_⟩, keep2⟩
        · refine le_of (by decide) (.cons rfl (.box (.cons (Mv.int he) .nil)) (.cons rfl (.box (.cons (.frz rfl) .nil)) .nil)) ?_
          repeat' (first | exact trivial | (refine EnvLe.cons rfl ?_ ?_) | exact .ptr rfl | exact .frz rfl)
        by_cases e : j = 1
        · subst e; exact he
        · exact h0 j (by omega)
    · refine awp_seq ?_
      refine awp_block ?_
      refine awp_seq ?_
      refine awp_reg ?_
      (refine ev_iaL tab_ok rfl rfl rfl rfl rfl rfl rfl rfl rfl (by omega) (by rfl) rfl ?_)
      (refine ev_loadE tab_ok rfl rfl rfl rfl rfl rfl ?_)
      refine ev_assign tab_ok rfl rfl rfl ?_
      refine ev_nil ?_ rfl
      refine awp_seq ?_
      refine awp_reg ?_
      refine ev_move tab_ok rfl rfl rfl ?_
      refine ev_call rfl rfl rfl rfl rfl (partsE_spec x level) rfl ?_
      refine ev_store tab_ok rfl rfl rfl rfl rfl rfl rfl rfl rfl (by repeat constructor) ?_
      refine ev_nil ?_ rfl
      refine awp_seq ?_
      refine awp_reg ?_
      (refine ev_loadB tab_ok rfl rfl rfl rfl rfl rfl rfl ?_)
      (refine ev_ineq tab_ok rfl rfl rfl rfl ?_)
      refine ev_nil ?_ rfl
      refine awp_cond rfl (fun hc => ?_) (fun hc => ?_)
      · have he : errAt x level 2 ≠ 0 := by simpa [errAt] using hc
        have ho := hone he
        refine awp_seq ?_
        refine awp_reg ?_
        refine ev_move tab_ok rfl rfl rfl ?_
        refine ev_store tab_ok rfl rfl rfl rfl rfl rfl rfl rfl rfl (by repeat constructor) ?_
        refine ev_nil ?_ rfl
        refine awp_seq ?_
        refine awp_reg ?_
        refine ev_assign tab_ok rfl rfl rfl ?_
        refine ev_nil ?_ rfl
        refine awp_ret ?_
        have h1 : one18 x level ≠ 0 := by rw [ho]; exact he
        refine ⟨_, [0, 1], rfl, Mv.bool (by rw [stepC, if_pos h1]), ?_, keep2⟩
        rw [stepC, if_pos h1]
        exact cut_of (by decide) (.cons rfl (.box (.cons (Mv.int ho.symm) .nil)) (.cons rfl (.box (.cons (.frz rfl) .nil)) .nil))
      · have he : errAt x level 2 = 0 := by simpa [errAt] using hc
        refine awp_skip ?_
        refine awp_reg ?_
        (refine ev_iadd tab_ok rfl rfl rfl rfl ?_)
        refine ev_move tab_ok rfl rfl rfl ?_
        refine ev_nil ?_ rfl
        refine ⟨3, [0, 1], ?_, by decide, ⟨by decide, fun j hj => ?_⟩, keep2⟩
        · refine le_of (by decide) (.cons rfl (.box (.cons (Mv.int he) .nil)) (.cons rfl (.box (.cons (.frz rfl) .nil)) .nil)) ?_
          repeat' (first | exact trivial | (refine EnvLe.cons rfl ?_ ?_) | exact .ptr rfl | exact .frz rfl)
        by_cases e : j = 2
        · subst e; exact he
        · exact h0 j (by omega)
    · refine awp_seq ?_
      refine awp_block ?_
      refine awp_seq ?_
      refine awp_reg ?_
      (refine ev_iaL tab_ok rfl rfl rfl rfl rfl rfl rfl rfl rfl (by omega) (by rfl) rfl ?_)
      (refine ev_loadE tab_ok rfl rfl rfl rfl rfl rfl ?_)
      refine ev_assign tab_ok rfl rfl rfl ?_
      refine ev_nil ?_ rfl
      refine awp_seq ?_
      refine awp_reg ?_
      refine ev_move tab_ok rfl rfl rfl ?_
      refine ev_call rfl rfl rfl rfl rfl (targetE_spec x level) rfl ?_
      refine ev_store tab_ok rfl rfl rfl rfl rfl rfl rfl rfl rfl (by repeat constructor) ?_
      refine ev_nil ?_ rfl
      refine awp_seq ?_
      refine awp_reg ?_
      (refine ev_loadB tab_ok rfl rfl rfl rfl rfl rfl rfl ?_)
      (refine ev_ineq tab_ok rfl rfl rfl rfl ?_)
      refine ev_nil ?_ rfl
      refine awp_cond rfl (fun hc => ?_) (fun hc => ?_)
      · have he : errAt x level 3 ≠ 0 := by simpa [errAt] using hc
        have ho := hone he
        refine awp_seq ?_
        refine awp_reg ?_
        refine ev_move tab_ok rfl rfl rfl ?_
        refine ev_store tab_ok rfl rfl rfl rfl rfl rfl rfl rfl rfl (by repeat constructor) ?_
        refine ev_nil ?_ rfl
        refine awp_seq ?_
        refine awp_reg ?_
        refine ev_assign tab_ok rfl rfl rfl ?_
        refine ev_nil ?_ rfl
        refine awp_ret ?_
        have h1 : one18 x level ≠ 0 := by rw [ho]; exact he
        refine ⟨_, [0, 1], rfl, Mv.bool (by rw [stepC, if_pos h1]), ?_, keep2⟩
        rw [stepC, if_pos h1]
        exact cut_of (by decide) (.cons rfl (.box (.cons (Mv.int ho.symm) .nil)) (.cons rfl (.box (.cons (.frz rfl) .nil)) .nil))
      · have he : errAt x level 3 = 0 := by simpa [errAt] using hc
        refine awp_skip ?_
        refine awp_reg ?_
        (refine ev_iadd tab_ok rfl rfl rfl rfl ?_)
        refine ev_move tab_ok rfl rfl rfl ?_
        refine ev_nil ?_ rfl
        refine ⟨4, [0, 1], ?_, by decide, ⟨by decide, fun j hj => ?_⟩, keep2⟩
        · refine le_of (by decide) (.cons rfl (.box (.cons (Mv.int he) .nil)) (.cons rfl (.box (.cons (.frz rfl) .nil)) .nil)) ?_
          repeat' (first | exact trivial | (refine EnvLe.cons rfl ?_ ?_) | exact .ptr rfl | exact .frz rfl)
        by_cases e : j = 3
        · subst e; exact he
        · exact h0 j (by omega)
    · refine awp_seq ?_
      refine awp_block ?_
      refine awp_seq ?_
      refine awp_reg ?_
      (refine ev_iaL tab_ok rfl rfl rfl rfl rfl rfl rfl rfl rfl (by omega) (by rfl) rfl ?_)
      (refine ev_loadE tab_ok rfl rfl rfl rfl rfl rfl ?_)
      refine ev_assign tab_ok rfl rfl rfl ?_
      refine ev_nil ?_ rfl
      refine awp_seq ?_
      refine awp_reg ?_
      refine ev_move tab_ok rfl rfl rfl ?_
      refine ev_call rfl rfl rfl rfl rfl (numbersE_spec x level) rfl ?_
      refine ev_store tab_ok rfl rfl rfl rfl rfl rfl rfl rfl rfl (by repeat constructor) ?_
      refine ev_nil ?_ rfl
      refine awp_seq ?_
      refine awp_reg ?_
      (refine ev_loadB tab_ok rfl rfl rfl rfl rfl rfl rfl ?_)
      (refine ev_ineq tab_ok rfl rfl rfl rfl ?_)
      refine ev_nil ?_ rfl
      refine awp_cond rfl (fun hc => ?_) (fun hc => ?_)
      · have he : errAt x level 4 ≠ 0 := by simpa [errAt] using hc
        have ho := hone he
        refine awp_seq ?_
        refine awp_reg ?_
        refine ev_move tab_ok rfl rfl rfl ?_
        refine ev_store tab_ok rfl rfl rfl rfl rfl rfl rfl rfl rfl (by repeat constructor) ?_
        refine ev_nil ?_ rfl
        refine awp_seq ?_
        refine awp_reg ?_
        refine ev_assign tab_ok rfl rfl rfl ?_
        refine ev_nil ?_ rfl
        refine awp_ret ?_
        have h1 : one18 x level ≠ 0 := by rw [ho]; exact he
        refine ⟨_, [0, 1], rfl, Mv.bool (by rw [stepC, if_pos h1]), ?_, keep2⟩
        rw [stepC, if_pos h1]
        exact cut_of (by decide) (.cons rfl (.box (.cons (Mv.int ho.symm) .nil)) (.cons rfl (.box (.cons (.frz rfl) .nil)) .nil))
      · have he : errAt x level 4 = 0 := by simpa [errAt] using hc
        refine awp_skip ?_
        refine awp_reg ?_
        (refine ev_iadd tab_ok rfl rfl rfl rfl ?_)
        refine ev_move tab_ok rfl rfl rfl ?_
        refine ev_nil ?_ rfl
        refine ⟨5, [0, 1], ?_, by decide, ⟨by decide, fun j hj => ?_⟩, keep2⟩
        · refine le_of (by decide) (.cons rfl (.box (.cons (Mv.int he) .nil)) (.cons rfl (.box (.cons (.frz rfl) .nil)) .nil)) ?_
          repeat' (first | exact trivial | (refine EnvLe.cons rfl ?_ ?_) | exact .ptr rfl | exact .frz rfl)
        by_cases e : j = 4
        · subst e; exact he
        · exact h0 j (by omega)
    · refine awp_seq ?_
      refine awp_block ?_
      refine awp_seq ?_
      refine awp_reg ?_
      (refine ev_iaL tab_ok rfl rfl rfl rfl rfl rfl rfl rfl rfl (by omega) (by rfl) rfl ?_)
      (refine ev_loadE tab_ok rfl rfl rfl rfl rfl rfl ?_)
      refine ev_assign tab_ok rfl rfl rfl ?_
      refine ev_nil ?_ rfl
      refine awp_seq ?_
      refine awp_reg ?_
      refine ev_move tab_ok rfl rfl rfl ?_
      refine ev_call rfl rfl rfl rfl rfl (sizesE_spec x level hb) rfl ?_
      refine ev_store tab_ok rfl rfl rfl rfl rfl rfl rfl rfl rfl (by repeat constructor) ?_
      refine ev_nil ?_ rfl
      refine awp_seq ?_
      refine awp_reg ?_
      (refine ev_loadB tab_ok rfl rfl rfl rfl rfl rfl rfl ?_)
      (refine ev_ineq tab_ok rfl rfl rfl rfl ?_)
      refine ev_nil ?_ rfl
      refine awp_cond rfl (fun hc => ?_) (fun hc => ?_)
      · have he : errAt x level 5 ≠ 0 := by simpa [errAt] using hc
        have ho := hone he
        refine awp_seq ?_
        refine awp_reg ?_
        refine ev_move tab_ok rfl rfl rfl ?_
        refine ev_store tab_ok rfl rfl rfl rfl rfl rfl rfl rfl rfl (by repeat constructor) ?_
        refine ev_nil ?_ rfl
        refine awp_seq ?_
        refine awp_reg ?_
        refine ev_assign tab_ok rfl rfl rfl ?_
        refine ev_nil ?_ rfl
        refine awp_ret ?_
        have h1 : one18 x level ≠ 0 := by rw [ho]; exact he
        refine ⟨_, [0, 1], rfl, Mv.bool (by rw [stepC, if_pos h1]), ?_, keep2⟩
        rw [stepC, if_pos h1]
        exact cut_of (by decide) (.cons rfl (.box (.cons (Mv.int ho.symm) .nil)) (.cons rfl (.box (.cons (.frz rfl) .nil)) .nil))
      · have he : errAt x level 5 = 0 := by simpa [errAt] using hc
        refine awp_skip ?_
        refine awp_reg ?_
        (refine ev_iadd tab_ok rfl rfl rfl rfl ?_)
        refine ev_move tab_ok rfl rfl rfl ?_
        refine ev_nil ?_ rfl
        refine ⟨6, [0, 1], ?_, by decide, ⟨by decide, fun j hj => ?_⟩, keep2⟩
        · refine le_of (by decide) (.cons rfl (.box (.cons (Mv.int he) .nil)) (.cons rfl (.box (.cons (.frz rfl) .nil)) .nil)) ?_
          repeat' (first | exact trivial | (refine EnvLe.cons rfl ?_ ?_) | exact .ptr rfl | exact .frz rfl)
        by_cases e : j = 5
        · subst e; exact he
        · exact h0 j (by omega)
    · refine awp_seq ?_
      refine awp_block ?_
      refine awp_seq ?_
      refine awp_reg ?_
      (refine ev_iaL tab_ok rfl rfl rfl rfl rfl rfl rfl rfl rfl (by omega) (by rfl) rfl ?_)
      (refine ev_loadE tab_ok rfl rfl rfl rfl rfl rfl ?_)
      refine ev_assign tab_ok rfl rfl rfl ?_
      refine ev_nil ?_ rfl
      refine awp_seq ?_
      refine awp_reg ?_
      refine ev_move tab_ok rfl rfl rfl ?_
      refine ev_call rfl rfl rfl rfl rfl (streamsE_spec x level hb) rfl ?_
      refine ev_store tab_ok rfl rfl rfl rfl rfl rfl rfl rfl rfl (by repeat constructor) ?_
      refine ev_nil ?_ rfl
      refine awp_seq ?_
      refine awp_reg ?_
      (refine ev_loadB tab_ok rfl rfl rfl rfl rfl rfl rfl ?_)
      (refine ev_ineq tab_ok rfl rfl rfl rfl ?_)
      refine ev_nil ?_ rfl
      refine awp_cond rfl (fun hc => ?_) (fun hc => ?_)
      · have he : errAt x level 6 ≠ 0 := by simpa [errAt] using hc
        have ho := hone he
        refine awp_seq ?_
        refine awp_reg ?_
        refine ev_move tab_ok rfl rfl rfl ?_
        refine ev_store tab_ok rfl rfl rfl rfl rfl rfl rfl rfl rfl (by repeat constructor) ?_
        refine ev_nil ?_ rfl
        refine awp_seq ?_
        refine awp_reg ?_
        refine ev_assign tab_ok rfl rfl rfl ?_
        refine ev_nil ?_ rfl
        refine awp_ret ?_
        have h1 : one18 x level ≠ 0 := by rw [ho]; exact he
        refine ⟨_, [0, 1], rfl, Mv.bool (by rw [stepC, if_pos h1]), ?_, keep2⟩
        rw [stepC, if_pos h1]
        exact cut_of (by decide) (.cons rfl (.box (.cons (Mv.int ho.symm) .nil)) (.cons rfl (.box (.cons (.frz rfl) .nil)) .nil))
      · have he : errAt x level 6 = 0 := by simpa [errAt] using hc
        refine awp_skip ?_
        refine awp_reg ?_
        (refine ev_iadd tab_ok rfl rfl rfl rfl ?_)
        refine ev_move tab_ok rfl rfl rfl ?_
        refine ev_nil ?_ rfl
        refine ⟨7, [0, 1], ?_, by decide, ⟨by decide, fun j hj => ?_⟩, keep2⟩
        · refine le_of (by decide) (.cons rfl (.box (.cons (Mv.int he) .nil)) (.cons rfl (.box (.cons (.frz rfl) .nil)) .nil)) ?_
          repeat' (first | exact trivial | (refine EnvLe.cons rfl ?_ ?_) | exact .ptr rfl | exact .frz rfl)
        by_cases e : j = 6
        · subst e; exact he
        · exact h0 j (by omega)
    · refine awp_seq ?_
      refine awp_block ?_
      refine awp_seq ?_
      refine awp_reg ?_
      (refine ev_iaL tab_ok rfl rfl rfl rfl rfl rfl rfl rfl rfl (by omega) (by rfl) rfl ?_)
      (refine ev_loadE tab_ok rfl rfl rfl rfl rfl rfl ?_)
      refine ev_assign tab_ok rfl rfl rfl ?_
      refine ev_nil ?_ rfl
      refine awp_seq ?_
      refine awp_reg ?_
      refine ev_move tab_ok rfl rfl rfl ?_
      refine ev_call rfl rfl rfl rfl rfl (kidsE_spec x level hb) rfl ?_
      refine ev_store tab_ok rfl rfl rfl rfl rfl rfl rfl rfl rfl (by repeat constructor) ?_
      refine ev_nil ?_ rfl
      refine awp_seq ?_
      refine awp_reg ?_
      (refine ev_loadB tab_ok rfl rfl rfl rfl rfl rfl rfl ?_)
      (refine ev_ineq tab_ok rfl rfl rfl rfl ?_)
      refine ev_nil ?_ rfl
      refine awp_cond rfl (fun hc => ?_) (fun hc => ?_)
      · have he : errAt x level 7 ≠ 0 := by simpa [errAt] using hc
        have ho := hone he
        refine awp_seq ?_
        refine awp_reg ?_
        refine ev_move tab_ok rfl rfl rfl ?_
        refine ev_store tab_ok rfl rfl rfl rfl rfl rfl rfl rfl rfl (by repeat constructor) ?_
        refine ev_nil ?_ rfl
        refine awp_seq ?_
        refine awp_reg ?_
        refine ev_assign tab_ok rfl rfl rfl ?_
        refine ev_nil ?_ rfl
        refine awp_ret ?_
        have h1 : one18 x level ≠ 0 := by rw [ho]; exact he
        refine ⟨_, [0, 1], rfl, Mv.bool (by rw [stepC, if_pos h1]), ?_, keep2⟩
        rw [stepC, if_pos h1]
        exact cut_of (by decide) (.cons rfl (.box (.cons (Mv.int ho.symm) .nil)) (.cons rfl (.box (.cons (.frz rfl) .nil)) .nil))
      · have he : errAt x level 7 = 0 := by simpa [errAt] using hc
        refine awp_skip ?_
        refine awp_reg ?_
        (refine ev_iadd tab_ok rfl rfl rfl rfl ?_)
        refine ev_move tab_ok rfl rfl rfl ?_
        refine ev_nil ?_ rfl
        refine ⟨8, [0, 1], ?_, by decide, ⟨by decide, fun j hj => ?_⟩, keep2⟩
        · refine le_of (by decide) (.cons rfl (.box (.cons (Mv.int he) .nil)) (.cons rfl (.box (.cons (.frz rfl) .nil)) .nil)) ?_
          repeat' (first | exact trivial | (refine EnvLe.cons rfl ?_ ?_) | exact .ptr rfl | exact .frz rfl)
        by_cases e : j = 7
        · subst e; exact he
        · exact h0 j (by omega)
  · refine awp_exit ?_
    have hge : i = 8 := by
      have : ¬ (i : Int) < 8 := by simpa using hc
      omega
    subst hge
    have h1 := one18_zero h0
    refine awp_seq ?_
    refine awp_reg ?_
    refine ev_assign tab_ok rfl rfl rfl ?_
    refine ev_nil ?_ rfl
    refine awp_ret ?_
    have h2 : stepC s x path level = ((s.1, 0), true) := by rw [stepC, if_neg (by rw [h1]; simp)]
    refine ⟨_, [0, 1], rfl, Mv.bool (by rw [h2]), ?_, keep2⟩
    rw [h2]
    exact cut_of (by decide) (.cons rfl (.box (.cons (Mv.int rfl) .nil)) (.cons rfl (.box (.cons (.frz rfl) .nil)) .nil))
def stepN (s : Nat) (x : Node) (path : B) (level : Nat) : Nat × Bool := (s + 1, true)
theorem countStep_spec (s : Nat) (x : Node) (path : B) (level : Nat) (hs : s + 1 ≤ 2199023255552) :
    FCall Tryz.prog 142 [.agg (nodeC x), .s (.string path), .s (.int .i64 level), .ptr 0 0] [.box [.s (.int .i64 s)] 3] (.s (.bool true)) [.box [.s (.int .i64 ((s + 1 : Nat) : Int))] 3] := by
  refine fcall_intro tab_ok Tryz.call142 Tryz.func142 rfl rfl rfl (fun G w ι => ?_)
  refine awp_seq ?_
  refine awp_reg ?_
  refine ev_box rfl rfl rfl rfl (by constructor) ?_
  refine ev_assign tab_ok rfl rfl rfl ?_
  refine ev_nil ?_ rfl
  refine awp_seq ?_
  refine awp_reg ?_
  (refine ev_loadB tab_ok rfl rfl rfl rfl rfl rfl rfl ?_)
  (refine ev_iadd tab_ok rfl rfl rfl rfl ?_)
  refine ev_store tab_ok rfl rfl rfl rfl rfl rfl rfl rfl rfl (by repeat constructor) ?_
  refine ev_nil ?_ rfl
  refine awp_seq ?_
  refine awp_reg ?_
  refine ev_assign tab_ok rfl rfl rfl ?_
  refine ev_nil ?_ rfl
  refine awp_ret ?_
  exact ⟨_, [0], rfl, .frz rfl, cut_of (by decide) (.cons rfl (.box (.cons (Mv.int (by rw [wrap_i64 (by omega) (by omega)]; omega)) .nil)) .nil), keep1⟩
theorem kidsF_count {f : Nat → Node → Nat × Bool} : ∀ (l : List Node) (s : Nat), (∀ k ∈ l, ∀ s, f s k = (s + k.count, true)) → kidsF f s l = (s + (l.map Node.count).sum, true)
  | [], s, _ => by simp [kidsF]
  | k :: r, s, h => by
    rw [kidsF, h k List.mem_cons_self s, if_pos rfl, kidsF_count r _ (fun k hk => h k (List.mem_cons_of_mem _ hk)), List.map_cons, List.sum_cons, Nat.add_assoc]
theorem walk_count : ∀ (x : Node) (s : Nat) (path : B) (level : Nat), walkR stepN s x path level = (s + x.count, true) := by
  intro x
  induction x using Node.ind with
  | h x ih =>
  intro s path level
  rw [walkR_eq]
  show (if true = true then _ else _) = _
  rw [if_pos rfl, kidsF_count _ _ (fun k hk s => ih k hk s _ _), count_eq]
  show (s + 1 + _, true) = _
  rw [Nat.add_assoc]
theorem countP_spec (x : Node) (hb : x.bulk ≤ 1099511627776) : FCall Tryz.prog 117 [.agg (nodeC x)] [] (.s (.int .i64 x.count)) [] := by
  have hsp := span_le x
  have hcl := count_le x
  have hw := walk1_spec (σ := Nat) (g := 142) (caps := [.ptr 0 0]) (fun s => .box [.s (.int .i64 (s : Int))] 3) stepN (fun s b => s + b ≤ 2199023255552) (fun R h => .cons (.ptr h) .nil) (fun R h s => .box (.cons (.frz rfl) .nil)) (fun s b b' h h' => by omega) (fun s b x path level h => by show s + 1 + b ≤ _; omega) (fun s b x path level h hp => countStep_spec s x path level (by omega)) x 0 ⟨#[]⟩ 1 0 (by omega) ⟨hb, by rw [bsize0]; omega, Nat.le_refl _, by omega⟩
  rw [walk_count, Nat.zero_add] at hw
  refine fcall_intro tab_ok Tryz.call117 Tryz.func117 rfl rfl rfl (fun G w ι => ?_)
  refine awp_seq ?_
  refine awp_reg ?_
  refine ev_box rfl rfl rfl rfl (by constructor) ?_
  refine ev_assign tab_ok rfl rfl rfl ?_
  refine ev_nil ?_ rfl
  refine awp_seq ?_
  refine awp_reg ?_
  refine ev_alloc tab_ok rfl rfl rfl rfl rfl rfl (by constructor) ?_
  refine ev_store tab_ok rfl rfl rfl rfl rfl rfl rfl rfl rfl (by repeat constructor) ?_
  refine ev_nil ?_ rfl
  refine awp_seq ?_
  refine awp_reg ?_
  (refine ev_loadB tab_ok rfl rfl rfl rfl rfl rfl rfl ?_)
  refine ev_mkFn tab_ok rfl rfl rfl rfl rfl ?_
  refine ev_callG (sg := [1]) (nu := []) (Sin := [_]) (Sout := [.box [.s (.int .i64 (x.count : Int))] 3]) rfl rfl rfl rfl (hw) (by repeat' (first | exact .nil | (refine MvL.cons ?_ ?_) | exact .ptr rfl | exact .frz rfl | (refine Mv.fnL ?_ ?_) | fail)) (by repeat' (first | exact trivial | (refine And.intro rfl ?_))) (by repeat' (first | exact .nil | (refine MvSs.cons ?_ ?_) | (refine MvS.box ?_) | exact mvl_closed rfl | fail)) (by repeat' (first | exact .frz rfl | fail)) (by repeat' (first | exact .nil | (refine MvSs.cons ?_ ?_) | (refine MvS.box ?_) | exact mvl_closed rfl | fail)) rfl rfl (by decide) rfl ?_
  refine ev_nil ?_ rfl
  refine awp_seq ?_
  refine awp_reg ?_
  (refine ev_loadB tab_ok rfl rfl rfl rfl rfl rfl rfl ?_)
  refine ev_assign tab_ok rfl rfl rfl ?_
  refine ev_nil ?_ rfl
  refine awp_ret ?_
  exact ⟨_, [], rfl, .frz rfl, cut_of (by decide) .nil, keep0⟩
theorem kidsF_check {f : B × Int → Node → (B × Int) × Bool} {c : Node → B × Int} : ∀ (l : List Node) (s : B × Int), (∀ k ∈ l, ∀ s, f s k = if (c k).2 ≠ 0 then (c k, false) else ((s.1, 0), true)) →
    kidsF f (s.1, 0) l = match (l.map c).find? (fun r => r.2 != 0) with
      | some r => (r, false)
      | none => ((s.1, 0), true)
  | [], s, _ => rfl
  | k :: r, s, h => by
    rw [kidsF, h k List.mem_cons_self]
    by_cases hc : (c k).2 = 0
    · have e : (if (c k).2 ≠ 0 then (c k, false) else (((s.1, 0).1, 0), true) : (B × Int) × Bool) = ((s.1, 0), true) := if_neg (by simpa using hc)
      rw [e, List.map_cons, List.find?_cons_of_neg (by simp [hc])]
      exact kidsF_check r s (fun k hk => h k (List.mem_cons_of_mem _ hk))
    · have e : (if (c k).2 ≠ 0 then (c k, false) else (((s.1, 0).1, 0), true) : (B × Int) × Bool) = (c k, false) := if_pos hc
      rw [e, List.map_cons, List.find?_cons_of_pos (by simp [hc])]
      rfl
theorem walk_check : ∀ (x : Node) (s : B × Int) (path : B) (level : Nat), walkR stepC s x path level = if (check18 x path level).2 ≠ 0 then (check18 x path level, false) else ((s.1, 0), true) := by
  intro x
  induction x using Node.ind with
  | h x ih =>
  intro s path level
  rw [walkR_eq, check18_eq]
  by_cases h1 : one18 x level = 0
  · have h2 : stepC s x path level = ((s.1, 0), true) := by rw [stepC, if_neg (by rw [h1]; simp)]
    rw [h2, if_pos rfl, if_neg (show ¬ one18 x level ≠ 0 by rw [h1]; simp), kidsF_check (c := fun k => check18 k (belowR path k.name level) (level + 1)) x.kids s (fun k hk s => ih k hk s _ _)]
    cases hf : (x.kids.map fun k => check18 k (belowR path k.name level) (level + 1)).find? (fun r => r.2 != 0) with
    | some r => rw [Option.getD_some, if_pos (find_ne hf)]
    | none => rw [Option.getD_none, if_neg (by simp)]
  · have h2 : stepC s x path level = ((path, one18 x level), false) := by rw [stepC, if_pos h1]
    rw [h2, if_pos h1, if_pos h1]; rfl
theorem check18_zero {x : Node} {path : B} {level : Nat} (h : (check18 x path level).2 = 0) : check18 x path level = (⟨#[]⟩, 0) := by
  rw [check18_eq] at h ⊢
  by_cases h1 : one18 x level = 0
  · rw [if_neg (by simpa using h1)] at h ⊢
    cases hf : (x.kids.map fun k => check18 k (belowR path k.name level) (level + 1)).find? (fun r => r.2 != 0) with
    | some r => rw [hf] at h; exact absurd h (find_ne hf)
    | none => rfl
  · rw [if_pos h1] at h
    exact absurd h h1
theorem checkP_spec (x : Node) (hb : x.bulk ≤ 1099511627776) : FCall Tryz.prog 84 [.agg (nodeC x)] [] (.tup [.s (.string (check18T x).1), .s (.int .i64 (check18T x).2)]) [] := by
  have hsp := span_le x
  have hcl := count_le x
  have hw := walk2_spec (σ := B × Int) (g := 118) (caps := [.ptr 0 0, .ptr 1 0]) (fun s => .box [.s (.int .i64 s.2)] 29) (fun s => .box [.s (.string s.1)] 9) stepC (fun s b => True) (fun R h h' => .cons (.ptr h) (.cons (.ptr h') .nil)) (fun R h h' s => .box (.cons (.frz rfl) .nil)) (fun R h h' s => .box (.cons (.frz rfl) .nil)) (fun s b b' h h' => trivial) (fun s b x path level h => trivial) (fun s b x path level h hp => checkStep_spec s x path level hp.1) x (⟨#[]⟩, 0) ⟨#[]⟩ 1 0 trivial ⟨hb, by rw [bsize0]; omega, Nat.le_refl _, by omega⟩
  rw [walk_check] at hw
  refine fcall_intro tab_ok Tryz.call84 Tryz.func84 rfl rfl rfl (fun G w ι => ?_)
  refine awp_seq ?_
  refine awp_reg ?_
  refine ev_box rfl rfl rfl rfl (by constructor) ?_
  refine ev_assign tab_ok rfl rfl rfl ?_
  refine ev_assign tab_ok rfl rfl rfl ?_
  refine ev_nil ?_ rfl
  refine awp_seq ?_
  refine awp_seq ?_
  refine awp_reg ?_
  (refine ev_loadB tab_ok rfl rfl rfl rfl rfl rfl rfl ?_)
  refine ev_call rfl rfl rfl rfl rfl (countP_spec x hb) rfl ?_
  refine ev_igtr tab_ok rfl rfl rfl rfl ?_
  refine ev_nil ?_ rfl
  refine awp_cond rfl (fun hc => ?_) (fun hc => ?_)
  · have h : 256 < x.count := by
      have : (256 : Int) < x.count := by simpa using hc
      omega
    refine awp_seq ?_
    refine awp_reg ?_
    refine ev_assign tab_ok rfl rfl rfl ?_
    refine ev_assign tab_ok rfl rfl rfl ?_
    refine ev_nil ?_ rfl
    refine awp_ret ?_
    exact ⟨_, [], rfl, Mv.val (by rw [check18T, if_pos h]) rfl, cut_of (by decide) .nil, keep0⟩
  · have h : ¬ 256 < x.count := by
      have : ¬ (256 : Int) < x.count := by simpa using hc
      omega
    have hT : check18T x = check18 x ⟨#[]⟩ 1 := by rw [check18T, if_neg h]
    have hz : (check18T x).2 = 0 → check18T x = (⟨#[]⟩, 0) := fun h => by rw [hT] at h ⊢; exact check18_zero h
    rw [← hT] at hw
    generalize check18T x = c at *
    refine awp_skip ?_
    refine awp_seq ?_
    refine awp_reg ?_
    refine ev_alloc tab_ok rfl rfl rfl rfl rfl rfl (by constructor) ?_
    refine ev_alloc tab_ok rfl rfl rfl rfl rfl rfl (by constructor) ?_
    refine ev_store tab_ok rfl rfl rfl rfl rfl rfl rfl rfl rfl (by repeat constructor) ?_
    refine ev_store tab_ok rfl rfl rfl rfl rfl rfl rfl rfl rfl (by repeat constructor) ?_
    refine ev_nil ?_ rfl
    refine awp_seq ?_
    by_cases hc2 : c.2 = 0
    · rw [if_neg (by simpa using hc2)] at hw
      have hz := hz hc2
      subst hz
      refine awp_reg ?_
      (refine ev_loadB tab_ok rfl rfl rfl rfl rfl rfl rfl ?_)
      refine ev_mkFn tab_ok rfl rfl rfl rfl rfl ?_
      refine ev_callG (sg := [2, 1]) (nu := []) (Sin := [_, _]) (Sout := [.box [.s (.int .i64 0)] 29, .box [.s (.string ⟨#[]⟩)] 9]) rfl rfl rfl rfl (hw) (by repeat' (first | exact .nil | (refine MvL.cons ?_ ?_) | exact .ptr rfl | exact .frz rfl | (refine Mv.fnL ?_ ?_) | fail)) (by repeat' (first | exact trivial | (refine And.intro rfl ?_))) (by repeat' (first | exact .nil | (refine MvSs.cons ?_ ?_) | (refine MvS.box ?_) | exact mvl_closed rfl | fail)) (by repeat' (first | exact .frz rfl | fail)) (by repeat' (first | exact .nil | (refine MvSs.cons ?_ ?_) | (refine MvS.box ?_) | exact mvl_closed rfl | fail)) rfl rfl (by decide) rfl ?_
      refine ev_nil ?_ rfl
      refine awp_seq ?_
      refine awp_draw mixed ?_
      (refine ev_loadB tab_ok rfl rfl rfl rfl rfl rfl rfl ?_)
      (refine ev_loadB tab_ok rfl rfl rfl rfl rfl rfl rfl ?_)
      refine ev_assign tab_ok rfl rfl rfl ?_
      refine ev_assign tab_ok rfl rfl rfl ?_
      refine ev_nilD ?_ (by kernel_rfl)
      refine awp_ret ?_
      exact ⟨_, [], rfl, Mv.val rfl rfl, cut_of (by decide) .nil, keep0⟩
    · rw [if_pos hc2] at hw
      refine awp_reg ?_
      (refine ev_loadB tab_ok rfl rfl rfl rfl rfl rfl rfl ?_)
      refine ev_mkFn tab_ok rfl rfl rfl rfl rfl ?_
      refine ev_callG (sg := [2, 1]) (nu := []) (Sin := [_, _]) (Sout := [.box [.s (.int .i64 c.2)] 29, .box [.s (.string c.1)] 9]) rfl rfl rfl rfl (hw) (by repeat' (first | exact .nil | (refine MvL.cons ?_ ?_) | exact .ptr rfl | exact .frz rfl | (refine Mv.fnL ?_ ?_) | fail)) (by repeat' (first | exact trivial | (refine And.intro rfl ?_))) (by repeat' (first | exact .nil | (refine MvSs.cons ?_ ?_) | (refine MvS.box ?_) | exact mvl_closed rfl | fail)) (by repeat' (first | exact .frz rfl | fail)) (by repeat' (first | exact .nil | (refine MvSs.cons ?_ ?_) | (refine MvS.box ?_) | exact mvl_closed rfl | fail)) rfl rfl (by decide) rfl ?_
      refine ev_nil ?_ rfl
      refine awp_seq ?_
      refine awp_draw mixed ?_
      (refine ev_loadB tab_ok rfl rfl rfl rfl rfl rfl rfl ?_)
      (refine ev_loadB tab_ok rfl rfl rfl rfl rfl rfl rfl ?_)
      refine ev_assign tab_ok rfl rfl rfl ?_
      refine ev_assign tab_ok rfl rfl rfl ?_
      refine ev_nilD ?_ (by kernel_rfl)
      refine awp_ret ?_
      exact ⟨_, [], rfl, Mv.val rfl rfl, cut_of (by decide) .nil, keep0⟩
theorem validP_spec (x : Node) (hb : x.bulk ≤ 1099511627776) : FCall Tryz.prog 56 [.agg (nodeC x)] [] (.s (.bool (valid18 x))) [] := by
  refine fcall_intro tab_ok Tryz.call56 Tryz.func56 rfl rfl rfl (fun G w ι => ?_)
  refine awp_seq ?_
  refine awp_reg ?_
  refine ev_box rfl rfl rfl rfl (by constructor) ?_
  refine ev_assign tab_ok rfl rfl rfl ?_
  refine ev_nil ?_ rfl
  refine awp_seq ?_
  refine awp_reg ?_
  (refine ev_loadB tab_ok rfl rfl rfl rfl rfl rfl rfl ?_)
  refine ev_call rfl rfl rfl rfl rfl (checkP_spec x hb) rfl ?_
  refine ev_move tab_ok rfl rfl rfl ?_
  refine ev_extract tab_ok rfl rfl rfl rfl ?_
  refine ev_extract tab_ok rfl rfl rfl rfl ?_
  refine ev_assign tab_ok rfl rfl rfl ?_
  refine ev_assign tab_ok rfl rfl rfl ?_
  refine ev_nil ?_ rfl
  refine awp_seq ?_
  refine awp_reg ?_
  refine ev_move tab_ok rfl rfl rfl ?_
  (refine ev_ieql tab_ok rfl rfl rfl rfl ?_)
  refine ev_assign tab_ok rfl rfl rfl ?_
  refine ev_nil ?_ rfl
  refine awp_ret ?_
  exact ⟨_, [], rfl, Mv.bool rfl, cut_of (by decide) .nil, keep0⟩
def stepP (s : List B) (x : Node) (path : B) (level : Nat) : List B × Bool := (s ++ [path], true)
theorem pathStep_spec (s : List B) (x : Node) (path : B) (level : Nat) (hs : s.length + 1 ≤ 2199023255552) :
    FCall Tryz.prog 81 [.agg (nodeC x), .s (.string path), .s (.int .i64 level), .ptr 0 0] [.box [.row (strL s) 1] 26, .row s.length 1 9] (.s (.bool true)) [.box [.row (strL (s ++ [path])) 1] 26, .row (s ++ [path]).length 1 9] := by
  refine fcall_intro tab_ok Tryz.call81 Tryz.func81 rfl rfl rfl (fun G w ι => ?_)
  refine awp_seq ?_
  refine awp_reg ?_
  refine ev_box rfl rfl rfl rfl (by constructor) ?_
  refine ev_assign tab_ok rfl rfl rfl ?_
  refine ev_nil ?_ rfl
  refine awp_seq ?_
  refine awp_reg ?_
  (refine ev_loadB tab_ok rfl rfl rfl rfl rfl rfl rfl ?_)
  refine ev_move tab_ok rfl rfl rfl ?_
  refine ev_buildSlice tab_ok rfl rfl rfl rfl rfl rfl rfl rfl rfl rfl rfl rfl rfl rfl (by constructor) ?_
  (refine ev_append tab_ok rfl rfl rfl rfl rfl rfl rfl rfl rfl rfl rfl rfl rfl rfl (by repeat constructor) (by (simp [strL_length, intL_length]; done)) (by exact one_len _) (by exact strL_len _) (by (simp only [strL_length, intL_length, List.length_append, List.length_cons, List.length_nil]; omega)) (by (simp only [strL_length, intL_length, List.length_append, List.length_cons, List.length_nil]; omega)) ?_)
  refine ev_store tab_ok rfl rfl rfl rfl rfl rfl rfl rfl rfl (by repeat constructor) ?_
  refine ev_nil ?_ rfl
  refine awp_seq ?_
  refine awp_reg ?_
  refine ev_assign tab_ok rfl rfl rfl ?_
  refine ev_nil ?_ rfl
  refine awp_ret ?_
  exact ⟨_, [0, 1], rfl, .frz rfl, cut_of (by decide) (.cons rfl (.box (.cons (Mv.rowE rfl (by simp [strL])) .nil)) (.cons rfl (MvS.rowE (by simp)) .nil)), keep2⟩
theorem kidsF_paths {f : List B → Node → List B × Bool} {c : Node → List B} : ∀ (l : List Node) (s : List B), (∀ k ∈ l, ∀ s, f s k = (s ++ c k, true)) → kidsF f s l = (s ++ l.flatMap c, true)
  | [], s, _ => by simp [kidsF]
  | k :: r, s, h => by
    rw [kidsF, h k List.mem_cons_self s, if_pos rfl, kidsF_paths r _ (fun k hk => h k (List.mem_cons_of_mem _ hk)), List.flatMap_cons, List.append_assoc]
theorem walk_paths : ∀ (x : Node) (s : List B) (path : B) (level : Nat), walkR stepP s x path level = (s ++ pathsR x path level, true) := by
  intro x
  induction x using Node.ind with
  | h x ih =>
  intro s path level
  rw [walkR_eq]
  show (if true = true then _ else _) = _
  rw [if_pos rfl, kidsF_paths (c := fun k => pathsR k (belowR path k.name level) (level + 1)) _ _ (fun k hk s => ih k hk s _ _), pathsR_eq]
  show (s ++ [path] ++ _, true) = _
  rw [List.append_assoc]; rfl
theorem pathsP_spec (x : Node) (hb : x.bulk ≤ 1099511627776) : FCall Tryz.prog 51 [.agg (nodeC x)] [] (.list (strL (paths18 x))) [] := by
  have hsp := span_le x
  have hcl := count_le x
  have hw := walk2_spec (σ := List B) (g := 81) (caps := [.ptr 0 0]) (fun s => .box [.row (strL s) 1] 26) (fun s => .row s.length 1 9) stepP (fun s b => s.length + b ≤ 2199023255552) (fun R h h' => .cons (.ptr h) .nil) (fun R h h' s => .box (.cons (.row h') .nil)) (fun R h h' s => .row) (fun s b b' h h' => by omega) (fun s b x path level h => by show (s ++ [path]).length + b ≤ _; simp; omega) (fun s b x path level h hp => pathStep_spec s x path level (by omega)) x [] ⟨#[]⟩ 1 0 (by simp; omega) ⟨hb, by rw [bsize0]; omega, Nat.le_refl _, by omega⟩
  rw [walk_paths, List.nil_append] at hw
  refine fcall_intro tab_ok Tryz.call51 Tryz.func51 rfl rfl rfl (fun G w ι => ?_)
  refine awp_seq ?_
  refine awp_reg ?_
  refine ev_box rfl rfl rfl rfl (by constructor) ?_
  refine ev_assign tab_ok rfl rfl rfl ?_
  refine ev_nil ?_ rfl
  refine awp_seq ?_
  refine awp_seq ?_
  refine awp_reg ?_
  (refine ev_loadB tab_ok rfl rfl rfl rfl rfl rfl rfl ?_)
  refine ev_call rfl rfl rfl rfl rfl (validP_spec x hb) rfl ?_
  refine ev_not tab_ok rfl rfl rfl ?_
  refine ev_nil ?_ rfl
  refine awp_cond rfl (fun hc => ?_) (fun hc => ?_)
  · have h : ¬ valid18 x = true := by simpa using hc
    refine awp_seq ?_
    refine awp_reg ?_
    refine ev_assign tab_ok rfl rfl rfl ?_
    refine ev_nil ?_ rfl
    refine awp_ret ?_
    refine ⟨_, [], rfl, ?_, cut_of (by decide) .nil, keep0⟩
    rw [paths18, if_neg h]
    exact .nilL
  · have h : valid18 x = true := by simpa using hc
    refine awp_skip ?_
    refine awp_seq ?_
    refine awp_reg ?_
    refine ev_alloc tab_ok rfl rfl rfl rfl rfl rfl (by constructor) ?_
    refine ev_nil ?_ rfl
    refine awp_ghostB 1 1 9 rfl (by repeat constructor) (by constructor) ?_
    refine awp_seq ?_
    refine awp_reg ?_
    (refine ev_loadB tab_ok rfl rfl rfl rfl rfl rfl rfl ?_)
    refine ev_mkFn tab_ok rfl rfl rfl rfl rfl ?_
    refine ev_callG (sg := [1, 2]) (nu := []) (Sin := [_, _]) (Sout := [.box [.row (strL (pathsR x ⟨#[]⟩ 1)) 2] 26, .row (pathsR x ⟨#[]⟩ 1).length 1 9]) rfl rfl rfl rfl (hw) (by repeat' (first | exact .nil | (refine MvL.cons ?_ ?_) | exact .ptr rfl | exact .frz rfl | (refine Mv.fnL ?_ ?_) | fail)) (by repeat' (first | exact trivial | (refine And.intro rfl ?_))) (by repeat' (first | exact .nil | (refine MvSs.cons ?_ ?_) | exact MvS.row | (refine MvS.box ?_) | (refine MvL.cons ?_ ?_) | exact .row rfl | fail)) (by repeat' (first | exact .frz rfl | fail)) (by repeat' (first | exact .nil | (refine MvSs.cons ?_ ?_) | exact MvS.row | (refine MvS.box ?_) | (refine MvL.cons ?_ ?_) | exact .row rfl | fail)) rfl rfl (by decide) rfl ?_
    refine ev_nil ?_ rfl
    refine awp_seq ?_
    refine awp_reg ?_
    (refine ev_loadB tab_ok rfl rfl rfl rfl rfl rfl rfl ?_)
    refine ev_assign tab_ok rfl rfl rfl ?_
    refine ev_nil ?_ rfl
    refine awp_ret ?_
    exact ⟨_, [], rfl, Mv.rowL (by rw [paths18, if_pos h]), cut_of (by decide) .nil, keep0⟩
end Go.Proofs.Pm
end
section
namespace Go.Proofs.Pm
open Go
theorem findKid_spec (x : Node) (n : B) : FCall Tryz.prog 112 [.agg (nodeC x), .ptr 0 0] [.box [.s (.string n)] 9] (.s (.bool (named n x))) [.box [.s (.string n)] 9] := by
  refine fcall_intro tab_ok Tryz.call112 Tryz.func112 rfl rfl rfl (fun G w ι => ?_)
  refine awp_seq ?_
  refine awp_reg ?_
  refine ev_box rfl rfl rfl rfl (by constructor) ?_
  refine ev_assign tab_ok rfl rfl rfl ?_
  refine ev_nil ?_ rfl
  refine awp_seq ?_
  refine awp_reg ?_
  (refine ev_faB tab_ok rfl rfl rfl rfl rfl rfl rfl ?_)
  (refine ev_loadB tab_ok rfl rfl rfl rfl rfl rfl rfl ?_)
  (refine ev_loadB tab_ok rfl rfl rfl rfl rfl rfl rfl ?_)
  (refine ev_seql tab_ok rfl rfl rfl rfl ?_)
  refine ev_assign tab_ok rfl rfl rfl ?_
  refine ev_nil ?_ rfl
  refine awp_ret ?_
  exact ⟨_, [0], rfl, .frz rfl, cut_of (by decide) (.cons rfl (.box (mvl_closed rfl)) .nil), keep1⟩
theorem indexKid_spec (ks : List Node) (n : B) (hb : ks.length ≤ 1099511627776) : FCall Tryz.prog 111 [.list (kidsC ks), .fn 112 [] [.ptr 0 0]] [.box [.s (.string n)] 9] (.s (.int .i64 (kidZ (ks.findIdx? (named n))))) [.box [.s (.string n)] 9] := by
  refine fcall_intro tab_ok Tryz.call111 Tryz.func111 rfl rfl rfl (fun G w ι => ?_)
  refine awp_seq ?_
  refine awp_reg ?_
  refine ev_assign tab_ok rfl rfl rfl ?_
  refine ev_nil ?_ rfl
  refine awp_seq ?_
  refine awp_seq ?_
  refine awp_reg ?_
  refine ev_move tab_ok rfl rfl rfl ?_
  (refine ev_lenL tab_ok rfl rfl rfl rfl rfl rfl ?_)
  refine ev_move tab_ok rfl rfl rfl ?_
  refine ev_nil ?_ rfl
  refine awp_block ?_
  refine awp_loop (fun i : Nat => ⟨[(8, .s (.int .i64 i)), (7, .s (.int .i64 ks.length)), (0, .list (kidsC ks)), (1, .fn 112 [] [.ptr 0 0])], [.box [.s (.string n)] 9]⟩) (fun i => i ≤ ks.length ∧ ∀ (j : Nat) (h : j < ks.length), j < i → named n ks[j] = false) (fun i => ks.length - i) 0 [0] ?_ ⟨Nat.zero_le _, fun j _ h => by omega⟩ keep1 (fun i hi => ?_)
  · refine le_of (by decide) (.cons rfl (.box (mvl_closed rfl)) .nil) (EnvLe.cons rfl (.frz rfl) (EnvLe.cons rfl (Mv.int (by rw [kidsC_length])) (EnvLe.cons rfl (.frz rfl) (EnvLe.cons rfl (Mv.fnL .nil (.cons (.ptr rfl) .nil)) trivial))))
  refine awp_seq ?_
  refine awp_reg ?_
  (refine ev_ilss tab_ok rfl rfl rfl rfl ?_)
  refine ev_nil ?_ rfl
  refine awp_seq ?_
  refine awp_cond rfl (fun hc => ?_) (fun hc => ?_)
  · refine awp_skip ?_
    have hlt : i < ks.length := by simpa using hc
    have hx : ks[i]? = some ks[i] := List.getElem?_eq_getElem hlt
    refine awp_seq ?_
    refine awp_block ?_
    refine awp_seq ?_
    refine awp_reg ?_
    refine ev_move tab_ok rfl rfl rfl ?_
    refine ev_assign tab_ok rfl rfl rfl ?_
    refine ev_nil ?_ rfl
    refine awp_seq ?_
    refine awp_reg ?_
    refine ev_move tab_ok rfl rfl rfl ?_
    refine ev_move tab_ok rfl rfl rfl ?_
    refine ev_move tab_ok rfl rfl rfl ?_
    (refine ev_iaL tab_ok rfl rfl rfl rfl rfl rfl rfl rfl rfl (by omega) (by rw [Int.toNat_natCast]; exact kidsC_get hx) rfl ?_)
    (refine ev_loadE tab_ok rfl rfl rfl rfl rfl rfl ?_)
    refine ev_callG (sg := [0]) (nu := []) (Sin := [_]) (Sout := [.box [.s (.string n)] 9]) rfl rfl rfl rfl (findKid_spec ks[i] n) (by repeat' (first | exact .nil | (refine MvL.cons ?_ ?_) | exact .ptr rfl | exact .frz rfl | fail)) (by repeat' (first | exact trivial | (refine And.intro rfl ?_))) (by repeat' (first | exact .nil | (refine MvSs.cons ?_ ?_) | (refine MvS.box ?_) | exact mvl_closed rfl | fail)) (by repeat' (first | exact .frz rfl | fail)) (by repeat' (first | exact .nil | (refine MvSs.cons ?_ ?_) | (refine MvS.box ?_) | exact mvl_closed rfl | fail)) rfl rfl (by decide) rfl ?_
    refine ev_nil ?_ rfl
    refine awp_cond rfl (fun hc => ?_) (fun hc => ?_)
    · refine awp_seq ?_
      refine awp_reg ?_
      refine ev_move tab_ok rfl rfl rfl ?_
      refine ev_assign tab_ok rfl rfl rfl ?_
      refine ev_nil ?_ rfl
      refine awp_ret ?_
      exact ⟨_, [0], rfl, Mv.int (by rw [find_at (p := named n) hlt hi.2 hc]; rfl), cut_of (by decide) (.cons rfl (.box (mvl_closed rfl)) .nil), keep1⟩
    · refine awp_skip ?_
      refine awp_reg ?_
      (refine ev_iadd tab_ok rfl rfl rfl rfl ?_)
      refine ev_move tab_ok rfl rfl rfl ?_
      refine ev_nil ?_ rfl
      refine ⟨i + 1, [0], ?_, by omega, ⟨hlt, before_succ (p := named n) hlt hi.2 hc⟩, keep1⟩
      refine le_of (by decide) (.cons rfl (.box (mvl_closed rfl)) .nil) (EnvLe.cons rfl (Mv.int (by rw [wrap_i64 (by omega) (by omega)]; omega)) (EnvLe.cons rfl (.frz rfl) (EnvLe.cons rfl (.frz rfl) (EnvLe.cons rfl (Mv.fnL .nil (.cons (.ptr rfl) .nil)) trivial))))
  · refine awp_exit ?_
    have hge : i = ks.length := by
      have : ¬ i < ks.length := by simpa using hc
      omega
    subst hge
    refine awp_seq ?_
    refine awp_reg ?_
    refine ev_assign tab_ok rfl rfl rfl ?_
    refine ev_nil ?_ rfl
    refine awp_ret ?_
    exact ⟨_, [0], rfl, Mv.int (by rw [find_none (p := named n) (fun j h => hi.2 j h h)]; rfl), cut_of (by decide) (.cons rfl (.box (mvl_closed rfl)) .nil), keep1⟩
def findP (x : Node) (path : B) : PV := if emptyB path then .ptr 0 0 else match descend x (split18 path 47) with
  | some y => .eptr (nodeC y)
  | none => .s (.pointer none)
theorem findP_spec (x : Node) (path : B) (hb : x.bulk ≤ 1099511627776) (hp : path.size < 4294967281) : FCall Tryz.prog 78 [.ptr 0 0, .s (.string path)] [.box (nodeC x) 25] (findP x path) [.box (nodeC x) 25] := by
  refine fcall_intro tab_ok Tryz.call78 Tryz.func78 rfl rfl rfl (fun G w ι => ?_)
  refine awp_seq ?_
  refine awp_reg ?_
  refine ev_assign tab_ok rfl rfl rfl ?_
  refine ev_nil ?_ rfl
  refine awp_seq ?_
  refine awp_seq ?_
  refine awp_reg ?_
  refine ev_move tab_ok rfl rfl rfl ?_
  (refine ev_seql tab_ok rfl rfl rfl rfl ?_)
  refine ev_nil ?_ rfl
  refine awp_cond rfl (fun hc => ?_) (fun hc => ?_)
  · refine awp_seq ?_
    refine awp_reg ?_
    refine ev_move tab_ok rfl rfl rfl ?_
    refine ev_assign tab_ok rfl rfl rfl ?_
    refine ev_nil ?_ rfl
    refine awp_ret ?_
    refine ⟨_, [0], rfl, ?_, cut_of (by decide) (.cons rfl (.box (mvl_closed rfl)) .nil), keep1⟩
    rw [findP, if_pos (show emptyB path = true from hc)]
    exact .ptr rfl
  refine awp_skip ?_
  have hpl : (split18 path 47).length ≤ 4398046511105 := by
    have := splitAux_length 47 path.data.toList ⟨#[]⟩
    have e : path.data.toList.length = path.size := by simp
    unfold split18; omega
  have hne : split18 path 47 ≠ [] := by
    have : ∀ (l : List UInt8) (p : B), splitAux 47 l p ≠ [] := by
      intro l
      induction l with
      | nil => intro p; simp [splitAux]
      | cons b r ih => intro p; rw [splitAux]; split; · simp
                       · exact ih _
    exact this _ _
  have hg : findP x path = match descend x (split18 path 47) with
      | some y => .eptr (nodeC y)
      | none => .s (.pointer none) := by rw [findP, if_neg (by rw [emptyB, hc]; decide)]
  refine awp_seq ?_
  refine awp_seq ?_
  refine awp_reg ?_
  refine ev_move tab_ok rfl rfl rfl ?_
  refine ev_call rfl rfl rfl rfl rfl (splitS_spec path hp) rfl ?_
  (refine ev_lenL tab_ok rfl rfl rfl rfl rfl rfl ?_)
  refine ev_move tab_ok rfl rfl rfl ?_
  refine ev_nil ?_ rfl
  generalize split18 path 47 = ps at *
  refine awp_block ?_
  refine awp_loop (fun q : Nat × Node => ⟨[(14, .s (.int .i64 q.1)), (13, .s (.int .i64 ps.length)), (12, .list (strL ps)), (0, if q.1 = 0 then .ptr 0 0 else .eptr (nodeC q.2))], [.box (nodeC x) 25]⟩) (fun q => q.1 ≤ ps.length ∧ q.2.bulk ≤ x.bulk ∧ descend x ps = descend q.2 (ps.drop q.1) ∧ (q.1 = 0 → q.2 = x)) (fun q => ps.length - q.1) (0, x) [0] ?_ ⟨Nat.zero_le _, Nat.le_refl _, rfl, fun _ => rfl⟩ keep1 (fun q hq => ?_)
  · refine le_of (by decide) (.cons rfl (.box (mvl_closed rfl)) .nil) (EnvLe.cons rfl (.frz rfl) (EnvLe.cons rfl (Mv.int (by rw [strL_length])) (EnvLe.cons rfl (.frz rfl) (EnvLe.cons rfl (.ptr rfl) trivial))))
  obtain ⟨i, y⟩ := q
  obtain ⟨h1, h2, h3, h0⟩ := hq
  simp only at h1 h2 h3 h0
  have hkl0 := kids_len y
  by_cases hi0 : i = 0
  · have hyx : y = x := h0 hi0
    subst hyx
    change AWp _ _ _ ⟨[(14, .s (.int .i64 i)), (13, .s (.int .i64 ps.length)), (12, .list (strL ps)), (0, if i = 0 then .ptr 0 0 else .eptr (nodeC y))], [.box (nodeC y) 25]⟩ _
    rw [if_pos hi0]
    refine awp_seq ?_
    refine awp_reg ?_
    (refine ev_ilss tab_ok rfl rfl rfl rfl ?_)
    refine ev_nil ?_ rfl
    refine awp_seq ?_
    refine awp_cond rfl (fun hc => ?_) (fun hc => ?_)
    · skip
      refine awp_skip ?_
      have hlt : i < ps.length := by simpa using hc
      have hx : ps[i]? = some ps[i] := List.getElem?_eq_getElem hlt
      rw [List.drop_eq_getElem_cons hlt, descend] at h3
      refine awp_seq ?_
      refine awp_block ?_
      refine awp_seq ?_
      refine awp_reg ?_
      (refine ev_iaL tab_ok rfl rfl rfl rfl rfl rfl rfl rfl rfl (by omega) (by rw [Int.toNat_natCast]; exact strL_get hx) rfl ?_)
      (refine ev_loadE tab_ok rfl rfl rfl rfl rfl rfl ?_)
      refine ev_alloc tab_ok rfl rfl rfl rfl rfl rfl (by constructor) ?_
      refine ev_store tab_ok rfl rfl rfl rfl rfl rfl rfl rfl rfl (by repeat constructor) ?_
      refine ev_nil ?_ rfl
      generalize ps[i] = n at *
      have hcall := indexKid_spec y.kids n (by omega)
      refine awp_seq ?_
      cases hk : y.kids.findIdx? (named n) with
      | none =>
        rw [hk] at h3 hcall
        refine awp_reg ?_
        refine ev_move tab_ok rfl rfl rfl ?_
        (refine ev_nilB tab_ok rfl rfl rfl ?_)
        (refine ev_faB tab_ok rfl rfl rfl rfl rfl rfl rfl ?_)
        (refine ev_loadB tab_ok rfl rfl rfl rfl rfl rfl rfl ?_)
        refine ev_mkFn tab_ok rfl rfl rfl rfl rfl ?_
        refine ev_callG (sg := [1]) (nu := []) (Sin := [_]) (Sout := [.box [.s (.string n)] 9]) rfl rfl rfl rfl (hcall) (by repeat' (first | exact .nil | (refine MvL.cons ?_ ?_) | exact .ptr rfl | exact .frz rfl | (refine Mv.fnL ?_ ?_) | fail)) (by repeat' (first | exact trivial | (refine And.intro rfl ?_))) (by repeat' (first | exact .nil | (refine MvSs.cons ?_ ?_) | (refine MvS.box ?_) | exact mvl_closed rfl | fail)) (by repeat' (first | exact .frz rfl | fail)) (by repeat' (first | exact .nil | (refine MvSs.cons ?_ ?_) | (refine MvS.box ?_) | exact mvl_closed rfl | fail)) rfl rfl (by decide) rfl ?_
        refine ev_assign tab_ok rfl rfl rfl ?_
        refine ev_nil ?_ rfl
        refine awp_seq ?_
        refine awp_seq ?_
        refine awp_reg ?_
        refine ev_move tab_ok rfl rfl rfl ?_
        (refine ev_ilss tab_ok rfl rfl rfl rfl ?_)
        refine ev_nil ?_ rfl
        refine awp_cond rfl (fun hc => ?_) (fun hc => by cases hc)
        refine awp_seq ?_
        refine awp_reg ?_
        refine ev_assign tab_ok rfl rfl rfl ?_
        refine ev_nil ?_ rfl
        refine awp_ret ?_
        refine ⟨_, [0], rfl, ?_, cut_of (by decide) (.cons rfl (.box (mvl_closed rfl)) .nil), keep1⟩
        rw [hg, h3]
        exact .frz rfl
      | some k =>
        have hkl : k < y.kids.length := (List.findIdx?_eq_some_iff_getElem.1 hk).1
        have hy : y.kids[k]? = some y.kids[k] := List.getElem?_eq_getElem hkl
        have hkb := kid_bulk (List.getElem_mem hkl)
        rw [hk] at hcall
        simp only [hk, hy] at h3
        refine awp_reg ?_
        refine ev_move tab_ok rfl rfl rfl ?_
        (refine ev_nilB tab_ok rfl rfl rfl ?_)
        (refine ev_faB tab_ok rfl rfl rfl rfl rfl rfl rfl ?_)
        (refine ev_loadB tab_ok rfl rfl rfl rfl rfl rfl rfl ?_)
        refine ev_mkFn tab_ok rfl rfl rfl rfl rfl ?_
        refine ev_callG (sg := [1]) (nu := []) (Sin := [_]) (Sout := [.box [.s (.string n)] 9]) rfl rfl rfl rfl (hcall) (by repeat' (first | exact .nil | (refine MvL.cons ?_ ?_) | exact .ptr rfl | exact .frz rfl | (refine Mv.fnL ?_ ?_) | fail)) (by repeat' (first | exact trivial | (refine And.intro rfl ?_))) (by repeat' (first | exact .nil | (refine MvSs.cons ?_ ?_) | (refine MvS.box ?_) | exact mvl_closed rfl | fail)) (by repeat' (first | exact .frz rfl | fail)) (by repeat' (first | exact .nil | (refine MvSs.cons ?_ ?_) | (refine MvS.box ?_) | exact mvl_closed rfl | fail)) rfl rfl (by decide) rfl ?_
        try refine ev_as (show _ = PV.s (.int .i64 (k : Int)) from rfl) ?_
        refine ev_assign tab_ok rfl rfl rfl ?_
        refine ev_nil ?_ rfl
        refine awp_seq ?_
        refine awp_seq ?_
        refine awp_reg ?_
        refine ev_move tab_ok rfl rfl rfl ?_
        (refine ev_ilss tab_ok rfl rfl rfl rfl ?_)
        refine ev_nil ?_ rfl
        refine awp_cond rfl (fun hc => ?_) (fun hc => ?_)
        · exfalso
          have : (k : Int) < 0 := of_decide_eq_true hc
          omega
        · refine awp_skip ?_
          refine awp_reg ?_
          refine ev_move tab_ok rfl rfl rfl ?_
          (refine ev_nilB tab_ok rfl rfl rfl ?_)
          (refine ev_faB tab_ok rfl rfl rfl rfl rfl rfl rfl ?_)
          (refine ev_loadB tab_ok rfl rfl rfl rfl rfl rfl rfl ?_)
          refine ev_move tab_ok rfl rfl rfl ?_
          (refine ev_iaL tab_ok rfl rfl rfl rfl rfl rfl rfl rfl rfl (by omega) (by rw [Int.toNat_natCast]; exact kidsC_get hy) rfl ?_)
          refine ev_assign tab_ok rfl rfl rfl ?_
          refine ev_nil ?_ rfl
          refine awp_reg ?_
          (refine ev_iadd tab_ok rfl rfl rfl rfl ?_)
          refine ev_move tab_ok rfl rfl rfl ?_
          refine ev_nil ?_ rfl
          refine ⟨(i + 1, y.kids[k]), [0], ?_, by show ps.length - (i + 1) < ps.length - i; omega, ⟨hlt, by show y.kids[k].bulk ≤ _; omega, h3, fun h => by cases h⟩, keep1⟩
          all_goals (try refine le_of (by decide) ?_ ?_)
          repeat' (first | exact trivial | exact .nil | (refine CutL.cons rfl ?_ ?_) | (refine EnvLe.cons rfl ?_ ?_) | (refine MvS.box (mvl_closed rfl)) | exact .frz rfl | (refine Mv.int ?_) | fail)
          all_goals (try simp only [wrap_addL, wrap_addR, wrap_subL, wrap_subR]); all_goals (try (rw [wrap_i64 (by omega) (by omega)]; omega))
    · exfalso
      have : ¬ i < ps.length := by simpa using hc
      have hps : ps.length ≠ 0 := fun e => hne (List.eq_nil_of_length_eq_zero e)
      omega
  · change AWp _ _ _ ⟨[(14, .s (.int .i64 i)), (13, .s (.int .i64 ps.length)), (12, .list (strL ps)), (0, if i = 0 then .ptr 0 0 else .eptr (nodeC y))], [.box (nodeC x) 25]⟩ _
    rw [if_neg hi0]
    refine awp_seq ?_
    refine awp_reg ?_
    (refine ev_ilss tab_ok rfl rfl rfl rfl ?_)
    refine ev_nil ?_ rfl
    refine awp_seq ?_
    refine awp_cond rfl (fun hc => ?_) (fun hc => ?_)
    · skip
      refine awp_skip ?_
      have hlt : i < ps.length := by simpa using hc
      have hx : ps[i]? = some ps[i] := List.getElem?_eq_getElem hlt
      rw [List.drop_eq_getElem_cons hlt, descend] at h3
      refine awp_seq ?_
      refine awp_block ?_
      refine awp_seq ?_
      refine awp_reg ?_
      (refine ev_iaL tab_ok rfl rfl rfl rfl rfl rfl rfl rfl rfl (by omega) (by rw [Int.toNat_natCast]; exact strL_get hx) rfl ?_)
      (refine ev_loadE tab_ok rfl rfl rfl rfl rfl rfl ?_)
      refine ev_alloc tab_ok rfl rfl rfl rfl rfl rfl (by constructor) ?_
      refine ev_store tab_ok rfl rfl rfl rfl rfl rfl rfl rfl rfl (by repeat constructor) ?_
      refine ev_nil ?_ rfl
      generalize ps[i] = n at *
      have hcall := indexKid_spec y.kids n (by omega)
      refine awp_seq ?_
      cases hk : y.kids.findIdx? (named n) with
      | none =>
        rw [hk] at h3 hcall
        refine awp_reg ?_
        refine ev_move tab_ok rfl rfl rfl ?_
        (refine ev_nilE tab_ok rfl rfl rfl ?_)
        (refine ev_faE tab_ok rfl rfl rfl rfl rfl rfl rfl rfl ?_)
        (refine ev_loadE tab_ok rfl rfl rfl rfl rfl rfl ?_)
        refine ev_mkFn tab_ok rfl rfl rfl rfl rfl ?_
        refine ev_callG (sg := [1]) (nu := []) (Sin := [_]) (Sout := [.box [.s (.string n)] 9]) rfl rfl rfl rfl (hcall) (by repeat' (first | exact .nil | (refine MvL.cons ?_ ?_) | exact .ptr rfl | exact .frz rfl | (refine Mv.fnL ?_ ?_) | fail)) (by repeat' (first | exact trivial | (refine And.intro rfl ?_))) (by repeat' (first | exact .nil | (refine MvSs.cons ?_ ?_) | (refine MvS.box ?_) | exact mvl_closed rfl | fail)) (by repeat' (first | exact .frz rfl | fail)) (by repeat' (first | exact .nil | (refine MvSs.cons ?_ ?_) | (refine MvS.box ?_) | exact mvl_closed rfl | fail)) rfl rfl (by decide) rfl ?_
        refine ev_assign tab_ok rfl rfl rfl ?_
        refine ev_nil ?_ rfl
        refine awp_seq ?_
        refine awp_seq ?_
        refine awp_reg ?_
        refine ev_move tab_ok rfl rfl rfl ?_
        (refine ev_ilss tab_ok rfl rfl rfl rfl ?_)
        refine ev_nil ?_ rfl
        refine awp_cond rfl (fun hc => ?_) (fun hc => by cases hc)
        refine awp_seq ?_
        refine awp_reg ?_
        refine ev_assign tab_ok rfl rfl rfl ?_
        refine ev_nil ?_ rfl
        refine awp_ret ?_
        refine ⟨_, [0], rfl, ?_, cut_of (by decide) (.cons rfl (.box (mvl_closed rfl)) .nil), keep1⟩
        rw [hg, h3]
        exact .frz rfl
      | some k =>
        have hkl : k < y.kids.length := (List.findIdx?_eq_some_iff_getElem.1 hk).1
        have hy : y.kids[k]? = some y.kids[k] := List.getElem?_eq_getElem hkl
        have hkb := kid_bulk (List.getElem_mem hkl)
        rw [hk] at hcall
        simp only [hk, hy] at h3
        refine awp_reg ?_
        refine ev_move tab_ok rfl rfl rfl ?_
        (refine ev_nilE tab_ok rfl rfl rfl ?_)
        (refine ev_faE tab_ok rfl rfl rfl rfl rfl rfl rfl rfl ?_)
        (refine ev_loadE tab_ok rfl rfl rfl rfl rfl rfl ?_)
        refine ev_mkFn tab_ok rfl rfl rfl rfl rfl ?_
        refine ev_callG (sg := [1]) (nu := []) (Sin := [_]) (Sout := [.box [.s (.string n)] 9]) rfl rfl rfl rfl (hcall) (by repeat' (first | exact .nil | (refine MvL.cons ?_ ?_) | exact .ptr rfl | exact .frz rfl | (refine Mv.fnL ?_ ?_) | fail)) (by repeat' (first | exact trivial | (refine And.intro rfl ?_))) (by repeat' (first | exact .nil | (refine MvSs.cons ?_ ?_) | (refine MvS.box ?_) | exact mvl_closed rfl | fail)) (by repeat' (first | exact .frz rfl | fail)) (by repeat' (first | exact .nil | (refine MvSs.cons ?_ ?_) | (refine MvS.box ?_) | exact mvl_closed rfl | fail)) rfl rfl (by decide) rfl ?_
        try refine ev_as (show _ = PV.s (.int .i64 (k : Int)) from rfl) ?_
        refine ev_assign tab_ok rfl rfl rfl ?_
        refine ev_nil ?_ rfl
        refine awp_seq ?_
        refine awp_seq ?_
        refine awp_reg ?_
        refine ev_move tab_ok rfl rfl rfl ?_
        (refine ev_ilss tab_ok rfl rfl rfl rfl ?_)
        refine ev_nil ?_ rfl
        refine awp_cond rfl (fun hc => ?_) (fun hc => ?_)
        · exfalso
          have : (k : Int) < 0 := of_decide_eq_true hc
          omega
        · refine awp_skip ?_
          refine awp_reg ?_
          refine ev_move tab_ok rfl rfl rfl ?_
          (refine ev_nilE tab_ok rfl rfl rfl ?_)
          (refine ev_faE tab_ok rfl rfl rfl rfl rfl rfl rfl rfl ?_)
          (refine ev_loadE tab_ok rfl rfl rfl rfl rfl rfl ?_)
          refine ev_move tab_ok rfl rfl rfl ?_
          (refine ev_iaL tab_ok rfl rfl rfl rfl rfl rfl rfl rfl rfl (by omega) (by rw [Int.toNat_natCast]; exact kidsC_get hy) rfl ?_)
          refine ev_assign tab_ok rfl rfl rfl ?_
          refine ev_nil ?_ rfl
          refine awp_reg ?_
          (refine ev_iadd tab_ok rfl rfl rfl rfl ?_)
          refine ev_move tab_ok rfl rfl rfl ?_
          refine ev_nil ?_ rfl
          refine ⟨(i + 1, y.kids[k]), [0], ?_, by show ps.length - (i + 1) < ps.length - i; omega, ⟨hlt, by show y.kids[k].bulk ≤ _; omega, h3, fun h => by cases h⟩, keep1⟩
          all_goals (try refine le_of (by decide) ?_ ?_)
          repeat' (first | exact trivial | exact .nil | (refine CutL.cons rfl ?_ ?_) | (refine EnvLe.cons rfl ?_ ?_) | (refine MvS.box (mvl_closed rfl)) | exact .frz rfl | (refine Mv.int ?_) | fail)
          all_goals (try simp only [wrap_addL, wrap_addR, wrap_subL, wrap_subR]); all_goals (try (rw [wrap_i64 (by omega) (by omega)]; omega))
    · refine awp_exit ?_
      have hge : i = ps.length := by
        have : ¬ i < ps.length := by simpa using hc
        omega
      subst hge
      rw [List.drop_length, descend] at h3
      refine awp_seq ?_
      refine awp_reg ?_
      refine ev_move tab_ok rfl rfl rfl ?_
      refine ev_assign tab_ok rfl rfl rfl ?_
      refine ev_nil ?_ rfl
      refine awp_ret ?_
      refine ⟨_, [0], rfl, ?_, cut_of (by decide) (.cons rfl (.box (mvl_closed rfl)) .nil), keep1⟩
      rw [hg, h3]
      exact .frz rfl
end Go.Proofs.Pm
end
section
namespace Go.Proofs.Pm
open Go
def nodeK (x : Node) (p : PV) : List PV := [.s (.string x.name), .s (.int .i64 x.kind), .s (.string x.data), .s (.string x.target), .s (.int .i64 x.mode), .s (.int .i64 x.uid), .s (.int .i64 x.gid), .s (.int .i64 x.time), .s (.int .i64 x.weight), .s (.int .i64 x.hidden), p, .list (x.streams.map strC)]
theorem kidsC_take (ks : List Node) (i : Nat) : kidsC (ks.take i) = (kidsC ks).take i := by simp [kidsC]
theorem nodeK_mv {R : Nat → Nat → Prop} (x : Node) {p q : PV} (h : Mv R p q) : MvL R (nodeK x p) (nodeK x q) :=
  .cons (.frz rfl) (.cons (.frz rfl) (.cons (.frz rfl) (.cons (.frz rfl) (.cons (.frz rfl) (.cons (.frz rfl) (.cons (.frz rfl) (.cons (.frz rfl) (.cons (.frz rfl) (.cons (.frz rfl) (.cons h (.cons (.frz rfl) .nil)))))))))))
theorem clone79_spec : ∀ (x : Node), x.bulk ≤ 68719476736 → FCall Tryz.prog 79 [.agg (nodeC x)] [] (.agg (nodeC x)) [] := by
  intro x
  induction x using Node.ind with
  | h x ih =>
  intro hb
  have hk := kids_len x
  have hsl := streams_len x
  refine fcall_intro tab_ok Tryz.call79 Tryz.func79 rfl rfl rfl (fun G w ι => ?_)
  refine awp_seq ?_
  refine awp_reg ?_
  refine ev_box rfl rfl rfl rfl (by constructor) ?_
  refine ev_alloc tab_ok rfl rfl rfl rfl rfl rfl (by constructor) ?_
  refine ev_nil ?_ rfl
  refine awp_seq ?_
  refine awp_reg ?_
  (refine ev_faB tab_ok rfl rfl rfl rfl rfl rfl rfl ?_)
  (refine ev_loadB tab_ok rfl rfl rfl rfl rfl rfl rfl ?_)
  refine ev_call rfl rfl rfl rfl rfl (cloneS_spec x.streams (by omega)) rfl ?_
  (refine ev_faB tab_ok rfl rfl rfl rfl rfl rfl rfl ?_)
  refine ev_store tab_ok rfl rfl rfl rfl rfl rfl rfl rfl rfl (by repeat constructor) ?_
  refine ev_nil ?_ rfl
  refine awp_seq ?_
  refine awp_reg ?_
  (refine ev_faB tab_ok rfl rfl rfl rfl rfl rfl rfl ?_)
  (refine ev_loadB tab_ok rfl rfl rfl rfl rfl rfl rfl ?_)
  refine ev_assign tab_ok rfl rfl rfl ?_
  refine ev_nil ?_ rfl
  refine awp_seq ?_
  refine awp_reg ?_
  (refine ev_faB tab_ok rfl rfl rfl rfl rfl rfl rfl ?_)
  refine ev_store tab_ok rfl rfl rfl rfl rfl rfl rfl rfl rfl (by repeat constructor) ?_
  refine ev_nil ?_ rfl
  refine awp_ghostC 0 10 12 25 rfl rfl (show _ = nodeK x (.row [] 2) from rfl) (by repeat constructor) (by constructor) ?_
  refine awp_seq ?_
  refine awp_seq ?_
  refine awp_reg ?_
  refine ev_move tab_ok rfl rfl rfl ?_
  (refine ev_lenL tab_ok rfl rfl rfl rfl rfl rfl ?_)
  refine ev_move tab_ok rfl rfl rfl ?_
  refine ev_nil ?_ rfl
  refine awp_block ?_
  refine awp_loop (fun i : Nat => ⟨[(15, .s (.int .i64 i)), (14, .s (.int .i64 x.kids.length)), (13, .list (kidsC x.kids)), (1, .ptr 0 0), (2, .ptr 1 0)], [.box (nodeK x (.row (kidsC (x.kids.take i)) 2)) 25, .box zeroC 25, .row i 12 25]⟩) (fun i => i ≤ x.kids.length) (fun i => x.kids.length - i) 0 [0, 1, 2] ?_ (Nat.zero_le _) keep0 (fun i hi => ?_)
  · refine le_of (by decide) (.cons rfl (.box (nodeK_mv x (Mv.rowE rfl rfl))) (.cons rfl (.box (mvl_closed rfl)) (.cons rfl .row .nil))) (EnvLe.cons rfl (.frz rfl) (EnvLe.cons rfl (Mv.int (by rw [kidsC_length])) (EnvLe.cons rfl (.frz rfl) (EnvLe.cons rfl (.ptr rfl) (EnvLe.cons rfl (.ptr rfl) trivial)))))
  refine awp_seq ?_
  refine awp_reg ?_
  (refine ev_ilss tab_ok rfl rfl rfl rfl ?_)
  refine ev_nil ?_ rfl
  refine awp_seq ?_
  refine awp_cond rfl (fun hc => ?_) (fun hc => ?_)
  · refine awp_skip ?_
    have hlt : i < x.kids.length := by simpa using hc
    have hx : x.kids[i]? = some x.kids[i] := List.getElem?_eq_getElem hlt
    have hm : x.kids[i] ∈ x.kids := List.getElem_mem _
    have h1 := kid_bulk hm
    have hcall := ih _ hm (by omega)
    have htk : kidsC (x.kids.take (i + 1)) = kidsC (x.kids.take i) ++ [nodeC x.kids[i]] := by rw [kidsC_take, kidsC_take, List.take_add_one, kidsC_get hx]; rfl
    have hlen : (kidsC (x.kids.take i)).length = i := by rw [kidsC_length, List.length_take_of_le hi]
    have hb1 : ((kidsC (x.kids.take i)).length + [nodeC x.kids[i]].length) * 152 ≤ 140737488355328 := by rw [hlen]; simp; omega
    have hb2 : (kidsC (x.kids.take i)).length + [nodeC x.kids[i]].length ≤ 9223372036854775807 := by rw [hlen]; simp; omega
    refine awp_seq ?_
    refine awp_block ?_
    refine awp_seq ?_
    refine awp_reg ?_
    (refine ev_iaL tab_ok rfl rfl rfl rfl rfl rfl rfl rfl rfl (by omega) (by rw [Int.toNat_natCast]; exact kidsC_get hx) rfl ?_)
    (refine ev_loadE tab_ok rfl rfl rfl rfl rfl rfl ?_)
    refine ev_alloc tab_ok rfl rfl rfl rfl rfl rfl (by constructor) ?_
    refine ev_store tab_ok rfl rfl rfl rfl rfl rfl rfl rfl rfl (by repeat constructor) ?_
    refine ev_nil ?_ rfl
    generalize x.kids[i] = k at *
    refine awp_draw mixed ?_
    (refine ev_faB tab_ok rfl rfl rfl rfl rfl rfl rfl ?_)
    (refine ev_loadB tab_ok rfl rfl rfl rfl rfl rfl rfl ?_)
    (refine ev_loadB tab_ok rfl rfl rfl rfl rfl rfl rfl ?_)
    refine ev_call rfl rfl rfl rfl rfl (hcall) rfl ?_
    refine ev_buildSlice tab_ok rfl rfl rfl rfl rfl rfl rfl rfl rfl rfl rfl rfl rfl rfl (by constructor) ?_
    (refine ev_append tab_ok rfl rfl rfl rfl rfl rfl rfl rfl rfl rfl rfl rfl rfl rfl (by repeat constructor) (by assumption) (by (intro y hy; rw [List.mem_singleton] at hy; subst hy; rfl)) (by exact kidsC_len _) (by assumption) (by assumption) ?_)
    (refine ev_faB tab_ok rfl rfl rfl rfl rfl rfl rfl ?_)
    refine ev_store tab_ok rfl rfl rfl rfl rfl rfl rfl rfl rfl (by repeat constructor) ?_
    refine ev_nilD ?_ (by kernel_rfl)
    refine awp_reg ?_
    (refine ev_iadd tab_ok rfl rfl rfl rfl ?_)
    refine ev_move tab_ok rfl rfl rfl ?_
    refine ev_nil ?_ rfl
    refine ⟨i + 1, [0, 1, 2], ?_, by omega, hlt, keep0⟩
    refine le_of (by decide) (.cons rfl (.box (nodeK_mv x (Mv.rowE rfl htk.symm))) (.cons rfl (.box (mvl_closed rfl)) (.cons rfl (MvS.rowE rfl) .nil))) (EnvLe.cons rfl (Mv.int (by rw [wrap_i64 (by omega) (by omega)]; omega)) (EnvLe.cons rfl (.frz rfl) (EnvLe.cons rfl (.frz rfl) (EnvLe.cons rfl (.ptr rfl) (EnvLe.cons rfl (.ptr rfl) trivial)))))
  · refine awp_exit ?_
    have hge : i = x.kids.length := by
      have : ¬ i < x.kids.length := by simpa using hc
      omega
    subst hge
    rw [List.take_length]
    refine awp_seq ?_
    refine awp_reg ?_
    (refine ev_loadB tab_ok rfl rfl rfl rfl rfl rfl rfl ?_)
    refine ev_store tab_ok rfl rfl rfl rfl rfl rfl rfl rfl rfl (by repeat constructor) ?_
    refine ev_nil ?_ rfl
    refine awp_ret ?_
    exact ⟨_, [], rfl, .aggL (nodeK_mv x (Mv.rowL rfl)), cut_of (by decide) .nil, keep0⟩
theorem get48_spec (x : Node) (path : B) (hb : x.bulk ≤ 68719476736) (hp : path.size < 4294967281) : FCall Tryz.prog 48 [.agg (nodeC x), .s (.string path)] [] (.tup [.agg (nodeC (get18 x path).1), .s (.int .i64 (get18 x path).2)]) [] := by
  have hfind := findP_spec x path (by omega) hp
  refine fcall_intro tab_ok Tryz.call48 Tryz.func48 rfl rfl rfl (fun G w ι => ?_)
  refine awp_seq ?_
  refine awp_reg ?_
  refine ev_box rfl rfl rfl rfl (by constructor) ?_
  refine ev_alloc tab_ok rfl rfl rfl rfl rfl rfl (by constructor) ?_
  refine ev_assign tab_ok rfl rfl rfl ?_
  refine ev_nil ?_ rfl
  refine awp_seq ?_
  refine awp_seq ?_
  refine awp_reg ?_
  (refine ev_loadB tab_ok rfl rfl rfl rfl rfl rfl rfl ?_)
  refine ev_call rfl rfl rfl rfl rfl (validP_spec x (by omega)) rfl ?_
  refine ev_not tab_ok rfl rfl rfl ?_
  refine ev_nil ?_ rfl
  refine awp_cond rfl (fun hc => ?_) (fun hc => ?_)
  · have h : valid18 x = false := by simpa using hc
    refine awp_seq ?_
    refine awp_reg ?_
    refine ev_build tab_ok rfl rfl rfl rfl rfl rfl rfl rfl rfl rfl rfl rfl ?_
    refine ev_store tab_ok rfl rfl rfl rfl rfl rfl rfl rfl rfl (by repeat constructor) ?_
    refine ev_assign tab_ok rfl rfl rfl ?_
    refine ev_nil ?_ rfl
    refine awp_ret ?_
    refine ⟨_, [], rfl, ?_, cut_of (by decide) .nil, keep0⟩
    rw [get18, if_pos h]
    exact .tupL (.cons (.aggL (zero_mv rfl rfl rfl rfl rfl rfl rfl rfl rfl rfl rfl rfl)) (.cons (.frz rfl) .nil))
  · have h : ¬ valid18 x = false := by simpa using hc
    refine awp_skip ?_
    refine awp_seq ?_
    cases he : emptyB path with
    | true =>
      rw [findP, if_pos he] at hfind
      have hg : get18 x path = (x, 0) := by rw [get18, if_neg h, if_pos (show (path.toList == (ByteArray.mk #[]).toList) = true from he)]
      refine awp_reg ?_
      refine ev_move tab_ok rfl rfl rfl ?_
      refine ev_callG (sg := [0]) (nu := []) (Sin := [_]) (Sout := [.box (nodeC x) 25]) rfl rfl rfl rfl (hfind) (by repeat' (first | exact .nil | (refine MvL.cons ?_ ?_) | exact .ptr rfl | exact .frz rfl | fail)) (by repeat' (first | exact trivial | (refine And.intro rfl ?_))) (by repeat' (first | exact .nil | (refine MvSs.cons ?_ ?_) | (refine MvS.box ?_) | exact mvl_closed rfl | fail)) (by repeat' (first | exact .ptr rfl | fail)) (by repeat' (first | exact .nil | (refine MvSs.cons ?_ ?_) | (refine MvS.box ?_) | exact mvl_closed rfl | fail)) rfl rfl (by decide) rfl ?_
      refine ev_assign tab_ok rfl rfl rfl ?_
      refine ev_nil ?_ rfl
      refine awp_seq ?_
      refine awp_seq ?_
      refine awp_reg ?_
      refine ev_move tab_ok rfl rfl rfl ?_
      refine ev_nilP tab_ok rfl rfl rfl rfl rfl rfl rfl ?_
      refine ev_nil ?_ rfl
      refine awp_cond rfl (fun hc => by cases hc) (fun hc => ?_)
      refine awp_skip ?_
      refine awp_seq ?_
      refine awp_reg ?_
      refine ev_move tab_ok rfl rfl rfl ?_
      (refine ev_nilB tab_ok rfl rfl rfl ?_)
      (refine ev_loadB tab_ok rfl rfl rfl rfl rfl rfl rfl ?_)
      refine ev_call rfl rfl rfl rfl rfl (clone79_spec x hb) rfl ?_
      refine ev_store tab_ok rfl rfl rfl rfl rfl rfl rfl rfl rfl (by repeat constructor) ?_
      refine ev_assign tab_ok rfl rfl rfl ?_
      refine ev_nil ?_ rfl
      refine awp_ret ?_
      exact ⟨_, [], rfl, Mv.val (by rw [hg]) rfl, cut_of (by decide) .nil, keep0⟩
    | false =>
      have hg : get18 x path = match descend x (split18 path 47) with
        | some y => (y, (0 : Int))
        | none => (zeroN, 6) := by rw [get18, if_neg h, if_neg (show ¬ (path.toList == (ByteArray.mk #[]).toList) = true by rw [show (path.toList == (ByteArray.mk #[]).toList) = false from he]; decide)]; cases descend x (split18 path 47) <;> rfl
      rw [findP, he, if_neg (by decide)] at hfind
      cases hd : descend x (split18 path 47) with
      | none =>
        rw [hd] at hfind hg
        refine awp_reg ?_
        refine ev_move tab_ok rfl rfl rfl ?_
        refine ev_callG (sg := [0]) (nu := []) (Sin := [_]) (Sout := [.box (nodeC x) 25]) rfl rfl rfl rfl (hfind) (by repeat' (first | exact .nil | (refine MvL.cons ?_ ?_) | exact .ptr rfl | exact .frz rfl | fail)) (by repeat' (first | exact trivial | (refine And.intro rfl ?_))) (by repeat' (first | exact .nil | (refine MvSs.cons ?_ ?_) | (refine MvS.box ?_) | exact mvl_closed rfl | fail)) (by repeat' (first | exact .frz rfl | fail)) (by repeat' (first | exact .nil | (refine MvSs.cons ?_ ?_) | (refine MvS.box ?_) | exact mvl_closed rfl | fail)) rfl rfl (by decide) rfl ?_
        refine ev_assign tab_ok rfl rfl rfl ?_
        refine ev_nil ?_ rfl
        refine awp_seq ?_
        refine awp_seq ?_
        refine awp_reg ?_
        refine ev_move tab_ok rfl rfl rfl ?_
        refine ev_nilP tab_ok rfl rfl rfl rfl rfl rfl rfl ?_
        refine ev_nil ?_ rfl
        refine awp_cond rfl (fun hc => ?_) (fun hc => by cases hc)
        refine awp_seq ?_
        refine awp_reg ?_
        refine ev_build tab_ok rfl rfl rfl rfl rfl rfl rfl rfl rfl rfl rfl rfl ?_
        refine ev_store tab_ok rfl rfl rfl rfl rfl rfl rfl rfl rfl (by repeat constructor) ?_
        refine ev_assign tab_ok rfl rfl rfl ?_
        refine ev_nil ?_ rfl
        refine awp_ret ?_
        refine ⟨_, [], rfl, ?_, cut_of (by decide) .nil, keep0⟩
        rw [hg]
        exact .tupL (.cons (.aggL (zero_mv rfl rfl rfl rfl rfl rfl rfl rfl rfl rfl rfl rfl)) (.cons (.frz rfl) .nil))
      | some y =>
        have hy := descend_bulk _ _ _ hd
        rw [hd] at hfind hg
        refine awp_reg ?_
        refine ev_move tab_ok rfl rfl rfl ?_
        refine ev_callG (sg := [0]) (nu := []) (Sin := [_]) (Sout := [.box (nodeC x) 25]) rfl rfl rfl rfl (hfind) (by repeat' (first | exact .nil | (refine MvL.cons ?_ ?_) | exact .ptr rfl | exact .frz rfl | fail)) (by repeat' (first | exact trivial | (refine And.intro rfl ?_))) (by repeat' (first | exact .nil | (refine MvSs.cons ?_ ?_) | (refine MvS.box ?_) | exact mvl_closed rfl | fail)) (by repeat' (first | exact .frz rfl | fail)) (by repeat' (first | exact .nil | (refine MvSs.cons ?_ ?_) | (refine MvS.box ?_) | exact mvl_closed rfl | fail)) rfl rfl (by decide) rfl ?_
        refine ev_assign tab_ok rfl rfl rfl ?_
        refine ev_nil ?_ rfl
        refine awp_seq ?_
        refine awp_seq ?_
        refine awp_reg ?_
        refine ev_move tab_ok rfl rfl rfl ?_
        refine ev_nilP tab_ok rfl rfl rfl rfl rfl rfl rfl ?_
        refine ev_nil ?_ rfl
        refine awp_cond rfl (fun hc => by cases hc) (fun hc => ?_)
        refine awp_skip ?_
        refine awp_seq ?_
        refine awp_reg ?_
        refine ev_move tab_ok rfl rfl rfl ?_
        (refine ev_nilE tab_ok rfl rfl rfl ?_)
        (refine ev_loadE tab_ok rfl rfl rfl rfl rfl rfl ?_)
        refine ev_call rfl rfl rfl rfl rfl (clone79_spec y (by omega)) rfl ?_
        refine ev_store tab_ok rfl rfl rfl rfl rfl rfl rfl rfl rfl (by repeat constructor) ?_
        refine ev_assign tab_ok rfl rfl rfl ?_
        refine ev_nil ?_ rfl
        refine awp_ret ?_
        exact ⟨_, [], rfl, Mv.val (by rw [hg]) rfl, cut_of (by decide) .nil, keep0⟩
end Go.Proofs.Pm
end
section
namespace Go.Proofs.Pm
open Go
theorem get18_find {x : Node} {p : B} (hv : valid18 x = true) : get18 x p = match find47 x p with
    | some y => (y, (0 : Int))
    | none => (zeroN, 6) := by
  unfold get18 find47
  rw [if_neg (by rw [hv]; decide)]
  cases he : emptyB p with
  | true => rw [if_pos (show (p.toList == (ByteArray.mk #[]).toList) = true from he), if_pos rfl]
  | false => rw [if_neg (show ¬ (p.toList == (ByteArray.mk #[]).toList) = true by rw [show (p.toList == (ByteArray.mk #[]).toList) = false from he]; decide), if_neg (by decide)]; cases descend x (split18 p 47) <;> rfl
theorem get18_fst {x : Node} {p : B} (hv : valid18 x = true) : (get18 x p).1 = (findR x p).1 := by
  rw [get18_find hv, findR]
  cases find47 x p <;> rfl
def isFileG (g : Node × Int) : Bool := (g.2 == 0 && g.1.kind == 1) && !emptyB g.1.data
theorem isFileG_eq {x : Node} {p : B} (hv : valid18 x = true) : isFileG (get18 x p) = isFile x p := by
  rw [get18_find hv]
  unfold isFile findR isFileG
  cases find47 x p with
  | none => rfl
  | some y => simp
theorem filesP_spec (x : Node) (hb : x.bulk ≤ 4294967280) : FCall Tryz.prog 16 [.agg (nodeC x)] [] (.list (strL (files47 x))) [] := by
  have hpl := paths18_length x
  have hval : paths18 x ≠ [] → valid18 x = true := by
    intro h
    unfold paths18 at h
    split at h
    · assumption
    · exact absurd rfl h
  refine fcall_intro tab_ok Tryz.call16 Tryz.func16 rfl rfl rfl (fun G w ι => ?_)
  refine awp_seq ?_
  refine awp_reg ?_
  refine ev_box rfl rfl rfl rfl (by constructor) ?_
  refine ev_assign tab_ok rfl rfl rfl ?_
  refine ev_nil ?_ rfl
  refine awp_seq ?_
  refine awp_reg ?_
  refine ev_assign tab_ok rfl rfl rfl ?_
  refine ev_nil ?_ rfl
  refine awp_ghost 3 1 9 rfl (by constructor) ?_
  refine awp_seq ?_
  refine awp_seq ?_
  refine awp_reg ?_
  (refine ev_loadB tab_ok rfl rfl rfl rfl rfl rfl rfl ?_)
  refine ev_call rfl rfl rfl rfl rfl (pathsP_spec x (by omega)) rfl ?_
  (refine ev_lenL tab_ok rfl rfl rfl rfl rfl rfl ?_)
  refine ev_move tab_ok rfl rfl rfl ?_
  refine ev_nil ?_ rfl
  refine awp_block ?_
  refine awp_loop (fun i : Nat => ⟨[(11, .s (.int .i64 i)), (10, .s (.int .i64 (paths18 x).length)), (9, .list (strL (paths18 x))), (3, .row (strL (((paths18 x).take i).filter (isFile x))) 1), (1, .ptr 0 0)], [.box (nodeC x) 25, .row (((paths18 x).take i).filter (isFile x)).length 1 9]⟩) (fun i => i ≤ (paths18 x).length) (fun i => (paths18 x).length - i) 0 [0, 1] ?_ (Nat.zero_le _) keep0 (fun i hi => ?_)
  · all_goals (try refine le_of (by decide) ?_ ?_)
    repeat' (first | exact trivial | exact .nil | (refine CutL.cons rfl ?_ ?_) | (refine EnvLe.cons rfl ?_ ?_) | exact MvS.row | (refine MvS.box (mvl_closed rfl)) | exact .ptr rfl | exact .row rfl | exact .frz rfl | (refine Mv.int ?_) | fail)
    all_goals (try simp only [wrap_addL, wrap_addR, wrap_subL, wrap_subR]); all_goals (try (rw [wrap_i64 (by omega) (by omega)]; omega))
    all_goals simp [strL_length]
  refine awp_seq ?_
  refine awp_reg ?_
  (refine ev_ilss tab_ok rfl rfl rfl rfl ?_)
  refine ev_nil ?_ rfl
  refine awp_seq ?_
  refine awp_cond rfl (fun hc => ?_) (fun hc => ?_)
  · refine awp_skip ?_
    have hlt : i < (paths18 x).length := by simpa using hc
    have hv := hval (fun e => by rw [e] at hlt; simp at hlt)
    have hx : (paths18 x)[i]? = some (paths18 x)[i] := List.getElem?_eq_getElem hlt
    have hs := paths18_size (List.getElem_mem hlt)
    have hfl := filter_take_le (p := isFile x) (paths18 x) i
    have h4 := filter_take_succ (p := isFile x) hx
    generalize (paths18 x)[i] = p at *
    refine awp_seq ?_
    refine awp_block ?_
    refine awp_seq ?_
    refine awp_reg ?_
    (refine ev_iaL tab_ok rfl rfl rfl rfl rfl rfl rfl rfl rfl (by omega) (by rw [Int.toNat_natCast]; exact strL_get hx) rfl ?_)
    (refine ev_loadE tab_ok rfl rfl rfl rfl rfl rfl ?_)
    refine ev_assign tab_ok rfl rfl rfl ?_
    refine ev_nil ?_ rfl
    refine awp_seq ?_
    refine awp_reg ?_
    (refine ev_loadB tab_ok rfl rfl rfl rfl rfl rfl rfl ?_)
    refine ev_move tab_ok rfl rfl rfl ?_
    refine ev_call rfl rfl rfl rfl rfl (get48_spec x p (by omega) (by omega)) rfl ?_
    refine ev_move tab_ok rfl rfl rfl ?_
    refine ev_extract tab_ok rfl rfl rfl rfl ?_
    refine ev_extract tab_ok rfl rfl rfl rfl ?_
    refine ev_alloc tab_ok rfl rfl rfl rfl rfl rfl (by constructor) ?_
    refine ev_store tab_ok rfl rfl rfl rfl rfl rfl rfl rfl rfl (by repeat constructor) ?_
    refine ev_assign tab_ok rfl rfl rfl ?_
    refine ev_nil ?_ rfl
    rw [← isFileG_eq hv] at h4
    generalize get18 x p = g at *
    refine awp_seq_to ⟨[(32, .s (.bool (isFileG g))), (5, .s (.string p)), (11, .s (.int .i64 i)), (10, .s (.int .i64 (paths18 x).length)), (9, .list (strL (paths18 x))), (3, .row (strL (((paths18 x).take i).filter (isFile x))) 1), (1, .ptr 0 0)], [.box (nodeC x) 25, .row (((paths18 x).take i).filter (isFile x)).length 1 9]⟩ ?_ ?_
    · cases hz : (g.2 == 0) <;> cases hy : (g.1.kind == 1)
      all_goals
        refine awp_reg ?_
        refine ev_move tab_ok rfl rfl rfl ?_
        (refine ev_ieql tab_ok rfl rfl rfl rfl ?_)
        try refine ev_is (congrArg Value.bool (hz)) ?_
        refine ev_move tab_ok rfl rfl rfl ?_
        (first | refine ev_skip rfl rfl ?_ | refine ev_faB tab_ok rfl rfl rfl rfl rfl rfl rfl ?_)
        (first | refine ev_skip rfl rfl ?_ | refine ev_loadB tab_ok rfl rfl rfl rfl rfl rfl rfl ?_)
        (first | refine ev_skip rfl rfl ?_ | refine ev_ieql tab_ok rfl rfl rfl rfl ?_)
        try refine ev_is (congrArg Value.bool (hy)) ?_
        (first | refine ev_pickT tab_ok rfl rfl rfl rfl rfl ?_ | refine ev_pickF tab_ok rfl rfl rfl rfl rfl ?_)
        refine ev_move tab_ok rfl rfl rfl ?_
        (first | refine ev_skip rfl rfl ?_ | refine ev_faB tab_ok rfl rfl rfl rfl rfl rfl rfl ?_)
        (first | refine ev_skip rfl rfl ?_ | refine ev_loadB tab_ok rfl rfl rfl rfl rfl rfl rfl ?_)
        (first | refine ev_skip rfl rfl ?_ | refine ev_sneq tab_ok rfl rfl rfl rfl ?_)
        (first | refine ev_pickT tab_ok rfl rfl rfl rfl rfl ?_ | refine ev_pickF tab_ok rfl rfl rfl rfl rfl ?_)
        refine ev_nil ?_ rfl
        refine ⟨[0, 1], ?_, keep0⟩
        all_goals (try refine le_of (by decide) ?_ ?_)
        repeat' (first | exact trivial | exact .nil | (refine CutL.cons rfl ?_ ?_) | (refine EnvLe.cons rfl ?_ ?_) | exact MvS.row | (refine MvS.box (mvl_closed rfl)) | exact .ptr rfl | exact .row rfl | exact .frz rfl | (refine Mv.bool ?_) | fail)
        all_goals (try simp only [wrap_addL, wrap_addR, wrap_subL, wrap_subR]); all_goals (try (rw [wrap_i64 (by omega) (by omega)]; omega))
        all_goals (unfold isFileG emptyB; rw [hz, hy]; simp)
    refine awp_cond rfl (fun hc => ?_) (fun hc => ?_)
    · refine awp_reg ?_
      refine ev_move tab_ok rfl rfl rfl ?_
      refine ev_move tab_ok rfl rfl rfl ?_
      refine ev_buildSlice tab_ok rfl rfl rfl rfl rfl rfl rfl rfl rfl rfl rfl rfl rfl rfl (by constructor) ?_
      (refine ev_append tab_ok rfl rfl rfl rfl rfl rfl rfl rfl rfl rfl rfl rfl rfl rfl (by repeat constructor) (by (simp [strL_length, intL_length]; done)) (by exact one_len _) (by exact strL_len _) (by (simp only [strL_length, intL_length, List.length_append, List.length_cons, List.length_nil]; omega)) (by (simp only [strL_length, intL_length, List.length_append, List.length_cons, List.length_nil]; omega)) ?_)
      refine ev_assign tab_ok rfl rfl rfl ?_
      refine ev_nil ?_ rfl
      refine awp_reg ?_
      (refine ev_iadd tab_ok rfl rfl rfl rfl ?_)
      refine ev_move tab_ok rfl rfl rfl ?_
      refine ev_nil ?_ rfl
      rw [hc, if_pos rfl] at h4
      refine ⟨i + 1, [0, 1], ?_, by omega, hlt, keep0⟩
      all_goals (try refine le_of (by decide) ?_ ?_)
      repeat' (first | exact trivial | exact .nil | (refine CutL.cons rfl ?_ ?_) | (refine EnvLe.cons rfl ?_ ?_) | (refine MvS.box (mvl_closed rfl)) | exact .ptr rfl | exact .frz rfl | (refine Mv.rowE rfl ?_) | (refine MvS.rowE ?_) | (refine Mv.int ?_) | fail)
      all_goals (try simp only [wrap_addL, wrap_addR, wrap_subL, wrap_subR]); all_goals (try (rw [wrap_i64 (by omega) (by omega)]; omega))
      · rw [h4]; simp
      · rw [h4]; simp [strL_append, strL]
    · refine awp_skip ?_
      refine awp_reg ?_
      (refine ev_iadd tab_ok rfl rfl rfl rfl ?_)
      refine ev_move tab_ok rfl rfl rfl ?_
      refine ev_nil ?_ rfl
      rw [hc, if_neg (by decide), List.append_nil] at h4
      refine ⟨i + 1, [0, 1], ?_, by omega, hlt, keep0⟩
      all_goals (try refine le_of (by decide) ?_ ?_)
      repeat' (first | exact trivial | exact .nil | (refine CutL.cons rfl ?_ ?_) | (refine EnvLe.cons rfl ?_ ?_) | (refine MvS.box (mvl_closed rfl)) | exact .ptr rfl | exact .frz rfl | (refine Mv.rowE rfl ?_) | (refine MvS.rowE ?_) | (refine Mv.int ?_) | fail)
      all_goals (try simp only [wrap_addL, wrap_addR, wrap_subL, wrap_subR]); all_goals (try (rw [wrap_i64 (by omega) (by omega)]; omega))
      · rw [h4]
      · rw [h4]
  · refine awp_exit ?_
    have hge : i = (paths18 x).length := by
      have : ¬ i < (paths18 x).length := by simpa using hc
      omega
    subst hge
    refine awp_seq ?_
    refine awp_reg ?_
    refine ev_move tab_ok rfl rfl rfl ?_
    refine ev_assign tab_ok rfl rfl rfl ?_
    refine ev_nil ?_ rfl
    refine awp_ret ?_
    exact ⟨_, [], rfl, Mv.rowL (by rw [files47, List.take_length]), cut_of (by decide) .nil, keep0⟩
theorem lengthP_spec (x : Node) (p : B) (hb : x.bulk ≤ 68719476736) (hp : p.size < 4294967281) : FCall Tryz.prog 57 [.agg (nodeC x), .s (.string p)] [] (.s (.int .i64 ((get18 x p).1.data.size : Int))) [] := by
  refine fcall_intro tab_ok Tryz.call57 Tryz.func57 rfl rfl rfl (fun G w ι => ?_)
  refine awp_seq ?_
  refine awp_reg ?_
  refine ev_box rfl rfl rfl rfl (by constructor) ?_
  refine ev_assign tab_ok rfl rfl rfl ?_
  refine ev_nil ?_ rfl
  refine awp_seq ?_
  refine awp_reg ?_
  (refine ev_loadB tab_ok rfl rfl rfl rfl rfl rfl rfl ?_)
  refine ev_move tab_ok rfl rfl rfl ?_
  refine ev_call rfl rfl rfl rfl rfl (get48_spec x p hb hp) rfl ?_
  refine ev_move tab_ok rfl rfl rfl ?_
  refine ev_extract tab_ok rfl rfl rfl rfl ?_
  refine ev_extract tab_ok rfl rfl rfl rfl ?_
  refine ev_alloc tab_ok rfl rfl rfl rfl rfl rfl (by constructor) ?_
  refine ev_store tab_ok rfl rfl rfl rfl rfl rfl rfl rfl rfl (by repeat constructor) ?_
  refine ev_assign tab_ok rfl rfl rfl ?_
  refine ev_nil ?_ rfl
  refine awp_seq ?_
  refine awp_reg ?_
  (refine ev_faB tab_ok rfl rfl rfl rfl rfl rfl rfl ?_)
  (refine ev_loadB tab_ok rfl rfl rfl rfl rfl rfl rfl ?_)
  (refine ev_lenS tab_ok rfl rfl rfl rfl rfl rfl ?_)
  refine ev_assign tab_ok rfl rfl rfl ?_
  refine ev_nil ?_ rfl
  refine awp_ret ?_
  exact ⟨_, [], rfl, .frz rfl, cut_of (by decide) .nil, keep0⟩
theorem splitAux_last {c : UInt8} (l2 : List UInt8) (h : ∀ b ∈ l2, b ≠ c) : ∀ (l1 : List UInt8) (p : B), splitAux c (l1 ++ c :: l2) p = splitAux c l1 p ++ [⟨l2.toArray⟩]
  | [], p => by
    have e : splitAux c (c :: l2) p = p :: splitAux c l2 ⟨#[]⟩ := by rw [splitAux, if_pos rfl]
    have e2 : (⟨#[]⟩ : B) ++ ⟨l2.toArray⟩ = ⟨l2.toArray⟩ := by apply us_inj; simp [us]
    rw [List.nil_append, e, splitAux_one _ _ h, e2]
    rfl
  | b :: r, p => by
    rw [List.cons_append, splitAux, splitAux]
    split
    · rw [splitAux_last l2 h r]; rfl
    · exact splitAux_last l2 h r _
def cutP (p : B) : B := p.extract 0 (max 0 (Lib.lastIndexByte p 47)).toNat
theorem get_us (s : B) {i : Nat} (h : i < s.size) : ((s.data[i]!).toNat : Int) = (((us s)[i]'(by simpa using h)).toNat : Int) := by
  rw [getElem!_pos s.data i h]
  simp
theorem cut_spec (p : B) : ((∀ b ∈ us p, b ≠ 47) ∧ cutP p = ⟨#[]⟩) ∨ ∃ i, i < p.size ∧ cutP p = p.extract 0 i ∧ split18 p 47 = split18 (cutP p) 47 ++ [p.extract (i + 1) p.size] := by
  rcases Lib.lastIdx_spec p 47 p.size with ⟨h1, h2⟩ | ⟨i, hi, h1, h2, h3⟩
  · left
    refine ⟨fun b hb e => ?_, ?_⟩
    · obtain ⟨j, hj, rfl⟩ := List.getElem_of_mem hb
      have hj' : j < p.size := by simpa using hj
      have := h2 j hj'
      rw [get_us p hj', e] at this
      exact this rfl
    · unfold cutP Lib.lastIndexByte
      rw [h1]
      exact extract_self p 0
  · right
    have hc : cutP p = p.extract 0 i := by
      unfold cutP Lib.lastIndexByte
      rw [h1, show (max 0 (i : Int)).toNat = i by omega]
    refine ⟨i, hi, hc, ?_⟩
    have hbi : (us p)[i]'(by simpa using hi) = 47 := UInt8.toNat_inj.1 (by rw [get_us p hi] at h2; show _ = 47; omega)
    have hus : us p = us (p.extract 0 i) ++ 47 :: us (p.extract (i + 1) p.size) := by
      rw [us_take, us_extract, ← hbi]
      rw [List.getElem_cons_drop]
      exact (List.take_append_drop i (us p)).symm
    rw [split18, split18, hc]
    show splitAux 47 (us p) _ = _
    have hno : ∀ b ∈ us (p.extract (i + 1) p.size), b ≠ 47 := fun b hb e => by
      rw [us_extract] at hb
      obtain ⟨j, hj, he⟩ := List.getElem_of_mem hb
      rw [List.getElem_drop] at he
      have hlen : i + 1 + j < p.size := by
        rw [List.length_drop] at hj
        simp at hj
        omega
      have := h3 (i + 1 + j) (by omega) hlen
      rw [get_us p hlen, he, e] at this
      exact this rfl
    rw [hus, splitAux_last _ hno]
theorem cutP_size {p : B} (h : p ≠ ⟨#[]⟩) : (cutP p).size < p.size := by
  have hp : 0 < p.size := by
    rcases Nat.eq_zero_or_pos p.size with e | e
    · exact absurd (us_inj (List.eq_nil_of_length_eq_zero (by simpa using e))) h
    · exact e
  rcases cut_spec p with ⟨_, h2⟩ | ⟨i, hi, hc, _⟩
  · rw [h2]; exact hp
  · rw [hc]; simp [ByteArray.size_extract]; omega
theorem descend_snoc : ∀ (ps : List B) (x z : Node) (a : B) (w : Int), descend x (ps ++ [a]) = some z → (descend x ps).isSome = true ∧ descW w x (ps ++ [a]) = if z.weight ≠ 0 then z.weight else descW w x ps
  | [], x, z, a, w, h => by
    rw [List.nil_append, descend] at h
    refine ⟨rfl, ?_⟩
    split at h
    · rename_i k hk
      split at h
      · rename_i y hy
        simp only [descend, Option.some.injEq] at h
        subst h
        simp only [List.nil_append, descW, hk, hy]
      · cases h
    · cases h
  | n :: r, x, z, a, w, h => by
    rw [List.cons_append, descend] at h
    split at h
    · rename_i k hk
      split at h
      · rename_i y hy
        simp only [List.cons_append, descW, descend, hk, hy]
        exact descend_snoc r y z a _ h
      · cases h
    · cases h
theorem no_empty {x : Node} (h : OkT 1 x) (r : List B) : descend x (⟨#[]⟩ :: r) = none := by
  rw [descend]
  have : x.kids.findIdx? (named ⟨#[]⟩) = none := find_none (fun j hj => by
    rw [named, beq_not]
    exact (kid_nameOk h (Nat.le_refl _) (List.getElem_mem hj)).1)
  rw [this]
theorem weight_cut {x : Node} {p : B} (hv : valid18 x = true) (hp : p ≠ ⟨#[]⟩) {z : Node} (hz : find47 x p = some z) : (find47 x (cutP p)).isSome = true ∧ weight47 x p = if z.weight ≠ 0 then z.weight else weight47 x (cutP p) := by
  have hok := (valid18_ok hv).1
  have he : emptyB p = false := by
    rw [← Bool.not_eq_true, emptyB_iff]; exact hp
  rw [find47, he, if_neg (by decide)] at hz
  have hw : weight47 x p = descW x.weight x (split18 p 47) := by rw [weight47, he, if_neg (by decide)]
  rcases cut_spec p with ⟨h1, h2⟩ | ⟨i, hi, hc, hsp⟩
  · have hs : split18 p 47 = [] ++ [p] := by rw [split18, splitAux_one _ _ h1]; exact congrArg (fun y => [y]) (empty_append p)
    rw [hs] at hz hw
    obtain ⟨_, h4⟩ := descend_snoc [] x z p x.weight hz
    rw [hw, h4, h2]
    have hemp : emptyB (⟨#[]⟩ : B) = true := emptyB_iff.2 rfl
    refine ⟨by rw [find47, if_pos hemp]; rfl, ?_⟩
    rw [weight47, if_pos hemp, descW]
  · rw [hsp] at hz hw
    obtain ⟨h3, h4⟩ := descend_snoc _ x z _ x.weight hz
    have hne : emptyB (cutP p) = false := by
      rw [← Bool.not_eq_true, emptyB_iff]
      intro e
      rw [e] at h3
      have : split18 (⟨#[]⟩ : B) 47 = [⟨#[]⟩] := rfl
      rw [this, no_empty hok] at h3
      cases h3
    refine ⟨by rw [find47, hne, if_neg (by decide)]; exact h3, ?_⟩
    have hc2 : weight47 x (cutP p) = descW x.weight x (split18 (cutP p) 47) := by rw [weight47, hne, if_neg (by decide)]
    rw [hw, h4, hc2]
theorem weightP_spec (x : Node) (path : B) (hb : x.bulk ≤ 68719476736) (hp : path.size < 4294967281) : FCall Tryz.prog 13 [.agg (nodeC x), .s (.string path)] [] (.tup [.s (.int .i64 (weightR x path).1), .s (.int .i64 (weightR x path).2)]) [] := by
  refine fcall_intro tab_ok Tryz.call13 Tryz.func13 rfl rfl rfl (fun G w ι => ?_)
  refine awp_seq ?_
  refine awp_reg ?_
  refine ev_box rfl rfl rfl rfl (by constructor) ?_
  refine ev_assign tab_ok rfl rfl rfl ?_
  refine ev_assign tab_ok rfl rfl rfl ?_
  refine ev_nil ?_ rfl
  refine awp_block ?_
  refine awp_loop (fun p : B => ⟨[(1, .s (.string p)), (2, .ptr 0 0)], [.box (nodeC x) 25]⟩) (fun p => p.size < 4294967281 ∧ weightR x path = weightR x p) (fun p => p.size) path [0] ?_ ⟨hp, rfl⟩ keep0 (fun p hi => ?_)
  · all_goals (try refine le_of (by decide) ?_ ?_)
    repeat' (first | exact trivial | exact .nil | (refine CutL.cons rfl ?_ ?_) | (refine EnvLe.cons rfl ?_ ?_) | (refine MvS.box (mvl_closed rfl)) | exact .ptr rfl | exact .frz rfl | fail)
    all_goals (try simp only [wrap_addL, wrap_addR, wrap_subL, wrap_subR]); all_goals (try (rw [wrap_i64 (by omega) (by omega)]; omega))
  obtain ⟨hps, hw⟩ := hi
  refine awp_block ?_
  refine awp_seq ?_
  refine awp_reg ?_
  (refine ev_loadB tab_ok rfl rfl rfl rfl rfl rfl rfl ?_)
  refine ev_move tab_ok rfl rfl rfl ?_
  refine ev_call rfl rfl rfl rfl rfl (get48_spec x p hb hps) rfl ?_
  refine ev_move tab_ok rfl rfl rfl ?_
  refine ev_extract tab_ok rfl rfl rfl rfl ?_
  refine ev_extract tab_ok rfl rfl rfl rfl ?_
  refine ev_alloc tab_ok rfl rfl rfl rfl rfl rfl (by constructor) ?_
  refine ev_store tab_ok rfl rfl rfl rfl rfl rfl rfl rfl rfl (by repeat constructor) ?_
  refine ev_assign tab_ok rfl rfl rfl ?_
  refine ev_nil ?_ rfl
  refine awp_seq ?_
  refine awp_seq ?_
  refine awp_reg ?_
  refine ev_move tab_ok rfl rfl rfl ?_
  (refine ev_ineq tab_ok rfl rfl rfl rfl ?_)
  refine ev_nil ?_ rfl
  have hfind : valid18 x = true → get18 x p = match find47 x p with
    | some y => (y, (0 : Int))
    | none => (zeroN, 6) := fun hv => get18_find hv
  refine awp_cond rfl (fun hc => ?_) (fun hc => ?_)
  · have h0 : (get18 x p).2 ≠ 0 := by simpa using hc
    refine awp_seq ?_
    refine awp_reg ?_
    refine ev_move tab_ok rfl rfl rfl ?_
    refine ev_assign tab_ok rfl rfl rfl ?_
    refine ev_assign tab_ok rfl rfl rfl ?_
    refine ev_nil ?_ rfl
    refine awp_ret ?_
    refine ⟨_, [], rfl, Mv.val ?_ rfl, cut_of (by decide) .nil, keep0⟩
    rw [hw, weightR]
    cases hv : valid18 x with
    | false =>
      rw [if_pos rfl]
      rw [show (get18 x p).2 = 1 by rw [get18, if_pos hv]]
    | true =>
      rw [if_neg (by decide)]
      have hfd := hfind hv
      cases hf : find47 x p with
      | none =>
        rw [hf] at hfd
        rw [hfd]; rfl
      | some y =>
        rw [hf] at hfd
        rw [hfd] at h0
        exact absurd rfl h0
  · have h0 : (get18 x p).2 = 0 := by simpa using hc
    have hv : valid18 x = true := by
      cases hv : valid18 x with
      | true => rfl
      | false =>
        rw [get18, if_pos hv] at h0
        cases h0
    have hfd := hfind hv
    obtain ⟨z, hz⟩ : ∃ z, find47 x p = some z := by
      cases hf : find47 x p with
      | some y => exact ⟨y, rfl⟩
      | none => rw [hf] at hfd; rw [hfd] at h0; cases h0
    have hWp : weightR x p = (weight47 x p, 0) := by rw [weightR, if_neg (by rw [hv]; decide), if_neg (by rw [hz]; simp)]
    rw [hz] at hfd
    rw [hfd]
    refine awp_skip ?_
    refine awp_seq ?_
    refine awp_seq_to ⟨[(23, .s (.bool (z.weight != 0 || emptyB p))), (6, .ptr 1 0), (1, .s (.string p)), (2, .ptr 0 0)], [.box (nodeC x) 25, .box (nodeC z) 25]⟩ ?_ ?_
    · cases hz0 : (z.weight != 0)
      all_goals
        refine awp_reg ?_
        (refine ev_faB tab_ok rfl rfl rfl rfl rfl rfl rfl ?_)
        (refine ev_loadB tab_ok rfl rfl rfl rfl rfl rfl rfl ?_)
        (refine ev_ineq tab_ok rfl rfl rfl rfl ?_)
        try refine ev_is (congrArg Value.bool (hz0)) ?_
        refine ev_move tab_ok rfl rfl rfl ?_
        (first | refine ev_skip rfl rfl ?_ | refine ev_move tab_ok rfl rfl rfl ?_)
        (first | refine ev_skip rfl rfl ?_ | refine ev_seql tab_ok rfl rfl rfl rfl ?_)
        (first | refine ev_pickT tab_ok rfl rfl rfl rfl rfl ?_ | refine ev_pickF tab_ok rfl rfl rfl rfl rfl ?_)
        refine ev_nil ?_ rfl
        refine ⟨[0, 1], ?_, keep0⟩
        all_goals (try refine le_of (by decide) ?_ ?_)
        repeat' (first | exact trivial | exact .nil | (refine CutL.cons rfl ?_ ?_) | (refine EnvLe.cons rfl ?_ ?_) | (refine MvS.box (mvl_closed rfl)) | exact .ptr rfl | exact .frz rfl | fail)
        all_goals (try simp only [wrap_addL, wrap_addR, wrap_subL, wrap_subR]); all_goals (try (rw [wrap_i64 (by omega) (by omega)]; omega))
        all_goals simp [emptyB]
    refine awp_cond rfl (fun hc => ?_) (fun hc => ?_)
    · refine awp_seq ?_
      refine awp_reg ?_
      (refine ev_faB tab_ok rfl rfl rfl rfl rfl rfl rfl ?_)
      (refine ev_loadB tab_ok rfl rfl rfl rfl rfl rfl rfl ?_)
      refine ev_assign tab_ok rfl rfl rfl ?_
      refine ev_assign tab_ok rfl rfl rfl ?_
      refine ev_nil ?_ rfl
      refine awp_ret ?_
      refine ⟨_, [], rfl, Mv.val ?_ rfl, cut_of (by decide) .nil, keep0⟩
      rw [hw, hWp]
      have : weight47 x p = z.weight := by
        rw [Bool.or_eq_true] at hc
        by_cases hpe : p = ⟨#[]⟩
        · have hemp : emptyB p = true := emptyB_iff.2 hpe
          rw [find47, if_pos hemp] at hz
          rw [weight47, if_pos hemp]
          injection hz with hz
          rw [hz]
        · have hw0 : z.weight ≠ 0 := by
            rcases hc with h | h
            · simpa using h
            · exact absurd (emptyB_iff.1 h) hpe
          rw [(weight_cut hv hpe hz).2, if_pos hw0]
      rw [this]
    · simp only [Bool.or_eq_false_iff] at hc
      have hw0 : z.weight = 0 := by simpa using hc.1
      have hpe : p ≠ ⟨#[]⟩ := fun e => by have := emptyB_iff.2 e; rw [hc.2] at this; cases this
      obtain ⟨hcs, hcw⟩ := weight_cut hv hpe hz
      rw [if_neg (by simpa using hw0)] at hcw
      refine awp_skip ?_
      have hcut := cutP_size hpe
      have hmax : (if Lib.lastIndexByte p 47 > 0 then Lib.lastIndexByte p 47 else 0) = (((max 0 (Lib.lastIndexByte p 47)).toNat : Nat) : Int) := by
        split <;> omega
      have hle : (max 0 (Lib.lastIndexByte p 47)).toNat ≤ p.size := by
        rcases Lib.lastIdx_spec p 47 p.size with ⟨h1, _⟩ | ⟨i, hi, h1, _⟩
        · unfold Lib.lastIndexByte; rw [h1]; omega
        · unfold Lib.lastIndexByte; rw [h1]; omega
      refine awp_reg ?_
      refine ev_move tab_ok rfl rfl rfl ?_
      refine ev_move tab_ok rfl rfl rfl ?_
      refine ev_call rfl rfl rfl rfl rfl (lastIndex_spec p (by omega)) rfl ?_
      refine ev_imax tab_ok rfl rfl rfl rfl ?_
      try refine ev_as (show _ = PV.s (.int .i64 (((max 0 (Lib.lastIndexByte p 47)).toNat : Nat) : Int)) by rw [← hmax]) ?_
      (refine ev_slS1 tab_ok rfl rfl rfl rfl rfl rfl rfl (by omega) (by omega) ?_)
      try refine ev_as (show _ = PV.s (.string (cutP p)) by rw [Int.toNat_natCast]; rfl) ?_
      refine ev_assign tab_ok rfl rfl rfl ?_
      refine ev_nil ?_ rfl
      refine ⟨cutP p, [0], ?_, hcut, ⟨by omega, ?_⟩, keep0⟩
      · all_goals (try refine le_of (by decide) ?_ ?_)
        repeat' (first | exact trivial | exact .nil | (refine CutL.cons rfl ?_ ?_) | (refine EnvLe.cons rfl ?_ ?_) | (refine MvS.box (mvl_closed rfl)) | exact .ptr rfl | exact .frz rfl | fail)
        all_goals (try simp only [wrap_addL, wrap_addR, wrap_subL, wrap_subR]); all_goals (try (rw [wrap_i64 (by omega) (by omega)]; omega))
      rw [hw, hWp, hcw, weightR, if_neg (by rw [hv]; decide), if_neg (by rw [Option.isNone_iff_eq_none]; intro e; rw [e] at hcs; cases hcs)]
end Go.Proofs.Pm
end

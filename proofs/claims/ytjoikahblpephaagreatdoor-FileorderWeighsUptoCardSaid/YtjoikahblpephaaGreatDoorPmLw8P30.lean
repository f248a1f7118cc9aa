/- A part of the proof of one law: the machine on pure values and the walks of functions. -/
import Derived.Test.YtjoikahblpephaaGreatDoorPmLw8P28
import Derived.Test.YtjoikahblpephaaGreatDoorPmLw8P29
set_option linter.all false
section
namespace Go.Proofs.Pm
open Go
theorem few_nil (x : Node) (hb : x.bulk ≤ 1099511627776) : FCall Tryz.prog 12 [.agg (nodeC x), .s (.slice none 0 0)] [] (.s (.bool (fewR x 0))) [] := by
  have h := fewR_spec x [] hb
  refine ⟨h.1, fun G w ι av hH hG hav => h.2 G w ι av hH hG ?_⟩
  cases hav with
  | cons h1 hr =>
    cases hr with
    | cons h2 hr2 =>
      cases hr2
      cases h2
      exact .cons h1 (.cons (.list 0 (fun _ _ => .nilIface) rfl (Nat.le_refl _) (Nat.zero_le _) (fun y hy => by simp at hy) (fun h0 => absurd h0 (Nat.lt_irrefl 0)) (fun i j y p hy => by simp at hy)) .nil)
def lastW (x : Node) : Nat → Int
  | 0 => 0
  | i + 1 => weight47 x (getS (byW47 x) i)
theorem lawWeighs (x : Node) (hb : x.bulk ≤ 1048576) : FCall Tryz.prog 8 [.agg (nodeC x)] [] (.s (.bool true)) [] := by
  have hfl := files47_length x
  have hpl := paths18_length x
  have hwl := byW47_length x
  have hstepW := fun i (hi : i + 1 < (byW47 x).length) => byW47_step x hi
  have hwmem : ∀ p ∈ byW47 x, p ∈ files47 x := fun p hp => byW47_mem hp
  refine fcall_intro tab_ok Tryz.call8 Tryz.func8 rfl rfl rfl (fun G w ι => ?_)
  refine awp_seq ?_
  refine awp_reg ?_
  refine ev_box rfl rfl rfl rfl (by constructor) ?_
  refine ev_assign tab_ok rfl rfl rfl ?_
  refine ev_nil ?_ rfl
  refine awp_seq ?_
  refine awp_seq ?_
  refine awp_reg ?_
  refine ev_call rfl rfl rfl rfl rfl (awakeP_spec) rfl ?_
  refine ev_not tab_ok rfl rfl rfl ?_
  refine ev_nil ?_ rfl
  refine awp_cond rfl (fun hc => ?_) (fun hc => ?_)
  · exact absurd hc (by decide)
  refine awp_skip ?_
  refine awp_seq ?_
  refine awp_seq_to ⟨[(28, .s (.bool (!(fewR x 0 && valid18 x)))), (1, .ptr 0 0)], [.box (nodeC x) 25]⟩ ?_ ?_
  · cases hy : fewR x 0
    all_goals
      refine awp_reg ?_
      (refine ev_loadB tab_ok rfl rfl rfl rfl rfl rfl rfl ?_)
      refine ev_call rfl rfl rfl rfl rfl (few_nil x (by omega)) rfl ?_
      refine ev_not tab_ok rfl rfl rfl ?_
      try refine ev_as (show _ = PV.s (.bool _) by rw [hy]) ?_
      refine ev_move tab_ok rfl rfl rfl ?_
      (first | refine ev_skip rfl rfl ?_ | refine ev_loadB tab_ok rfl rfl rfl rfl rfl rfl rfl ?_)
      (first | refine ev_skip rfl rfl ?_ | refine ev_call rfl rfl rfl rfl rfl (valid18_spec x (by omega)) rfl ?_)
      (first | refine ev_skip rfl rfl ?_ | refine ev_not tab_ok rfl rfl rfl ?_)
      (first | refine ev_pickT tab_ok rfl rfl rfl rfl rfl ?_ | refine ev_pickF tab_ok rfl rfl rfl rfl rfl ?_)
      refine ev_nil ?_ rfl
      refine ⟨[0], ?_, keep0⟩
      all_goals (try refine le_of (by decide) ?_ ?_)
      repeat' (first | exact trivial | exact .nil | (refine CutL.cons rfl ?_ ?_) | (refine EnvLe.cons rfl ?_ ?_) | (refine MvS.box (mvl_closed rfl)) | exact .ptr rfl | exact .frz rfl | fail)
      all_goals (try simp only [wrap_addL, wrap_addR, wrap_subL, wrap_subR]); all_goals (try (rw [wrap_i64 (by omega) (by omega)]; omega))
      all_goals simp
  refine awp_cond rfl (fun hc => ?_) (fun hc => ?_)
  · refine awp_seq ?_
    refine awp_reg ?_
    refine ev_assign tab_ok rfl rfl rfl ?_
    refine ev_nil ?_ rfl
    refine awp_ret ?_
    exact ⟨_, [], rfl, .frz rfl, cut_of (by decide) .nil, keep0⟩
  have hf : fewR x 0 = true ∧ valid18 x = true := by simpa using hc
  obtain ⟨hcnt, _⟩ := few_count hf.1
  have hv := hf.2
  have h18 := byWeightP_spec x (by omega) hcnt
  refine awp_skip ?_
  refine awp_seq ?_
  refine awp_reg ?_
  (refine ev_loadB tab_ok rfl rfl rfl rfl rfl rfl rfl ?_)
  refine ev_call rfl rfl rfl rfl rfl (h18) rfl ?_
  refine ev_assign tab_ok rfl rfl rfl ?_
  refine ev_nil ?_ rfl
  refine awp_seq ?_
  refine awp_reg ?_
  (refine ev_loadB tab_ok rfl rfl rfl rfl rfl rfl rfl ?_)
  refine ev_call rfl rfl rfl rfl rfl (filesP_spec x (by omega)) rfl ?_
  refine ev_assign tab_ok rfl rfl rfl ?_
  refine ev_nil ?_ rfl
  refine awp_seq ?_
  refine awp_reg ?_
  refine ev_assign tab_ok rfl rfl rfl ?_
  refine ev_nil ?_ rfl
  refine awp_seq ?_
  refine awp_seq ?_
  refine awp_reg ?_
  refine ev_move tab_ok rfl rfl rfl ?_
  (refine ev_lenL tab_ok rfl rfl rfl rfl rfl rfl ?_)
  refine ev_move tab_ok rfl rfl rfl ?_
  refine ev_nil ?_ rfl
  refine awp_block ?_
  refine awp_loop (fun i : Nat => ⟨[(35, .s (.int .i64 i)), (34, .s (.int .i64 (byW47 x).length)), (33, .list (strL (byW47 x))), (5, .s (.int .i64 (lastW x i))), (3, .list (strL (byW47 x))), (4, .list (strL (files47 x))), (1, .ptr 0 0)], [.box (nodeC x) 25]⟩) (fun i => i ≤ (byW47 x).length) (fun i => (byW47 x).length - i) 0 [0] ?_ (Nat.zero_le _) keep0 (fun i hi => ?_)
  · all_goals (try refine le_of (by decide) ?_ ?_)
    repeat' (first | exact trivial | exact .nil | (refine CutL.cons rfl ?_ ?_) | (refine EnvLe.cons rfl ?_ ?_) | (refine MvS.box (mvl_closed rfl)) | exact .ptr rfl | exact .frz rfl | (refine Mv.int ?_) | fail)
    all_goals (try simp only [wrap_addL, wrap_addR, wrap_subL, wrap_subR]); all_goals (try (rw [wrap_i64 (by omega) (by omega)]; omega))
    all_goals simp [strL_length]
  refine awp_seq ?_
  refine awp_reg ?_
  (refine ev_ilss tab_ok rfl rfl rfl rfl ?_)
  refine ev_nil ?_ rfl
  refine awp_seq ?_
  refine awp_cond rfl (fun hc => ?_) (fun hc => ?_)
  · refine awp_skip ?_
    have hlt : i < (byW47 x).length := by simpa using hc
    have hx : (byW47 x)[i]? = some (getS (byW47 x) i) := getS_get hlt
    have hmem := hwmem _ (List.mem_of_getElem? hx)
    have hsz := (files47_found hmem).2
    have hwr := weightR_path hv (files47_found hmem).1
    refine awp_seq ?_
    refine awp_block ?_
    refine awp_seq ?_
    refine awp_reg ?_
    refine ev_move tab_ok rfl rfl rfl ?_
    (refine ev_iaL tab_ok rfl rfl rfl rfl rfl rfl rfl rfl rfl (by omega) (by rw [Int.toNat_natCast]; exact strL_get hx) rfl ?_)
    (refine ev_loadE tab_ok rfl rfl rfl rfl rfl rfl ?_)
    refine ev_assign tab_ok rfl rfl rfl ?_
    refine ev_assign tab_ok rfl rfl rfl ?_
    refine ev_nil ?_ rfl
    refine awp_seq ?_
    refine awp_reg ?_
    (refine ev_loadB tab_ok rfl rfl rfl rfl rfl rfl rfl ?_)
    refine ev_move tab_ok rfl rfl rfl ?_
    refine ev_call rfl rfl rfl rfl rfl (weightP_spec x (getS (byW47 x) i) (by omega) (by omega)) rfl ?_
    refine ev_move tab_ok rfl rfl rfl ?_
    refine ev_extract tab_ok rfl rfl rfl rfl ?_
    refine ev_extract tab_ok rfl rfl rfl rfl ?_
    refine ev_assign tab_ok rfl rfl rfl ?_
    refine ev_assign tab_ok rfl rfl rfl ?_
    refine ev_nil ?_ rfl
    rw [hwr]
    refine awp_seq ?_
    refine awp_seq_to ⟨[(74, .s (.bool false)), (8, .s (.int .i64 (weight47 x (getS (byW47 x) i)))), (35, .s (.int .i64 i)), (34, .s (.int .i64 (byW47 x).length)), (33, .list (strL (byW47 x))), (3, .list (strL (byW47 x))), (4, .list (strL (files47 x))), (1, .ptr 0 0)], [.box (nodeC x) 25]⟩ ?_ ?_
    · cases i with
      | zero =>
        refine awp_draw mixed ?_
        refine ev_move tab_ok rfl rfl rfl ?_
        (refine ev_ineq tab_ok rfl rfl rfl rfl ?_)
        try refine ev_as (show _ = PV.s (.bool false) by rfl) ?_
        refine ev_move tab_ok rfl rfl rfl ?_
        (refine ev_move tab_ok rfl rfl rfl ?_)
        (refine ev_igtr tab_ok rfl rfl rfl rfl ?_)
        try refine ev_as (show _ = PV.s (.bool false) by rfl) ?_
        (refine ev_move tab_ok rfl rfl rfl ?_)
        (refine ev_skip rfl rfl ?_)
        (refine ev_skip rfl rfl ?_)
        (refine ev_skip rfl rfl ?_)
        (refine ev_skip rfl rfl ?_)
        (refine ev_skip rfl rfl ?_)
        (refine ev_skip rfl rfl ?_)
        (refine ev_skip rfl rfl ?_)
        (refine ev_skip rfl rfl ?_)
        (refine ev_skip rfl rfl ?_)
        (refine ev_skip rfl rfl ?_)
        (refine ev_skip rfl rfl ?_)
        (refine ev_skip rfl rfl ?_)
        (refine ev_skip rfl rfl ?_)
        (refine ev_skip rfl rfl ?_)
        (refine ev_skip rfl rfl ?_)
        (refine ev_skip rfl rfl ?_)
        (refine ev_skip rfl rfl ?_)
        (refine ev_skip rfl rfl ?_)
        (refine ev_skip rfl rfl ?_)
        (refine ev_skip rfl rfl ?_)
        (refine ev_skip rfl rfl ?_)
        (refine ev_pickF tab_ok rfl rfl rfl rfl rfl ?_)
        (refine ev_pickF tab_ok rfl rfl rfl rfl rfl ?_)
        refine ev_nilD ?_ (by kernel_rfl)
        refine ⟨[0], ?_, keep0⟩
        all_goals (try refine le_of (by decide) ?_ ?_)
        repeat' (first | exact trivial | exact .nil | (refine CutL.cons rfl ?_ ?_) | (refine EnvLe.cons rfl ?_ ?_) | (refine MvS.box (mvl_closed rfl)) | exact .ptr rfl | exact .frz rfl | fail)
        all_goals (try simp only [wrap_addL, wrap_addR, wrap_subL, wrap_subR]); all_goals (try (rw [wrap_i64 (by omega) (by omega)]; omega))
      | succ i =>
        have hx0 : (byW47 x)[i]? = some (getS (byW47 x) i) := getS_get (by omega)
        have hsub : IntKind.i64.wrap (((i + 1 : Nat) : Int) - 1) = (i : Int) := by rw [wrap_i64 (by omega) (by omega)]; omega
        show AWp _ _ _ ⟨_ :: _ :: _ :: _ :: _ :: _ :: _ :: _ :: _ :: _ :: _ :: _ :: _ :: _ :: _ :: _ :: _ :: (5, .s (.int .i64 (weight47 x (getS (byW47 x) i)))) :: _, _⟩ _
        rcases hstepW i hlt with h1 | ⟨h1, h2⟩
        · refine awp_draw mixed ?_
          refine ev_move tab_ok rfl rfl rfl ?_
          (refine ev_ineq tab_ok rfl rfl rfl rfl ?_)
          try refine ev_as (show _ = PV.s (.bool false) by rfl) ?_
          refine ev_move tab_ok rfl rfl rfl ?_
          (refine ev_move tab_ok rfl rfl rfl ?_)
          (refine ev_igtr tab_ok rfl rfl rfl rfl ?_)
          try refine ev_as (show _ = PV.s (.bool true) by rw [decide_eq_true (by omega)]) ?_
          (refine ev_move tab_ok rfl rfl rfl ?_)
          (refine ev_move tab_ok rfl rfl rfl ?_)
          (refine ev_move tab_ok rfl rfl rfl ?_)
          (refine ev_igtr tab_ok rfl rfl rfl rfl ?_)
          try refine ev_as (show _ = PV.s (.bool false) by rw [decide_eq_false (by omega)]) ?_
          (refine ev_move tab_ok rfl rfl rfl ?_)
          (refine ev_move tab_ok rfl rfl rfl ?_)
          (refine ev_move tab_ok rfl rfl rfl ?_)
          (refine ev_ieql tab_ok rfl rfl rfl rfl ?_)
          try refine ev_as (show _ = PV.s (.bool false) by rw [beq_eq_false_iff_ne.2 (by omega)]) ?_
          (refine ev_move tab_ok rfl rfl rfl ?_)
          (refine ev_skip rfl rfl ?_)
          (refine ev_skip rfl rfl ?_)
          (refine ev_skip rfl rfl ?_)
          (refine ev_skip rfl rfl ?_)
          (refine ev_skip rfl rfl ?_)
          (refine ev_skip rfl rfl ?_)
          (refine ev_skip rfl rfl ?_)
          (refine ev_skip rfl rfl ?_)
          (refine ev_skip rfl rfl ?_)
          (refine ev_skip rfl rfl ?_)
          (refine ev_skip rfl rfl ?_)
          (refine ev_pickF tab_ok rfl rfl rfl rfl rfl ?_)
          (refine ev_pickF tab_ok rfl rfl rfl rfl rfl ?_)
          (refine ev_pickT tab_ok rfl rfl rfl rfl rfl ?_)
          (refine ev_pickF tab_ok rfl rfl rfl rfl rfl ?_)
          refine ev_nilD ?_ (by kernel_rfl)
          refine ⟨[0], ?_, keep0⟩
          all_goals (try refine le_of (by decide) ?_ ?_)
          repeat' (first | exact trivial | exact .nil | (refine CutL.cons rfl ?_ ?_) | (refine EnvLe.cons rfl ?_ ?_) | (refine MvS.box (mvl_closed rfl)) | exact .ptr rfl | exact .frz rfl | fail)
          all_goals (try simp only [wrap_addL, wrap_addR, wrap_subL, wrap_subR]); all_goals (try (rw [wrap_i64 (by omega) (by omega)]; omega))
        · refine awp_draw mixed ?_
          refine ev_move tab_ok rfl rfl rfl ?_
          (refine ev_ineq tab_ok rfl rfl rfl rfl ?_)
          try refine ev_as (show _ = PV.s (.bool false) by rfl) ?_
          refine ev_move tab_ok rfl rfl rfl ?_
          (refine ev_move tab_ok rfl rfl rfl ?_)
          (refine ev_igtr tab_ok rfl rfl rfl rfl ?_)
          try refine ev_as (show _ = PV.s (.bool true) by rw [decide_eq_true (by omega)]) ?_
          (refine ev_move tab_ok rfl rfl rfl ?_)
          (refine ev_move tab_ok rfl rfl rfl ?_)
          (refine ev_move tab_ok rfl rfl rfl ?_)
          (refine ev_igtr tab_ok rfl rfl rfl rfl ?_)
          try refine ev_as (show _ = PV.s (.bool false) by rw [decide_eq_false (by omega)]) ?_
          (refine ev_move tab_ok rfl rfl rfl ?_)
          (refine ev_move tab_ok rfl rfl rfl ?_)
          (refine ev_move tab_ok rfl rfl rfl ?_)
          (refine ev_ieql tab_ok rfl rfl rfl rfl ?_)
          try refine ev_as (show _ = PV.s (.bool true) by rw [h1]; simp) ?_
          (refine ev_move tab_ok rfl rfl rfl ?_)
          (refine ev_move tab_ok rfl rfl rfl ?_)
          (refine ev_move tab_ok rfl rfl rfl ?_)
          (refine ev_call rfl rfl rfl rfl rfl (index_spec (files47 x) (getS (byW47 x) (i + 1))) rfl ?_)
          (refine ev_move tab_ok rfl rfl rfl ?_)
          (refine ev_move tab_ok rfl rfl rfl ?_)
          (refine ev_move tab_ok rfl rfl rfl ?_)
          (refine ev_isub tab_ok rfl rfl rfl rfl ?_)
          try refine ev_as (show _ = PV.s (.int .i64 (i : Int)) by rw [hsub]) ?_
          (refine ev_iaL tab_ok rfl rfl rfl rfl rfl rfl rfl rfl rfl (by omega) (by rw [Int.toNat_natCast]; exact strL_get hx0) rfl ?_)
          (refine ev_loadE tab_ok rfl rfl rfl rfl rfl rfl ?_)
          (refine ev_call rfl rfl rfl rfl rfl (index_spec (files47 x) (getS (byW47 x) i)) rfl ?_)
          (refine ev_ilss tab_ok rfl rfl rfl rfl ?_)
          try refine ev_as (show _ = PV.s (.bool false) by rw [decide_eq_false (by omega)]) ?_
          (refine ev_pickT tab_ok rfl rfl rfl rfl rfl ?_)
          (refine ev_pickF tab_ok rfl rfl rfl rfl rfl ?_)
          (refine ev_pickT tab_ok rfl rfl rfl rfl rfl ?_)
          (refine ev_pickF tab_ok rfl rfl rfl rfl rfl ?_)
          refine ev_nilD ?_ (by kernel_rfl)
          refine ⟨[0], ?_, keep0⟩
          all_goals (try refine le_of (by decide) ?_ ?_)
          repeat' (first | exact trivial | exact .nil | (refine CutL.cons rfl ?_ ?_) | (refine EnvLe.cons rfl ?_ ?_) | (refine MvS.box (mvl_closed rfl)) | exact .ptr rfl | exact .frz rfl | fail)
          all_goals (try simp only [wrap_addL, wrap_addR, wrap_subL, wrap_subR]); all_goals (try (rw [wrap_i64 (by omega) (by omega)]; omega))
    refine awp_cond rfl (fun hc => ?_) (fun hc => ?_)
    · exact absurd hc (by decide)
    refine awp_skip ?_
    refine awp_reg ?_
    refine ev_move tab_ok rfl rfl rfl ?_
    refine ev_assign tab_ok rfl rfl rfl ?_
    refine ev_nil ?_ rfl
    refine awp_reg ?_
    (refine ev_iadd tab_ok rfl rfl rfl rfl ?_)
    refine ev_move tab_ok rfl rfl rfl ?_
    refine ev_nil ?_ rfl
    refine ⟨i + 1, [0], ?_, by omega, hlt, keep0⟩
    all_goals (try refine le_of (by decide) ?_ ?_)
    repeat' (first | exact trivial | exact .nil | (refine CutL.cons rfl ?_ ?_) | (refine EnvLe.cons rfl ?_ ?_) | (refine MvS.box (mvl_closed rfl)) | exact .ptr rfl | exact .frz rfl | (refine Mv.int ?_) | fail)
    all_goals (try simp only [wrap_addL, wrap_addR, wrap_subL, wrap_subR]); all_goals (try (rw [wrap_i64 (by omega) (by omega)]; omega))
    all_goals rfl
  refine awp_exit ?_
  refine awp_seq ?_
  refine awp_seq ?_
  refine awp_reg ?_
  (refine ev_loadB tab_ok rfl rfl rfl rfl rfl rfl rfl ?_)
  refine ev_call rfl rfl rfl rfl rfl (paths18_spec x (by omega)) rfl ?_
  (refine ev_lenL tab_ok rfl rfl rfl rfl rfl rfl ?_)
  refine ev_move tab_ok rfl rfl rfl ?_
  refine ev_nil ?_ rfl
  refine awp_block ?_
  refine awp_loop (fun j : Nat => ⟨[(80, .s (.int .i64 j)), (79, .s (.int .i64 (paths18 x).length)), (78, .list (strL (paths18 x))), (1, .ptr 0 0)], [.box (nodeC x) 25]⟩) (fun j => j ≤ (paths18 x).length) (fun j => (paths18 x).length - j) 0 [0] ?_ (Nat.zero_le _) keep0 (fun j hj => ?_)
  · all_goals (try refine le_of (by decide) ?_ ?_)
    repeat' (first | exact trivial | exact .nil | (refine CutL.cons rfl ?_ ?_) | (refine EnvLe.cons rfl ?_ ?_) | (refine MvS.box (mvl_closed rfl)) | exact .ptr rfl | exact .frz rfl | (refine Mv.int ?_) | fail)
    all_goals (try simp only [wrap_addL, wrap_addR, wrap_subL, wrap_subR]); all_goals (try (rw [wrap_i64 (by omega) (by omega)]; omega))
    all_goals simp [strL_length]
  refine awp_seq ?_
  refine awp_reg ?_
  (refine ev_ilss tab_ok rfl rfl rfl rfl ?_)
  refine ev_nil ?_ rfl
  refine awp_seq ?_
  refine awp_cond rfl (fun hc => ?_) (fun hc => ?_)
  · refine awp_skip ?_
    have hlt : j < (paths18 x).length := by simpa using hc
    have hx : (paths18 x)[j]? = some (paths18 x)[j] := List.getElem?_eq_getElem hlt
    have hsz := paths18_size (List.getElem_mem hlt)
    obtain ⟨z, hz, hg⟩ := get18_path (List.getElem_mem hlt)
    have hwr := weightR_path hv (paths18_found (List.getElem_mem hlt))
    generalize (paths18 x)[j] = p at *
    refine awp_seq ?_
    refine awp_block ?_
    refine awp_seq ?_
    refine awp_reg ?_
    (refine ev_iaL tab_ok rfl rfl rfl rfl rfl rfl rfl rfl rfl (by omega) (by rw [Int.toNat_natCast]; exact strL_get hx) rfl ?_)
    (refine ev_loadE tab_ok rfl rfl rfl rfl rfl rfl ?_)
    refine ev_assign tab_ok rfl rfl rfl ?_
    refine ev_nil ?_ rfl
    refine awp_seq ?_
    refine awp_reg ?_
    (refine ev_loadB tab_ok rfl rfl rfl rfl rfl rfl rfl ?_)
    refine ev_move tab_ok rfl rfl rfl ?_
    refine ev_call rfl rfl rfl rfl rfl (get18_spec x p (by omega) (by omega)) rfl ?_
    refine ev_move tab_ok rfl rfl rfl ?_
    refine ev_extract tab_ok rfl rfl rfl rfl ?_
    refine ev_extract tab_ok rfl rfl rfl rfl ?_
    refine ev_alloc tab_ok rfl rfl rfl rfl rfl rfl (by constructor) ?_
    (refine ev_store tab_ok rfl rfl rfl rfl rfl rfl rfl rfl rfl (by repeat constructor) ?_)
    refine ev_assign tab_ok rfl rfl rfl ?_
    refine ev_nil ?_ rfl
    refine awp_seq ?_
    refine awp_reg ?_
    (refine ev_loadB tab_ok rfl rfl rfl rfl rfl rfl rfl ?_)
    refine ev_move tab_ok rfl rfl rfl ?_
    refine ev_call rfl rfl rfl rfl rfl (weightP_spec x p (by omega) (by omega)) rfl ?_
    refine ev_move tab_ok rfl rfl rfl ?_
    refine ev_extract tab_ok rfl rfl rfl rfl ?_
    refine ev_extract tab_ok rfl rfl rfl rfl ?_
    refine ev_assign tab_ok rfl rfl rfl ?_
    refine ev_assign tab_ok rfl rfl rfl ?_
    refine ev_nil ?_ rfl
    rw [hwr, hg]
    refine awp_seq ?_
    refine awp_seq_to ⟨[(108, .s (.bool false)), (12, .ptr 1 0), (14, .s (.int .i64 (weight47 x p))), (11, .s (.string p)), (80, .s (.int .i64 j)), (79, .s (.int .i64 (paths18 x).length)), (78, .list (strL (paths18 x))), (1, .ptr 0 0)], [.box (nodeC x) 25, .box (nodeC z) 25]⟩ ?_ ?_
    · by_cases hw0 : z.weight = 0
      · refine awp_reg ?_
        refine ev_move tab_ok rfl rfl rfl ?_
        (refine ev_ineq tab_ok rfl rfl rfl rfl ?_)
        try refine ev_as (show _ = PV.s (.bool false) by rfl) ?_
        refine ev_move tab_ok rfl rfl rfl ?_
        (refine ev_faB tab_ok rfl rfl rfl rfl rfl rfl rfl ?_)
        (refine ev_loadB tab_ok rfl rfl rfl rfl rfl rfl rfl ?_)
        (refine ev_ineq tab_ok rfl rfl rfl rfl ?_)
        try refine ev_as (show _ = PV.s (.bool false) by rw [hw0]; rfl) ?_
        (refine ev_move tab_ok rfl rfl rfl ?_)
        (refine ev_skip rfl rfl ?_)
        (refine ev_skip rfl rfl ?_)
        (refine ev_skip rfl rfl ?_)
        (refine ev_skip rfl rfl ?_)
        (refine ev_pickF tab_ok rfl rfl rfl rfl rfl ?_)
        (refine ev_pickF tab_ok rfl rfl rfl rfl rfl ?_)
        refine ev_nil ?_ rfl
        refine ⟨[0, 1], ?_, keep0⟩
        all_goals (try refine le_of (by decide) ?_ ?_)
        repeat' (first | exact trivial | exact .nil | (refine CutL.cons rfl ?_ ?_) | (refine EnvLe.cons rfl ?_ ?_) | (refine MvS.box (mvl_closed rfl)) | exact .ptr rfl | exact .frz rfl | fail)
        all_goals (try simp only [wrap_addL, wrap_addR, wrap_subL, wrap_subR]); all_goals (try (rw [wrap_i64 (by omega) (by omega)]; omega))
      · refine awp_reg ?_
        refine ev_move tab_ok rfl rfl rfl ?_
        (refine ev_ineq tab_ok rfl rfl rfl rfl ?_)
        try refine ev_as (show _ = PV.s (.bool false) by rfl) ?_
        refine ev_move tab_ok rfl rfl rfl ?_
        (refine ev_faB tab_ok rfl rfl rfl rfl rfl rfl rfl ?_)
        (refine ev_loadB tab_ok rfl rfl rfl rfl rfl rfl rfl ?_)
        (refine ev_ineq tab_ok rfl rfl rfl rfl ?_)
        try refine ev_as (show _ = PV.s (.bool true) by simp [hw0]) ?_
        (refine ev_move tab_ok rfl rfl rfl ?_)
        (refine ev_move tab_ok rfl rfl rfl ?_)
        (refine ev_faB tab_ok rfl rfl rfl rfl rfl rfl rfl ?_)
        (refine ev_loadB tab_ok rfl rfl rfl rfl rfl rfl rfl ?_)
        (refine ev_ineq tab_ok rfl rfl rfl rfl ?_)
        try refine ev_as (show _ = PV.s (.bool false) by rw [weight_own hv hz hw0]; simp) ?_
        (refine ev_pickT tab_ok rfl rfl rfl rfl rfl ?_)
        (refine ev_pickF tab_ok rfl rfl rfl rfl rfl ?_)
        refine ev_nil ?_ rfl
        refine ⟨[0, 1], ?_, keep0⟩
        all_goals (try refine le_of (by decide) ?_ ?_)
        repeat' (first | exact trivial | exact .nil | (refine CutL.cons rfl ?_ ?_) | (refine EnvLe.cons rfl ?_ ?_) | (refine MvS.box (mvl_closed rfl)) | exact .ptr rfl | exact .frz rfl | fail)
        all_goals (try simp only [wrap_addL, wrap_addR, wrap_subL, wrap_subR]); all_goals (try (rw [wrap_i64 (by omega) (by omega)]; omega))
    refine awp_cond rfl (fun hc => ?_) (fun hc => ?_)
    · exact absurd hc (by decide)
    refine awp_skip ?_
    refine awp_seq ?_
    refine awp_reg ?_
    refine ev_move tab_ok rfl rfl rfl ?_
    refine ev_call rfl rfl rfl rfl rfl (lastIndex_spec p (by omega)) rfl ?_
    refine ev_assign tab_ok rfl rfl rfl ?_
    refine ev_nil ?_ rfl
    refine awp_seq_to ⟨[(117, .s (.bool ((z.weight == 0) && !emptyB p))), (16, .s (.int .i64 (Lib.lastIndexByte p 47))), (14, .s (.int .i64 (weight47 x p))), (11, .s (.string p)), (80, .s (.int .i64 j)), (79, .s (.int .i64 (paths18 x).length)), (78, .list (strL (paths18 x))), (1, .ptr 0 0)], [.box (nodeC x) 25]⟩ ?_ ?_
    · cases hy : (z.weight == 0)
      all_goals
        refine awp_reg ?_
        (refine ev_faB tab_ok rfl rfl rfl rfl rfl rfl rfl ?_)
        (refine ev_loadB tab_ok rfl rfl rfl rfl rfl rfl rfl ?_)
        (refine ev_ieql tab_ok rfl rfl rfl rfl ?_)
        try refine ev_as (show _ = PV.s (.bool _) by rw [hy]) ?_
        refine ev_move tab_ok rfl rfl rfl ?_
        (first | refine ev_skip rfl rfl ?_ | refine ev_move tab_ok rfl rfl rfl ?_)
        (first | refine ev_skip rfl rfl ?_ | refine ev_sneq tab_ok rfl rfl rfl rfl ?_)
        (first | refine ev_pickT tab_ok rfl rfl rfl rfl rfl ?_ | refine ev_pickF tab_ok rfl rfl rfl rfl rfl ?_)
        refine ev_nil ?_ rfl
        refine ⟨[0], ?_, keep0⟩
        all_goals (try refine le_of (by decide) ?_ ?_)
        repeat' (first | exact trivial | exact .nil | (refine CutL.cons rfl ?_ ?_) | (refine EnvLe.cons rfl ?_ ?_) | (refine MvS.box (mvl_closed rfl)) | exact .ptr rfl | exact .frz rfl | fail)
        all_goals (try simp only [wrap_addL, wrap_addR, wrap_subL, wrap_subR]); all_goals (try (rw [wrap_i64 (by omega) (by omega)]; omega))
        all_goals (rfl)
    refine awp_cond rfl (fun hc => ?_) (fun hc => ?_)
    · simp only [Bool.and_eq_true, Bool.not_eq_true', beq_iff_eq] at hc
      have hpe : p ≠ ⟨#[]⟩ := fun e => by have := emptyB_iff.2 e; rw [hc.2] at this; cases this
      have hup := weight_up hv hz hc.1 hpe
      have hcut := cutP_size hpe
      have hmax : (if Lib.lastIndexByte p 47 < 0 then 0 else Lib.lastIndexByte p 47) = (((max 0 (Lib.lastIndexByte p 47)).toNat : Nat) : Int) := by
        split <;> omega
      have hle : (max 0 (Lib.lastIndexByte p 47)).toNat ≤ p.size := by
        rcases Lib.lastIdx_spec p 47 p.size with ⟨h1, _⟩ | ⟨i, hi, h1, _⟩
        · unfold Lib.lastIndexByte; rw [h1]; omega
        · unfold Lib.lastIndexByte; rw [h1]; omega
      refine awp_seq ?_
      refine awp_draw mixed ?_
      (refine ev_loadB tab_ok rfl rfl rfl rfl rfl rfl rfl ?_)
      refine ev_move tab_ok rfl rfl rfl ?_
      refine ev_move tab_ok rfl rfl rfl ?_
      refine ev_imax tab_ok rfl rfl rfl rfl ?_
      try refine ev_as (show _ = PV.s (.int .i64 (((max 0 (Lib.lastIndexByte p 47)).toNat : Nat) : Int)) by rw [← hmax]) ?_
      (refine ev_slS1 tab_ok rfl rfl rfl rfl rfl rfl rfl (by omega) (by omega) ?_)
      try refine ev_as (show _ = PV.s (.string (cutP p)) by rw [Int.toNat_natCast]; rfl) ?_
      refine ev_call rfl rfl rfl rfl rfl (weightP_spec x (cutP p) (by omega) (by omega)) rfl ?_
      refine ev_move tab_ok rfl rfl rfl ?_
      refine ev_extract tab_ok rfl rfl rfl rfl ?_
      refine ev_extract tab_ok rfl rfl rfl rfl ?_
      refine ev_assign tab_ok rfl rfl rfl ?_
      refine ev_assign tab_ok rfl rfl rfl ?_
      refine ev_nilD ?_ (by kernel_rfl)
      rw [hup]
      refine awp_seq ?_
      refine awp_reg ?_
      refine ev_move tab_ok rfl rfl rfl ?_
      (refine ev_ineq tab_ok rfl rfl rfl rfl ?_)
      try refine ev_as (show _ = PV.s (.bool false) by rfl) ?_
      refine ev_move tab_ok rfl rfl rfl ?_
      (refine ev_move tab_ok rfl rfl rfl ?_)
      (refine ev_move tab_ok rfl rfl rfl ?_)
      (refine ev_ineq tab_ok rfl rfl rfl rfl ?_)
      try refine ev_as (show _ = PV.s (.bool false) by simp) ?_
      (refine ev_pickF tab_ok rfl rfl rfl rfl rfl ?_)
      refine ev_nil ?_ rfl
      refine awp_cond rfl (fun hc => ?_) (fun hc => ?_)
      · exact absurd hc (by decide)
      · refine awp_skip ?_
        refine awp_reg ?_
        (refine ev_iadd tab_ok rfl rfl rfl rfl ?_)
        refine ev_move tab_ok rfl rfl rfl ?_
        refine ev_nil ?_ rfl
        refine ⟨j + 1, [0], ?_, by omega, hlt, keep0⟩
        all_goals (try refine le_of (by decide) ?_ ?_)
        repeat' (first | exact trivial | exact .nil | (refine CutL.cons rfl ?_ ?_) | (refine EnvLe.cons rfl ?_ ?_) | (refine MvS.box (mvl_closed rfl)) | exact .ptr rfl | exact .frz rfl | (refine Mv.int ?_) | fail)
        all_goals (try simp only [wrap_addL, wrap_addR, wrap_subL, wrap_subR]); all_goals (try (rw [wrap_i64 (by omega) (by omega)]; omega))
    · refine awp_skip ?_
      refine awp_reg ?_
      (refine ev_iadd tab_ok rfl rfl rfl rfl ?_)
      refine ev_move tab_ok rfl rfl rfl ?_
      refine ev_nil ?_ rfl
      refine ⟨j + 1, [0], ?_, by omega, hlt, keep0⟩
      all_goals (try refine le_of (by decide) ?_ ?_)
      repeat' (first | exact trivial | exact .nil | (refine CutL.cons rfl ?_ ?_) | (refine EnvLe.cons rfl ?_ ?_) | (refine MvS.box (mvl_closed rfl)) | exact .ptr rfl | exact .frz rfl | (refine Mv.int ?_) | fail)
      all_goals (try simp only [wrap_addL, wrap_addR, wrap_subL, wrap_subR]); all_goals (try (rw [wrap_i64 (by omega) (by omega)]; omega))
  · refine awp_exit ?_
    refine awp_seq ?_
    refine awp_reg ?_
    refine ev_assign tab_ok rfl rfl rfl ?_
    refine ev_nil ?_ rfl
    refine awp_ret ?_
    exact ⟨_, [], rfl, .frz rfl, cut_of (by decide) .nil, keep0⟩
end Go.Proofs.Pm
end

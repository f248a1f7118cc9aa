/- A part of the proof of one law: the machine on pure values and the walks of functions. -/
import Derived.Test.YtjoikahblpephaaGreatDoorPmLw3P25
import Derived.Test.YtjoikahblpephaaGreatDoorPmLw3P26
set_option linter.all false
section
namespace Go.Proofs.Pm
open Go
theorem few_count {x : Node} {n : Nat} (h : fewR x n = true) : x.count ≤ 40 ∧ n ≤ 70 := by
  simp only [fewR, few18, Bool.and_eq_true, decide_eq_true_eq] at h
  omega
theorem lawOrders (x : Node) (path : B) (acc : List B) (hb : x.bulk ≤ 1048576) (hp : path.size ≤ 1048576) : FCall Tryz.prog 3 [.agg (nodeC x), .s (.string path), .list (strL acc)] [] (.s (.bool true)) [] := by
  refine fcall_intro tab_ok Tryz.call3 Tryz.func3 rfl rfl rfl (fun G w ι => ?_)
  refine awp_seq ?_
  refine awp_reg ?_
  refine ev_box rfl rfl rfl rfl (by constructor) ?_
  refine ev_assign tab_ok rfl rfl rfl ?_
  refine ev_nil ?_ rfl
  refine awp_seq ?_
  refine awp_seq ?_
  refine awp_reg ?_
  refine ev_call rfl rfl rfl rfl rfl (awakeP_spec) rfl ?_
  refine ev_not tab_ok rfl rfl rfl ?_
  refine ev_nil ?_ rfl
  refine awp_cond rfl (fun hc => ?_) (fun hc => ?_)
  · exact absurd hc (by decide)
  refine awp_skip ?_
  refine awp_seq ?_
  refine awp_seq_to ⟨[(21, .s (.bool (!fewR x acc.length))), (3, .ptr 0 0), (1, .s (.string path)), (2, .list (strL acc))], [.box (nodeC x) 25]⟩ ?_ ?_
  · cases hy : fewR x acc.length
    all_goals
      refine awp_reg ?_
      (refine ev_loadB tab_ok rfl rfl rfl rfl rfl rfl rfl ?_)
      refine ev_move tab_ok rfl rfl rfl ?_
      refine ev_call rfl rfl rfl rfl rfl (fewR_spec x (strL acc) (by omega)) rfl ?_
      refine ev_not tab_ok rfl rfl rfl ?_
      try refine ev_as (show _ = PV.s (.bool _) by rw [strL_length, hy]) ?_
      refine ev_move tab_ok rfl rfl rfl ?_
      (first | refine ev_skip rfl rfl ?_ | refine ev_move tab_ok rfl rfl rfl ?_)
      (first | refine ev_skip rfl rfl ?_ | refine ev_lenS tab_ok rfl rfl rfl rfl rfl rfl ?_)
      (first | refine ev_skip rfl rfl ?_ | refine ev_igtr tab_ok rfl rfl rfl rfl ?_)
      try refine ev_as (show _ = PV.s (.bool false) by rw [decide_eq_false (by omega)]) ?_
      (first | refine ev_pickT tab_ok rfl rfl rfl rfl rfl ?_ | refine ev_pickF tab_ok rfl rfl rfl rfl rfl ?_)
      refine ev_nil ?_ rfl
      refine ⟨[0], ?_, keep0⟩
      all_goals (try refine le_of (by decide) ?_ ?_)
      repeat' (first | exact trivial | exact .nil | (refine CutL.cons rfl ?_ ?_) | (refine EnvLe.cons rfl ?_ ?_) | (refine MvS.box (mvl_closed rfl)) | exact .ptr rfl | exact .frz rfl | fail)
      all_goals (try simp only [wrap_addL, wrap_addR, wrap_subL, wrap_subR]); all_goals (try (rw [wrap_i64 (by omega) (by omega)]; omega))
  refine awp_cond rfl (fun hc => ?_) (fun hc => ?_)
  · refine awp_seq ?_
    refine awp_reg ?_
    refine ev_assign tab_ok rfl rfl rfl ?_
    refine ev_nil ?_ rfl
    refine awp_ret ?_
    exact ⟨_, [], rfl, .frz rfl, cut_of (by decide) .nil, keep0⟩
  have hf : fewR x acc.length = true := by simpa using hc
  obtain ⟨hcnt, hal⟩ := few_count hf
  have hwl := byW47_length x
  have hfl := files47_length x
  refine awp_skip ?_
  refine awp_seq ?_
  refine awp_reg ?_
  (refine ev_loadB tab_ok rfl rfl rfl rfl rfl rfl rfl ?_)
  refine ev_move tab_ok rfl rfl rfl ?_
  refine ev_call rfl rfl rfl rfl rfl (weightP_spec x path (by omega) (by omega)) rfl ?_
  refine ev_move tab_ok rfl rfl rfl ?_
  refine ev_extract tab_ok rfl rfl rfl rfl ?_
  refine ev_extract tab_ok rfl rfl rfl rfl ?_
  refine ev_assign tab_ok rfl rfl rfl ?_
  refine ev_assign tab_ok rfl rfl rfl ?_
  refine ev_nil ?_ rfl
  refine awp_seq ?_
  refine awp_reg ?_
  (refine ev_loadB tab_ok rfl rfl rfl rfl rfl rfl rfl ?_)
  refine ev_move tab_ok rfl rfl rfl ?_
  refine ev_call rfl rfl rfl rfl rfl (weightR_spec x path (by omega) (by omega)) rfl ?_
  refine ev_move tab_ok rfl rfl rfl ?_
  refine ev_extract tab_ok rfl rfl rfl rfl ?_
  refine ev_extract tab_ok rfl rfl rfl rfl ?_
  refine ev_assign tab_ok rfl rfl rfl ?_
  refine ev_assign tab_ok rfl rfl rfl ?_
  refine ev_nil ?_ rfl
  refine awp_seq ?_
  refine awp_draw mixed ?_
  refine ev_move tab_ok rfl rfl rfl ?_
  refine ev_move tab_ok rfl rfl rfl ?_
  (refine ev_ieql tab_ok rfl rfl rfl rfl ?_)
  try refine ev_is (congrArg Value.bool (beq_self_eq_true _)) ?_
  refine ev_move tab_ok rfl rfl rfl ?_
  (refine ev_move tab_ok rfl rfl rfl ?_)
  (refine ev_move tab_ok rfl rfl rfl ?_)
  (refine ev_ieql tab_ok rfl rfl rfl rfl ?_)
  try refine ev_is (congrArg Value.bool (beq_self_eq_true _)) ?_
  (refine ev_pickT tab_ok rfl rfl rfl rfl rfl ?_)
  refine ev_move tab_ok rfl rfl rfl ?_
  (refine ev_loadB tab_ok rfl rfl rfl rfl rfl rfl rfl ?_)
  (refine ev_call rfl rfl rfl rfl rfl (filesP_spec x (by omega)) rfl ?_)
  (refine ev_loadB tab_ok rfl rfl rfl rfl rfl rfl rfl ?_)
  (refine ev_call rfl rfl rfl rfl rfl (files47_spec x (by omega)) rfl ?_)
  (refine ev_call rfl rfl rfl rfl rfl (equal_spec _ _) rfl ?_)
  try refine ev_as (show _ = PV.s (.bool true) by rw [sameStrs_iff.2 rfl]) ?_
  (refine ev_pickT tab_ok rfl rfl rfl rfl rfl ?_)
  refine ev_move tab_ok rfl rfl rfl ?_
  (refine ev_loadB tab_ok rfl rfl rfl rfl rfl rfl rfl ?_)
  (refine ev_call rfl rfl rfl rfl rfl (byWeightP_spec x (by omega) hcnt) rfl ?_)
  (refine ev_loadB tab_ok rfl rfl rfl rfl rfl rfl rfl ?_)
  (refine ev_call rfl rfl rfl rfl rfl (byW47_spec x (by omega)) rfl ?_)
  (refine ev_call rfl rfl rfl rfl rfl (equal_spec _ _) rfl ?_)
  try refine ev_as (show _ = PV.s (.bool true) by rw [sameStrs_iff.2 rfl]) ?_
  (refine ev_pickT tab_ok rfl rfl rfl rfl rfl ?_)
  refine ev_move tab_ok rfl rfl rfl ?_
  (refine ev_loadB tab_ok rfl rfl rfl rfl rfl rfl rfl ?_)
  (refine ev_move tab_ok rfl rfl rfl ?_)
  (refine ev_call rfl rfl rfl rfl rfl (byAccessP_spec x acc (byWeightP_spec x (by omega) hcnt) (by omega) (by omega)) rfl ?_)
  (refine ev_loadB tab_ok rfl rfl rfl rfl rfl rfl rfl ?_)
  (refine ev_move tab_ok rfl rfl rfl ?_)
  (refine ev_call rfl rfl rfl rfl rfl (byA47_spec x acc (by omega)) rfl ?_)
  (refine ev_call rfl rfl rfl rfl rfl (equal_spec _ _) rfl ?_)
  try refine ev_as (show _ = PV.s (.bool true) by rw [sameStrs_iff.2 rfl]) ?_
  (refine ev_pickT tab_ok rfl rfl rfl rfl rfl ?_)
  refine ev_assign tab_ok rfl rfl rfl ?_
  refine ev_nilD ?_ (by kernel_rfl)
  refine awp_ret ?_
  exact ⟨_, [], rfl, .frz rfl, cut_of (by decide) .nil, keep0⟩
end Go.Proofs.Pm
end

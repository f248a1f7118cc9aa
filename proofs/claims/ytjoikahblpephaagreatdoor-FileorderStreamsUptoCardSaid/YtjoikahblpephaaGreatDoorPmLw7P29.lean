/- A part of the proof of one law: the machine on pure values and the walks of functions. -/
import Derived.Test.YtjoikahblpephaaGreatDoorPmLw7P27
import Derived.Test.YtjoikahblpephaaGreatDoorPmLw7P28
set_option linter.all false
section
namespace Go.Proofs.Pm
open Go
theorem lawStreams (x : Node) (acc : List B) (hb : x.bulk ≤ 1048576) : FCall Tryz.prog 7 [.agg (nodeC x), .list (strL acc)] [] (.s (.bool true)) [] := by
  have hok : valid18 x = true → x.count ≤ 40 → _ := fun hv hc => streams_ok hb hv hc acc
  have hfl := files47_length x
  refine fcall_intro tab_ok Tryz.call7 Tryz.func7 rfl rfl rfl (fun G w ι => ?_)
  refine awp_seq ?_
  refine awp_reg ?_
  refine ev_box rfl rfl rfl rfl (by constructor) ?_
  refine ev_assign tab_ok rfl rfl rfl ?_
  refine ev_nil ?_ rfl
  refine awp_seq ?_
  refine awp_seq ?_
  refine awp_reg ?_
  refine ev_call rfl rfl rfl rfl rfl (awakeP_spec) rfl ?_
  refine ev_not tab_ok rfl rfl rfl ?_
  refine ev_nil ?_ rfl
  refine awp_cond rfl (fun hc => ?_) (fun hc => ?_)
  · exact absurd hc (by decide)
  refine awp_skip ?_
  refine awp_seq ?_
  refine awp_seq_to ⟨[(21, .s (.bool (!(fewR x acc.length && valid18 x)))), (2, .ptr 0 0), (1, .list (strL acc))], [.box (nodeC x) 25]⟩ ?_ ?_
  · cases hy : fewR x acc.length
    all_goals
      refine awp_reg ?_
      (refine ev_loadB tab_ok rfl rfl rfl rfl rfl rfl rfl ?_)
      refine ev_move tab_ok rfl rfl rfl ?_
      refine ev_call rfl rfl rfl rfl rfl (fewR_spec x (strL acc) (by omega)) rfl ?_
      refine ev_not tab_ok rfl rfl rfl ?_
      try refine ev_as (show _ = PV.s (.bool _) by rw [strL_length, hy]) ?_
      refine ev_move tab_ok rfl rfl rfl ?_
      (first | refine ev_skip rfl rfl ?_ | refine ev_loadB tab_ok rfl rfl rfl rfl rfl rfl rfl ?_)
      (first | refine ev_skip rfl rfl ?_ | refine ev_call rfl rfl rfl rfl rfl (valid18_spec x (by omega)) rfl ?_)
      (first | refine ev_skip rfl rfl ?_ | refine ev_not tab_ok rfl rfl rfl ?_)
      (first | refine ev_pickT tab_ok rfl rfl rfl rfl rfl ?_ | refine ev_pickF tab_ok rfl rfl rfl rfl rfl ?_)
      refine ev_nil ?_ rfl
      refine ⟨[0], ?_, keep0⟩
      all_goals (try refine le_of (by decide) ?_ ?_)
      repeat' (first | exact trivial | exact .nil | (refine CutL.cons rfl ?_ ?_) | (refine EnvLe.cons rfl ?_ ?_) | (refine MvS.box (mvl_closed rfl)) | exact .ptr rfl | exact .frz rfl | fail)
      all_goals (try simp only [wrap_addL, wrap_addR, wrap_subL, wrap_subR]); all_goals (try (rw [wrap_i64 (by omega) (by omega)]; omega))
      all_goals simp
  refine awp_cond rfl (fun hc => ?_) (fun hc => ?_)
  · refine awp_seq ?_
    refine awp_reg ?_
    refine ev_assign tab_ok rfl rfl rfl ?_
    refine ev_nil ?_ rfl
    refine awp_ret ?_
    exact ⟨_, [], rfl, .frz rfl, cut_of (by decide) .nil, keep0⟩
  have hf : fewR x acc.length = true ∧ valid18 x = true := by simpa using hc
  obtain ⟨hcnt, hal⟩ := few_count hf.1
  have hok := hok hf.2 hcnt
  have hwl := byW47_length x
  have h18 := byWeightP_spec x (by omega) hcnt
  refine awp_skip ?_
  refine awp_seq ?_
  refine awp_reg ?_
  refine ev_assign tab_ok rfl rfl rfl ?_
  refine ev_nil ?_ rfl
  refine awp_ghost 5 1 9 rfl (by constructor) ?_
  refine awp_seq ?_
  refine awp_seq ?_
  refine awp_reg ?_
  refine ev_move tab_ok rfl rfl rfl ?_
  (refine ev_lenL tab_ok rfl rfl rfl rfl rfl rfl ?_)
  refine ev_move tab_ok rfl rfl rfl ?_
  refine ev_nil ?_ rfl
  refine awp_block ?_
  refine awp_loop (fun i : Nat => ⟨[(24, .s (.int .i64 i)), (23, .s (.int .i64 acc.length)), (22, .list (strL acc)), (5, .row (strL (accFold (files47 x) (acc.take i))) 1), (2, .ptr 0 0)], [.box (nodeC x) 25, .row (accFold (files47 x) (acc.take i)).length 1 9]⟩) (fun i => i ≤ acc.length) (fun i => acc.length - i) 0 [0, 1] ?_ (Nat.zero_le _) keep0 (fun i hi => ?_)
  · all_goals (try refine le_of (by decide) ?_ ?_)
    repeat' (first | exact trivial | exact .nil | (refine CutL.cons rfl ?_ ?_) | (refine EnvLe.cons rfl ?_ ?_) | exact MvS.row | (refine MvS.box (mvl_closed rfl)) | exact .ptr rfl | exact .row rfl | exact .frz rfl | (refine Mv.int ?_) | fail)
    all_goals (try simp only [wrap_addL, wrap_addR, wrap_subL, wrap_subR]); all_goals (try (rw [wrap_i64 (by omega) (by omega)]; omega))
    all_goals simp [strL_length]
  refine awp_seq ?_
  refine awp_reg ?_
  (refine ev_ilss tab_ok rfl rfl rfl rfl ?_)
  refine ev_nil ?_ rfl
  refine awp_seq ?_
  refine awp_cond rfl (fun hc => ?_) (fun hc => ?_)
  · refine awp_skip ?_
    have hlt : i < acc.length := by simpa using hc
    have hx : acc[i]? = some acc[i] := List.getElem?_eq_getElem hlt
    have hsub := (accFold_sub (acc.take i) [] (sub_nil (files47 x))).len
    have hstep : accFold (files47 x) (acc.take (i + 1)) = accStep (files47 x) (accFold (files47 x) (acc.take i)) acc[i] := foldl_take_succ hx
    rw [← accFold] at hsub
    generalize accFold (files47 x) (acc.take i) = out at *
    generalize acc[i] = a at *
    unfold accStep at hstep
    refine awp_seq ?_
    refine awp_block ?_
    refine awp_seq ?_
    refine awp_reg ?_
    (refine ev_iaL tab_ok rfl rfl rfl rfl rfl rfl rfl rfl rfl (by omega) (by rw [Int.toNat_natCast]; exact strL_get hx) rfl ?_)
    (refine ev_loadE tab_ok rfl rfl rfl rfl rfl rfl ?_)
    refine ev_assign tab_ok rfl rfl rfl ?_
    refine ev_nil ?_ rfl
    refine awp_seq_to ⟨[(37, .s (.bool (has (files47 x) a && !has out a))), (7, .s (.string a)), (24, .s (.int .i64 i)), (23, .s (.int .i64 acc.length)), (22, .list (strL acc)), (5, .row (strL out) 1), (2, .ptr 0 0)], [.box (nodeC x) 25, .row out.length 1 9]⟩ ?_ ?_
    · cases hz : has (files47 x) a
      all_goals
        refine awp_reg ?_
        (refine ev_loadB tab_ok rfl rfl rfl rfl rfl rfl rfl ?_)
        refine ev_call rfl rfl rfl rfl rfl (filesP_spec x (by omega)) rfl ?_
        refine ev_move tab_ok rfl rfl rfl ?_
        refine ev_call rfl rfl rfl rfl rfl (contains_spec (files47 x) a) rfl ?_
        try refine ev_as (show _ = PV.s (.bool _) by rw [hz]) ?_
        refine ev_move tab_ok rfl rfl rfl ?_
        (first | refine ev_skip rfl rfl ?_ | refine ev_move tab_ok rfl rfl rfl ?_)
        (first | refine ev_skip rfl rfl ?_ | refine ev_move tab_ok rfl rfl rfl ?_)
        (first | refine ev_skip rfl rfl ?_ | refine ev_call rfl rfl rfl rfl rfl (contains_spec out a) rfl ?_)
        (first | refine ev_skip rfl rfl ?_ | refine ev_not tab_ok rfl rfl rfl ?_)
        (first | refine ev_pickT tab_ok rfl rfl rfl rfl rfl ?_ | refine ev_pickF tab_ok rfl rfl rfl rfl rfl ?_)
        refine ev_nil ?_ rfl
        refine ⟨[0, 1], ?_, keep0⟩
        all_goals (try refine le_of (by decide) ?_ ?_)
        repeat' (first | exact trivial | exact .nil | (refine CutL.cons rfl ?_ ?_) | (refine EnvLe.cons rfl ?_ ?_) | exact MvS.row | (refine MvS.box (mvl_closed rfl)) | exact .ptr rfl | exact .row rfl | exact .frz rfl | fail)
        all_goals (try simp only [wrap_addL, wrap_addR, wrap_subL, wrap_subR]); all_goals (try (rw [wrap_i64 (by omega) (by omega)]; omega))
        all_goals simp
    refine awp_cond rfl (fun hc => ?_) (fun hc => ?_)
    · refine awp_reg ?_
      refine ev_move tab_ok rfl rfl rfl ?_
      refine ev_move tab_ok rfl rfl rfl ?_
      refine ev_buildSlice tab_ok rfl rfl rfl rfl rfl rfl rfl rfl rfl rfl rfl rfl rfl rfl (by constructor) ?_
      (refine ev_append tab_ok rfl rfl rfl rfl rfl rfl rfl rfl rfl rfl rfl rfl rfl rfl (by repeat constructor) (by (simp [strL_length, intL_length]; done)) (by exact one_len _) (by exact strL_len _) (by (simp only [strL_length, intL_length, List.length_append, List.length_cons, List.length_nil]; omega)) (by (simp only [strL_length, intL_length, List.length_append, List.length_cons, List.length_nil]; omega)) ?_)
      refine ev_assign tab_ok rfl rfl rfl ?_
      refine ev_nil ?_ rfl
      refine awp_reg ?_
      (refine ev_iadd tab_ok rfl rfl rfl rfl ?_)
      refine ev_move tab_ok rfl rfl rfl ?_
      refine ev_nil ?_ rfl
      rw [if_pos hc] at hstep
      refine ⟨i + 1, [0, 1], ?_, by omega, hlt, keep0⟩
      all_goals (try refine le_of (by decide) ?_ ?_)
      repeat' (first | exact trivial | exact .nil | (refine CutL.cons rfl ?_ ?_) | (refine EnvLe.cons rfl ?_ ?_) | (refine MvS.box (mvl_closed rfl)) | exact .ptr rfl | exact .frz rfl | (refine Mv.rowE rfl ?_) | (refine MvS.rowE ?_) | (refine Mv.int ?_) | fail)
      all_goals (try simp only [wrap_addL, wrap_addR, wrap_subL, wrap_subR]); all_goals (try (rw [wrap_i64 (by omega) (by omega)]; omega))
      all_goals (rw [hstep]; simp [strL])
    · refine awp_skip ?_
      refine awp_reg ?_
      (refine ev_iadd tab_ok rfl rfl rfl rfl ?_)
      refine ev_move tab_ok rfl rfl rfl ?_
      refine ev_nil ?_ rfl
      rw [if_neg (by rw [hc]; decide)] at hstep
      refine ⟨i + 1, [0, 1], ?_, by omega, hlt, keep0⟩
      all_goals (try refine le_of (by decide) ?_ ?_)
      repeat' (first | exact trivial | exact .nil | (refine CutL.cons rfl ?_ ?_) | (refine EnvLe.cons rfl ?_ ?_) | (refine MvS.box (mvl_closed rfl)) | exact .ptr rfl | exact .frz rfl | (refine Mv.rowE rfl ?_) | (refine MvS.rowE ?_) | (refine Mv.int ?_) | fail)
      all_goals (try simp only [wrap_addL, wrap_addR, wrap_subL, wrap_subR]); all_goals (try (rw [wrap_i64 (by omega) (by omega)]; omega))
      all_goals (rw [hstep])
  · refine awp_exit ?_
    have hge : i = acc.length := by
      have : ¬ i < acc.length := by simpa using hc
      omega
    subst hge
    rw [List.take_length]
    have hsub := (accFold_sub acc [] (sub_nil (files47 x))).len
    rw [← accFold] at hsub
    generalize accFold (files47 x) acc = once at *
    have hbl := (byA47_perm x once).length_eq
    refine awp_seq ?_
    refine awp_draw mixed ?_
    (refine ev_loadB tab_ok rfl rfl rfl rfl rfl rfl rfl ?_)
    (refine ev_loadB tab_ok rfl rfl rfl rfl rfl rfl rfl ?_)
    refine ev_move tab_ok rfl rfl rfl ?_
    refine ev_call rfl rfl rfl rfl rfl (byAccessP_spec x once h18 (by omega) (by omega)) rfl ?_
    refine ev_call rfl rfl rfl rfl rfl (placeP_spec x (byA47 x once) 0 (by omega) (by omega)) rfl ?_
    refine ev_move tab_ok rfl rfl rfl ?_
    refine ev_extract tab_ok rfl rfl rfl rfl ?_
    refine ev_extract tab_ok rfl rfl rfl rfl ?_
    refine ev_assign tab_ok rfl rfl rfl ?_
    refine ev_assign tab_ok rfl rfl rfl ?_
    refine ev_nilD ?_ (by kernel_rfl)
    refine awp_seq ?_
    refine awp_seq ?_
    generalize PlaceR x (byA47 x once) 0 = r at *
    rcases hok with h12 | ⟨h0, hcost⟩
    · refine awp_reg ?_
      refine ev_move tab_ok rfl rfl rfl ?_
      (refine ev_ineq tab_ok rfl rfl rfl rfl ?_)
      try refine ev_as (show _ = PV.s (.bool true) by rw [h12]; rfl) ?_
      refine ev_nil ?_ rfl
      refine awp_cond rfl (fun hc => ?_) (fun hc => ?_)
      · refine awp_seq ?_
        refine awp_reg ?_
        refine ev_move tab_ok rfl rfl rfl ?_
        (refine ev_ieql tab_ok rfl rfl rfl rfl ?_)
        try refine ev_as (show _ = PV.s (.bool true) by rw [h12]; rfl) ?_
        refine ev_assign tab_ok rfl rfl rfl ?_
        refine ev_nil ?_ rfl
        refine awp_ret ?_
        exact ⟨_, [], rfl, .frz rfl, cut_of (by decide) .nil, keep0⟩
      · exact absurd hc (by decide)
    · refine awp_reg ?_
      refine ev_move tab_ok rfl rfl rfl ?_
      (refine ev_ineq tab_ok rfl rfl rfl rfl ?_)
      try refine ev_as (show _ = PV.s (.bool false) by rw [h0]; rfl) ?_
      refine ev_nil ?_ rfl
      refine awp_cond rfl (fun hc => ?_) (fun hc => ?_)
      · exact absurd hc (by decide)
      · refine awp_skip ?_
        refine awp_seq ?_
        refine awp_reg ?_
        refine ev_move tab_ok rfl rfl rfl ?_
        refine ev_move tab_ok rfl rfl rfl ?_
        refine ev_call rfl rfl rfl rfl rfl (costP_spec r.1 once) rfl ?_
        refine ev_move tab_ok rfl rfl rfl ?_
        refine ev_extract tab_ok rfl rfl rfl rfl ?_
        refine ev_extract tab_ok rfl rfl rfl rfl ?_
        refine ev_assign tab_ok rfl rfl rfl ?_
        refine ev_assign tab_ok rfl rfl rfl ?_
        refine ev_nil ?_ rfl
        refine awp_seq ?_
        refine awp_reg ?_
        refine ev_move tab_ok rfl rfl rfl ?_
        (refine ev_ieql tab_ok rfl rfl rfl rfl ?_)
        try refine ev_as (show _ = PV.s (.bool true) by rw [hcost]; rfl) ?_
        refine ev_move tab_ok rfl rfl rfl ?_
        (refine ev_move tab_ok rfl rfl rfl ?_)
        (refine ev_ieql tab_ok rfl rfl rfl rfl ?_)
        try refine ev_as (show _ = PV.s (.bool true) by rw [hcost]; rfl) ?_
        (refine ev_pickT tab_ok rfl rfl rfl rfl rfl ?_)
        refine ev_assign tab_ok rfl rfl rfl ?_
        refine ev_nil ?_ rfl
        refine awp_ret ?_
        exact ⟨_, [], rfl, .frz rfl, cut_of (by decide) .nil, keep0⟩
end Go.Proofs.Pm
end

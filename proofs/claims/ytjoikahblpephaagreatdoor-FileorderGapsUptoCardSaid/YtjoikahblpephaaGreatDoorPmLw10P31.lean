/- A part of the proof of one law: the machine on pure values and the walks of functions. -/
import Derived.Test.YtjoikahblpephaaGreatDoorPmLw10P28
import Derived.Test.YtjoikahblpephaaGreatDoorPmLw10P30
set_option linter.all false
section
namespace Go.Proofs.Pm
open Go
theorem compact_spec (l : List B) (hl : l.length ≤ 1099511627776) (hadj : ∀ i, i + 1 < l.length → getS l (i + 1) ≠ getS l i) : FCall Tryz.prog 44 [.list (strL l)] [] (.list (strL l)) [] := by
  refine fcall_intro tab_ok Tryz.call44 Tryz.func44 rfl rfl rfl (fun G w ι => ?_)
  refine awp_seq ?_
  refine awp_reg ?_
  refine ev_assign tab_ok rfl rfl rfl ?_
  refine ev_nil ?_ rfl
  refine awp_seq ?_
  refine awp_seq ?_
  refine awp_reg ?_
  refine ev_move tab_ok rfl rfl rfl ?_
  (refine ev_lenL tab_ok rfl rfl rfl rfl rfl rfl ?_)
  (refine ev_ilss tab_ok rfl rfl rfl rfl ?_)
  refine ev_nil ?_ rfl
  refine awp_cond rfl (fun hc => ?_) (fun hc => ?_)
  · refine awp_seq ?_
    refine awp_reg ?_
    refine ev_move tab_ok rfl rfl rfl ?_
    refine ev_assign tab_ok rfl rfl rfl ?_
    refine ev_nil ?_ rfl
    refine awp_ret ?_
    exact ⟨_, [], rfl, .frz rfl, cut_of (by decide) .nil, keep0⟩
  · refine awp_skip ?_
    refine awp_seq ?_
    refine awp_seq ?_
    refine awp_reg ?_
    refine ev_assign tab_ok rfl rfl rfl ?_
    refine ev_nil ?_ rfl
    refine awp_block ?_
    refine awp_loop (fun i : Nat => ⟨[(3, .s (.int .i64 ((i + 1 : Nat) : Int))), (0, .list (strL l))], []⟩) (fun i => True) (fun i => l.length - i) 0 [] ?_ trivial keep0 (fun i hi => ?_)
    · all_goals (try refine le_of (by decide) ?_ ?_)
      repeat' (first | exact trivial | exact .nil | (refine EnvLe.cons rfl ?_ ?_) | exact .frz rfl | fail)
      all_goals (try simp only [wrap_addL, wrap_addR, wrap_subL, wrap_subR]); all_goals (try (rw [wrap_i64 (by omega) (by omega)]; omega))
      all_goals rfl
    refine awp_seq ?_
    refine awp_seq ?_
    refine awp_reg ?_
    refine ev_move tab_ok rfl rfl rfl ?_
    refine ev_move tab_ok rfl rfl rfl ?_
    (refine ev_lenL tab_ok rfl rfl rfl rfl rfl rfl ?_)
    (refine ev_ilss tab_ok rfl rfl rfl rfl ?_)
    refine ev_nil ?_ rfl
    refine awp_cond rfl (fun hc => ?_) (fun hc => ?_)
    · refine awp_skip ?_
      have hlt : i + 1 < l.length := by
        have : ((i + 1 : Nat) : Int) < ((strL l).length : Int) := of_decide_eq_true hc
        rw [strL_length] at this; omega
      have hx1 : l[i + 1]? = some (getS l (i + 1)) := getS_get hlt
      have hx0 : l[i]? = some (getS l i) := getS_get (by omega)
      have hne := hadj i hlt
      refine awp_seq ?_
      refine awp_block ?_
      refine awp_seq ?_
      refine awp_draw mixed ?_
      refine ev_move tab_ok rfl rfl rfl ?_
      refine ev_move tab_ok rfl rfl rfl ?_
      (refine ev_iaL tab_ok rfl rfl rfl rfl rfl rfl rfl rfl rfl (by omega) (by rw [Int.toNat_natCast]; exact strL_get hx1) rfl ?_)
      (refine ev_loadE tab_ok rfl rfl rfl rfl rfl rfl ?_)
      refine ev_move tab_ok rfl rfl rfl ?_
      refine ev_move tab_ok rfl rfl rfl ?_
      refine ev_isub tab_ok rfl rfl rfl rfl ?_
      try refine ev_as (show _ = PV.s (.int .i64 (i : Int)) by rw [wrap_i64 (by omega) (by omega)]; congr 2; omega) ?_
      (refine ev_iaL tab_ok rfl rfl rfl rfl rfl rfl rfl rfl rfl (by omega) (by rw [Int.toNat_natCast]; exact strL_get hx0) rfl ?_)
      (refine ev_loadE tab_ok rfl rfl rfl rfl rfl rfl ?_)
      (refine ev_seql tab_ok rfl rfl rfl rfl ?_)
      try refine ev_as (show _ = PV.s (.bool false) by rw [beq_not.2 hne]) ?_
      refine ev_nilD ?_ (by kernel_rfl)
      refine awp_cond rfl (fun hc => ?_) (fun hc => ?_)
      · exact absurd hc (by decide)
      · refine awp_skip ?_
        refine awp_reg ?_
        refine ev_move tab_ok rfl rfl rfl ?_
        (refine ev_iadd tab_ok rfl rfl rfl rfl ?_)
        try refine ev_as (show _ = PV.s (.int .i64 ((i + 1 + 1 : Nat) : Int)) by rw [wrap_i64 (by omega) (by omega)]; rfl) ?_
        refine ev_assign tab_ok rfl rfl rfl ?_
        refine ev_nil ?_ rfl
        refine ⟨i + 1, [], ?_, by omega, trivial, keep0⟩
        all_goals (try refine le_of (by decide) ?_ ?_)
        repeat' (first | exact trivial | exact .nil | (refine EnvLe.cons rfl ?_ ?_) | exact .frz rfl | fail)
        all_goals (try simp only [wrap_addL, wrap_addR, wrap_subL, wrap_subR]); all_goals (try (rw [wrap_i64 (by omega) (by omega)]; omega))
    · refine awp_exit ?_
      refine awp_seq ?_
      refine awp_reg ?_
      refine ev_move tab_ok rfl rfl rfl ?_
      refine ev_assign tab_ok rfl rfl rfl ?_
      refine ev_nil ?_ rfl
      refine awp_ret ?_
      exact ⟨_, [], rfl, .frz rfl, cut_of (by decide) .nil, keep0⟩
theorem awp_rest {P : Program} {Γ : Ctx} {x y z : Code} {st : St} {Q : Exit → St → Prop} (st2 : St) (h2 : AWp P Γ z st2 Q) (h : AWp P Γ z st2 Q → AWp P Γ (.seq x (.seq y z)) st Q) : AWp P Γ (.seq x (.seq y z)) st Q := h h2
def liG (x : Node) (acc : List B) (i : Nat) : List B := if i = 0 then byW47 x else byA47 x acc
def LLG (x : Node) (acc : List B) : List (List PV) := [[.list (strL (byW47 x))], [.list (strL (byA47 x acc))]]
theorem LLG_get (x : Node) (acc : List B) {i : Nat} (h : i < 2) : (LLG x acc)[i]? = some [.list (strL (liG x acc i))] := by
  match i, h with
  | 0, _ => rfl
  | 1, _ => rfl
theorem liG_perm (x : Node) (acc : List B) (i : Nat) : (liG x acc i).Perm (files47 x) := by
  unfold liG; split
  · exact byW47_perm x
  · exact byA47_perm x acc
theorem lawGaps (x : Node) (acc : List B) (st : Int) (hst : 0 ≤ st ∧ st ≤ 255) (hb : x.bulk ≤ 1048576) : FCall Tryz.prog 10 [.agg (nodeC x), .list (strL acc), .s (.int .u8 st)] [] (.s (.bool true)) [] := by
  have hfl := files47_length x
  have hwl := byW47_length x
  have hst1 := hst.1
  have hst2 := hst.2
  refine fcall_intro tab_ok Tryz.call10 Tryz.func10 rfl rfl rfl (fun G w ι => ?_)
  refine awp_seq ?_
  refine awp_reg ?_
  refine ev_box rfl rfl rfl rfl (by constructor) ?_
  refine ev_assign tab_ok rfl rfl rfl ?_
  refine ev_nil ?_ rfl
  refine awp_seq ?_
  refine awp_seq ?_
  refine awp_reg ?_
  refine ev_call rfl rfl rfl rfl rfl (awakeP_spec) rfl ?_
  refine ev_not tab_ok rfl rfl rfl ?_
  refine ev_nil ?_ rfl
  refine awp_cond rfl (fun hc => ?_) (fun hc => ?_)
  · exact absurd hc (by decide)
  refine awp_skip ?_
  refine awp_seq ?_
  refine awp_seq_to ⟨[(28, .s (.bool (!(fewR x acc.length && valid18 x)))), (3, .ptr 0 0), (1, .list (strL acc)), (2, .s (.int .u8 st))], [.box (nodeC x) 25]⟩ ?_ ?_
  · cases hy : fewR x acc.length
    all_goals
      refine awp_reg ?_
      (refine ev_loadB tab_ok rfl rfl rfl rfl rfl rfl rfl ?_)
      refine ev_move tab_ok rfl rfl rfl ?_
      refine ev_call rfl rfl rfl rfl rfl (fewR_spec x (strL acc) (by omega)) rfl ?_
      refine ev_not tab_ok rfl rfl rfl ?_
      try refine ev_as (show _ = PV.s (.bool _) by rw [strL_length, hy]) ?_
      refine ev_move tab_ok rfl rfl rfl ?_
      (first | refine ev_skip rfl rfl ?_ | refine ev_loadB tab_ok rfl rfl rfl rfl rfl rfl rfl ?_)
      (first | refine ev_skip rfl rfl ?_ | refine ev_call rfl rfl rfl rfl rfl (valid18_spec x (by omega)) rfl ?_)
      (first | refine ev_skip rfl rfl ?_ | refine ev_not tab_ok rfl rfl rfl ?_)
      (first | refine ev_pickT tab_ok rfl rfl rfl rfl rfl ?_ | refine ev_pickF tab_ok rfl rfl rfl rfl rfl ?_)
      refine ev_nil ?_ rfl
      refine ⟨[0], ?_, keep0⟩
      all_goals (try refine le_of (by decide) ?_ ?_)
      repeat' (first | exact trivial | exact .nil | (refine CutL.cons rfl ?_ ?_) | (refine EnvLe.cons rfl ?_ ?_) | (refine MvS.box (mvl_closed rfl)) | exact .ptr rfl | exact .frz rfl | fail)
      all_goals (try simp only [wrap_addL, wrap_addR, wrap_subL, wrap_subR]); all_goals (try (rw [wrap_i64 (by omega) (by omega)]; omega))
      all_goals simp
  refine awp_cond rfl (fun hc => ?_) (fun hc => ?_)
  · refine awp_seq ?_
    refine awp_reg ?_
    refine ev_assign tab_ok rfl rfl rfl ?_
    refine ev_nil ?_ rfl
    refine awp_ret ?_
    exact ⟨_, [], rfl, .frz rfl, cut_of (by decide) .nil, keep0⟩
  have hf : fewR x acc.length = true ∧ valid18 x = true := by simpa using hc
  obtain ⟨hcnt, hal⟩ := few_count hf.1
  have hsize := few_size hf.1
  have hv := hf.2
  have h18 := byWeightP_spec x (by omega) hcnt
  have hflt := files_lt x hcnt
  refine awp_skip ?_
  refine awp_rest ⟨[(7, .list (strL (sortS (files47 x)))), (3, .ptr 0 0), (1, .list (strL acc)), (2, .s (.int .u8 st))], [.box (nodeC x) 25]⟩ ?_ (fun hrest => ?_)
  rotate_left
  · rcases Nat.eq_zero_or_pos (files47 x).length with h0 | h0
    · have hl0 : files47 x = [] := List.eq_nil_of_length_eq_zero h0
      have hs0 : strL (sortS (files47 x)) = [] := by rw [hl0]; simp [sortS, strL]
      rw [hs0] at hrest
      refine awp_seq ?_
      refine awp_reg ?_
      (refine ev_loadB tab_ok rfl rfl rfl rfl rfl rfl rfl ?_)
      refine ev_call rfl rfl rfl rfl rfl (filesP_spec x (by omega)) rfl ?_
      refine ev_assign tab_ok rfl rfl rfl ?_
      refine ev_nil ?_ rfl
      rw [hl0]
      refine awp_seq ?_
      refine awp_reg ?_
      refine ev_move tab_ok rfl rfl rfl ?_
      refine ev_call rfl rfl rfl rfl rfl (sortNil_spec) rfl ?_
      refine ev_nil ?_ rfl
      refine awp_weaken _ [0] ?_ keep0 hrest
      all_goals (try refine le_of (by decide) ?_ ?_)
      repeat' (first | exact trivial | exact .nil | (refine CutL.cons rfl ?_ ?_) | (refine EnvLe.cons rfl ?_ ?_) | (refine MvS.box (mvl_closed rfl)) | exact .ptr rfl | exact .frz rfl | fail)
      all_goals (try simp only [wrap_addL, wrap_addR, wrap_subL, wrap_subR]); all_goals (try (rw [wrap_i64 (by omega) (by omega)]; omega))
    · refine awp_seq ?_
      refine awp_reg ?_
      refine ev_loadB tab_ok rfl rfl rfl rfl rfl rfl rfl ?_
      refine ev_callThaw (X := strL (files47 x)) (n := (files47 x).length) (et := 9) rfl rfl rfl rfl rfl (filesRow_spec x (by omega)) (strL_length _) h0 (strL_len _) (by simp [strL, scalarB]) (by constructor) ?_
      refine ev_assign tab_ok rfl rfl rfl ?_
      refine ev_nil ?_ rfl
      rw [strS_flatten]
      refine awp_seq ?_
      refine awp_reg ?_
      refine ev_move tab_ok rfl rfl rfl ?_
      refine ev_callG (sg := [1]) (nu := []) (Sin := [_]) (Sout := [.box (strS (sortS (files47 x))) 9]) rfl rfl rfl rfl (sortP_spec (files47 x) (by omega)) (by repeat' (first | exact .nil | (refine MvL.cons ?_ ?_) | exact .sl rfl | fail)) (by repeat' (first | exact trivial | (refine And.intro rfl ?_))) (by repeat' (first | exact .nil | (refine MvSs.cons ?_ ?_) | (refine MvS.box ?_) | exact strS_mv _ | fail)) (by repeat' (first | exact .frz rfl | fail)) (by repeat' (first | exact .nil | (refine MvSs.cons ?_ ?_) | (refine MvS.box ?_) | exact strS_mv _ | fail)) rfl rfl (by decide) rfl ?_
      refine ev_nil ?_ rfl
      refine awp_seal 7 1 (xs := strL (sortS (files47 x))) (n := (files47 x).length) (sz := 1) (ρ := [0]) (env2 := [(3, .ptr 0 0), (1, .list (strL acc)), (2, .s (.int .u8 st))]) (H2 := [.box (nodeC x) 25]) rfl rfl (strS_flatten _) (by rw [strL_length, sortS_length]) (strL_len _) (by simp [strL, closedLB, closedB]) ?_ (by decide) keep0 hrest
      all_goals (try refine le_of (by decide) ?_ ?_)
      repeat' (first | exact trivial | exact .nil | (refine CutL.cons rfl ?_ ?_) | (refine EnvLe.cons rfl ?_ ?_) | (refine MvS.box (mvl_closed rfl)) | exact .ptr rfl | exact .frz rfl | fail)
      all_goals (try simp only [wrap_addL, wrap_addR, wrap_subL, wrap_subR]); all_goals (try (rw [wrap_i64 (by omega) (by omega)]; omega))
  refine awp_seq ?_
  refine awp_seq ?_
  refine awp_draw mixed ?_
  (refine ev_loadB tab_ok rfl rfl rfl rfl rfl rfl rfl ?_)
  refine ev_call rfl rfl rfl rfl rfl (h18) rfl ?_
  (refine ev_loadB tab_ok rfl rfl rfl rfl rfl rfl rfl ?_)
  refine ev_move tab_ok rfl rfl rfl ?_
  refine ev_call rfl rfl rfl rfl rfl (byAccessP_spec x acc h18 (by omega) (by omega)) rfl ?_
  refine ev_buildSlice tab_ok rfl rfl rfl rfl rfl rfl rfl rfl rfl rfl rfl rfl rfl rfl (by constructor) ?_
  (refine ev_lenR tab_ok rfl rfl rfl rfl rfl rfl ?_)
  refine ev_move tab_ok rfl rfl rfl ?_
  refine ev_nilD ?_ (by kernel_rfl)
  refine awp_block ?_
  refine awp_loop (fun i : Nat => ⟨[(40, .s (.int .i64 i)), (39, .s (.int .i64 2)), (38, .list (LLG x acc)), (7, .list (strL (sortS (files47 x)))), (3, .ptr 0 0), (1, .list (strL acc)), (2, .s (.int .u8 st))], [.box (nodeC x) 25]⟩) (fun i => i ≤ 2) (fun i => 2 - i) 0 [0] ?_ (Nat.zero_le _) keep0 (fun i hi => ?_)
  · all_goals (try refine le_of (by decide) ?_ ?_)
    repeat' (first | exact trivial | exact .nil | (refine CutL.cons rfl ?_ ?_) | (refine EnvLe.cons rfl ?_ ?_) | (refine MvS.box (mvl_closed rfl)) | exact .ptr rfl | exact .frz rfl | fail)
    all_goals (try simp only [wrap_addL, wrap_addR, wrap_subL, wrap_subR]); all_goals (try (rw [wrap_i64 (by omega) (by omega)]; omega))
    all_goals rfl
  refine awp_seq ?_
  refine awp_reg ?_
  (refine ev_ilss tab_ok rfl rfl rfl rfl ?_)
  refine ev_nil ?_ rfl
  refine awp_seq ?_
  refine awp_cond rfl (fun hc => ?_) (fun hc => ?_)
  · refine awp_skip ?_
    have hlt : i < 2 := by
      have : (i : Int) < 2 := of_decide_eq_true hc
      omega
    have hx := LLG_get x acc hlt
    have hperm := liG_perm x acc i
    generalize liG x acc i = l at *
    have hll := hperm.length_eq
    have hsort := sortS_iff.2 hperm
    have hadj := sorted_adj (files47_nodup x)
    have hsl : (sortS (files47 x)).length = (files47 x).length := sortS_length _
    obtain ⟨fl, hP, hA, hfll⟩ := gaps_place hb hv hcnt hsize hperm hst1 hst2
    have hat := place_at hb l st fl hst1 (by omega) hA
    refine awp_seq ?_
    refine awp_block ?_
    refine awp_seq ?_
    refine awp_reg ?_
    (refine ev_iaL tab_ok rfl rfl rfl rfl rfl rfl rfl rfl rfl (by omega) (by rw [Int.toNat_natCast]; exact hx) rfl ?_)
    (refine ev_loadE tab_ok rfl rfl rfl rfl rfl rfl ?_)
    refine ev_assign tab_ok rfl rfl rfl ?_
    refine ev_nil ?_ rfl
    refine awp_seq ?_
    refine awp_reg ?_
    refine ev_move tab_ok rfl rfl rfl ?_
    refine ev_callG (sg := []) (nu := [1]) (Sin := []) (Sout := [.box [.list (strL l)] 26]) (r' := .fn 72 [] [.ptr 1 0]) rfl rfl rfl rfl (valuesP_spec l) (by repeat' (first | exact .nil | (refine MvL.cons ?_ ?_) | exact .frz rfl | fail)) (by repeat' (first | exact trivial | (refine And.intro rfl ?_))) (by repeat' (first | exact .nil | fail)) (by repeat' (first | exact .nil | (refine MvL.cons ?_ ?_) | exact .ptr rfl | (refine Mv.fnL ?_ ?_) | fail)) (by repeat' (first | exact .nil | (refine MvSs.cons ?_ ?_) | (refine MvS.box ?_) | exact mvl_closed rfl | fail)) rfl rfl (by decide) rfl ?_
    refine ev_callG (sg := [1]) (nu := []) (Sin := [_]) (Sout := [.box [.junk] 26]) rfl rfl rfl rfl (sortedP_spec l (by omega)) (by repeat' (first | exact .nil | (refine MvL.cons ?_ ?_) | exact .ptr rfl | (refine Mv.fnL ?_ ?_) | fail)) (by repeat' (first | exact trivial | (refine And.intro rfl ?_))) (by repeat' (first | exact .nil | (refine MvSs.cons ?_ ?_) | (refine MvS.box ?_) | exact mvl_closed rfl | fail)) (by repeat' (first | exact .frz rfl | fail)) (by repeat' (first | exact .nil | (refine MvSs.cons ?_ ?_) | (refine MvS.box ?_) | exact mvl_closed rfl | fail)) rfl rfl (by decide) rfl ?_
    refine ev_assign tab_ok rfl rfl rfl ?_
    refine ev_nil ?_ rfl
    rw [hsort]
    refine awp_seq ?_
    refine awp_seq_to ⟨[(58, .s (.bool false)), (9, .list (strL l)), (40, .s (.int .i64 i)), (39, .s (.int .i64 2)), (38, .list (LLG x acc)), (7, .list (strL (sortS (files47 x)))), (3, .ptr 0 0), (1, .list (strL acc)), (2, .s (.int .u8 st))], [.box (nodeC x) 25]⟩ ?_ ?_
    · refine awp_reg ?_
      refine ev_move tab_ok rfl rfl rfl ?_
      refine ev_move tab_ok rfl rfl rfl ?_
      refine ev_call rfl rfl rfl rfl rfl (equal_spec _ _) rfl ?_
      try refine ev_as (show _ = PV.s (.bool true) by rw [sameStrs_iff.2 rfl]) ?_
      refine ev_not tab_ok rfl rfl rfl ?_
      refine ev_move tab_ok rfl rfl rfl ?_
      (refine ev_move tab_ok rfl rfl rfl ?_)
      (refine ev_call rfl rfl rfl rfl rfl (compact_spec (sortS (files47 x)) (by omega) hadj) rfl ?_)
      (refine ev_lenL tab_ok rfl rfl rfl rfl rfl rfl ?_)
      (refine ev_move tab_ok rfl rfl rfl ?_)
      (refine ev_lenL tab_ok rfl rfl rfl rfl rfl rfl ?_)
      (refine ev_ineq tab_ok rfl rfl rfl rfl ?_)
      try refine ev_as (show _ = PV.s (.bool false) by simp) ?_
      (refine ev_pickF tab_ok rfl rfl rfl rfl rfl ?_)
      refine ev_nil ?_ rfl
      refine ⟨[0], ?_, keep0⟩
      all_goals (try refine le_of (by decide) ?_ ?_)
      repeat' (first | exact trivial | exact .nil | (refine CutL.cons rfl ?_ ?_) | (refine EnvLe.cons rfl ?_ ?_) | (refine MvS.box (mvl_closed rfl)) | exact .ptr rfl | exact .frz rfl | fail)
      all_goals (try simp only [wrap_addL, wrap_addR, wrap_subL, wrap_subR]); all_goals (try (rw [wrap_i64 (by omega) (by omega)]; omega))
    refine awp_cond rfl (fun hc => ?_) (fun hc => ?_)
    · exact absurd hc (by decide)
    refine awp_skip ?_
    refine awp_seq ?_
    refine awp_reg ?_
    (refine ev_loadB tab_ok rfl rfl rfl rfl rfl rfl rfl ?_)
    refine ev_move tab_ok rfl rfl rfl ?_
    refine ev_move tab_ok rfl rfl rfl ?_
    (refine ev_conv tab_ok rfl rfl rfl rfl rfl rfl rfl rfl ?_)
    try refine ev_as (show _ = PV.s (.int .i64 st) by rw [wrap_i64 (by omega) (by omega)]) ?_
    refine ev_call rfl rfl rfl rfl rfl (placeP_spec x l st (by omega) (by omega)) rfl ?_
    refine ev_move tab_ok rfl rfl rfl ?_
    refine ev_extract tab_ok rfl rfl rfl rfl ?_
    refine ev_extract tab_ok rfl rfl rfl rfl ?_
    refine ev_assign tab_ok rfl rfl rfl ?_
    refine ev_assign tab_ok rfl rfl rfl ?_
    refine ev_nil ?_ rfl
    rw [hP]
    refine awp_seq ?_
    refine awp_seq ?_
    refine awp_reg ?_
    refine ev_move tab_ok rfl rfl rfl ?_
    (refine ev_ineq tab_ok rfl rfl rfl rfl ?_)
    try refine ev_as (show _ = PV.s (.bool false) by rfl) ?_
    refine ev_move tab_ok rfl rfl rfl ?_
    (refine ev_move tab_ok rfl rfl rfl ?_)
    (refine ev_lenL tab_ok rfl rfl rfl rfl rfl rfl ?_)
    (refine ev_move tab_ok rfl rfl rfl ?_)
    (refine ev_lenL tab_ok rfl rfl rfl rfl rfl rfl ?_)
    (refine ev_ineq tab_ok rfl rfl rfl rfl ?_)
    try refine ev_as (show _ = PV.s (.bool false) by simp [filesC, strL_length, hfll]) ?_
    (refine ev_pickF tab_ok rfl rfl rfl rfl rfl ?_)
    refine ev_nil ?_ rfl
    refine awp_cond rfl (fun hc => ?_) (fun hc => ?_)
    · exact absurd hc (by decide)
    refine awp_skip ?_
    refine awp_seq ?_
    refine awp_reg ?_
    refine ev_move tab_ok rfl rfl rfl ?_
    (refine ev_conv tab_ok rfl rfl rfl rfl rfl rfl rfl rfl ?_)
    try refine ev_as (show _ = PV.s (.int .i64 st) by rw [wrap_i64 (by omega) (by omega)]) ?_
    refine ev_assign tab_ok rfl rfl rfl ?_
    refine ev_nil ?_ rfl
    refine awp_seq ?_
    refine awp_reg ?_
    refine ev_move tab_ok rfl rfl rfl ?_
    (refine ev_lenL tab_ok rfl rfl rfl rfl rfl rfl ?_)
    refine ev_move tab_ok rfl rfl rfl ?_
    refine ev_nil ?_ rfl
    refine awp_block ?_
    refine awp_loop (fun j : Nat => ⟨[(80, .s (.int .i64 j)), (79, .s (.int .i64 fl.length)), (78, .list (filesC fl)), (13, .s (.int .i64 (atP x l st j))), (9, .list (strL l)), (40, .s (.int .i64 i)), (39, .s (.int .i64 2)), (38, .list (LLG x acc)), (7, .list (strL (sortS (files47 x)))), (3, .ptr 0 0), (1, .list (strL acc)), (2, .s (.int .u8 st))], [.box (nodeC x) 25]⟩) (fun j => j ≤ fl.length) (fun j => fl.length - j) 0 [0] ?_ (Nat.zero_le _) keep0 (fun j hj => ?_)
    · all_goals (try refine le_of (by decide) ?_ ?_)
      repeat' (first | exact trivial | exact .nil | (refine CutL.cons rfl ?_ ?_) | (refine EnvLe.cons rfl ?_ ?_) | (refine MvS.box (mvl_closed rfl)) | exact .ptr rfl | exact .frz rfl | (refine Mv.int ?_) | fail)
      all_goals (try simp only [wrap_addL, wrap_addR, wrap_subL, wrap_subR]); all_goals (try (rw [wrap_i64 (by omega) (by omega)]; omega))
      all_goals first | (cases l <;> rfl) | simp [filesC]
    refine awp_seq ?_
    refine awp_reg ?_
    (refine ev_ilss tab_ok rfl rfl rfl rfl ?_)
    refine ev_nil ?_ rfl
    refine awp_seq ?_
    refine awp_cond rfl (fun hc => ?_) (fun hc => ?_)
    · refine awp_skip ?_
      have hltj : j < fl.length := by simpa using hc
      obtain ⟨k1, k2, k3, k4⟩ := hat j (by omega)
      have hxj : l[j]? = some (getS l j) := getS_get (by omega)
      have hmem : getS l j ∈ files47 x := hperm.mem_iff.1 (List.mem_of_getElem? hxj)
      have hsz := (files47_found hmem).2
      have hd0 := dlen_le x (getS l j)
      obtain ⟨z, hg, hk, hd, hd1⟩ := get18_file hmem
      have hbn := blocks_nonneg (dlen x (getS l j)) (by omega)
      generalize getS l j = p at *
      refine awp_seq ?_
      refine awp_block ?_
      refine awp_seq ?_
      refine awp_reg ?_
      refine ev_move tab_ok rfl rfl rfl ?_
      (refine ev_iaL tab_ok rfl rfl rfl rfl rfl rfl rfl rfl rfl (by omega) (by rw [Int.toNat_natCast]; exact filesC_get k1) rfl ?_)
      (refine ev_loadE tab_ok rfl rfl rfl rfl rfl rfl ?_)
      refine ev_alloc tab_ok rfl rfl rfl rfl rfl rfl (by constructor) ?_
      refine ev_assign tab_ok rfl rfl rfl ?_
      (refine ev_store tab_ok rfl rfl rfl rfl rfl rfl rfl rfl rfl (by repeat constructor) ?_)
      refine ev_nil ?_ rfl
      refine awp_seq ?_
      refine awp_reg ?_
      (refine ev_loadB tab_ok rfl rfl rfl rfl rfl rfl rfl ?_)
      (refine ev_faB tab_ok rfl rfl rfl rfl rfl rfl rfl ?_)
      (refine ev_loadB tab_ok rfl rfl rfl rfl rfl rfl rfl ?_)
      refine ev_call rfl rfl rfl rfl rfl (get18_spec x p (by omega) (by omega)) rfl ?_
      refine ev_move tab_ok rfl rfl rfl ?_
      refine ev_extract tab_ok rfl rfl rfl rfl ?_
      refine ev_extract tab_ok rfl rfl rfl rfl ?_
      refine ev_alloc tab_ok rfl rfl rfl rfl rfl rfl (by constructor) ?_
      (refine ev_store tab_ok rfl rfl rfl rfl rfl rfl rfl rfl rfl (by repeat constructor) ?_)
      refine ev_assign tab_ok rfl rfl rfl ?_
      refine ev_nil ?_ rfl
      rw [hg]
      refine awp_seq ?_
      refine awp_seq_to ⟨[(126, .s (.bool false)), (15, .ptr 1 0), (80, .s (.int .i64 j)), (79, .s (.int .i64 fl.length)), (78, .list (filesC fl)), (13, .s (.int .i64 (atP x l st j))), (9, .list (strL l)), (40, .s (.int .i64 i)), (39, .s (.int .i64 2)), (38, .list (LLG x acc)), (7, .list (strL (sortS (files47 x)))), (3, .ptr 0 0), (1, .list (strL acc)), (2, .s (.int .u8 st))], [.box (nodeC x) 25, .box (fileC (p, atP x l st j, dlen x p)) 69]⟩ ?_ ?_
      · refine awp_draw mixed ?_
        (refine ev_faB tab_ok rfl rfl rfl rfl rfl rfl rfl ?_)
        (refine ev_loadB tab_ok rfl rfl rfl rfl rfl rfl rfl ?_)
        refine ev_move tab_ok rfl rfl rfl ?_
        refine ev_move tab_ok rfl rfl rfl ?_
        (refine ev_iaL tab_ok rfl rfl rfl rfl rfl rfl rfl rfl rfl (by omega) (by rw [Int.toNat_natCast]; exact strL_get hxj) rfl ?_)
        (refine ev_loadE tab_ok rfl rfl rfl rfl rfl rfl ?_)
        (refine ev_sneq tab_ok rfl rfl rfl rfl ?_)
        try refine ev_as (show _ = PV.s (.bool false) by simp) ?_
        refine ev_move tab_ok rfl rfl rfl ?_
        (refine ev_faB tab_ok rfl rfl rfl rfl rfl rfl rfl ?_)
        (refine ev_loadB tab_ok rfl rfl rfl rfl rfl rfl rfl ?_)
        (refine ev_move tab_ok rfl rfl rfl ?_)
        (refine ev_ineq tab_ok rfl rfl rfl rfl ?_)
        try refine ev_as (show _ = PV.s (.bool false) by simp) ?_
        (refine ev_pickF tab_ok rfl rfl rfl rfl rfl ?_)
        refine ev_move tab_ok rfl rfl rfl ?_
        (refine ev_move tab_ok rfl rfl rfl ?_)
        (refine ev_ineq tab_ok rfl rfl rfl rfl ?_)
        try refine ev_as (show _ = PV.s (.bool false) by rfl) ?_
        (refine ev_pickF tab_ok rfl rfl rfl rfl rfl ?_)
        refine ev_move tab_ok rfl rfl rfl ?_
        (refine ev_faB tab_ok rfl rfl rfl rfl rfl rfl rfl ?_)
        (refine ev_loadB tab_ok rfl rfl rfl rfl rfl rfl rfl ?_)
        (refine ev_ineq tab_ok rfl rfl rfl rfl ?_)
        try refine ev_as (show _ = PV.s (.bool false) by rw [hk]; rfl) ?_
        (refine ev_pickF tab_ok rfl rfl rfl rfl rfl ?_)
        refine ev_move tab_ok rfl rfl rfl ?_
        (refine ev_faB tab_ok rfl rfl rfl rfl rfl rfl rfl ?_)
        (refine ev_loadB tab_ok rfl rfl rfl rfl rfl rfl rfl ?_)
        (refine ev_faB tab_ok rfl rfl rfl rfl rfl rfl rfl ?_)
        (refine ev_loadB tab_ok rfl rfl rfl rfl rfl rfl rfl ?_)
        (refine ev_lenS tab_ok rfl rfl rfl rfl rfl rfl ?_)
        (refine ev_ineq tab_ok rfl rfl rfl rfl ?_)
        try refine ev_as (show _ = PV.s (.bool false) by rw [hd]; simp) ?_
        (refine ev_pickF tab_ok rfl rfl rfl rfl rfl ?_)
        refine ev_move tab_ok rfl rfl rfl ?_
        (refine ev_faB tab_ok rfl rfl rfl rfl rfl rfl rfl ?_)
        (refine ev_loadB tab_ok rfl rfl rfl rfl rfl rfl rfl ?_)
        (refine ev_ieql tab_ok rfl rfl rfl rfl ?_)
        try refine ev_as (show _ = PV.s (.bool false) by simp [hd1]) ?_
        (refine ev_pickF tab_ok rfl rfl rfl rfl rfl ?_)
        refine ev_nilD ?_ (by kernel_rfl)
        refine ⟨[0, 1], ?_, keep0⟩
        all_goals (try refine le_of (by decide) ?_ ?_)
        repeat' (first | exact trivial | exact .nil | (refine CutL.cons rfl ?_ ?_) | (refine EnvLe.cons rfl ?_ ?_) | (refine MvS.box (mvl_closed rfl)) | exact .ptr rfl | exact .frz rfl | fail)
        all_goals (try simp only [wrap_addL, wrap_addR, wrap_subL, wrap_subR]); all_goals (try (rw [wrap_i64 (by omega) (by omega)]; omega))
      refine awp_cond rfl (fun hc => ?_) (fun hc => ?_)
      · exact absurd hc (by decide)
      refine awp_skip ?_
      refine awp_reg ?_
      refine ev_move tab_ok rfl rfl rfl ?_
      (refine ev_faB tab_ok rfl rfl rfl rfl rfl rfl rfl ?_)
      (refine ev_loadB tab_ok rfl rfl rfl rfl rfl rfl rfl ?_)
      refine ev_call rfl rfl rfl rfl rfl (blocks24_spec (dlen x p)) rfl ?_
      (refine ev_iadd tab_ok rfl rfl rfl rfl ?_)
      refine ev_assign tab_ok rfl rfl rfl ?_
      refine ev_nil ?_ rfl
      refine awp_reg ?_
      (refine ev_iadd tab_ok rfl rfl rfl rfl ?_)
      refine ev_move tab_ok rfl rfl rfl ?_
      refine ev_nil ?_ rfl
      refine ⟨j + 1, [0], ?_, by omega, hltj, keep0⟩
      all_goals (try refine le_of (by decide) ?_ ?_)
      repeat' (first | exact trivial | exact .nil | (refine CutL.cons rfl ?_ ?_) | (refine EnvLe.cons rfl ?_ ?_) | (refine MvS.box (mvl_closed rfl)) | exact .ptr rfl | exact .frz rfl | (refine Mv.int ?_) | fail)
      all_goals (try simp only [wrap_addL, wrap_addR, wrap_subL, wrap_subR]); all_goals (try (rw [wrap_i64 (by omega) (by omega)]; omega))
      all_goals rw [wrap_i64 (by omega) (by omega), k2]
    · refine awp_exit ?_
      refine awp_reg ?_
      (refine ev_iadd tab_ok rfl rfl rfl rfl ?_)
      refine ev_move tab_ok rfl rfl rfl ?_
      refine ev_nil ?_ rfl
      refine ⟨i + 1, [0], ?_, by omega, hlt, keep0⟩
      all_goals (try refine le_of (by decide) ?_ ?_)
      repeat' (first | exact trivial | exact .nil | (refine CutL.cons rfl ?_ ?_) | (refine EnvLe.cons rfl ?_ ?_) | (refine MvS.box (mvl_closed rfl)) | exact .ptr rfl | exact .frz rfl | (refine Mv.int ?_) | fail)
      all_goals (try simp only [wrap_addL, wrap_addR, wrap_subL, wrap_subR]); all_goals (try (rw [wrap_i64 (by omega) (by omega)]; omega))
  · refine awp_exit ?_
    refine awp_seq ?_
    refine awp_reg ?_
    refine ev_assign tab_ok rfl rfl rfl ?_
    refine ev_nil ?_ rfl
    refine awp_ret ?_
    exact ⟨_, [], rfl, .frz rfl, cut_of (by decide) .nil, keep0⟩
end Go.Proofs.Pm
end

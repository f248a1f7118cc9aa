/- A part of the proof of one law: the machine on pure values and the walks of functions. -/
import Derived.Test.YtjoikahblpephaaGreatDoorPmLw9P27
import Derived.Test.YtjoikahblpephaaGreatDoorPmLw9P30
import Derived.Test.YtjoikahblpephaaGreatDoorPmLw9P31
set_option linter.all false
section
namespace Go.Proofs.Pm
open Go
theorem scal2 (u v : Value) : Scal (.tup [.s u, .s v]) := scal_tup (fun x hx => by
  simp only [List.mem_cons, List.not_mem_nil, or_false] at hx
  rcases hx with rfl | rfl <;> exact scal_s _)
theorem clos_spec (x : Node) (o acc : List B) (hb : x.bulk ≤ 4294967280) (ho : o.length ≤ 1099511627776) : FCall Tryz.prog 37 [.list (strL o), .eptr (nodeC x), .eptr [.list (strL acc)]] [] (.tup [.s (.int .i64 (costR (PlaceR x o 0).1 acc).1), .s (.bool (((PlaceR x o 0).2 == 0) && ((costR (PlaceR x o 0).1 acc).2 == 0)))]) [] := by
  refine fcall_intro tab_ok Tryz.call37 Tryz.func37 rfl rfl rfl (fun G w ι => ?_)
  refine awp_seq ?_
  refine awp_reg ?_
  refine ev_assign tab_ok rfl rfl rfl ?_
  refine ev_assign tab_ok rfl rfl rfl ?_
  refine ev_nil ?_ rfl
  refine awp_seq ?_
  refine awp_reg ?_
  (refine ev_loadE tab_ok rfl rfl rfl rfl rfl rfl ?_)
  refine ev_move tab_ok rfl rfl rfl ?_
  refine ev_call rfl rfl rfl rfl rfl (placeP_spec x o 0 hb ho) rfl ?_
  refine ev_move tab_ok rfl rfl rfl ?_
  refine ev_extract tab_ok rfl rfl rfl rfl ?_
  refine ev_extract tab_ok rfl rfl rfl rfl ?_
  refine ev_assign tab_ok rfl rfl rfl ?_
  refine ev_assign tab_ok rfl rfl rfl ?_
  refine ev_nil ?_ rfl
  refine awp_seq ?_
  refine awp_reg ?_
  refine ev_move tab_ok rfl rfl rfl ?_
  (refine ev_loadE tab_ok rfl rfl rfl rfl rfl rfl ?_)
  refine ev_call rfl rfl rfl rfl rfl (costP_spec (PlaceR x o 0).1 acc) rfl ?_
  refine ev_move tab_ok rfl rfl rfl ?_
  refine ev_extract tab_ok rfl rfl rfl rfl ?_
  refine ev_extract tab_ok rfl rfl rfl rfl ?_
  refine ev_assign tab_ok rfl rfl rfl ?_
  refine ev_assign tab_ok rfl rfl rfl ?_
  refine ev_nil ?_ rfl
  refine awp_seq ?_
  refine awp_weaken ⟨[(8, .s (.int .i64 (costR (PlaceR x o 0).1 acc).1)), (7, .s (.int .i64 (PlaceR x o 0).2)), (9, .s (.int .i64 (costR (PlaceR x o 0).1 acc).2))], []⟩ [] ?_ keep0 ?_
  · all_goals (try refine le_of (by decide) ?_ ?_)
    repeat' (first | exact trivial | exact .nil | (refine EnvLe.cons rfl ?_ ?_) | exact .frz rfl | fail)
    all_goals (try simp only [wrap_addL, wrap_addR, wrap_subL, wrap_subR]); all_goals (try (rw [wrap_i64 (by omega) (by omega)]; omega))
  cases hy : ((PlaceR x o 0).2 == 0)
  all_goals
    refine awp_reg ?_
    refine ev_move tab_ok rfl rfl rfl ?_
    refine ev_move tab_ok rfl rfl rfl ?_
    (refine ev_ieql tab_ok rfl rfl rfl rfl ?_)
    try refine ev_as (show _ = PV.s (.bool _) by rw [hy]) ?_
    refine ev_move tab_ok rfl rfl rfl ?_
    (first | refine ev_skip rfl rfl ?_ | refine ev_move tab_ok rfl rfl rfl ?_)
    (first | refine ev_skip rfl rfl ?_ | refine ev_ieql tab_ok rfl rfl rfl rfl ?_)
    (first | refine ev_pickT tab_ok rfl rfl rfl rfl rfl ?_ | refine ev_pickF tab_ok rfl rfl rfl rfl rfl ?_)
    refine ev_assign tab_ok rfl rfl rfl ?_
    refine ev_assign tab_ok rfl rfl rfl ?_
    refine ev_nil ?_ rfl
    refine awp_ret ?_
    exact ⟨_, [], rfl, .frz rfl, cut_of (by decide) .nil, keep0⟩
theorem cmpC_spec (all : List B) (p q : B) (hl : all.length ≤ 1099511627776) : FCall Tryz.prog 40 [.s (.string p), .s (.string q), .eptr [.list (strL all)]] [] (.s (.int .i64 (kidZ (idxS all p) - kidZ (idxS all q)))) [] := by
  have hk : ∀ s : B, -1 ≤ kidZ (idxS all s) ∧ kidZ (idxS all s) ≤ all.length := fun s => by
    unfold idxS
    cases h : all.findIdx? (fun y => s.toList == y.toList) with
    | none => exact ⟨Int.le_refl _, by show (-1 : Int) ≤ _; omega⟩
    | some i =>
      have := (List.findIdx?_eq_some_iff_getElem.1 h).1
      exact ⟨by show (-1 : Int) ≤ (i : Int); omega, by show (i : Int) ≤ _; omega⟩
  have hp := hk p
  have hq := hk q
  refine fcall_intro tab_ok Tryz.call40 Tryz.func40 rfl rfl rfl (fun G w ι => ?_)
  refine awp_seq ?_
  refine awp_reg ?_
  refine ev_assign tab_ok rfl rfl rfl ?_
  refine ev_nil ?_ rfl
  refine awp_seq ?_
  refine awp_draw mixed ?_
  (refine ev_loadE tab_ok rfl rfl rfl rfl rfl rfl ?_)
  refine ev_move tab_ok rfl rfl rfl ?_
  refine ev_call rfl rfl rfl rfl rfl (index_spec all p) rfl ?_
  (refine ev_loadE tab_ok rfl rfl rfl rfl rfl rfl ?_)
  refine ev_move tab_ok rfl rfl rfl ?_
  refine ev_call rfl rfl rfl rfl rfl (index_spec all q) rfl ?_
  refine ev_isub tab_ok rfl rfl rfl rfl ?_
  try refine ev_as (show _ = PV.s (.int .i64 (kidZ (idxS all p) - kidZ (idxS all q))) by rw [wrap_i64 (by omega) (by omega)]) ?_
  refine ev_assign tab_ok rfl rfl rfl ?_
  refine ev_nilD ?_ (by kernel_rfl)
  refine awp_ret ?_
  exact ⟨_, [], rfl, .frz rfl, cut_of (by decide) .nil, keep0⟩
theorem compareC_spec (all o b : List B) (hl : all.length ≤ 1099511627776) (hob : o.length = b.length) (ho : o.length ≤ 1099511627776) : FCall Tryz.prog 39 [.list (strL o), .list (strL b), .fn 40 [] [.eptr [.list (strL all)]]] [] (.s (.int .i64 (cmpL all o b))) [] := by
  refine fcall_intro tab_ok Tryz.call39 Tryz.func39 rfl rfl rfl (fun G w ι => ?_)
  refine awp_seq ?_
  refine awp_reg ?_
  refine ev_assign tab_ok rfl rfl rfl ?_
  refine ev_nil ?_ rfl
  refine awp_seq ?_
  refine awp_seq ?_
  refine awp_reg ?_
  refine ev_move tab_ok rfl rfl rfl ?_
  (refine ev_lenL tab_ok rfl rfl rfl rfl rfl rfl ?_)
  refine ev_move tab_ok rfl rfl rfl ?_
  refine ev_nil ?_ rfl
  refine awp_block ?_
  refine awp_loop (fun i : Nat => ⟨[(13, .s (.int .i64 i)), (12, .s (.int .i64 o.length)), (11, .list (strL o)), (0, .list (strL o)), (1, .list (strL b)), (2, .fn 40 [] [.eptr [.list (strL all)]])], []⟩) (fun i => i ≤ o.length ∧ cmpL all o b = cmpL all (o.drop i) (b.drop i)) (fun i => o.length - i) 0 [] ?_ ⟨Nat.zero_le _, rfl⟩ keep0 (fun i hi => ?_)
  · all_goals (try refine le_of (by decide) ?_ ?_)
    repeat' (first | exact trivial | exact .nil | (refine EnvLe.cons rfl ?_ ?_) | exact .frz rfl | (refine Mv.int ?_) | fail)
    all_goals (try simp only [wrap_addL, wrap_addR, wrap_subL, wrap_subR]); all_goals (try (rw [wrap_i64 (by omega) (by omega)]; omega))
    all_goals simp [strL_length]
  obtain ⟨hi, hcmp⟩ := hi
  refine awp_seq ?_
  refine awp_reg ?_
  (refine ev_ilss tab_ok rfl rfl rfl rfl ?_)
  refine ev_nil ?_ rfl
  refine awp_seq ?_
  refine awp_cond rfl (fun hc => ?_) (fun hc => ?_)
  · refine awp_skip ?_
    have hlt : i < o.length := by simpa using hc
    have hx : o[i]? = some (getS o i) := getS_get hlt
    have hy : b[i]? = some (getS b i) := getS_get (by omega)
    have hd1 : o.drop i = getS o i :: o.drop (i + 1) := by
      rw [List.drop_eq_getElem_cons hlt]; simp [getS, hlt]
    have hd2 : b.drop i = getS b i :: b.drop (i + 1) := by
      rw [List.drop_eq_getElem_cons (show i < b.length by omega)]; simp [getS, show i < b.length by omega]
    rw [hd1, hd2] at hcmp
    refine awp_seq ?_
    refine awp_block ?_
    refine awp_seq ?_
    refine awp_reg ?_
    refine ev_move tab_ok rfl rfl rfl ?_
    (refine ev_iaL tab_ok rfl rfl rfl rfl rfl rfl rfl rfl rfl (by omega) (by rw [Int.toNat_natCast]; exact strL_get hx) rfl ?_)
    (refine ev_loadE tab_ok rfl rfl rfl rfl rfl rfl ?_)
    refine ev_assign tab_ok rfl rfl rfl ?_
    refine ev_assign tab_ok rfl rfl rfl ?_
    refine ev_nil ?_ rfl
    refine awp_seq ?_
    refine awp_seq ?_
    refine awp_reg ?_
    refine ev_move tab_ok rfl rfl rfl ?_
    refine ev_move tab_ok rfl rfl rfl ?_
    (refine ev_lenL tab_ok rfl rfl rfl rfl rfl rfl ?_)
    refine ev_igeq tab_ok rfl rfl rfl rfl ?_
    try refine ev_as (show _ = PV.s (.bool false) by rw [decide_eq_false]; simp only [strL_length]; omega) ?_
    refine ev_nil ?_ rfl
    refine awp_cond rfl (fun hc => ?_) (fun hc => ?_)
    · exact absurd hc (by decide)
    refine awp_skip ?_
    refine awp_seq ?_
    refine awp_reg ?_
    refine ev_move tab_ok rfl rfl rfl ?_
    refine ev_move tab_ok rfl rfl rfl ?_
    (refine ev_iaL tab_ok rfl rfl rfl rfl rfl rfl rfl rfl rfl (by omega) (by rw [Int.toNat_natCast]; exact strL_get hy) rfl ?_)
    (refine ev_loadE tab_ok rfl rfl rfl rfl rfl rfl ?_)
    refine ev_assign tab_ok rfl rfl rfl ?_
    refine ev_nil ?_ rfl
    refine awp_seq ?_
    refine awp_reg ?_
    refine ev_move tab_ok rfl rfl rfl ?_
    refine ev_move tab_ok rfl rfl rfl ?_
    refine ev_move tab_ok rfl rfl rfl ?_
    refine ev_callF [] rfl rfl rfl rfl (cmpC_spec all (getS o i) (getS b i) hl) (by repeat' (first | exact Frzs.nil | (refine Frzs.cons ?_ ?_) | exact Frz.same rfl | fail)) (by exact scal_s _) (by intro q hq; cases hq) ?_
    refine ev_assign tab_ok rfl rfl rfl ?_
    refine ev_nil ?_ rfl
    generalize getS o i = p at *
    generalize getS b i = q at *
    have hcmp : cmpL all o b = if kidZ (idxS all p) - kidZ (idxS all q) ≠ 0 then kidZ (idxS all p) - kidZ (idxS all q) else cmpL all (o.drop (i + 1)) (b.drop (i + 1)) := hcmp
    generalize kidZ (idxS all p) - kidZ (idxS all q) = d at *
    refine awp_seq ?_
    refine awp_reg ?_
    refine ev_move tab_ok rfl rfl rfl ?_
    (refine ev_ineq tab_ok rfl rfl rfl rfl ?_)
    refine ev_nil ?_ rfl
    refine awp_cond rfl (fun hc => ?_) (fun hc => ?_)
    · have hd : d ≠ 0 := by simpa using hc
      rw [if_pos hd] at hcmp
      refine awp_seq ?_
      refine awp_reg ?_
      refine ev_move tab_ok rfl rfl rfl ?_
      refine ev_assign tab_ok rfl rfl rfl ?_
      refine ev_nil ?_ rfl
      refine awp_ret ?_
      exact ⟨_, [], rfl, by rw [hcmp]; exact .frz rfl, cut_of (by decide) .nil, keep0⟩
    · have hd : d = 0 := by simpa using hc
      rw [if_neg (by simpa using hd)] at hcmp
      refine awp_skip ?_
      refine awp_reg ?_
      (refine ev_iadd tab_ok rfl rfl rfl rfl ?_)
      refine ev_move tab_ok rfl rfl rfl ?_
      refine ev_nil ?_ rfl
      refine ⟨i + 1, [], ?_, by omega, ⟨hlt, hcmp⟩, keep0⟩
      all_goals (try refine le_of (by decide) ?_ ?_)
      repeat' (first | exact trivial | exact .nil | (refine EnvLe.cons rfl ?_ ?_) | exact .frz rfl | (refine Mv.int ?_) | fail)
      all_goals (try simp only [wrap_addL, wrap_addR, wrap_subL, wrap_subR]); all_goals (try (rw [wrap_i64 (by omega) (by omega)]; omega))
  · refine awp_exit ?_
    have hge : i = o.length := by
      have : ¬ i < o.length := by simpa using hc
      omega
    subst hge
    rw [List.drop_length] at hcmp
    have hcmp : cmpL all o b = 0 := by rw [hcmp]; rfl
    refine awp_seq ?_
    refine awp_seq ?_
    refine awp_reg ?_
    refine ev_move tab_ok rfl rfl rfl ?_
    (refine ev_lenL tab_ok rfl rfl rfl rfl rfl rfl ?_)
    refine ev_move tab_ok rfl rfl rfl ?_
    (refine ev_lenL tab_ok rfl rfl rfl rfl rfl rfl ?_)
    (refine ev_ilss tab_ok rfl rfl rfl rfl ?_)
    try refine ev_as (show _ = PV.s (.bool false) by rw [decide_eq_false]; simp only [strL_length]; omega) ?_
    refine ev_nil ?_ rfl
    refine awp_cond rfl (fun hc => ?_) (fun hc => ?_)
    · exact absurd hc (by decide)
    · refine awp_skip ?_
      refine awp_seq ?_
      refine awp_reg ?_
      refine ev_assign tab_ok rfl rfl rfl ?_
      refine ev_nil ?_ rfl
      refine awp_ret ?_
      exact ⟨_, [], rfl, by rw [hcmp]; exact .frz rfl, cut_of (by decide) .nil, keep0⟩
end Go.Proofs.Pm
end
section
namespace Go.Proofs.Pm
open Go
abbrev U8 := {k : Int // 0 ≤ k ∧ k ≤ 255}
def u8L (l : List U8) : List (List PV) := l.map fun k => [.s (.int .u8 k.1)]
theorem u8L_length (l : List U8) : (u8L l).length = l.length := by simp [u8L]
theorem u8L_get {l : List U8} {i : Nat} {k : U8} (h : l[i]? = some k) : (u8L l)[i]? = some [.s (.int .u8 k.1)] := by simp [u8L, h]
theorem tmod_nat (a b : Nat) : ((a : Int)).tmod (b : Int) = ((a % b : Nat) : Int) := by
  rw [Int.tmod_eq_emod_of_nonneg (by omega)]
  rfl
theorem lawLeast (x : Node) (acc : List B) (sw : List U8) (hb : x.bulk ≤ 1048576) : FCall Tryz.prog 9 [.agg (nodeC x), .list (strL acc), .list (u8L sw)] [] (.s (.bool true)) [] := by
  have hfl := files47_length x
  refine fcall_intro tab_ok Tryz.call9 Tryz.func9 rfl rfl rfl (fun G w ι => ?_)
  refine awp_seq ?_
  refine awp_reg ?_
  refine ev_box rfl rfl rfl rfl (by constructor) ?_
  refine ev_box rfl rfl rfl rfl (by constructor) ?_
  refine ev_assign tab_ok rfl rfl rfl ?_
  refine ev_nil ?_ rfl
  refine awp_seq ?_
  refine awp_seq ?_
  refine awp_reg ?_
  refine ev_call rfl rfl rfl rfl rfl (awakeP_spec) rfl ?_
  refine ev_not tab_ok rfl rfl rfl ?_
  refine ev_nil ?_ rfl
  refine awp_cond rfl (fun hc => ?_) (fun hc => ?_)
  · exact absurd hc (by decide)
  refine awp_skip ?_
  refine awp_seq ?_
  refine awp_seq_to ⟨[(29, .s (.bool (!fewR x acc.length || decide (40 < sw.length)))), (3, .ptr 0 0), (4, .ptr 1 0), (2, .list (u8L sw))], [.box (nodeC x) 25, .box [.list (strL acc)] 26]⟩ ?_ ?_
  · cases hy : fewR x acc.length
    · refine awp_reg ?_
      (refine ev_loadB tab_ok rfl rfl rfl rfl rfl rfl rfl ?_)
      (refine ev_loadB tab_ok rfl rfl rfl rfl rfl rfl rfl ?_)
      refine ev_call rfl rfl rfl rfl rfl (fewR_spec x (strL acc) (by omega)) rfl ?_
      refine ev_not tab_ok rfl rfl rfl ?_
      try refine ev_as (show _ = PV.s (.bool _) by rw [strL_length, hy]) ?_
      refine ev_move tab_ok rfl rfl rfl ?_
      (refine ev_skip rfl rfl ?_)
      (refine ev_skip rfl rfl ?_)
      (refine ev_skip rfl rfl ?_)
      (refine ev_pickT tab_ok rfl rfl rfl rfl rfl ?_)
      refine ev_nil ?_ rfl
      refine ⟨[0, 1], ?_, keep0⟩
      all_goals (try refine le_of (by decide) ?_ ?_)
      repeat' (first | exact trivial | exact .nil | (refine CutL.cons rfl ?_ ?_) | (refine EnvLe.cons rfl ?_ ?_) | (refine MvS.box (mvl_closed rfl)) | exact .ptr rfl | exact .frz rfl | fail)
      all_goals (try simp only [wrap_addL, wrap_addR, wrap_subL, wrap_subR]); all_goals (try (rw [wrap_i64 (by omega) (by omega)]; omega))
      all_goals simp
    · refine awp_reg ?_
      (refine ev_loadB tab_ok rfl rfl rfl rfl rfl rfl rfl ?_)
      (refine ev_loadB tab_ok rfl rfl rfl rfl rfl rfl rfl ?_)
      refine ev_call rfl rfl rfl rfl rfl (fewR_spec x (strL acc) (by omega)) rfl ?_
      refine ev_not tab_ok rfl rfl rfl ?_
      try refine ev_as (show _ = PV.s (.bool _) by rw [strL_length, hy]) ?_
      refine ev_move tab_ok rfl rfl rfl ?_
      (refine ev_move tab_ok rfl rfl rfl ?_)
      (refine ev_lenL tab_ok rfl rfl rfl rfl rfl rfl ?_)
      (refine ev_igtr tab_ok rfl rfl rfl rfl ?_)
      try refine ev_as (show _ = PV.s (.bool (decide (40 < sw.length))) by rw [u8L_length]; congr 2; exact decide_eq_decide.2 (by omega)) ?_
      (refine ev_pickF tab_ok rfl rfl rfl rfl rfl ?_)
      refine ev_nil ?_ rfl
      refine ⟨[0, 1], ?_, keep0⟩
      all_goals (try refine le_of (by decide) ?_ ?_)
      repeat' (first | exact trivial | exact .nil | (refine CutL.cons rfl ?_ ?_) | (refine EnvLe.cons rfl ?_ ?_) | (refine MvS.box (mvl_closed rfl)) | exact .ptr rfl | exact .frz rfl | fail)
      all_goals (try simp only [wrap_addL, wrap_addR, wrap_subL, wrap_subR]); all_goals (try (rw [wrap_i64 (by omega) (by omega)]; omega))
      all_goals simp
  refine awp_cond rfl (fun hc => ?_) (fun hc => ?_)
  · refine awp_seq ?_
    refine awp_reg ?_
    refine ev_assign tab_ok rfl rfl rfl ?_
    refine ev_nil ?_ rfl
    refine awp_ret ?_
    exact ⟨_, [], rfl, .frz rfl, cut_of (by decide) .nil, keep0⟩
  have hf : fewR x acc.length = true ∧ ¬ 40 < sw.length := by simpa using hc
  obtain ⟨hcnt, hal⟩ := few_count hf.1
  have hsw := hf.2
  refine awp_skip ?_
  refine awp_seq ?_
  refine awp_reg ?_
  (refine ev_loadB tab_ok rfl rfl rfl rfl rfl rfl rfl ?_)
  (refine ev_loadB tab_ok rfl rfl rfl rfl rfl rfl rfl ?_)
  refine ev_call rfl rfl rfl rfl rfl (bestP_spec x acc hb) rfl ?_
  refine ev_move tab_ok rfl rfl rfl ?_
  refine ev_extract tab_ok rfl rfl rfl rfl ?_
  refine ev_extract tab_ok rfl rfl rfl rfl ?_
  refine ev_assign tab_ok rfl rfl rfl ?_
  refine ev_assign tab_ok rfl rfl rfl ?_
  refine ev_nil ?_ rfl
  refine awp_seq ?_
  refine awp_seq ?_
  by_cases he : (bestR x acc).2 = 0
  rotate_left
  · have hnone := best_none hb acc he
    generalize bestR x acc = r at *
    refine awp_reg ?_
    refine ev_move tab_ok rfl rfl rfl ?_
    (refine ev_ineq tab_ok rfl rfl rfl rfl ?_)
    try refine ev_as (show _ = PV.s (.bool true) by simp [he]) ?_
    refine ev_nil ?_ rfl
    refine awp_cond rfl (fun hc => ?_) (fun hc => ?_)
    · refine awp_seq ?_
      refine awp_reg ?_
      refine ev_move tab_ok rfl rfl rfl ?_
      (refine ev_lenL tab_ok rfl rfl rfl rfl rfl rfl ?_)
      (refine ev_ieql tab_ok rfl rfl rfl rfl ?_)
      try refine ev_as (show _ = PV.s (.bool true) by rw [hnone]; rfl) ?_
      refine ev_assign tab_ok rfl rfl rfl ?_
      refine ev_nil ?_ rfl
      refine awp_ret ?_
      exact ⟨_, [], rfl, .frz rfl, cut_of (by decide) .nil, keep0⟩
    · exact absurd hc (by decide)
  obtain ⟨hv, h6, h64, hacc, hbp, hmin⟩ := best_facts hb acc he
  refine awp_reg ?_
  refine ev_move tab_ok rfl rfl rfl ?_
  (refine ev_ineq tab_ok rfl rfl rfl rfl ?_)
  try refine ev_as (show _ = PV.s (.bool false) by rw [he]; rfl) ?_
  refine ev_nil ?_ rfl
  refine awp_cond rfl (fun hc => ?_) (fun hc => ?_)
  · exact absurd hc (by decide)
  have hclos := fun (o : List B) (ho : o.Perm (files47 x)) => clos_perm hb hv ho h6 h64 hacc
  generalize (bestR x acc).1 = best at *
  have hbl := hbp.length_eq
  obtain ⟨c1, c2⟩ := hclos best hbp
  refine awp_skip ?_
  refine awp_seq ?_
  refine awp_reg ?_
  (refine ev_loadB tab_ok rfl rfl rfl rfl rfl rfl rfl ?_)
  refine ev_call rfl rfl rfl rfl rfl (filesP_spec x (by omega)) rfl ?_
  refine ev_alloc tab_ok rfl rfl rfl rfl rfl rfl (by constructor) ?_
  (refine ev_store tab_ok rfl rfl rfl rfl rfl rfl rfl rfl rfl (by repeat constructor) ?_)
  refine ev_nil ?_ rfl
  refine awp_seq ?_
  refine awp_reg ?_
  refine ev_mkFn tab_ok rfl rfl rfl rfl rfl ?_
  refine ev_assign tab_ok rfl rfl rfl ?_
  refine ev_nil ?_ rfl
  refine awp_seq ?_
  refine awp_reg ?_
  refine ev_move tab_ok rfl rfl rfl ?_
  refine ev_move tab_ok rfl rfl rfl ?_
  refine ev_callF [(0, .box (nodeC x) 25), (1, .box [.list (strL acc)] 26)] rfl rfl rfl rfl (clos_spec x best acc (by omega) (by omega)) (by repeat' (first | exact Frzs.nil | (refine Frzs.cons ?_ ?_) | exact Frz.same rfl | exact Frz.ptr (by repeat (first | exact List.Mem.head _ | apply List.Mem.tail)) rfl | fail)) (by exact scal2 _ _) (by intro q hq; simp only [List.mem_cons, List.not_mem_nil, or_false] at hq; rcases hq with rfl | rfl <;> rfl) ?_
  refine ev_move tab_ok rfl rfl rfl ?_
  refine ev_extract tab_ok rfl rfl rfl rfl ?_
  refine ev_extract tab_ok rfl rfl rfl rfl ?_
  refine ev_assign tab_ok rfl rfl rfl ?_
  refine ev_assign tab_ok rfl rfl rfl ?_
  refine ev_nil ?_ rfl
  rw [c1, c2]
  refine awp_seq ?_
  rcases Nat.eq_zero_or_pos best.length with h0 | h0
  · have hb0 : best = [] := List.eq_nil_of_length_eq_zero h0
    have hf0 : files47 x = [] := List.eq_nil_of_length_eq_zero (by omega)
    subst hb0
    rw [hf0]
    refine awp_reg ?_
    refine ev_move tab_ok rfl rfl rfl ?_
    refine ev_callR rfl rfl rfl rfl rfl (clone_spec [] (by simp)) (by constructor) ?_
    refine ev_assign tab_ok rfl rfl rfl ?_
    refine ev_nil ?_ rfl
    refine awp_seq ?_
    refine awp_seq ?_
    refine awp_reg ?_
    refine ev_move tab_ok rfl rfl rfl ?_
    (refine ev_lenL tab_ok rfl rfl rfl rfl rfl rfl ?_)
    refine ev_move tab_ok rfl rfl rfl ?_
    refine ev_nil ?_ rfl
    refine awp_block ?_
    refine awp_loop (fun i : Nat => ⟨[(54, .s (.int .i64 i)), (53, .s (.int .i64 sw.length)), (52, .list (u8L sw)), (13, .list []), (7, .list []), (9, .ptr 2 0), (12, .s (.bool true))], [.box (nodeC x) 25, .box [.list (strL acc)] 26, .box [.list []] 26]⟩) (fun i => i ≤ sw.length) (fun i => sw.length - i) 0 [0, 1, 2] ?_ (Nat.zero_le _) keep0 (fun i hi => ?_)
    · all_goals (try refine le_of (by decide) ?_ ?_)
      repeat' (first | exact trivial | exact .nil | (refine CutL.cons rfl ?_ ?_) | (refine EnvLe.cons rfl ?_ ?_) | (refine MvS.box (mvl_closed rfl)) | exact .ptr rfl | exact .frz rfl | (refine Mv.int ?_) | fail)
      all_goals (try simp only [wrap_addL, wrap_addR, wrap_subL, wrap_subR]); all_goals (try (rw [wrap_i64 (by omega) (by omega)]; omega))
      all_goals simp [u8L_length]
    refine awp_seq ?_
    refine awp_reg ?_
    (refine ev_ilss tab_ok rfl rfl rfl rfl ?_)
    refine ev_nil ?_ rfl
    refine awp_seq ?_
    refine awp_cond rfl (fun hc => ?_) (fun hc => ?_)
    · refine awp_skip ?_
      have hlt : i < sw.length := by simpa using hc
      have hx : sw[i]? = some sw[i] := List.getElem?_eq_getElem hlt
      refine awp_seq ?_
      refine awp_block ?_
      refine awp_seq ?_
      refine awp_reg ?_
      (refine ev_iaL tab_ok rfl rfl rfl rfl rfl rfl rfl rfl rfl (by omega) (by rw [Int.toNat_natCast]; exact u8L_get hx) rfl ?_)
      (refine ev_loadE tab_ok rfl rfl rfl rfl rfl rfl ?_)
      refine ev_assign tab_ok rfl rfl rfl ?_
      refine ev_nil ?_ rfl
      refine awp_seq ?_
      refine awp_seq ?_
      refine awp_reg ?_
      refine ev_move tab_ok rfl rfl rfl ?_
      (refine ev_lenL tab_ok rfl rfl rfl rfl rfl rfl ?_)
      (refine ev_ilss tab_ok rfl rfl rfl rfl ?_)
      try refine ev_as (show _ = PV.s (.bool true) by rfl) ?_
      refine ev_move tab_ok rfl rfl rfl ?_
      (refine ev_skip rfl rfl ?_)
      (refine ev_skip rfl rfl ?_)
      (refine ev_skip rfl rfl ?_)
      (refine ev_skip rfl rfl ?_)
      (refine ev_skip rfl rfl ?_)
      (refine ev_pickT tab_ok rfl rfl rfl rfl rfl ?_)
      refine ev_nil ?_ rfl
      refine awp_cond rfl (fun hc => ?_) (fun hc => ?_)
      · refine awp_exit ?_
        refine awp_seq ?_
        refine awp_reg ?_
        refine ev_move tab_ok rfl rfl rfl ?_
        refine ev_move tab_ok rfl rfl rfl ?_
        (refine ev_move tab_ok rfl rfl rfl ?_)
        (refine ev_lenL tab_ok rfl rfl rfl rfl rfl rfl ?_)
        (refine ev_loadB tab_ok rfl rfl rfl rfl rfl rfl rfl ?_)
        (refine ev_lenL tab_ok rfl rfl rfl rfl rfl rfl ?_)
        (refine ev_ieql tab_ok rfl rfl rfl rfl ?_)
        (refine ev_pickT tab_ok rfl rfl rfl rfl rfl ?_)
        refine ev_assign tab_ok rfl rfl rfl ?_
        refine ev_nil ?_ rfl
        refine awp_ret ?_
        exact ⟨_, [], rfl, .frz rfl, cut_of (by decide) .nil, keep0⟩
      · exact absurd hc (by decide)
    · refine awp_exit ?_
      refine awp_seq ?_
      refine awp_reg ?_
      refine ev_move tab_ok rfl rfl rfl ?_
      refine ev_move tab_ok rfl rfl rfl ?_
      (refine ev_move tab_ok rfl rfl rfl ?_)
      (refine ev_lenL tab_ok rfl rfl rfl rfl rfl rfl ?_)
      (refine ev_loadB tab_ok rfl rfl rfl rfl rfl rfl rfl ?_)
      (refine ev_lenL tab_ok rfl rfl rfl rfl rfl rfl ?_)
      (refine ev_ieql tab_ok rfl rfl rfl rfl ?_)
      (refine ev_pickT tab_ok rfl rfl rfl rfl rfl ?_)
      refine ev_assign tab_ok rfl rfl rfl ?_
      refine ev_nil ?_ rfl
      refine awp_ret ?_
      exact ⟨_, [], rfl, .frz rfl, cut_of (by decide) .nil, keep0⟩
  · refine awp_reg ?_
    refine ev_move tab_ok rfl rfl rfl ?_
    refine ev_callThaw (X := strL best) (n := best.length) (et := 9) rfl rfl rfl rfl rfl (clone_spec best (by omega)) (strL_length _) h0 (strL_len _) (by simp [strL, scalarB]) (by repeat constructor) ?_
    refine ev_assign tab_ok rfl rfl rfl ?_
    refine ev_nil ?_ rfl
    rw [strS_flatten]
    refine awp_seq ?_
    refine awp_seq ?_
    refine awp_reg ?_
    refine ev_move tab_ok rfl rfl rfl ?_
    (refine ev_lenL tab_ok rfl rfl rfl rfl rfl rfl ?_)
    refine ev_move tab_ok rfl rfl rfl ?_
    refine ev_nil ?_ rfl
    refine awp_block ?_
    refine awp_loop (fun q : Nat × List B => ⟨[(54, .s (.int .i64 (q.1 : Int))), (53, .s (.int .i64 sw.length)), (52, .list (u8L sw)), (13, .sl 3 best.length), (7, .list (strL best)), (9, .ptr 2 0), (10, .fn 37 [] [.ptr 0 0, .ptr 1 0]), (11, .s (.int .i64 (costO x acc best))), (12, .s (.bool true))], [.box (nodeC x) 25, .box [.list (strL acc)] 26, .box [.list (strL (files47 x))] 26, .box (strS q.2) 9]⟩) (fun q => q.1 ≤ sw.length ∧ q.2.Perm (files47 x)) (fun q => sw.length - q.1) (0, best) [0, 1, 2, 3] ?_ ⟨Nat.zero_le _, hbp⟩ keep0 (fun q hq => ?_)
    · all_goals (try refine le_of (by decide) ?_ ?_)
      repeat' (first | exact trivial | exact .nil | (refine CutL.cons rfl ?_ ?_) | (refine EnvLe.cons rfl ?_ ?_) | exact MvS.box (strS_mv _) | (refine MvS.box (mvl_closed rfl)) | exact .ptr rfl | exact .sl rfl | exact .frz rfl | (refine Mv.int ?_) | fail)
      all_goals (try simp only [wrap_addL, wrap_addR, wrap_subL, wrap_subR]); all_goals (try (rw [wrap_i64 (by omega) (by omega)]; omega))
      all_goals first | exact Mv.fnL .nil (.cons (.ptr rfl) (.cons (.ptr rfl) .nil)) | simp [u8L_length]
    obtain ⟨i, o⟩ := q
    obtain ⟨hi, hop⟩ := hq
    simp only at hi hop
    have hol := hop.length_eq
    change AWp _ _ _ ⟨[(54, .s (.int .i64 (i : Int))), (53, .s (.int .i64 sw.length)), (52, .list (u8L sw)), (13, .sl 3 best.length), (7, .list (strL best)), (9, .ptr 2 0), (10, .fn 37 [] [.ptr 0 0, .ptr 1 0]), (11, .s (.int .i64 (costO x acc best))), (12, .s (.bool true))], [.box (nodeC x) 25, .box [.list (strL acc)] 26, .box [.list (strL (files47 x))] 26, .box (strS o) 9]⟩ _
    refine awp_seq ?_
    refine awp_reg ?_
    (refine ev_ilss tab_ok rfl rfl rfl rfl ?_)
    refine ev_nil ?_ rfl
    refine awp_seq ?_
    refine awp_cond rfl (fun hc => ?_) (fun hc => ?_)
    · refine awp_skip ?_
      have hlt : i < sw.length := by simpa using hc
      have hx : sw[i]? = some sw[i] := List.getElem?_eq_getElem hlt
      obtain ⟨⟨sv, hs0, hs1⟩, hsv⟩ : ∃ u, sw[i] = u := ⟨_, rfl⟩
      obtain ⟨sn, rfl⟩ := Int.eq_ofNat_of_zero_le hs0
      rw [hsv] at hx
      have hx' : (u8L sw)[i]? = some [.s (.int .u8 (sn : Int))] := u8L_get hx
      refine awp_seq ?_
      refine awp_block ?_
      refine awp_seq ?_
      refine awp_reg ?_
      (refine ev_iaL tab_ok rfl rfl rfl rfl rfl rfl rfl rfl rfl (by omega) (by rw [Int.toNat_natCast]; exact hx') rfl ?_)
      (refine ev_loadE tab_ok rfl rfl rfl rfl rfl rfl ?_)
      refine ev_assign tab_ok rfl rfl rfl ?_
      refine ev_nil ?_ rfl
      refine awp_seq ?_
      refine awp_seq ?_
      rcases Nat.lt_or_ge best.length 2 with h2 | h2
      · refine awp_reg ?_
        refine ev_move tab_ok rfl rfl rfl ?_
        (refine ev_lenSl tab_ok rfl rfl rfl rfl rfl rfl ?_)
        (refine ev_ilss tab_ok rfl rfl rfl rfl ?_)
        try refine ev_as (show _ = PV.s (.bool true) by rw [decide_eq_true (by omega)]) ?_
        refine ev_move tab_ok rfl rfl rfl ?_
        (refine ev_skip rfl rfl ?_)
        (refine ev_skip rfl rfl ?_)
        (refine ev_skip rfl rfl ?_)
        (refine ev_skip rfl rfl ?_)
        (refine ev_skip rfl rfl ?_)
        (refine ev_pickT tab_ok rfl rfl rfl rfl rfl ?_)
        refine ev_nil ?_ rfl
        refine awp_cond rfl (fun hc => ?_) (fun hc => ?_)
        · refine awp_exit ?_
          refine awp_seq ?_
          refine awp_reg ?_
          refine ev_move tab_ok rfl rfl rfl ?_
          refine ev_move tab_ok rfl rfl rfl ?_
          (refine ev_move tab_ok rfl rfl rfl ?_)
          (refine ev_lenL tab_ok rfl rfl rfl rfl rfl rfl ?_)
          (refine ev_loadB tab_ok rfl rfl rfl rfl rfl rfl rfl ?_)
          (refine ev_lenL tab_ok rfl rfl rfl rfl rfl rfl ?_)
          (refine ev_ieql tab_ok rfl rfl rfl rfl ?_)
          try refine ev_as (show _ = PV.s (.bool true) by simp [strL_length, hbl]) ?_
          (refine ev_pickT tab_ok rfl rfl rfl rfl rfl ?_)
          refine ev_assign tab_ok rfl rfl rfl ?_
          refine ev_nil ?_ rfl
          refine awp_ret ?_
          exact ⟨_, [], rfl, .frz rfl, cut_of (by decide) .nil, keep0⟩
        · exact absurd hc (by decide)
      · refine awp_reg ?_
        refine ev_move tab_ok rfl rfl rfl ?_
        (refine ev_lenSl tab_ok rfl rfl rfl rfl rfl rfl ?_)
        (refine ev_ilss tab_ok rfl rfl rfl rfl ?_)
        try refine ev_as (show _ = PV.s (.bool false) by rw [decide_eq_false (by omega)]) ?_
        refine ev_move tab_ok rfl rfl rfl ?_
        (refine ev_move tab_ok rfl rfl rfl ?_)
        (refine ev_lenSl tab_ok rfl rfl rfl rfl rfl rfl ?_)
        (refine ev_loadB tab_ok rfl rfl rfl rfl rfl rfl rfl ?_)
        (refine ev_lenL tab_ok rfl rfl rfl rfl rfl rfl ?_)
        (refine ev_ineq tab_ok rfl rfl rfl rfl ?_)
        try refine ev_as (show _ = PV.s (.bool false) by simp [strL_length, hbl]) ?_
        (refine ev_pickF tab_ok rfl rfl rfl rfl rfl ?_)
        refine ev_nil ?_ rfl
        refine awp_cond rfl (fun hc => ?_) (fun hc => ?_)
        · exact absurd hc (by decide)
        refine awp_skip ?_
        have hne : ((best.length - 1 : Nat) : Int) ≠ 0 := by omega
        obtain ⟨k, hk⟩ : ∃ k, k = sn % (best.length - 1) := ⟨_, rfl⟩
        have hk1 : k < best.length - 1 := by rw [hk]; exact Nat.mod_lt _ (by omega)
        have hno : (swapN o k).Perm (files47 x) := (swapN_perm (by omega)).trans hop
        obtain ⟨d1, d2⟩ := hclos (swapN o k) hno
        obtain ⟨m1, m2⟩ := hmin (swapN o k) hno
        refine awp_seq ?_
        refine awp_reg ?_
        refine ev_move tab_ok rfl rfl rfl ?_
        (refine ev_conv tab_ok rfl rfl rfl rfl rfl rfl rfl rfl ?_)
        try refine ev_as (show _ = PV.s (.int .i64 (sn : Int)) by rw [wrap_i64 (by omega) (by omega)]) ?_
        refine ev_move tab_ok rfl rfl rfl ?_
        (refine ev_lenSl tab_ok rfl rfl rfl rfl rfl rfl ?_)
        refine ev_isub tab_ok rfl rfl rfl rfl ?_
        try refine ev_as (show _ = PV.s (.int .i64 ((best.length - 1 : Nat) : Int)) by rw [wrap_i64 (by omega) (by omega)]; congr 2; omega) ?_
        (refine ev_irem tab_ok rfl rfl rfl rfl (by assumption) ?_)
        try refine ev_as (show _ = PV.s (.int .i64 (k : Int)) by rw [tmod_nat, ← hk]) ?_
        refine ev_assign tab_ok rfl rfl rfl ?_
        refine ev_nil ?_ rfl
        refine awp_seq ?_
        refine awp_draw mixed ?_
        refine ev_move tab_ok rfl rfl rfl ?_
        refine ev_move tab_ok rfl rfl rfl ?_
        refine ev_move tab_ok rfl rfl rfl ?_
        refine ev_move tab_ok rfl rfl rfl ?_
        (refine ev_iadd tab_ok rfl rfl rfl rfl ?_)
        try refine ev_as (show _ = PV.s (.int .i64 ((k + 1 : Nat) : Int)) by rw [wrap_i64 (by omega) (by omega)]; rfl) ?_
        refine ev_move tab_ok rfl rfl rfl ?_
        refine ev_move tab_ok rfl rfl rfl ?_
        (refine ev_iadd tab_ok rfl rfl rfl rfl ?_)
        try refine ev_as (show _ = PV.s (.int .i64 ((k + 1 : Nat) : Int)) by rw [wrap_i64 (by omega) (by omega)]; rfl) ?_
        (refine ev_iaS tab_ok rfl rfl rfl rfl rfl rfl rfl rfl rfl rfl (by omega) (by omega) ?_)
        try refine ev_as (show _ = PV.ptr 3 (k + 1) by rw [Int.toNat_natCast]) ?_
        (refine ev_loadB tab_ok rfl rfl rfl rfl rfl rfl (strS_load rfl (by omega)) ?_)
        refine ev_move tab_ok rfl rfl rfl ?_
        refine ev_move tab_ok rfl rfl rfl ?_
        (refine ev_iaS tab_ok rfl rfl rfl rfl rfl rfl rfl rfl rfl rfl (by omega) (by omega) ?_)
        try refine ev_as (show _ = PV.ptr 3 k by rw [Int.toNat_natCast]) ?_
        (refine ev_loadB tab_ok rfl rfl rfl rfl rfl rfl (strS_load rfl (by omega)) ?_)
        (refine ev_iaS tab_ok rfl rfl rfl rfl rfl rfl rfl rfl rfl rfl (by omega) (by omega) ?_)
        try refine ev_as (show _ = PV.ptr 3 k by rw [Int.toNat_natCast]) ?_
        (refine ev_store tab_ok rfl rfl rfl rfl rfl rfl rfl rfl (strS_store (by omega)) (by repeat constructor) ?_)
        (refine ev_iaS tab_ok rfl rfl rfl rfl rfl rfl rfl rfl rfl rfl (by omega) (by omega) ?_)
        try refine ev_as (show _ = PV.ptr 3 (k + 1) by rw [Int.toNat_natCast]) ?_
        (refine ev_store tab_ok rfl rfl rfl rfl rfl rfl rfl rfl (strS_store (by (simp only [List.length_set]; omega))) (by repeat constructor) ?_)
        refine ev_nilD ?_ (by kernel_rfl)
        rw [show (o.set k (getS o (k + 1))).set (k + 1) (getS o k) = swapN o k from rfl]
        have hnl := hno.length_eq
        generalize swapN o k = o' at *
        refine awp_seq ?_
        refine awp_reg ?_
        refine ev_move tab_ok rfl rfl rfl ?_
        refine ev_move tab_ok rfl rfl rfl ?_
        refine ev_callF [(0, .box (nodeC x) 25), (1, .box [.list (strL acc)] 26), (3, .box (strS o') 9)] rfl rfl rfl rfl (clos_spec x o' acc (by omega) (by omega)) (by repeat' (first | exact Frzs.nil | (refine Frzs.cons ?_ ?_) | exact Frz.ptr (by repeat (first | exact List.Mem.head _ | apply List.Mem.tail)) rfl | exact Frz.sl (by repeat (first | exact List.Mem.head _ | apply List.Mem.tail)) (by omega) | fail)) (by exact scal2 _ _) (by intro q hq; simp only [List.mem_cons, List.not_mem_nil, or_false] at hq; rcases hq with rfl | rfl | rfl <;> rfl) ?_
        refine ev_move tab_ok rfl rfl rfl ?_
        refine ev_extract tab_ok rfl rfl rfl rfl ?_
        refine ev_extract tab_ok rfl rfl rfl rfl ?_
        refine ev_assign tab_ok rfl rfl rfl ?_
        refine ev_assign tab_ok rfl rfl rfl ?_
        refine ev_nil ?_ rfl
        rw [d1, d2]
        refine awp_seq ?_
        refine awp_seq ?_
        refine awp_reg ?_
        refine ev_move tab_ok rfl rfl rfl ?_
        refine ev_not tab_ok rfl rfl rfl ?_
        refine ev_move tab_ok rfl rfl rfl ?_
        (refine ev_move tab_ok rfl rfl rfl ?_)
        (refine ev_not tab_ok rfl rfl rfl ?_)
        (refine ev_pickF tab_ok rfl rfl rfl rfl rfl ?_)
        refine ev_move tab_ok rfl rfl rfl ?_
        (refine ev_move tab_ok rfl rfl rfl ?_)
        (refine ev_move tab_ok rfl rfl rfl ?_)
        (refine ev_ilss tab_ok rfl rfl rfl rfl ?_)
        try refine ev_as (show _ = PV.s (.bool false) by rw [decide_eq_false (by omega)]) ?_
        (refine ev_pickF tab_ok rfl rfl rfl rfl rfl ?_)
        refine ev_nil ?_ rfl
        refine awp_cond rfl (fun hc => ?_) (fun hc => ?_)
        · exact absurd hc (by decide)
        refine awp_skip ?_
        refine awp_seq_to ⟨[(116, .s (.bool false)), (54, .s (.int .i64 (i : Int))), (53, .s (.int .i64 sw.length)), (52, .list (u8L sw)), (13, .sl 3 best.length), (7, .list (strL best)), (9, .ptr 2 0), (10, .fn 37 [] [.ptr 0 0, .ptr 1 0]), (11, .s (.int .i64 (costO x acc best))), (12, .s (.bool true))], [.box (nodeC x) 25, .box [.list (strL acc)] 26, .box [.list (strL (files47 x))] 26, .box (strS o') 9]⟩ ?_ ?_
        · by_cases hce : costO x acc o' = costO x acc best
          · have hcl := m2 hce
            refine awp_reg ?_
            refine ev_move tab_ok rfl rfl rfl ?_
            refine ev_move tab_ok rfl rfl rfl ?_
            (refine ev_ieql tab_ok rfl rfl rfl rfl ?_)
            try refine ev_as (show _ = PV.s (.bool true) by rw [hce]; simp) ?_
            refine ev_move tab_ok rfl rfl rfl ?_
            (refine ev_move tab_ok rfl rfl rfl ?_)
            (refine ev_move tab_ok rfl rfl rfl ?_)
            (refine ev_mkFn tab_ok rfl rfl rfl rfl rfl ?_)
            (refine ev_callF [(2, .box [.list (strL (files47 x))] 26), (3, .box (strS o') 9)] rfl rfl rfl rfl (compareC_spec (files47 x) o' best (by omega) (by omega) (by omega)) (by repeat' (first | exact Frzs.nil | (refine Frzs.cons ?_ ?_) | exact Frz.same rfl | exact Frz.ptr (by repeat (first | exact List.Mem.head _ | apply List.Mem.tail)) rfl | exact Frz.sl (by repeat (first | exact List.Mem.head _ | apply List.Mem.tail)) (by first | rfl | omega) | (refine Frz.fn1 ?_))) (by exact scal_s _) (by intro q hq; simp only [List.mem_cons, List.not_mem_nil, or_false] at hq; rcases hq with rfl | rfl <;> rfl) ?_)
            (refine ev_ilss tab_ok rfl rfl rfl rfl ?_)
            try refine ev_as (show _ = PV.s (.bool false) by rw [decide_eq_false (by omega)]) ?_
            (refine ev_pickT tab_ok rfl rfl rfl rfl rfl ?_)
            refine ev_nil ?_ rfl
            refine ⟨[0, 1, 2, 3], ?_, keep0⟩
            all_goals (try refine le_of (by decide) ?_ ?_)
            repeat' (first | exact trivial | exact .nil | (refine CutL.cons rfl ?_ ?_) | (refine EnvLe.cons rfl ?_ ?_) | exact MvS.box (strS_mv _) | (refine MvS.box (mvl_closed rfl)) | exact .ptr rfl | exact .sl rfl | exact .frz rfl | fail)
            all_goals (try simp only [wrap_addL, wrap_addR, wrap_subL, wrap_subR]); all_goals (try (rw [wrap_i64 (by omega) (by omega)]; omega))
            all_goals exact Mv.fnL .nil (.cons (.ptr rfl) (.cons (.ptr rfl) .nil))
          · refine awp_reg ?_
            refine ev_move tab_ok rfl rfl rfl ?_
            refine ev_move tab_ok rfl rfl rfl ?_
            (refine ev_ieql tab_ok rfl rfl rfl rfl ?_)
            try refine ev_as (show _ = PV.s (.bool false) by rw [beq_eq_false_iff_ne.2 hce]) ?_
            refine ev_move tab_ok rfl rfl rfl ?_
            (refine ev_skip rfl rfl ?_)
            (refine ev_skip rfl rfl ?_)
            (refine ev_skip rfl rfl ?_)
            (refine ev_skip rfl rfl ?_)
            (refine ev_skip rfl rfl ?_)
            (refine ev_pickF tab_ok rfl rfl rfl rfl rfl ?_)
            refine ev_nil ?_ rfl
            refine ⟨[0, 1, 2, 3], ?_, keep0⟩
            all_goals (try refine le_of (by decide) ?_ ?_)
            repeat' (first | exact trivial | exact .nil | (refine CutL.cons rfl ?_ ?_) | (refine EnvLe.cons rfl ?_ ?_) | exact MvS.box (strS_mv _) | (refine MvS.box (mvl_closed rfl)) | exact .ptr rfl | exact .sl rfl | exact .frz rfl | fail)
            all_goals (try simp only [wrap_addL, wrap_addR, wrap_subL, wrap_subR]); all_goals (try (rw [wrap_i64 (by omega) (by omega)]; omega))
            all_goals exact Mv.fnL .nil (.cons (.ptr rfl) (.cons (.ptr rfl) .nil))
        refine awp_cond rfl (fun hc => ?_) (fun hc => ?_)
        · exact absurd hc (by decide)
        refine awp_skip ?_
        refine awp_reg ?_
        (refine ev_iadd tab_ok rfl rfl rfl rfl ?_)
        refine ev_move tab_ok rfl rfl rfl ?_
        refine ev_nil ?_ rfl
        refine ⟨(i + 1, o'), [0, 1, 2, 3], ?_, by show sw.length - (i + 1) < sw.length - i; omega, ⟨hlt, hno⟩, keep0⟩
        all_goals (try refine le_of (by decide) ?_ ?_)
        repeat' (first | exact trivial | exact .nil | (refine CutL.cons rfl ?_ ?_) | (refine EnvLe.cons rfl ?_ ?_) | exact MvS.box (strS_mv _) | (refine MvS.box (mvl_closed rfl)) | exact .ptr rfl | exact .sl rfl | exact .frz rfl | (refine Mv.int ?_) | fail)
        all_goals (try simp only [wrap_addL, wrap_addR, wrap_subL, wrap_subR]); all_goals (try (rw [wrap_i64 (by omega) (by omega)]; omega))
        all_goals exact Mv.fnL .nil (.cons (.ptr rfl) (.cons (.ptr rfl) .nil))
    · refine awp_exit ?_
      refine awp_seq ?_
      refine awp_reg ?_
      refine ev_move tab_ok rfl rfl rfl ?_
      refine ev_move tab_ok rfl rfl rfl ?_
      (refine ev_move tab_ok rfl rfl rfl ?_)
      (refine ev_lenL tab_ok rfl rfl rfl rfl rfl rfl ?_)
      (refine ev_loadB tab_ok rfl rfl rfl rfl rfl rfl rfl ?_)
      (refine ev_lenL tab_ok rfl rfl rfl rfl rfl rfl ?_)
      (refine ev_ieql tab_ok rfl rfl rfl rfl ?_)
      try refine ev_as (show _ = PV.s (.bool true) by simp [strL_length, hbl]) ?_
      (refine ev_pickT tab_ok rfl rfl rfl rfl rfl ?_)
      refine ev_assign tab_ok rfl rfl rfl ?_
      refine ev_nil ?_ rfl
      refine awp_ret ?_
      exact ⟨_, [], rfl, .frz rfl, cut_of (by decide) .nil, keep0⟩
end Go.Proofs.Pm
end

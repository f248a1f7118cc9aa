/- A part of the proof of one law: the machine on pure values and the walks of functions. -/
import Derived.Test.YtjoikahblpephaaGreatDoorPmLw9P24
import Derived.KernelRfl
set_option linter.all false
section
set_option maxRecDepth 20000
namespace Go.Proofs.Pm
open Go
def nA : Node := fileN ⟨#[97]⟩ xs3000 0
def nC : Node := fileN ⟨#[99]⟩ ⟨#[121]⟩ 0
def nB : Node := fileN ⟨#[98]⟩ ⟨#[48, 49, 50, 51, 52, 53, 54, 55, 56, 57]⟩ 5
def nD : Node := dirN ⟨#[100]⟩ [nB]
def pA : B := ⟨#[97]⟩
def pC : B := ⟨#[99]⟩
def pDB : B := ⟨#[100, 47, 98]⟩
theorem one_C : one18 nC 2 = 0 := by kernel_rfl
theorem one_B : one18 nB 3 = 0 := by kernel_rfl
theorem one_D : one18 nD 2 = 0 := by kernel_rfl
theorem one_T : one18 treeN 1 = 0 := by kernel_rfl
theorem one_A : one18 nA 2 = 0 := by kernel_rfl
theorem check_leaf {x : Node} {l : Nat} (h : one18 x l = 0) (hk : x.kids = []) (p : B) : check18 x p l = (⟨#[]⟩, 0) := by
  rw [check18_eq, if_neg (by rw [h]; decide), hk]; rfl
theorem check_T : check18 treeN ⟨#[]⟩ 1 = (⟨#[]⟩, 0) := by
  have hB : ∀ p, check18 nB p 3 = (⟨#[]⟩, 0) := check_leaf one_B rfl
  have hD : ∀ p, check18 nD p 2 = (⟨#[]⟩, 0) := fun p => by
    rw [check18_eq, if_neg (by rw [one_D]; decide), show nD.kids = [nB] from rfl]
    simp only [List.map_cons, List.map_nil, hB]
    rfl
  rw [check18_eq, if_neg (by rw [one_T]; decide), show treeN.kids = [nA, nC, nD] from rfl]
  simp only [List.map_cons, List.map_nil, hD, check_leaf one_A rfl, check_leaf one_C rfl]
  rfl
theorem count_T : treeN.count = 5 := by
  rw [count_eq, show treeN.kids = [nA, nC, nD] from rfl]
  simp only [List.map_cons, List.map_nil]
  rw [count_eq nA, count_eq nC, count_eq nD, show nD.kids = [nB] from rfl, show nA.kids = [] from rfl, show nC.kids = [] from rfl]
  simp only [List.map_cons, List.map_nil]
  rw [count_eq nB, show nB.kids = [] from rfl]
  rfl
theorem valid_T : valid18 treeN = true := by
  rw [valid18, check18T, count_T, if_neg (by decide), check_T]; rfl
theorem paths_T : paths18 treeN = [⟨#[]⟩, pA, pC, ⟨#[100]⟩, pDB] := by
  rw [paths18, valid_T, if_pos rfl, pathsR_eq, show treeN.kids = [nA, nC, nD] from rfl]
  simp only [List.flatMap_cons, List.flatMap_nil]
  rw [pathsR_eq nA, pathsR_eq nC, pathsR_eq nD, show nD.kids = [nB] from rfl, show nA.kids = [] from rfl, show nC.kids = [] from rfl]
  simp only [List.flatMap_cons, List.flatMap_nil]
  rw [pathsR_eq nB, show nB.kids = [] from rfl]
  kernel_rfl
theorem files_T : files47 treeN = [pA, pC, pDB] := by
  rw [files47, paths_T]
  have h1 : isFile treeN ⟨#[]⟩ = false := by kernel_rfl
  have h2 : isFile treeN pA = true := by kernel_rfl
  have h3 : isFile treeN pC = true := by kernel_rfl
  have h4 : isFile treeN ⟨#[100]⟩ = false := by kernel_rfl
  have h5 : isFile treeN pDB = true := by kernel_rfl
  simp [List.filter_cons, h1, h2, h3, h4, h5]
theorem weightR_T {p : B} {w : Int} (h1 : (find47 treeN p).isNone = false) (h2 : weight47 treeN p = w) : weightR treeN p = (w, 0) := by
  rw [weightR, if_neg (by rw [valid_T]; decide), if_neg (by rw [h1]; decide), h2]
theorem wm_T : wmOf treeN (files47 treeN) = [(pA, 0), (pC, 0), (pDB, 5)] := by
  rw [files_T]
  have h1 := weightR_T (p := pA) (w := 0) (by kernel_rfl) (by kernel_rfl)
  have h2 := weightR_T (p := pC) (w := 0) (by kernel_rfl) (by kernel_rfl)
  have h3 := weightR_T (p := pDB) (w := 5) (by kernel_rfl) (by kernel_rfl)
  simp [wmOf, h1, h2, h3]
theorem ins_T : insS (ltW (wmOf treeN (files47 treeN))) 0 (files47 treeN).length (files47 treeN) = [pDB, pA, pC] := by
  rw [wm_T, files_T]
  kernel_rfl
theorem byW_T : byW47 treeN = [pDB, pA, pC] := by
  rw [byW47, files_T]
  kernel_rfl
theorem byA_T : byA47 treeN [pC] = [pC, pDB, pA] := by
  rw [byA47, byW_T]
  kernel_rfl
theorem place_T : PlaceR treeN [pDB, pA, pC] 20 = ([(pDB, 20, 10), (pA, 21, 3000), (pC, 23, 1)], 0) := by
  rw [PlaceR, files_T, valid_T]
  kernel_rfl
theorem cost_T : costR [(pDB, 20, 10), (pA, 21, 3000), (pC, 23, 1)] [pC, pA] = (26, 0) := by kernel_rfl
theorem best_T : bestR treeN [pC, pA] = ([pC, pA, pDB], 0) := by
  have h : treeN.bulk ≤ 1048576 := by
    rw [bulk_eq, show treeN.kids = [nA, nC, nD] from rfl]
    simp only [List.map_cons, List.map_nil]
    rw [bulk_eq nA, bulk_eq nC, bulk_eq nD, show nD.kids = [nB] from rfl, show nA.kids = [] from rfl, show nC.kids = [] from rfl]
    simp only [List.map_cons, List.map_nil]
    rw [bulk_eq nB, show nB.kids = [] from rfl]
    exact of_decide_eq_true (by kernel_rfl)
  rw [bestR_eq h, if_neg (by rw [valid_T]; decide), files_T]
  show _ = (_ : List B × Int)
  kernel_rfl
theorem bulk_T : treeN.bulk ≤ 1048576 := by
  rw [bulk_eq, show treeN.kids = [nA, nC, nD] from rfl]
  simp only [List.map_cons, List.map_nil]
  rw [bulk_eq nA, bulk_eq nC, bulk_eq nD, show nD.kids = [nB] from rfl, show nA.kids = [] from rfl, show nC.kids = [] from rfl]
  simp only [List.map_cons, List.map_nil]
  rw [bulk_eq nB, show nB.kids = [] from rfl]
  exact of_decide_eq_true (by kernel_rfl)
end Go.Proofs.Pm
end
section
namespace Go.Proofs.Pm
open Go
theorem equalF_spec (a b : List File) : FCall Tryz.prog 46 [.list (filesC a), .list (filesC b)] [] (.s (.bool (sameFiles a b))) [] := by
  refine fcall_intro tab_ok Tryz.call46 Tryz.func46 rfl rfl rfl (fun G w ι => ?_)
  refine awp_len 0 rfl (fun hal => ?_)
  rw [filesC_length] at hal
  refine awp_seq ?_
  refine awp_reg ?_
  refine ev_assign tab_ok rfl rfl rfl ?_
  refine ev_nil ?_ rfl
  refine awp_seq ?_
  refine awp_seq ?_
  refine awp_reg ?_
  refine ev_move tab_ok rfl rfl rfl ?_
  (refine ev_lenL tab_ok rfl rfl rfl rfl rfl rfl ?_)
  refine ev_move tab_ok rfl rfl rfl ?_
  (refine ev_lenL tab_ok rfl rfl rfl rfl rfl rfl ?_)
  (refine ev_ineq tab_ok rfl rfl rfl rfl ?_)
  refine ev_nil ?_ rfl
  refine awp_cond rfl (fun hc => ?_) (fun hc => ?_)
  · have hne : a.length ≠ b.length := by
      intro e
      simp [filesC_length, e] at hc
    refine awp_seq ?_
    refine awp_reg ?_
    refine ev_assign tab_ok rfl rfl rfl ?_
    refine ev_nil ?_ rfl
    refine awp_ret ?_
    exact ⟨_, [], rfl, Mv.bool (sameFiles_ne hne).symm, cut_of (by decide) .nil, keep0⟩
  · have hl : a.length = b.length := by
      have : (a.length : Int) = b.length := by simpa [filesC_length] using hc
      omega
    have hfin := sameFiles_eq hl
    refine awp_skip ?_
    refine awp_seq ?_
    refine awp_seq ?_
    refine awp_reg ?_
    refine ev_move tab_ok rfl rfl rfl ?_
    (refine ev_lenL tab_ok rfl rfl rfl rfl rfl rfl ?_)
    refine ev_move tab_ok rfl rfl rfl ?_
    refine ev_nil ?_ rfl
    refine awp_block ?_
    refine awp_loop (fun i : Nat => ⟨[(13, .s (.int .i64 i)), (12, .s (.int .i64 a.length)), (0, .list (filesC a)), (1, .list (filesC b))], []⟩) (fun i => i ≤ a.length ∧ ∀ (j : Nat) (h : j < a.length) (h' : j < b.length), j < i → sameFile a[j] b[j] = true) (fun i => a.length - i) 0 [] ?_ ⟨Nat.zero_le _, fun j _ _ h => by omega⟩ keep0 (fun i hi => ?_)
    · all_goals (try refine le_of (by decide) ?_ ?_)
      repeat' (first | exact trivial | exact .nil | (refine EnvLe.cons rfl ?_ ?_) | exact .frz rfl | (refine Mv.int ?_) | fail)
      all_goals (try simp only [wrap_addL, wrap_addR, wrap_subL, wrap_subR]); all_goals (try (rw [wrap_i64 (by omega) (by omega)]; omega))
      all_goals simp [filesC_length]
    refine awp_seq ?_
    refine awp_reg ?_
    (refine ev_ilss tab_ok rfl rfl rfl rfl ?_)
    refine ev_nil ?_ rfl
    refine awp_seq ?_
    refine awp_cond rfl (fun hc => ?_) (fun hc => ?_)
    · refine awp_skip ?_
      have hlt : i < a.length := by simpa using hc
      have hltb : i < b.length := by omega
      have hx : a[i]? = some a[i] := List.getElem?_eq_getElem hlt
      have hy : b[i]? = some b[i] := List.getElem?_eq_getElem hltb
      refine awp_seq ?_
      refine awp_block ?_
      refine awp_seq ?_
      refine awp_reg ?_
      refine ev_move tab_ok rfl rfl rfl ?_
      refine ev_assign tab_ok rfl rfl rfl ?_
      refine ev_nil ?_ rfl
      refine awp_seq ?_
      refine awp_draw mixed ?_
      refine ev_move tab_ok rfl rfl rfl ?_
      refine ev_move tab_ok rfl rfl rfl ?_
      (refine ev_iaL tab_ok rfl rfl rfl rfl rfl rfl rfl rfl rfl (by omega) (by rw [Int.toNat_natCast]; exact filesC_get hx) rfl ?_)
      (refine ev_loadE tab_ok rfl rfl rfl rfl rfl rfl ?_)
      refine ev_move tab_ok rfl rfl rfl ?_
      refine ev_move tab_ok rfl rfl rfl ?_
      (refine ev_iaL tab_ok rfl rfl rfl rfl rfl rfl rfl rfl rfl (by omega) (by rw [Int.toNat_natCast]; exact filesC_get hy) rfl ?_)
      (refine ev_loadE tab_ok rfl rfl rfl rfl rfl rfl ?_)
      refine ev_neq69 _ _ rfl rfl rfl rfl ?_
      refine ev_nilD ?_ (by kernel_rfl)
      refine awp_cond rfl (fun hc => ?_) (fun hc => ?_)
      · refine awp_seq ?_
        refine awp_reg ?_
        refine ev_assign tab_ok rfl rfl rfl ?_
        refine ev_nil ?_ rfl
        refine awp_ret ?_
        refine ⟨_, [], rfl, Mv.bool ?_, cut_of (by decide) .nil, keep0⟩
        rw [hfin, eq_comm, List.all_eq_false]
        refine ⟨i, List.mem_range.2 hlt, ?_⟩
        rw [hx, hy]
        simpa using hc
      · refine awp_skip ?_
        refine awp_reg ?_
        (refine ev_iadd tab_ok rfl rfl rfl rfl ?_)
        refine ev_move tab_ok rfl rfl rfl ?_
        refine ev_nil ?_ rfl
        refine ⟨i + 1, [], ?_, by omega, ⟨hlt, fun j h h' hj => ?_⟩, keep0⟩
        · all_goals (try refine le_of (by decide) ?_ ?_)
          repeat' (first | exact trivial | exact .nil | (refine EnvLe.cons rfl ?_ ?_) | exact .frz rfl | (refine Mv.int ?_) | fail)
          all_goals (try simp only [wrap_addL, wrap_addR, wrap_subL, wrap_subR]); all_goals (try (rw [wrap_i64 (by omega) (by omega)]; omega))
        by_cases e : j = i
        · subst e; simpa using hc
        · exact hi.2 j h h' (by omega)
    · refine awp_exit ?_
      have hge : i = a.length := by
        have : ¬ i < a.length := by simpa using hc
        omega
      subst hge
      refine awp_seq ?_
      refine awp_reg ?_
      refine ev_assign tab_ok rfl rfl rfl ?_
      refine ev_nil ?_ rfl
      refine awp_ret ?_
      refine ⟨_, [], rfl, Mv.bool ?_, cut_of (by decide) .nil, keep0⟩
      rw [hfin, eq_comm, List.all_eq_true]
      intro j hj
      have hj := List.mem_range.1 hj
      rw [List.getElem?_eq_getElem hj, List.getElem?_eq_getElem (by omega : j < b.length)]
      exact hi.2 j hj (by omega) hj
theorem byWeightT_spec : FCall Tryz.prog 18 [.agg (nodeC treeN)] [] (.list (strL [pDB, pA, pC])) [] := by
  have h := byWeightP_of treeN (insS (ltW (wmOf treeN (files47 treeN))) 0 (files47 treeN).length (files47 treeN)) (by have := bulk_T; omega) (insS_length _ _ _ _) (sortF_of _ _ _ (stableSmall_spec _ _ (by rw [files_T]; decide)))
  rwa [ins_T] at h
theorem filesT_spec : FCall Tryz.prog 16 [.agg (nodeC treeN)] [] (.list (strL [pA, pC, pDB])) [] := by
  have h := filesP_spec treeN (by have := bulk_T; omega)
  rwa [files_T] at h
theorem placeT_spec : FCall Tryz.prog 22 [.agg (nodeC treeN), .list (strL [pDB, pA, pC]), .s (.int .i64 20)] [] (.tup [.list (filesC [(pDB, 20, 10), (pA, 21, 3000), (pC, 23, 1)]), .s (.int .i64 0)]) [] := by
  have h := placeP_spec treeN [pDB, pA, pC] 20 (by have := bulk_T; omega) (by simp)
  rwa [place_T] at h
theorem costT_spec : FCall Tryz.prog 27 [.list (filesC [(pDB, 20, 10), (pA, 21, 3000), (pC, 23, 1)]), .list (strL [pC, pA])] [] (.tup [.s (.int .i64 26), .s (.int .i64 0)]) [] := by
  have h := costP_spec [(pDB, 20, 10), (pA, 21, 3000), (pC, 23, 1)] [pC, pA]
  rwa [cost_T] at h
theorem bestT_spec : FCall Tryz.prog 29 [.agg (nodeC treeN), .list (strL [pC, pA])] [] (.tup [.list (strL [pC, pA, pDB]), .s (.int .i64 0)]) [] := by
  have h := bestP_spec treeN [pC, pA] bulk_T
  rwa [best_T] at h
theorem byAccessT_spec : FCall Tryz.prog 20 [.agg (nodeC treeN), .list (strL [pC])] [] (.list (strL [pC, pDB, pA])) [] := by
  have h := byAccessP_spec treeN [pC] (by rw [byW_T]; exact byWeightT_spec) (by simp) (by rw [byW_T]; simp)
  rwa [byA_T] at h
theorem awakeP_spec : FCall Tryz.prog 11 [] [] (.s (.bool true)) [] := by
  have hb : blocks 2049 = 2 := by decide
  have hbs := blocks24_spec 2049
  rw [hb] at hbs
  have hs : ∀ l : List B, sameStrs l l = true := fun l => sameStrs_iff.2 rfl
  have hf : sameFiles [(pDB, 20, 10), (pA, 21, 3000), (pC, 23, 1)] [(pDB, 20, 10), (pA, 21, 3000), (pC, 23, 1)] = true := by kernel_rfl
  refine fcall_intro tab_ok Tryz.call11 Tryz.func11 rfl rfl rfl (fun G w ι => ?_)
  refine awp_seq ?_
  refine awp_reg ?_
  refine ev_assign tab_ok rfl rfl rfl ?_
  refine ev_nil ?_ rfl
  refine awp_seq ?_
  refine awp_reg ?_
  refine ev_call rfl rfl rfl rfl rfl (treeP_spec) rfl ?_
  refine ev_call rfl rfl rfl rfl rfl (byWeightT_spec) rfl ?_
  refine ev_assign tab_ok rfl rfl rfl ?_
  refine ev_nil ?_ rfl
  refine awp_seq ?_
  refine awp_reg ?_
  refine ev_call rfl rfl rfl rfl rfl (treeP_spec) rfl ?_
  refine ev_buildSlice tab_ok rfl rfl rfl rfl rfl rfl rfl rfl rfl rfl rfl rfl rfl rfl (by constructor) ?_
  refine ev_call rfl rfl rfl rfl rfl (placeT_spec) rfl ?_
  refine ev_move tab_ok rfl rfl rfl ?_
  refine ev_extract tab_ok rfl rfl rfl rfl ?_
  refine ev_extract tab_ok rfl rfl rfl rfl ?_
  refine ev_assign tab_ok rfl rfl rfl ?_
  refine ev_assign tab_ok rfl rfl rfl ?_
  refine ev_nil ?_ rfl
  refine awp_seq ?_
  refine awp_reg ?_
  refine ev_move tab_ok rfl rfl rfl ?_
  refine ev_buildSlice tab_ok rfl rfl rfl rfl rfl rfl rfl rfl rfl rfl rfl rfl rfl rfl (by constructor) ?_
  refine ev_call rfl rfl rfl rfl rfl (costT_spec) rfl ?_
  refine ev_move tab_ok rfl rfl rfl ?_
  refine ev_extract tab_ok rfl rfl rfl rfl ?_
  refine ev_extract tab_ok rfl rfl rfl rfl ?_
  refine ev_assign tab_ok rfl rfl rfl ?_
  refine ev_assign tab_ok rfl rfl rfl ?_
  refine ev_nil ?_ rfl
  refine awp_seq ?_
  refine awp_reg ?_
  refine ev_call rfl rfl rfl rfl rfl (treeP_spec) rfl ?_
  refine ev_buildSlice tab_ok rfl rfl rfl rfl rfl rfl rfl rfl rfl rfl rfl rfl rfl rfl (by constructor) ?_
  refine ev_call rfl rfl rfl rfl rfl (bestT_spec) rfl ?_
  refine ev_move tab_ok rfl rfl rfl ?_
  refine ev_extract tab_ok rfl rfl rfl rfl ?_
  refine ev_extract tab_ok rfl rfl rfl rfl ?_
  refine ev_assign tab_ok rfl rfl rfl ?_
  refine ev_assign tab_ok rfl rfl rfl ?_
  refine ev_nil ?_ rfl
  refine awp_weaken ⟨[(1, .list (strL [pDB, pA, pC])), (2, .list (filesC [(pDB, 20, 10), (pA, 21, 3000), (pC, 23, 1)])), (3, .s (.int .i64 0)), (4, .s (.int .i64 26)), (5, .s (.int .i64 0)), (6, .list (strL [pC, pA, pDB])), (7, .s (.int .i64 0))], []⟩ [] ?_ keep0 ?_
  · all_goals (try refine le_of (by decide) ?_ ?_)
    repeat' (first | exact trivial | exact .nil | (refine EnvLe.cons rfl ?_ ?_) | exact .frz rfl | fail)
    all_goals (try simp only [wrap_addL, wrap_addR, wrap_subL, wrap_subR]); all_goals (try (rw [wrap_i64 (by omega) (by omega)]; omega))
  refine awp_seq ?_
  refine awp_reg ?_
  refine ev_move tab_ok rfl rfl rfl ?_
  refine ev_buildSlice tab_ok rfl rfl rfl rfl rfl rfl rfl rfl rfl rfl rfl rfl rfl rfl (by constructor) ?_
  refine ev_call rfl rfl rfl rfl rfl (equal_spec [pDB, pA, pC] [pDB, pA, pC]) rfl ?_
  try refine ev_as (show _ = PV.s (.bool true) by rw [hs]) ?_
  refine ev_move tab_ok rfl rfl rfl ?_
  (refine ev_call rfl rfl rfl rfl rfl (treeP_spec) rfl ?_)
  (refine ev_call rfl rfl rfl rfl rfl (filesT_spec) rfl ?_)
  (refine ev_buildSlice tab_ok rfl rfl rfl rfl rfl rfl rfl rfl rfl rfl rfl rfl rfl rfl (by constructor) ?_)
  (refine ev_call rfl rfl rfl rfl rfl (equal_spec [pA, pC, pDB] [pA, pC, pDB]) rfl ?_)
  try refine ev_as (show _ = PV.s (.bool true) by rw [hs]) ?_
  (refine ev_pickT tab_ok rfl rfl rfl rfl rfl ?_)
  refine ev_move tab_ok rfl rfl rfl ?_
  (refine ev_move tab_ok rfl rfl rfl ?_)
  (refine ev_ieql tab_ok rfl rfl rfl rfl ?_)
  (refine ev_pickT tab_ok rfl rfl rfl rfl rfl ?_)
  refine ev_move tab_ok rfl rfl rfl ?_
  (refine ev_move tab_ok rfl rfl rfl ?_)
  (refine ev_build tab_ok rfl rfl rfl rfl rfl rfl rfl rfl rfl rfl rfl rfl ?_)
  (refine ev_build tab_ok rfl rfl rfl rfl rfl rfl rfl rfl rfl rfl rfl rfl ?_)
  (refine ev_build tab_ok rfl rfl rfl rfl rfl rfl rfl rfl rfl rfl rfl rfl ?_)
  (refine ev_buildSlice tab_ok rfl rfl rfl rfl rfl rfl rfl rfl rfl rfl rfl rfl rfl rfl (by constructor) ?_)
  (refine ev_call rfl rfl rfl rfl rfl (equalF_spec [(pDB, 20, 10), (pA, 21, 3000), (pC, 23, 1)] [(pDB, 20, 10), (pA, 21, 3000), (pC, 23, 1)]) rfl ?_)
  try refine ev_as (show _ = PV.s (.bool true) by rw [hf]) ?_
  (refine ev_pickT tab_ok rfl rfl rfl rfl rfl ?_)
  refine ev_move tab_ok rfl rfl rfl ?_
  (refine ev_move tab_ok rfl rfl rfl ?_)
  (refine ev_ieql tab_ok rfl rfl rfl rfl ?_)
  (refine ev_pickT tab_ok rfl rfl rfl rfl rfl ?_)
  refine ev_move tab_ok rfl rfl rfl ?_
  (refine ev_move tab_ok rfl rfl rfl ?_)
  (refine ev_ieql tab_ok rfl rfl rfl rfl ?_)
  (refine ev_pickT tab_ok rfl rfl rfl rfl rfl ?_)
  refine ev_move tab_ok rfl rfl rfl ?_
  (refine ev_move tab_ok rfl rfl rfl ?_)
  (refine ev_ieql tab_ok rfl rfl rfl rfl ?_)
  (refine ev_pickT tab_ok rfl rfl rfl rfl rfl ?_)
  refine ev_move tab_ok rfl rfl rfl ?_
  (refine ev_move tab_ok rfl rfl rfl ?_)
  (refine ev_buildSlice tab_ok rfl rfl rfl rfl rfl rfl rfl rfl rfl rfl rfl rfl rfl rfl (by constructor) ?_)
  (refine ev_call rfl rfl rfl rfl rfl (equal_spec [pC, pA, pDB] [pC, pA, pDB]) rfl ?_)
  try refine ev_as (show _ = PV.s (.bool true) by rw [hs]) ?_
  (refine ev_pickT tab_ok rfl rfl rfl rfl rfl ?_)
  refine ev_move tab_ok rfl rfl rfl ?_
  (refine ev_call rfl rfl rfl rfl rfl (hbs) rfl ?_)
  (refine ev_ieql tab_ok rfl rfl rfl rfl ?_)
  (refine ev_pickT tab_ok rfl rfl rfl rfl rfl ?_)
  refine ev_move tab_ok rfl rfl rfl ?_
  (refine ev_call rfl rfl rfl rfl rfl (treeP_spec) rfl ?_)
  (refine ev_buildSlice tab_ok rfl rfl rfl rfl rfl rfl rfl rfl rfl rfl rfl rfl rfl rfl (by constructor) ?_)
  (refine ev_call rfl rfl rfl rfl rfl (byAccessT_spec) rfl ?_)
  (refine ev_buildSlice tab_ok rfl rfl rfl rfl rfl rfl rfl rfl rfl rfl rfl rfl rfl rfl (by constructor) ?_)
  (refine ev_call rfl rfl rfl rfl rfl (equal_spec [pC, pDB, pA] [pC, pDB, pA]) rfl ?_)
  try refine ev_as (show _ = PV.s (.bool true) by rw [hs]) ?_
  (refine ev_pickT tab_ok rfl rfl rfl rfl rfl ?_)
  refine ev_assign tab_ok rfl rfl rfl ?_
  refine ev_nil ?_ rfl
  refine awp_ret ?_
  exact ⟨_, [], rfl, .frz rfl, cut_of (by decide) .nil, keep0⟩
end Go.Proofs.Pm
end

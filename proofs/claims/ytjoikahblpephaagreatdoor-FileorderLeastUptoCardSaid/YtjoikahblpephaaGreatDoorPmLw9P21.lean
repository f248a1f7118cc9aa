/- A part of the proof of one law: the machine on pure values and the walks of functions. -/
import Derived.Test.YtjoikahblpephaaGreatDoorPmLw9P19
import Derived.Test.YtjoikahblpephaaGreatDoorPmLw9P20
set_option linter.all false
section
namespace Go.Proofs.Pm
open Go
theorem decA_le (n A0 A1 A2 A3 : Nat) : (decA n A0 A1 A2 A3).1 ≤ 1114111 := by
  unfold decA
  simp only [Utf8.valid, Bool.or_eq_true, Bool.and_eq_true, decide_eq_true_eq]
  repeat' split
  all_goals (simp only; omega)
theorem decA_pos (n A0 A1 A2 A3 : Nat) : 1 ≤ (decA n A0 A1 A2 A3).2 := by
  unfold decA
  repeat' split
  all_goals simp
theorem decodeGo_pos (s : B) (h : 0 < s.size) : 1 ≤ (Lib.decodeGo s).2 := by
  rw [show Lib.decodeGo s = Utf8.decode s 0 by rw [Lib.decodeGo, if_neg (by omega)], decode_decA]
  exact decA_pos _ _ _ _ _
theorem decodeGo_le (s : B) : (Lib.decodeGo s).1 ≤ 1114111 := by
  unfold Lib.decodeGo
  split
  · simp
  · rw [decode_decA]; exact decA_le _ _ _ _ _
theorem charP_spec (n : Int) : FCall Tryz.prog 167 [.s (.int .i64 n)] [] (.s (.bool (char17 n))) [] := by
  refine fcall_intro tab_ok Tryz.call167 Tryz.func167 rfl rfl rfl (fun G w ι => ?_)
  refine awp_seq ?_
  refine awp_reg ?_
  refine ev_assign tab_ok rfl rfl rfl ?_
  refine ev_nil ?_ rfl
  refine awp_seq_to ⟨[(2, .s (.bool (char17 n)))], []⟩ ?_ ?_
  · refine awp_reg ?_
    all_goals refine ev_move tab_ok rfl rfl rfl ?_
    all_goals refine ev_igeq tab_ok rfl rfl rfl rfl ?_
    all_goals refine ev_move tab_ok rfl rfl rfl ?_
    all_goals ((refine ev_split rfl rfl rfl (fun hg => ?_) (fun hg => ?_) <;> (first | refine ev_skip rfl rfl ?_ | refine ev_move tab_ok rfl rfl rfl ?_)))
    all_goals (first | refine ev_skip rfl rfl ?_ | refine ev_ileq tab_ok rfl rfl rfl rfl ?_)
    all_goals (first | refine ev_pickT tab_ok rfl rfl rfl rfl rfl ?_ | refine ev_pickF tab_ok rfl rfl rfl rfl rfl ?_)
    all_goals refine ev_move tab_ok rfl rfl rfl ?_
    all_goals (first | refine ev_skip rfl rfl ?_ | (refine ev_split rfl rfl rfl (fun hg => ?_) (fun hg => ?_) <;> (first | refine ev_skip rfl rfl ?_ | refine ev_move tab_ok rfl rfl rfl ?_)))
    all_goals (first | refine ev_skip rfl rfl ?_ | refine ev_ilss tab_ok rfl rfl rfl rfl ?_)
    all_goals (first | refine ev_skip rfl rfl ?_ | refine ev_move tab_ok rfl rfl rfl ?_)
    all_goals (first | refine ev_skip rfl rfl ?_ | (refine ev_split rfl rfl rfl (fun hg => ?_) (fun hg => ?_) <;> (first | refine ev_skip rfl rfl ?_ | refine ev_move tab_ok rfl rfl rfl ?_)))
    all_goals (first | refine ev_skip rfl rfl ?_ | refine ev_igtr tab_ok rfl rfl rfl rfl ?_)
    all_goals (first | refine ev_skip rfl rfl ?_ | refine ev_pickT tab_ok rfl rfl rfl rfl rfl ?_ | refine ev_pickF tab_ok rfl rfl rfl rfl rfl ?_)
    all_goals (first | refine ev_pickT tab_ok rfl rfl rfl rfl rfl ?_ | refine ev_pickF tab_ok rfl rfl rfl rfl rfl ?_)
    all_goals refine ev_assign tab_ok rfl rfl rfl ?_
    all_goals refine ev_nil ?_ rfl
    all_goals (refine ⟨[], le_of (by decide) .nil (EnvLe.cons rfl (Mv.bool ?_) trivial), keep0⟩; first | (simp_all [char17]; done) | (simp_all [char17]; omega))
  · refine awp_ret ?_
    exact ⟨_, [], rfl, .frz rfl, cut_of (by decide) .nil, keep0⟩
theorem charsP_spec (s : B) : FCall Tryz.prog 159 [.s (.string s)] [] (.tup [.list (intL (chars17 s).1), .s (.int .i64 (chars17 s).2)]) [] := by
  refine fcall_intro tab_ok Tryz.call159 Tryz.func159 rfl rfl rfl (fun G w ι => ?_)
  refine awp_seq ?_
  refine awp_reg ?_
  refine ev_assign tab_ok rfl rfl rfl ?_
  refine ev_assign tab_ok rfl rfl rfl ?_
  refine ev_nil ?_ rfl
  refine awp_seq ?_
  refine awp_seq ?_
  refine awp_reg ?_
  refine ev_move tab_ok rfl rfl rfl ?_
  (refine ev_lenS tab_ok rfl rfl rfl rfl rfl rfl ?_)
  refine ev_igtr tab_ok rfl rfl rfl rfl ?_
  refine ev_nil ?_ rfl
  refine awp_cond rfl (fun hc => ?_) (fun hc => ?_)
  · refine awp_seq ?_
    refine awp_reg ?_
    refine ev_assign tab_ok rfl rfl rfl ?_
    refine ev_assign tab_ok rfl rfl rfl ?_
    refine ev_nil ?_ rfl
    refine awp_ret ?_
    have hc : 65536 < s.size := by
      have : (65536 : Int) < s.size := by simpa using hc
      omega
    refine ⟨_, [], rfl, ?_, cut_of (by decide) .nil, keep0⟩
    rw [chars17, if_pos hc]
    exact .tupL (.cons .nilL (.cons (.frz rfl) .nil))
  · have hsz : s.size ≤ 65536 := by
      have : ¬ (65536 : Int) < s.size := by simpa using hc
      omega
    refine awp_skip ?_
    refine awp_seq ?_
    refine awp_reg ?_
    refine ev_move tab_ok rfl rfl rfl ?_
    (refine ev_lenS tab_ok rfl rfl rfl rfl rfl rfl ?_)
    refine ev_makeSlice tab_ok rfl rfl rfl rfl rfl rfl rfl rfl rfl (by constructor) (by (show 8 * _ ≤ _; omega)) (by omega) ?_
    refine ev_assign tab_ok rfl rfl rfl ?_
    refine ev_nil ?_ rfl
    refine awp_seq ?_
    refine awp_block ?_
    refine awp_loop (fun x : Nat × List Int × B => ⟨[(4, .row (intL x.2.1) 0), (0, .s (.string x.2.2))], [.row x.2.1.length 1 3]⟩) (fun x => x.2.2.size ≤ x.1 ∧ x.1 ≤ s.size ∧ x.2.1.length + x.1 ≤ s.size ∧ (charsAux x.1 x.2.2).map (x.2.1 ++ ·) = charsAux s.size s) (fun x => x.1) (s.size, [], s) [0] ?_ ⟨Nat.le_refl _, Nat.le_refl _, by simp, by simp⟩ keep0 (fun x hx => ?_)
    · all_goals (try refine le_of (by decide) ?_ ?_)
      repeat' (first | exact trivial | exact .nil | (refine CutL.cons rfl ?_ ?_) | (refine EnvLe.cons rfl ?_ ?_) | exact MvS.row | exact .row rfl | exact .frz rfl | fail)
      all_goals (try simp only [wrap_addL, wrap_addR, wrap_subL, wrap_subR]); all_goals (try (rw [wrap_i64 (by omega) (by omega)]; omega))
    obtain ⟨f, ac, t⟩ := x
    obtain ⟨h1, h2, h3, h4⟩ := hx
    simp only at h1 h2 h3 h4
    change AWp _ _ _ ⟨[(4, .row (intL ac) 0), (0, .s (.string t))], [.row ac.length 1 3]⟩ _
    refine awp_seq ?_
    refine awp_seq ?_
    refine awp_reg ?_
    refine ev_move tab_ok rfl rfl rfl ?_
    (refine ev_lenS tab_ok rfl rfl rfl rfl rfl rfl ?_)
    refine ev_igtr tab_ok rfl rfl rfl rfl ?_
    refine ev_nil ?_ rfl
    refine awp_cond rfl (fun hc => ?_) (fun hc => ?_)
    · refine awp_skip ?_
      have hc : 0 < t.size := by
        have : (0 : Int) < t.size := by simpa using hc
        omega
      obtain ⟨f, rfl⟩ : ∃ g, f = g + 1 := ⟨f - 1, by omega⟩
      have hdl := decodeGo_le t
      have hdf := decode_first t hc
      obtain ⟨k, k1, k2, k3⟩ := firstR_range t
      rw [charsAux, if_neg (by omega)] at h4
      refine awp_block ?_
      refine awp_seq ?_
      refine awp_reg ?_
      refine ev_move tab_ok rfl rfl rfl ?_
      refine ev_call rfl rfl rfl rfl rfl (decode_spec t) rfl ?_
      refine ev_move tab_ok rfl rfl rfl ?_
      refine ev_extract tab_ok rfl rfl rfl rfl ?_
      refine ev_extract tab_ok rfl rfl rfl rfl ?_
      refine ev_assign tab_ok rfl rfl rfl ?_
      refine ev_assign tab_ok rfl rfl rfl ?_
      refine ev_nil ?_ rfl
      have ew : IntKind.i64.wrap ((Lib.decodeGo t).1 : Int) = (Lib.decodeGo t).1 := wrap_i64 (by omega) (by omega)
      refine awp_seq ?_
      refine awp_seq_to ⟨[(32, .s (.bool (badC t))), (5, .s (.int .i32 (Lib.decodeGo t).1)), (6, .s (.int .i64 (Lib.decodeGo t).2)), (4, .row (intL ac) 0), (0, .s (.string t))], [.row ac.length 1 3]⟩ ?_ ?_
      · cases hz : !char17 (Lib.decodeGo t).1
        · cases hy : (((Lib.decodeGo t).1 : Int) == 65533)
          all_goals
            refine awp_reg ?_
            refine ev_move tab_ok rfl rfl rfl ?_
            (refine ev_conv tab_ok rfl rfl rfl rfl rfl rfl rfl rfl ?_)
            try refine ev_as (by rw [ew]) ?_
            refine ev_call rfl rfl rfl rfl rfl (charP_spec _) rfl ?_
            refine ev_not tab_ok rfl rfl rfl ?_
            try refine ev_is (congrArg Value.bool (hz)) ?_
            refine ev_move tab_ok rfl rfl rfl ?_
            (refine ev_move tab_ok rfl rfl rfl ?_)
            (refine ev_ieql tab_ok rfl rfl rfl rfl ?_)
            try refine ev_is (congrArg Value.bool (hy)) ?_
            (refine ev_move tab_ok rfl rfl rfl ?_)
            (first | refine ev_skip rfl rfl ?_ | refine ev_move tab_ok rfl rfl rfl ?_)
            (first | refine ev_skip rfl rfl ?_ | refine ev_ieql tab_ok rfl rfl rfl rfl ?_)
            (first | refine ev_pickT tab_ok rfl rfl rfl rfl rfl ?_ | refine ev_pickF tab_ok rfl rfl rfl rfl rfl ?_)
            (refine ev_pickF tab_ok rfl rfl rfl rfl rfl ?_)
            refine ev_nil ?_ rfl
            refine ⟨[0], ?_, keep0⟩
            all_goals (try refine le_of (by decide) ?_ ?_)
            repeat' (first | exact trivial | exact .nil | (refine CutL.cons rfl ?_ ?_) | (refine EnvLe.cons rfl ?_ ?_) | exact MvS.row | exact .row rfl | exact .frz rfl | (refine Mv.bool ?_) | fail)
            all_goals (try simp only [wrap_addL, wrap_addR, wrap_subL, wrap_subR]); all_goals (try (rw [wrap_i64 (by omega) (by omega)]; omega))
            all_goals (unfold badC; rw [hz, hy]; simp)
        · refine awp_reg ?_
          refine ev_move tab_ok rfl rfl rfl ?_
          (refine ev_conv tab_ok rfl rfl rfl rfl rfl rfl rfl rfl ?_)
          try refine ev_as (by rw [ew]) ?_
          refine ev_call rfl rfl rfl rfl rfl (charP_spec _) rfl ?_
          refine ev_not tab_ok rfl rfl rfl ?_
          try refine ev_is (congrArg Value.bool (hz)) ?_
          refine ev_move tab_ok rfl rfl rfl ?_
          (refine ev_skip rfl rfl ?_)
          (refine ev_skip rfl rfl ?_)
          (refine ev_skip rfl rfl ?_)
          (refine ev_skip rfl rfl ?_)
          (refine ev_skip rfl rfl ?_)
          (refine ev_skip rfl rfl ?_)
          (refine ev_pickT tab_ok rfl rfl rfl rfl rfl ?_)
          refine ev_nil ?_ rfl
          refine ⟨[0], ?_, keep0⟩
          all_goals (try refine le_of (by decide) ?_ ?_)
          repeat' (first | exact trivial | exact .nil | (refine CutL.cons rfl ?_ ?_) | (refine EnvLe.cons rfl ?_ ?_) | exact MvS.row | exact .row rfl | exact .frz rfl | (refine Mv.bool ?_) | fail)
          all_goals (try simp only [wrap_addL, wrap_addR, wrap_subL, wrap_subR]); all_goals (try (rw [wrap_i64 (by omega) (by omega)]; omega))
          all_goals (unfold badC; rw [hz]; simp)
      refine awp_cond rfl (fun hc => ?_) (fun hc => ?_)
      · have hk : (firstR t).2 = 0 := by
          rcases hdf with ⟨_, h⟩ | ⟨h, _⟩
          · rw [h]
          · rw [hc] at h; cases h
        rw [if_pos hk] at h4
        refine awp_seq ?_
        refine awp_reg ?_
        refine ev_assign tab_ok rfl rfl rfl ?_
        refine ev_assign tab_ok rfl rfl rfl ?_
        refine ev_nil ?_ rfl
        refine awp_ret ?_
        refine ⟨_, [], rfl, ?_, cut_of (by decide) .nil, keep0⟩
        rw [chars17, if_neg (by omega), ← h4]
        exact .tupL (.cons .nilL (.cons (.frz rfl) .nil))
      · have hfr : firstR t = (((Lib.decodeGo t).1 : Int), ((Lib.decodeGo t).2 : Int)) := by
          rcases hdf with ⟨h, _⟩ | ⟨_, h⟩
          · rw [hc] at h; cases h
          · exact h
        have hk1 : (Lib.decodeGo t).2 = k := by
          have : (firstR t).2 = (Lib.decodeGo t).2 := by rw [hfr]
          omega
        have hk : ¬ (firstR t).2 = 0 := by
          have := decodeGo_pos t (by omega)
          rw [hfr]
          show ¬ ((Lib.decodeGo t).2 : Int) = 0
          omega
        rw [if_neg hk] at h4
        refine awp_skip ?_
        refine awp_seq ?_
        refine awp_reg ?_
        refine ev_move tab_ok rfl rfl rfl ?_
        refine ev_move tab_ok rfl rfl rfl ?_
        (refine ev_conv tab_ok rfl rfl rfl rfl rfl rfl rfl rfl ?_)
        try refine ev_as (by rw [ew]) ?_
        refine ev_buildSlice tab_ok rfl rfl rfl rfl rfl rfl rfl rfl rfl rfl rfl rfl rfl rfl (by constructor) ?_
        (refine ev_append tab_ok rfl rfl rfl rfl rfl rfl rfl rfl rfl rfl rfl rfl rfl rfl (by repeat constructor) (by (simp [strL_length, intL_length]; done)) (by exact one_len _) (by exact intL_len _) (by (simp only [strL_length, intL_length, List.length_append, List.length_cons, List.length_nil]; omega)) (by (simp only [strL_length, intL_length, List.length_append, List.length_cons, List.length_nil]; omega)) ?_)
        refine ev_assign tab_ok rfl rfl rfl ?_
        refine ev_nil ?_ rfl
        refine awp_reg ?_
        refine ev_move tab_ok rfl rfl rfl ?_
        refine ev_move tab_ok rfl rfl rfl ?_
        (refine ev_slS0 tab_ok rfl rfl rfl rfl rfl rfl rfl (by omega) (by omega) ?_)
        refine ev_assign tab_ok rfl rfl rfl ?_
        refine ev_nil ?_ rfl
        refine ⟨(f, ac ++ [(firstR t).1], t.extract (firstR t).2.toNat t.size), [0], ?_, by show f < f + 1; omega, ⟨?_, by show f ≤ _; omega, ?_, ?_⟩, keep0⟩
        · all_goals (try refine le_of (by decide) ?_ ?_)
          repeat' (first | exact trivial | exact .nil | (refine CutL.cons rfl ?_ ?_) | (refine EnvLe.cons rfl ?_ ?_) | (refine Mv.rowE rfl ?_) | (refine MvS.rowE ?_) | (refine Mv.str ?_))
          all_goals (try simp only [wrap_addL, wrap_addR, wrap_subL, wrap_subR]); all_goals (try (rw [wrap_i64 (by omega) (by omega)]; omega))
          all_goals simp [intL, hfr]
        · show (t.extract (firstR t).2.toNat t.size).size ≤ f
          rw [k1]; simp [ByteArray.size_extract]; omega
        · show (ac ++ [(firstR t).1]).length + f ≤ _
          simp; omega
        · rw [← h4, Option.map_map]
          congr 1
          funext l
          simp
    · refine awp_exit ?_
      have ht0 : t.size = 0 := by
        have : ¬ (0 : Int) < t.size := by simpa using hc
        omega
      refine awp_seq ?_
      refine awp_reg ?_
      refine ev_move tab_ok rfl rfl rfl ?_
      refine ev_assign tab_ok rfl rfl rfl ?_
      refine ev_assign tab_ok rfl rfl rfl ?_
      refine ev_nil ?_ rfl
      refine awp_ret ?_
      refine ⟨_, [], rfl, ?_, cut_of (by decide) .nil, keep0⟩
      have e : charsAux f t = some [] := by
        cases f with
        | zero => rfl
        | succ f => rw [charsAux, if_pos ht0]
      rw [e] at h4
      simp only [Option.map_some, List.append_nil] at h4
      rw [chars17, if_neg (by omega), ← h4]
      exact .tupL (.cons (.rowL rfl) (.cons (.frz rfl) .nil))
end Go.Proofs.Pm
end
section
namespace Go.Proofs.Pm
open Go
theorem charsAux_size : ∀ (f : Nat) (t : B) (l : List Int), charsAux f t = some l → t.size ≤ f → t.size ≤ 3 * l.length
  | 0, t, l, _, h => by omega
  | f + 1, t, l, h, hf => by
    rw [charsAux] at h
    split at h
    · omega
    · split at h
      · cases h
      · rename_i h1 h2
        obtain ⟨r, hr, rfl⟩ := Option.map_eq_some_iff.1 h
        obtain ⟨k, k1, k2, k3⟩ := firstR_range t
        have hs : (t.extract (firstR t).2.toNat t.size).size = t.size - k := by rw [k1]; simp [ByteArray.size_extract]
        have := charsAux_size f _ r hr (by rw [hs]; omega)
        rw [hs] at this
        simp; omega
def nameP (s : B) : Bool := !(dotS s || slashIn s) && ((chars17 s).2 == 0 && decide (1 ≤ ((chars17 s).1.length : Int)) && decide (((chars17 s).1.length : Int) ≤ 64))
theorem nameP_eq (s : B) : nameP s = name18 s := by
  unfold nameP name18
  cases hd : dotS s
  · cases hs : slashIn s
    · cases hl : decide (300 < (s.size : Int))
      · rfl
      · have h300 : (300 : Int) < s.size := of_decide_eq_true hl
        have : ((chars17 s).2 == 0 && decide (1 ≤ ((chars17 s).1.length : Int)) && decide (((chars17 s).1.length : Int) ≤ 64)) = false := by
          unfold chars17
          split
          · simp
          · split
            · rename_i l hc
              have := charsAux_size _ _ _ hc (Nat.le_refl _)
              simp only [Bool.and_eq_false_iff, decide_eq_false_iff_not]
              right
              omega
            · simp
        rw [this]; rfl
    · simp
  · simp
theorem nameP_spec (s : B) : FCall Tryz.prog 143 [.s (.string s)] [] (.s (.bool (name18 s))) [] := by
  refine fcall_intro tab_ok Tryz.call143 Tryz.func143 rfl rfl rfl (fun G w ι => ?_)
  refine awp_seq ?_
  refine awp_reg ?_
  refine ev_assign tab_ok rfl rfl rfl ?_
  refine ev_nil ?_ rfl
  refine awp_seq ?_
  refine awp_seq_to ⟨[(14, .s (.bool (dotS s || slashIn s))), (0, .s (.string s))], []⟩ ?_ ?_
  · cases h1 : (s.toList == (ByteArray.mk #[46]).toList) <;> cases h2 : (s.toList == (ByteArray.mk #[46, 46]).toList)
    all_goals
      refine awp_reg ?_
      refine ev_move tab_ok rfl rfl rfl ?_
      (refine ev_seql tab_ok rfl rfl rfl rfl ?_)
      try refine ev_is (congrArg Value.bool (h1)) ?_
      refine ev_move tab_ok rfl rfl rfl ?_
      (first | refine ev_skip rfl rfl ?_ | refine ev_move tab_ok rfl rfl rfl ?_)
      (first | refine ev_skip rfl rfl ?_ | refine ev_seql tab_ok rfl rfl rfl rfl ?_)
      try refine ev_is (congrArg Value.bool (h2)) ?_
      (first | refine ev_pickT tab_ok rfl rfl rfl rfl rfl ?_ | refine ev_pickF tab_ok rfl rfl rfl rfl rfl ?_)
      refine ev_move tab_ok rfl rfl rfl ?_
      (first | refine ev_skip rfl rfl ?_ | refine ev_move tab_ok rfl rfl rfl ?_)
      (first | refine ev_skip rfl rfl ?_ | refine ev_call rfl rfl rfl rfl rfl (contains_slash s) rfl ?_)
      (first | refine ev_pickT tab_ok rfl rfl rfl rfl rfl ?_ | refine ev_pickF tab_ok rfl rfl rfl rfl rfl ?_)
      refine ev_nil ?_ rfl
      refine ⟨[], ?_, keep0⟩
      all_goals (try refine le_of (by decide) ?_ ?_)
      repeat' (first | exact trivial | exact .nil | (refine EnvLe.cons rfl ?_ ?_) | exact .frz rfl | (refine Mv.bool ?_) | fail)
      all_goals (try simp only [wrap_addL, wrap_addR, wrap_subL, wrap_subR]); all_goals (try (rw [wrap_i64 (by omega) (by omega)]; omega))
      all_goals (unfold dotS; rw [h1, h2]; rfl)
  refine awp_cond rfl (fun hc => ?_) (fun hc => ?_)
  · refine awp_seq ?_
    refine awp_reg ?_
    refine ev_assign tab_ok rfl rfl rfl ?_
    refine ev_nil ?_ rfl
    refine awp_ret ?_
    exact ⟨_, [], rfl, Mv.bool (by rw [← nameP_eq, nameP, hc]; rfl), cut_of (by decide) .nil, keep0⟩
  · refine awp_skip ?_
    refine awp_seq ?_
    refine awp_reg ?_
    refine ev_move tab_ok rfl rfl rfl ?_
    refine ev_call rfl rfl rfl rfl rfl (charsP_spec s) rfl ?_
    refine ev_move tab_ok rfl rfl rfl ?_
    refine ev_extract tab_ok rfl rfl rfl rfl ?_
    refine ev_extract tab_ok rfl rfl rfl rfl ?_
    refine ev_assign tab_ok rfl rfl rfl ?_
    refine ev_assign tab_ok rfl rfl rfl ?_
    refine ev_nil ?_ rfl
    refine awp_seq_to ⟨[(2, .s (.bool (name18 s)))], []⟩ ?_ ?_
    · cases h1 : ((chars17 s).2 == 0) <;> cases h2 : decide (1 ≤ ((intL (chars17 s).1).length : Int))
      all_goals
        refine awp_reg ?_
        refine ev_move tab_ok rfl rfl rfl ?_
        (refine ev_ieql tab_ok rfl rfl rfl rfl ?_)
        try refine ev_is (congrArg Value.bool (h1)) ?_
        refine ev_move tab_ok rfl rfl rfl ?_
        (first | refine ev_skip rfl rfl ?_ | refine ev_move tab_ok rfl rfl rfl ?_)
        (first | refine ev_skip rfl rfl ?_ | refine ev_lenL tab_ok rfl rfl rfl rfl rfl rfl ?_)
        (first | refine ev_skip rfl rfl ?_ | refine ev_igeq tab_ok rfl rfl rfl rfl ?_)
        try refine ev_is (congrArg Value.bool (h2)) ?_
        (first | refine ev_pickT tab_ok rfl rfl rfl rfl rfl ?_ | refine ev_pickF tab_ok rfl rfl rfl rfl rfl ?_)
        refine ev_move tab_ok rfl rfl rfl ?_
        (first | refine ev_skip rfl rfl ?_ | refine ev_move tab_ok rfl rfl rfl ?_)
        (first | refine ev_skip rfl rfl ?_ | refine ev_lenL tab_ok rfl rfl rfl rfl rfl rfl ?_)
        (first | refine ev_skip rfl rfl ?_ | refine ev_ileq tab_ok rfl rfl rfl rfl ?_)
        (first | refine ev_pickT tab_ok rfl rfl rfl rfl rfl ?_ | refine ev_pickF tab_ok rfl rfl rfl rfl rfl ?_)
        refine ev_assign tab_ok rfl rfl rfl ?_
        refine ev_nil ?_ rfl
        refine ⟨[], ?_, keep0⟩
        all_goals (try refine le_of (by decide) ?_ ?_)
        repeat' (first | exact trivial | exact .nil | (refine EnvLe.cons rfl ?_ ?_) | (refine Mv.bool ?_) | fail)
        all_goals (try simp only [wrap_addL, wrap_addR, wrap_subL, wrap_subR]); all_goals (try (rw [wrap_i64 (by omega) (by omega)]; omega))
        all_goals
          rw [intL_length] at h2
          rw [← nameP_eq, nameP, hc, h1, h2]
          simp [intL_length]
    refine awp_ret ?_
    exact ⟨_, [], rfl, .frz rfl, cut_of (by decide) .nil, keep0⟩
theorem targetP_spec (s : B) : FCall Tryz.prog 144 [.s (.string s)] [] (.s (.bool (target18 s))) [] := by
  refine fcall_intro tab_ok Tryz.call144 Tryz.func144 rfl rfl rfl (fun G w ι => ?_)
  refine awp_seq ?_
  refine awp_reg ?_
  refine ev_assign tab_ok rfl rfl rfl ?_
  refine ev_nil ?_ rfl
  refine awp_seq ?_
  refine awp_seq_to ⟨[(12, .s (.bool (decide (s.size < 1) || decide (128 < s.size)))), (0, .s (.string s))], []⟩ ?_ ?_
  · refine awp_reg ?_
    all_goals refine ev_move tab_ok rfl rfl rfl ?_
    all_goals (refine ev_lenS tab_ok rfl rfl rfl rfl rfl rfl ?_)
    all_goals (refine ev_ilss tab_ok rfl rfl rfl rfl ?_)
    all_goals refine ev_move tab_ok rfl rfl rfl ?_
    all_goals ((refine ev_split rfl rfl rfl (fun hg => ?_) (fun hg => ?_) <;> (first | refine ev_skip rfl rfl ?_ | refine ev_move tab_ok rfl rfl rfl ?_)))
    all_goals (first | refine ev_skip rfl rfl ?_ | refine ev_lenS tab_ok rfl rfl rfl rfl rfl rfl ?_)
    all_goals (first | refine ev_skip rfl rfl ?_ | refine ev_igtr tab_ok rfl rfl rfl rfl ?_)
    all_goals (first | refine ev_pickT tab_ok rfl rfl rfl rfl rfl ?_ | refine ev_pickF tab_ok rfl rfl rfl rfl rfl ?_)
    all_goals refine ev_nil ?_ rfl
    all_goals (refine ⟨[], le_of (by decide) .nil (EnvLe.cons rfl (Mv.bool ?_) (EnvLe.cons rfl (.frz rfl) trivial)), keep0⟩)
    · have h3 : s.size < 1 := by
        have : (s.size : Int) < 1 := of_decide_eq_true hg
        omega
      rw [decide_eq_true h3]; rfl
    · have h3 : ¬ s.size < 1 := by
        have : ¬ (s.size : Int) < 1 := of_decide_eq_false hg
        omega
      rw [decide_eq_false h3, Bool.false_or, decide_eq_decide]
      omega
  refine awp_cond rfl (fun hc => ?_) (fun hc => ?_)
  · refine awp_seq ?_
    refine awp_reg ?_
    refine ev_assign tab_ok rfl rfl rfl ?_
    refine ev_nil ?_ rfl
    refine awp_ret ?_
    exact ⟨_, [], rfl, Mv.bool (by rw [target18, hc]; rfl), cut_of (by decide) .nil, keep0⟩
  · have hs : 1 ≤ s.size ∧ s.size ≤ 128 := by
      simp only [Bool.or_eq_false_iff, decide_eq_false_iff_not] at hc
      omega
    have ht : target18 s = ((s.toList == (ByteArray.mk #[47]).toList) || !((split18 (tail18 s) 47).any partBad)) := by rw [target18, hc]; rfl
    have hts : (tail18 s).size ≤ 128 := by
      unfold tail18
      split
      · simp [ByteArray.size_extract]; omega
      · omega
    have hpl : (split18 (tail18 s) 47).length ≤ 129 := by
      have := splitAux_length 47 (tail18 s).data.toList ⟨#[]⟩
      have e : (tail18 s).data.toList.length = (tail18 s).size := by simp
      unfold split18; omega
    refine awp_skip ?_
    refine awp_seq ?_
    refine awp_seq ?_
    refine awp_reg ?_
    refine ev_move tab_ok rfl rfl rfl ?_
    (refine ev_seql tab_ok rfl rfl rfl rfl ?_)
    refine ev_nil ?_ rfl
    refine awp_cond rfl (fun hc => ?_) (fun hc => ?_)
    · refine awp_seq ?_
      refine awp_reg ?_
      refine ev_assign tab_ok rfl rfl rfl ?_
      refine ev_nil ?_ rfl
      refine awp_ret ?_
      exact ⟨_, [], rfl, Mv.bool (by rw [ht, hc]; rfl), cut_of (by decide) .nil, keep0⟩
    · rw [hc, Bool.false_or] at ht
      refine awp_skip ?_
      refine awp_seq ?_
      refine awp_seq ?_
      refine awp_reg ?_
      refine ev_move tab_ok rfl rfl rfl ?_
      refine ev_call rfl rfl rfl rfl rfl (trimPrefix_spec s) rfl ?_
      refine ev_call rfl rfl rfl rfl rfl (splitS_spec (tail18 s) (by omega)) rfl ?_
      (refine ev_lenL tab_ok rfl rfl rfl rfl rfl rfl ?_)
      refine ev_move tab_ok rfl rfl rfl ?_
      refine ev_nil ?_ rfl
      generalize split18 (tail18 s) 47 = ps at *
      refine awp_block ?_
      refine awp_loop (fun i : Nat => ⟨[(19, .s (.int .i64 i)), (18, .s (.int .i64 ps.length)), (17, .list (strL ps))], []⟩) (fun i => i ≤ ps.length ∧ ∀ (j : Nat) (h : j < ps.length), j < i → partBad ps[j] = false) (fun i => ps.length - i) 0 [] ?_ ⟨Nat.zero_le _, fun j _ h => by omega⟩ keep0 (fun i hi => ?_)
      · all_goals (try refine le_of (by decide) ?_ ?_)
        repeat' (first | exact trivial | exact .nil | (refine EnvLe.cons rfl ?_ ?_) | exact .frz rfl | (refine Mv.int ?_) | fail)
        all_goals (try simp only [wrap_addL, wrap_addR, wrap_subL, wrap_subR]); all_goals (try (rw [wrap_i64 (by omega) (by omega)]; omega))
        all_goals simp [strL_length]
      refine awp_seq ?_
      refine awp_reg ?_
      (refine ev_ilss tab_ok rfl rfl rfl rfl ?_)
      refine ev_nil ?_ rfl
      refine awp_seq ?_
      refine awp_cond rfl (fun hc => ?_) (fun hc => ?_)
      · refine awp_skip ?_
        have hlt : i < ps.length := by simpa using hc
        have hx : ps[i]? = some ps[i] := List.getElem?_eq_getElem hlt
        refine awp_seq ?_
        refine awp_block ?_
        refine awp_seq ?_
        refine awp_reg ?_
        (refine ev_iaL tab_ok rfl rfl rfl rfl rfl rfl rfl rfl rfl (by omega) (by rw [Int.toNat_natCast]; exact strL_get hx) rfl ?_)
        (refine ev_loadE tab_ok rfl rfl rfl rfl rfl rfl ?_)
        refine ev_assign tab_ok rfl rfl rfl ?_
        refine ev_nil ?_ rfl
        refine awp_seq_to ⟨[(33, .s (.bool (partBad ps[i]))), (19, .s (.int .i64 i)), (18, .s (.int .i64 ps.length)), (17, .list (strL ps))], []⟩ ?_ ?_
        · cases h1 : !(ps[i].toList == (ByteArray.mk #[46]).toList) <;> cases h2 : !(ps[i].toList == (ByteArray.mk #[46, 46]).toList)
          all_goals
            refine awp_reg ?_
            refine ev_move tab_ok rfl rfl rfl ?_
            (refine ev_sneq tab_ok rfl rfl rfl rfl ?_)
            try refine ev_is (congrArg Value.bool (h1)) ?_
            refine ev_move tab_ok rfl rfl rfl ?_
            (first | refine ev_skip rfl rfl ?_ | refine ev_move tab_ok rfl rfl rfl ?_)
            (first | refine ev_skip rfl rfl ?_ | refine ev_sneq tab_ok rfl rfl rfl rfl ?_)
            try refine ev_is (congrArg Value.bool (h2)) ?_
            (first | refine ev_pickT tab_ok rfl rfl rfl rfl rfl ?_ | refine ev_pickF tab_ok rfl rfl rfl rfl rfl ?_)
            refine ev_move tab_ok rfl rfl rfl ?_
            (first | refine ev_skip rfl rfl ?_ | refine ev_move tab_ok rfl rfl rfl ?_)
            (first | refine ev_skip rfl rfl ?_ | refine ev_call rfl rfl rfl rfl rfl (nameP_spec ps[i]) rfl ?_)
            (first | refine ev_skip rfl rfl ?_ | refine ev_not tab_ok rfl rfl rfl ?_)
            (first | refine ev_pickT tab_ok rfl rfl rfl rfl rfl ?_ | refine ev_pickF tab_ok rfl rfl rfl rfl rfl ?_)
            refine ev_nil ?_ rfl
            refine ⟨[], ?_, keep0⟩
            all_goals (try refine le_of (by decide) ?_ ?_)
            repeat' (first | exact trivial | exact .nil | (refine EnvLe.cons rfl ?_ ?_) | exact .frz rfl | (refine Mv.bool ?_) | fail)
            all_goals (try simp only [wrap_addL, wrap_addR, wrap_subL, wrap_subR]); all_goals (try (rw [wrap_i64 (by omega) (by omega)]; omega))
            all_goals (unfold partBad; rw [h1, h2]; rfl)
        refine awp_cond rfl (fun hc => ?_) (fun hc => ?_)
        · refine awp_seq ?_
          refine awp_reg ?_
          refine ev_assign tab_ok rfl rfl rfl ?_
          refine ev_nil ?_ rfl
          refine awp_ret ?_
          exact ⟨_, [], rfl, Mv.bool (by rw [ht, List.any_eq_true.2 ⟨_, List.getElem_mem hlt, hc⟩]; rfl), cut_of (by decide) .nil, keep0⟩
        · refine awp_skip ?_
          refine awp_reg ?_
          (refine ev_iadd tab_ok rfl rfl rfl rfl ?_)
          refine ev_move tab_ok rfl rfl rfl ?_
          refine ev_nil ?_ rfl
          refine ⟨i + 1, [], ?_, by omega, ⟨hlt, before_succ hlt hi.2 hc⟩, keep0⟩
          all_goals (try refine le_of (by decide) ?_ ?_)
          repeat' (first | exact trivial | exact .nil | (refine EnvLe.cons rfl ?_ ?_) | exact .frz rfl | (refine Mv.int ?_) | fail)
          all_goals (try simp only [wrap_addL, wrap_addR, wrap_subL, wrap_subR]); all_goals (try (rw [wrap_i64 (by omega) (by omega)]; omega))
      · refine awp_exit ?_
        have hge : i = ps.length := by
          have : ¬ i < ps.length := by simpa using hc
          omega
        subst hge
        refine awp_seq ?_
        refine awp_reg ?_
        refine ev_assign tab_ok rfl rfl rfl ?_
        refine ev_nil ?_ rfl
        refine awp_ret ?_
        have hany : ps.any partBad = false := by
          rw [List.any_eq_false]
          intro y hy
          obtain ⟨j, hj, rfl⟩ := List.getElem_of_mem hy
          simp [hi.2 j hj hj]
        exact ⟨_, [], rfl, Mv.bool (by rw [ht, hany]; rfl), cut_of (by decide) .nil, keep0⟩
def orderE (a b : B) : Int := if b.toList == a.toList then 5 else if less b a then 1 else 0
theorem orderE_spec (a b : B) : FCall Tryz.prog 146 [.s (.string a), .s (.string b)] [] (.s (.int .i64 (orderE a b))) [] := by
  have hc := compareBytes_spec (us a) (us b)
  have e0 : cmpS a b = 0 → orderE a b = 5 := fun h => by
    have : us a = us b := by
      rcases hc with ⟨_, h2⟩ | ⟨h1, _⟩ | ⟨h1, _⟩
      · exact h2
      · unfold cmpS at h; omega
      · unfold cmpS at h; omega
    rw [orderE, if_pos (beq_iff.2 (us_inj this.symm))]
  have e1 : cmpS a b = 1 → orderE a b = 1 := fun h => by
    have hl : us b < us a := by
      rcases hc with ⟨h1, _⟩ | ⟨h1, _⟩ | ⟨_, h2⟩
      · unfold cmpS at h; omega
      · unfold cmpS at h; omega
      · exact h2
    rw [orderE, if_neg (by rw [beq_iff]; intro e; rw [e] at hl; exact List.lt_irrefl _ hl), if_pos (less_iff.2 hl)]
  have e2 : cmpS a b ≠ 0 → cmpS a b ≠ 1 → orderE a b = 0 := fun h h' => by
    have hl : us a < us b := by
      rcases hc with ⟨h1, _⟩ | ⟨_, h2⟩ | ⟨h1, _⟩
      · exact absurd h1 h
      · exact h2
      · exact absurd h1 h'
    rw [orderE, if_neg (by rw [beq_iff]; intro e; rw [e] at hl; exact List.lt_irrefl _ hl), if_neg (by rw [less_iff]; exact fun h => List.lt_irrefl _ (List.lt_trans h hl))]
  refine fcall_intro tab_ok Tryz.call146 Tryz.func146 rfl rfl rfl (fun G w ι => ?_)
  refine awp_seq ?_
  refine awp_reg ?_
  refine ev_assign tab_ok rfl rfl rfl ?_
  refine ev_nil ?_ rfl
  refine awp_seq ?_
  refine awp_seq ?_
  refine awp_reg ?_
  refine ev_move tab_ok rfl rfl rfl ?_
  refine ev_move tab_ok rfl rfl rfl ?_
  refine ev_call rfl rfl rfl rfl rfl (compare_spec a b) rfl ?_
  refine ev_nil ?_ rfl
  refine awp_block ?_
  refine awp_seq ?_
  refine awp_reg ?_
  (refine ev_ieql tab_ok rfl rfl rfl rfl ?_)
  refine ev_assign tab_ok rfl rfl rfl ?_
  refine ev_nil ?_ rfl
  refine awp_cond rfl (fun hc => ?_) (fun h0 => ?_)
  · refine awp_seq ?_
    refine awp_reg ?_
    refine ev_assign tab_ok rfl rfl rfl ?_
    refine ev_nil ?_ rfl
    refine awp_ret ?_
    exact ⟨_, [], rfl, Mv.int (e0 (by simpa using hc)).symm, cut_of (by decide) .nil, keep0⟩
  · refine awp_seq ?_
    refine awp_reg ?_
    (refine ev_ieql tab_ok rfl rfl rfl rfl ?_)
    refine ev_assign tab_ok rfl rfl rfl ?_
    refine ev_nil ?_ rfl
    refine awp_cond rfl (fun hc => ?_) (fun h1 => ?_)
    · refine awp_seq ?_
      refine awp_reg ?_
      refine ev_assign tab_ok rfl rfl rfl ?_
      refine ev_nil ?_ rfl
      refine awp_ret ?_
      exact ⟨_, [], rfl, Mv.int (e1 (by simpa using hc)).symm, cut_of (by decide) .nil, keep0⟩
    · refine awp_skip ?_
      refine awp_seq ?_
      refine awp_reg ?_
      refine ev_assign tab_ok rfl rfl rfl ?_
      refine ev_nil ?_ rfl
      refine awp_ret ?_
      exact ⟨_, [], rfl, Mv.int (e2 (by simpa using h0) (by simpa using h1)).symm, cut_of (by decide) .nil, keep0⟩
def inR (n lo hi : Int) : Bool := decide (lo ≤ n) && decide (n ≤ hi)
theorem inR_spec (n lo hi : Int) : FCall Tryz.prog 145 [.s (.int .i64 n), .s (.int .i64 lo), .s (.int .i64 hi)] [] (.s (.bool (inR n lo hi))) [] := by
  refine fcall_intro tab_ok Tryz.call145 Tryz.func145 rfl rfl rfl (fun G w ι => ?_)
  refine awp_seq ?_
  refine awp_reg ?_
  refine ev_assign tab_ok rfl rfl rfl ?_
  refine ev_nil ?_ rfl
  refine awp_seq_to ⟨[(6, .s (.bool (inR n lo hi)))], []⟩ ?_ ?_
  · cases hz : decide (lo ≤ n)
    all_goals
      refine awp_reg ?_
      refine ev_move tab_ok rfl rfl rfl ?_
      refine ev_move tab_ok rfl rfl rfl ?_
      refine ev_igeq tab_ok rfl rfl rfl rfl ?_
      try refine ev_is (congrArg Value.bool (hz)) ?_
      refine ev_move tab_ok rfl rfl rfl ?_
      (first | refine ev_skip rfl rfl ?_ | refine ev_move tab_ok rfl rfl rfl ?_)
      (first | refine ev_skip rfl rfl ?_ | refine ev_move tab_ok rfl rfl rfl ?_)
      (first | refine ev_skip rfl rfl ?_ | refine ev_ileq tab_ok rfl rfl rfl rfl ?_)
      (first | refine ev_pickT tab_ok rfl rfl rfl rfl rfl ?_ | refine ev_pickF tab_ok rfl rfl rfl rfl rfl ?_)
      refine ev_assign tab_ok rfl rfl rfl ?_
      refine ev_nil ?_ rfl
      refine ⟨[], ?_, keep0⟩
      all_goals (try refine le_of (by decide) ?_ ?_)
      repeat' (first | exact trivial | exact .nil | (refine EnvLe.cons rfl ?_ ?_) | (refine Mv.bool ?_) | fail)
      all_goals (try simp only [wrap_addL, wrap_addR, wrap_subL, wrap_subR]); all_goals (try (rw [wrap_i64 (by omega) (by omega)]; omega))
      all_goals (unfold inR; rw [hz]; rfl)
  refine awp_ret ?_
  exact ⟨_, [], rfl, .frz rfl, cut_of (by decide) .nil, keep0⟩
def ruleC (x : Node) (level : Nat) : List PV := [.s (.string x.name), .s (.int .i64 x.kind), .s (.string x.data), .s (.string x.target), .s (.int .i64 x.mode), .s (.int .i64 x.uid), .s (.int .i64 x.gid), .s (.int .i64 x.time), .s (.int .i64 x.weight), .s (.int .i64 x.hidden), .list (kidsC x.kids), .list (x.streams.map strC), .s (.int .i64 level)]
theorem kindE_spec (x : Node) (level : Nat) : FCall Tryz.prog 119 [.agg (ruleC x level)] [] (.s (.int .i64 (if kindBad x level then 1 else 0))) [] := by
  refine fcall_intro tab_ok Tryz.call119 Tryz.func119 rfl rfl rfl (fun G w ι => ?_)
  refine awp_seq ?_
  refine awp_reg ?_
  refine ev_box rfl rfl rfl rfl (by constructor) ?_
  refine ev_assign tab_ok rfl rfl rfl ?_
  refine ev_nil ?_ rfl
  refine awp_seq ?_
  refine awp_seq_to ⟨[(23, .s (.bool (kindBad x level)))], []⟩ ?_ ?_
  · refine awp_reg ?_
    all_goals (refine ev_faB tab_ok rfl rfl rfl rfl rfl rfl rfl ?_)
    all_goals (refine ev_faB tab_ok rfl rfl rfl rfl rfl rfl rfl ?_)
    all_goals (refine ev_loadB tab_ok rfl rfl rfl rfl rfl rfl rfl ?_)
    all_goals (refine ev_ilss tab_ok rfl rfl rfl rfl ?_)
    all_goals refine ev_move tab_ok rfl rfl rfl ?_
    all_goals ((refine ev_split rfl rfl rfl (fun hg => ?_) (fun hg => ?_) <;> (first | refine ev_skip rfl rfl ?_ | refine ev_faB tab_ok rfl rfl rfl rfl rfl rfl rfl ?_)))
    all_goals (first | refine ev_skip rfl rfl ?_ | refine ev_faB tab_ok rfl rfl rfl rfl rfl rfl rfl ?_)
    all_goals (first | refine ev_skip rfl rfl ?_ | refine ev_loadB tab_ok rfl rfl rfl rfl rfl rfl rfl ?_)
    all_goals (first | refine ev_skip rfl rfl ?_ | refine ev_igtr tab_ok rfl rfl rfl rfl ?_)
    all_goals (first | refine ev_pickT tab_ok rfl rfl rfl rfl rfl ?_ | refine ev_pickF tab_ok rfl rfl rfl rfl rfl ?_)
    all_goals refine ev_move tab_ok rfl rfl rfl ?_
    all_goals (first | refine ev_skip rfl rfl ?_ | (refine ev_split rfl rfl rfl (fun hg => ?_) (fun hg => ?_) <;> (first | refine ev_skip rfl rfl ?_ | refine ev_faB tab_ok rfl rfl rfl rfl rfl rfl rfl ?_)))
    all_goals (first | refine ev_skip rfl rfl ?_ | refine ev_loadB tab_ok rfl rfl rfl rfl rfl rfl rfl ?_)
    all_goals (first | refine ev_skip rfl rfl ?_ | refine ev_ieql tab_ok rfl rfl rfl rfl ?_)
    all_goals (first | refine ev_skip rfl rfl ?_ | refine ev_move tab_ok rfl rfl rfl ?_)
    all_goals (first | refine ev_skip rfl rfl ?_ | (refine ev_split rfl rfl rfl (fun hg => ?_) (fun hg => ?_) <;> (first | refine ev_skip rfl rfl ?_ | refine ev_faB tab_ok rfl rfl rfl rfl rfl rfl rfl ?_)))
    all_goals (first | refine ev_skip rfl rfl ?_ | refine ev_faB tab_ok rfl rfl rfl rfl rfl rfl rfl ?_)
    all_goals (first | refine ev_skip rfl rfl ?_ | refine ev_loadB tab_ok rfl rfl rfl rfl rfl rfl rfl ?_)
    all_goals (first | refine ev_skip rfl rfl ?_ | refine ev_ineq tab_ok rfl rfl rfl rfl ?_)
    all_goals (first | refine ev_skip rfl rfl ?_ | refine ev_pickT tab_ok rfl rfl rfl rfl rfl ?_ | refine ev_pickF tab_ok rfl rfl rfl rfl rfl ?_)
    all_goals (first | refine ev_pickT tab_ok rfl rfl rfl rfl rfl ?_ | refine ev_pickF tab_ok rfl rfl rfl rfl rfl ?_)
    all_goals refine ev_nil ?_ rfl
    all_goals (refine ⟨[], le_of (by decide) .nil (EnvLe.cons rfl (Mv.bool ?_) trivial), keep0⟩; first | (simp_all [kindBad]; done) | (simp_all [kindBad]; omega))
  refine awp_cond rfl (fun hc => ?_) (fun hc => ?_)
  · refine awp_seq ?_
    refine awp_reg ?_
    refine ev_assign tab_ok rfl rfl rfl ?_
    refine ev_nil ?_ rfl
    refine awp_ret ?_
    exact ⟨_, [], rfl, Mv.int (by rw [hc]; rfl), cut_of (by decide) .nil, keep0⟩
  · refine awp_skip ?_
    refine awp_seq ?_
    refine awp_reg ?_
    refine ev_assign tab_ok rfl rfl rfl ?_
    refine ev_nil ?_ rfl
    refine awp_ret ?_
    exact ⟨_, [], rfl, Mv.int (by rw [hc]; rfl), cut_of (by decide) .nil, keep0⟩
theorem nameE_spec (x : Node) (level : Nat) : FCall Tryz.prog 120 [.agg (ruleC x level)] [] (.s (.int .i64 (if nameBad x level then 4 else 0))) [] := by
  refine fcall_intro tab_ok Tryz.call120 Tryz.func120 rfl rfl rfl (fun G w ι => ?_)
  refine awp_seq ?_
  refine awp_reg ?_
  refine ev_box rfl rfl rfl rfl (by constructor) ?_
  refine ev_assign tab_ok rfl rfl rfl ?_
  refine ev_nil ?_ rfl
  refine awp_seq ?_
  refine awp_seq_to ⟨[(23, .s (.bool (nameBad x level)))], []⟩ ?_ ?_
  · refine awp_reg ?_
    all_goals (refine ev_faB tab_ok rfl rfl rfl rfl rfl rfl rfl ?_)
    all_goals (refine ev_loadB tab_ok rfl rfl rfl rfl rfl rfl rfl ?_)
    all_goals (refine ev_ieql tab_ok rfl rfl rfl rfl ?_)
    all_goals refine ev_move tab_ok rfl rfl rfl ?_
    all_goals ((refine ev_split rfl rfl rfl (fun hg => ?_) (fun hg => ?_) <;> (first | refine ev_skip rfl rfl ?_ | refine ev_faB tab_ok rfl rfl rfl rfl rfl rfl rfl ?_)))
    all_goals (first | refine ev_skip rfl rfl ?_ | refine ev_faB tab_ok rfl rfl rfl rfl rfl rfl rfl ?_)
    all_goals (first | refine ev_skip rfl rfl ?_ | refine ev_loadB tab_ok rfl rfl rfl rfl rfl rfl rfl ?_)
    all_goals (first | refine ev_skip rfl rfl ?_ | refine ev_sneq tab_ok rfl rfl rfl rfl ?_)
    all_goals (first | refine ev_pickT tab_ok rfl rfl rfl rfl rfl ?_ | refine ev_pickF tab_ok rfl rfl rfl rfl rfl ?_)
    all_goals refine ev_move tab_ok rfl rfl rfl ?_
    all_goals (first | refine ev_faB tab_ok rfl rfl rfl rfl rfl rfl rfl ?_ | (refine ev_split rfl rfl rfl (fun hg => ?_) (fun hg => ?_) <;> (first | refine ev_skip rfl rfl ?_ | refine ev_faB tab_ok rfl rfl rfl rfl rfl rfl rfl ?_)))
    all_goals (first | refine ev_skip rfl rfl ?_ | refine ev_loadB tab_ok rfl rfl rfl rfl rfl rfl rfl ?_)
    all_goals (first | refine ev_skip rfl rfl ?_ | refine ev_igtr tab_ok rfl rfl rfl rfl ?_)
    all_goals (first | refine ev_skip rfl rfl ?_ | refine ev_move tab_ok rfl rfl rfl ?_)
    all_goals (first | refine ev_skip rfl rfl ?_ | (refine ev_split rfl rfl rfl (fun hg => ?_) (fun hg => ?_) <;> (first | refine ev_skip rfl rfl ?_ | refine ev_faB tab_ok rfl rfl rfl rfl rfl rfl rfl ?_)))
    all_goals (first | refine ev_skip rfl rfl ?_ | refine ev_faB tab_ok rfl rfl rfl rfl rfl rfl rfl ?_)
    all_goals (first | refine ev_skip rfl rfl ?_ | refine ev_loadB tab_ok rfl rfl rfl rfl rfl rfl rfl ?_)
    all_goals (first | refine ev_skip rfl rfl ?_ | refine ev_call rfl rfl rfl rfl rfl (nameP_spec x.name) rfl ?_)
    all_goals (first | refine ev_skip rfl rfl ?_ | refine ev_not tab_ok rfl rfl rfl ?_)
    all_goals (first | refine ev_skip rfl rfl ?_ | refine ev_pickT tab_ok rfl rfl rfl rfl rfl ?_ | refine ev_pickF tab_ok rfl rfl rfl rfl rfl ?_)
    all_goals (first | refine ev_pickT tab_ok rfl rfl rfl rfl rfl ?_ | refine ev_pickF tab_ok rfl rfl rfl rfl rfl ?_)
    all_goals refine ev_nil ?_ rfl
    all_goals (refine ⟨[], le_of (by decide) .nil (EnvLe.cons rfl (Mv.bool ?_) trivial), keep0⟩; first | (simp_all [nameBad, nE]; done) | (simp_all [nameBad, nE]; omega))
  refine awp_cond rfl (fun hc => ?_) (fun hc => ?_)
  · refine awp_seq ?_
    refine awp_reg ?_
    refine ev_assign tab_ok rfl rfl rfl ?_
    refine ev_nil ?_ rfl
    refine awp_ret ?_
    exact ⟨_, [], rfl, Mv.int (by rw [hc]; rfl), cut_of (by decide) .nil, keep0⟩
  · refine awp_skip ?_
    refine awp_seq ?_
    refine awp_reg ?_
    refine ev_assign tab_ok rfl rfl rfl ?_
    refine ev_nil ?_ rfl
    refine awp_ret ?_
    exact ⟨_, [], rfl, Mv.int (by rw [hc]; rfl), cut_of (by decide) .nil, keep0⟩
theorem partsE_spec (x : Node) (level : Nat) : FCall Tryz.prog 121 [.agg (ruleC x level)] [] (.s (.int .i64 (if partsBad x then 1 else 0))) [] := by
  refine fcall_intro tab_ok Tryz.call121 Tryz.func121 rfl rfl rfl (fun G w ι => ?_)
  refine awp_seq ?_
  refine awp_reg ?_
  refine ev_box rfl rfl rfl rfl (by constructor) ?_
  refine ev_assign tab_ok rfl rfl rfl ?_
  refine ev_nil ?_ rfl
  refine awp_seq ?_
  refine awp_reg ?_
  (refine ev_faB tab_ok rfl rfl rfl rfl rfl rfl rfl ?_)
  (refine ev_loadB tab_ok rfl rfl rfl rfl rfl rfl rfl ?_)
  try refine ev_as (show _ = PV.agg (nodeC x) by rfl) ?_
  refine ev_alloc tab_ok rfl rfl rfl rfl rfl rfl (by constructor) ?_
  refine ev_store tab_ok rfl rfl rfl rfl rfl rfl rfl rfl rfl (by repeat constructor) ?_
  refine ev_nil ?_ rfl
  refine awp_seq ?_
  refine awp_seq_to ⟨[(40, .s (.bool (partsBad x)))], []⟩ ?_ ?_
  · refine awp_reg ?_
    all_goals (refine ev_faB tab_ok rfl rfl rfl rfl rfl rfl rfl ?_)
    all_goals (refine ev_loadB tab_ok rfl rfl rfl rfl rfl rfl rfl ?_)
    all_goals (refine ev_ineq tab_ok rfl rfl rfl rfl ?_)
    all_goals refine ev_move tab_ok rfl rfl rfl ?_
    all_goals ((refine ev_split rfl rfl rfl (fun hg => ?_) (fun hg => ?_) <;> (first | refine ev_skip rfl rfl ?_ | refine ev_faB tab_ok rfl rfl rfl rfl rfl rfl rfl ?_)))
    all_goals (first | refine ev_skip rfl rfl ?_ | refine ev_loadB tab_ok rfl rfl rfl rfl rfl rfl rfl ?_)
    all_goals (first | refine ev_skip rfl rfl ?_ | refine ev_sneq tab_ok rfl rfl rfl rfl ?_)
    all_goals (first | refine ev_skip rfl rfl ?_ | refine ev_move tab_ok rfl rfl rfl ?_)
    all_goals (first | refine ev_skip rfl rfl ?_ | (refine ev_split rfl rfl rfl (fun hg => ?_) (fun hg => ?_) <;> (first | refine ev_skip rfl rfl ?_ | refine ev_faB tab_ok rfl rfl rfl rfl rfl rfl rfl ?_)))
    all_goals (first | refine ev_skip rfl rfl ?_ | refine ev_loadB tab_ok rfl rfl rfl rfl rfl rfl rfl ?_)
    all_goals (first | refine ev_skip rfl rfl ?_ | refine ev_lenL tab_ok rfl rfl rfl rfl rfl rfl ?_)
    all_goals (first | refine ev_skip rfl rfl ?_ | refine ev_igtr tab_ok rfl rfl rfl rfl ?_)
    all_goals (first | refine ev_skip rfl rfl ?_ | refine ev_pickT tab_ok rfl rfl rfl rfl rfl ?_ | refine ev_pickF tab_ok rfl rfl rfl rfl rfl ?_)
    all_goals (first | refine ev_pickT tab_ok rfl rfl rfl rfl rfl ?_ | refine ev_pickF tab_ok rfl rfl rfl rfl rfl ?_)
    all_goals refine ev_move tab_ok rfl rfl rfl ?_
    all_goals (first | refine ev_skip rfl rfl ?_ | refine ev_faB tab_ok rfl rfl rfl rfl rfl rfl rfl ?_ | (refine ev_split rfl rfl rfl (fun hg => ?_) (fun hg => ?_) <;> (first | refine ev_skip rfl rfl ?_ | refine ev_faB tab_ok rfl rfl rfl rfl rfl rfl rfl ?_)))
    all_goals (first | refine ev_skip rfl rfl ?_ | refine ev_loadB tab_ok rfl rfl rfl rfl rfl rfl rfl ?_)
    all_goals (first | refine ev_skip rfl rfl ?_ | refine ev_ineq tab_ok rfl rfl rfl rfl ?_)
    all_goals (first | refine ev_skip rfl rfl ?_ | refine ev_move tab_ok rfl rfl rfl ?_)
    all_goals (first | refine ev_skip rfl rfl ?_ | (refine ev_split rfl rfl rfl (fun hg => ?_) (fun hg => ?_) <;> (first | refine ev_skip rfl rfl ?_ | refine ev_faB tab_ok rfl rfl rfl rfl rfl rfl rfl ?_)))
    all_goals (first | refine ev_skip rfl rfl ?_ | refine ev_loadB tab_ok rfl rfl rfl rfl rfl rfl rfl ?_)
    all_goals (first | refine ev_skip rfl rfl ?_ | refine ev_sneq tab_ok rfl rfl rfl rfl ?_)
    all_goals (first | refine ev_skip rfl rfl ?_ | refine ev_pickT tab_ok rfl rfl rfl rfl rfl ?_ | refine ev_pickF tab_ok rfl rfl rfl rfl rfl ?_)
    all_goals (first | refine ev_pickT tab_ok rfl rfl rfl rfl rfl ?_ | refine ev_pickF tab_ok rfl rfl rfl rfl rfl ?_)
    all_goals refine ev_move tab_ok rfl rfl rfl ?_
    all_goals (first | refine ev_skip rfl rfl ?_ | refine ev_faB tab_ok rfl rfl rfl rfl rfl rfl rfl ?_ | (refine ev_split rfl rfl rfl (fun hg => ?_) (fun hg => ?_) <;> (first | refine ev_skip rfl rfl ?_ | refine ev_faB tab_ok rfl rfl rfl rfl rfl rfl rfl ?_)))
    all_goals (first | refine ev_skip rfl rfl ?_ | refine ev_loadB tab_ok rfl rfl rfl rfl rfl rfl rfl ?_)
    all_goals (first | refine ev_skip rfl rfl ?_ | refine ev_ineq tab_ok rfl rfl rfl rfl ?_)
    all_goals (first | refine ev_skip rfl rfl ?_ | refine ev_move tab_ok rfl rfl rfl ?_)
    all_goals (first | refine ev_skip rfl rfl ?_ | (refine ev_split rfl rfl rfl (fun hg => ?_) (fun hg => ?_) <;> (first | refine ev_skip rfl rfl ?_ | refine ev_faB tab_ok rfl rfl rfl rfl rfl rfl rfl ?_)))
    all_goals (first | refine ev_skip rfl rfl ?_ | refine ev_loadB tab_ok rfl rfl rfl rfl rfl rfl rfl ?_)
    all_goals (first | refine ev_skip rfl rfl ?_ | refine ev_lenL tab_ok rfl rfl rfl rfl rfl rfl ?_)
    all_goals (first | refine ev_skip rfl rfl ?_ | refine ev_igtr tab_ok rfl rfl rfl rfl ?_)
    all_goals (first | refine ev_skip rfl rfl ?_ | refine ev_pickT tab_ok rfl rfl rfl rfl rfl ?_ | refine ev_pickF tab_ok rfl rfl rfl rfl rfl ?_)
    all_goals (first | refine ev_pickT tab_ok rfl rfl rfl rfl rfl ?_ | refine ev_pickF tab_ok rfl rfl rfl rfl rfl ?_)
    all_goals refine ev_nil ?_ rfl
    all_goals (refine ⟨[], le_of (by decide) .nil (EnvLe.cons rfl (Mv.bool ?_) trivial), keep0⟩; (simp_all [partsBad, nE, kidsC_length]; done))
  refine awp_cond rfl (fun hc => ?_) (fun hc => ?_)
  · refine awp_seq ?_
    refine awp_reg ?_
    refine ev_assign tab_ok rfl rfl rfl ?_
    refine ev_nil ?_ rfl
    refine awp_ret ?_
    exact ⟨_, [], rfl, Mv.int (by rw [hc]; rfl), cut_of (by decide) .nil, keep0⟩
  · refine awp_skip ?_
    refine awp_seq ?_
    refine awp_reg ?_
    refine ev_assign tab_ok rfl rfl rfl ?_
    refine ev_nil ?_ rfl
    refine awp_ret ?_
    exact ⟨_, [], rfl, Mv.int (by rw [hc]; rfl), cut_of (by decide) .nil, keep0⟩
theorem targetE_spec (x : Node) (level : Nat) : FCall Tryz.prog 122 [.agg (ruleC x level)] [] (.s (.int .i64 (if targetBad x then 4 else 0))) [] := by
  refine fcall_intro tab_ok Tryz.call122 Tryz.func122 rfl rfl rfl (fun G w ι => ?_)
  refine awp_seq ?_
  refine awp_reg ?_
  refine ev_box rfl rfl rfl rfl (by constructor) ?_
  refine ev_assign tab_ok rfl rfl rfl ?_
  refine ev_nil ?_ rfl
  refine awp_seq ?_
  refine awp_seq_to ⟨[(13, .s (.bool (targetBad x)))], []⟩ ?_ ?_
  · refine awp_reg ?_
    all_goals (refine ev_faB tab_ok rfl rfl rfl rfl rfl rfl rfl ?_)
    all_goals (refine ev_faB tab_ok rfl rfl rfl rfl rfl rfl rfl ?_)
    all_goals (refine ev_loadB tab_ok rfl rfl rfl rfl rfl rfl rfl ?_)
    all_goals (refine ev_ieql tab_ok rfl rfl rfl rfl ?_)
    all_goals refine ev_move tab_ok rfl rfl rfl ?_
    all_goals ((refine ev_split rfl rfl rfl (fun hg => ?_) (fun hg => ?_) <;> (first | refine ev_skip rfl rfl ?_ | refine ev_faB tab_ok rfl rfl rfl rfl rfl rfl rfl ?_)))
    all_goals (first | refine ev_skip rfl rfl ?_ | refine ev_faB tab_ok rfl rfl rfl rfl rfl rfl rfl ?_)
    all_goals (first | refine ev_skip rfl rfl ?_ | refine ev_loadB tab_ok rfl rfl rfl rfl rfl rfl rfl ?_)
    all_goals (first | refine ev_skip rfl rfl ?_ | refine ev_call rfl rfl rfl rfl rfl (targetP_spec x.target) rfl ?_)
    all_goals (first | refine ev_skip rfl rfl ?_ | refine ev_not tab_ok rfl rfl rfl ?_)
    all_goals (first | refine ev_pickT tab_ok rfl rfl rfl rfl rfl ?_ | refine ev_pickF tab_ok rfl rfl rfl rfl rfl ?_)
    all_goals refine ev_nil ?_ rfl
    all_goals (refine ⟨[], le_of (by decide) .nil (EnvLe.cons rfl (Mv.bool ?_) trivial), keep0⟩; (simp_all [targetBad]; done))
  refine awp_cond rfl (fun hc => ?_) (fun hc => ?_)
  · refine awp_seq ?_
    refine awp_reg ?_
    refine ev_assign tab_ok rfl rfl rfl ?_
    refine ev_nil ?_ rfl
    refine awp_ret ?_
    exact ⟨_, [], rfl, Mv.int (by rw [hc]; rfl), cut_of (by decide) .nil, keep0⟩
  · refine awp_skip ?_
    refine awp_seq ?_
    refine awp_reg ?_
    refine ev_assign tab_ok rfl rfl rfl ?_
    refine ev_nil ?_ rfl
    refine awp_ret ?_
    exact ⟨_, [], rfl, Mv.int (by rw [hc]; rfl), cut_of (by decide) .nil, keep0⟩
theorem numbersE_spec (x : Node) (level : Nat) : FCall Tryz.prog 123 [.agg (ruleC x level)] [] (.s (.int .i64 (if ranged18 x = false then 2 else 0))) [] := by
  refine fcall_intro tab_ok Tryz.call123 Tryz.func123 rfl rfl rfl (fun G w ι => ?_)
  refine awp_seq ?_
  refine awp_reg ?_
  refine ev_box rfl rfl rfl rfl (by constructor) ?_
  refine ev_assign tab_ok rfl rfl rfl ?_
  refine ev_nil ?_ rfl
  refine awp_seq ?_
  refine awp_reg ?_
  (refine ev_faB tab_ok rfl rfl rfl rfl rfl rfl rfl ?_)
  (refine ev_loadB tab_ok rfl rfl rfl rfl rfl rfl rfl ?_)
  try refine ev_as (show _ = PV.agg (nodeC x) by rfl) ?_
  refine ev_alloc tab_ok rfl rfl rfl rfl rfl rfl (by constructor) ?_
  refine ev_store tab_ok rfl rfl rfl rfl rfl rfl rfl rfl rfl (by repeat constructor) ?_
  refine ev_nil ?_ rfl
  refine awp_seq ?_
  refine awp_reg ?_
  refine ev_assign tab_ok rfl rfl rfl ?_
  refine ev_nil ?_ rfl
  refine awp_seq ?_
  refine awp_seq_to ⟨[(46, .s (.bool (!ranged18 x)))], []⟩ ?_ ?_
  · refine awp_reg ?_
    all_goals refine ev_move tab_ok rfl rfl rfl ?_
    all_goals (refine ev_faB tab_ok rfl rfl rfl rfl rfl rfl rfl ?_)
    all_goals (refine ev_loadB tab_ok rfl rfl rfl rfl rfl rfl rfl ?_)
    all_goals refine ev_call rfl rfl rfl rfl rfl (inR_spec _ _ _) rfl ?_
    all_goals refine ev_not tab_ok rfl rfl rfl ?_
    all_goals refine ev_move tab_ok rfl rfl rfl ?_
    all_goals ((refine ev_split rfl rfl rfl (fun hg => ?_) (fun hg => ?_) <;> (first | refine ev_skip rfl rfl ?_ | refine ev_move tab_ok rfl rfl rfl ?_)))
    all_goals (first | refine ev_skip rfl rfl ?_ | refine ev_faB tab_ok rfl rfl rfl rfl rfl rfl rfl ?_)
    all_goals (first | refine ev_skip rfl rfl ?_ | refine ev_loadB tab_ok rfl rfl rfl rfl rfl rfl rfl ?_)
    all_goals (first | refine ev_skip rfl rfl ?_ | refine ev_call rfl rfl rfl rfl rfl (inR_spec _ _ _) rfl ?_)
    all_goals (first | refine ev_skip rfl rfl ?_ | refine ev_not tab_ok rfl rfl rfl ?_)
    all_goals (first | refine ev_pickT tab_ok rfl rfl rfl rfl rfl ?_ | refine ev_pickF tab_ok rfl rfl rfl rfl rfl ?_)
    all_goals refine ev_move tab_ok rfl rfl rfl ?_
    all_goals (first | refine ev_skip rfl rfl ?_ | (refine ev_split rfl rfl rfl (fun hg => ?_) (fun hg => ?_) <;> (first | refine ev_skip rfl rfl ?_ | refine ev_move tab_ok rfl rfl rfl ?_)))
    all_goals (first | refine ev_skip rfl rfl ?_ | refine ev_faB tab_ok rfl rfl rfl rfl rfl rfl rfl ?_)
    all_goals (first | refine ev_skip rfl rfl ?_ | refine ev_loadB tab_ok rfl rfl rfl rfl rfl rfl rfl ?_)
    all_goals (first | refine ev_skip rfl rfl ?_ | refine ev_call rfl rfl rfl rfl rfl (inR_spec _ _ _) rfl ?_)
    all_goals (first | refine ev_skip rfl rfl ?_ | refine ev_not tab_ok rfl rfl rfl ?_)
    all_goals (first | refine ev_pickT tab_ok rfl rfl rfl rfl rfl ?_ | refine ev_pickF tab_ok rfl rfl rfl rfl rfl ?_)
    all_goals refine ev_move tab_ok rfl rfl rfl ?_
    all_goals (first | refine ev_skip rfl rfl ?_ | (refine ev_split rfl rfl rfl (fun hg => ?_) (fun hg => ?_) <;> (first | refine ev_skip rfl rfl ?_ | refine ev_move tab_ok rfl rfl rfl ?_)))
    all_goals (first | refine ev_skip rfl rfl ?_ | refine ev_faB tab_ok rfl rfl rfl rfl rfl rfl rfl ?_)
    all_goals (first | refine ev_skip rfl rfl ?_ | refine ev_loadB tab_ok rfl rfl rfl rfl rfl rfl rfl ?_)
    all_goals (first | refine ev_skip rfl rfl ?_ | refine ev_call rfl rfl rfl rfl rfl (inR_spec _ _ _) rfl ?_)
    all_goals (first | refine ev_skip rfl rfl ?_ | refine ev_not tab_ok rfl rfl rfl ?_)
    all_goals (first | refine ev_pickT tab_ok rfl rfl rfl rfl rfl ?_ | refine ev_pickF tab_ok rfl rfl rfl rfl rfl ?_)
    all_goals refine ev_move tab_ok rfl rfl rfl ?_
    all_goals (first | refine ev_skip rfl rfl ?_ | (refine ev_split rfl rfl rfl (fun hg => ?_) (fun hg => ?_) <;> (first | refine ev_skip rfl rfl ?_ | refine ev_move tab_ok rfl rfl rfl ?_)))
    all_goals (first | refine ev_skip rfl rfl ?_ | refine ev_faB tab_ok rfl rfl rfl rfl rfl rfl rfl ?_)
    all_goals (first | refine ev_skip rfl rfl ?_ | refine ev_loadB tab_ok rfl rfl rfl rfl rfl rfl rfl ?_)
    all_goals (first | refine ev_skip rfl rfl ?_ | refine ev_call rfl rfl rfl rfl rfl (inR_spec _ _ _) rfl ?_)
    all_goals (first | refine ev_skip rfl rfl ?_ | refine ev_not tab_ok rfl rfl rfl ?_)
    all_goals (first | refine ev_pickT tab_ok rfl rfl rfl rfl rfl ?_ | refine ev_pickF tab_ok rfl rfl rfl rfl rfl ?_)
    all_goals refine ev_move tab_ok rfl rfl rfl ?_
    all_goals (first | refine ev_skip rfl rfl ?_ | (refine ev_split rfl rfl rfl (fun hg => ?_) (fun hg => ?_) <;> (first | refine ev_skip rfl rfl ?_ | refine ev_move tab_ok rfl rfl rfl ?_)))
    all_goals (first | refine ev_skip rfl rfl ?_ | refine ev_faB tab_ok rfl rfl rfl rfl rfl rfl rfl ?_)
    all_goals (first | refine ev_skip rfl rfl ?_ | refine ev_loadB tab_ok rfl rfl rfl rfl rfl rfl rfl ?_)
    all_goals (first | refine ev_skip rfl rfl ?_ | refine ev_call rfl rfl rfl rfl rfl (inR_spec _ _ _) rfl ?_)
    all_goals (first | refine ev_skip rfl rfl ?_ | refine ev_not tab_ok rfl rfl rfl ?_)
    all_goals (first | refine ev_pickT tab_ok rfl rfl rfl rfl rfl ?_ | refine ev_pickF tab_ok rfl rfl rfl rfl rfl ?_)
    all_goals refine ev_nil ?_ rfl
    all_goals (refine ⟨[], le_of (by decide) .nil (EnvLe.cons rfl (Mv.bool ?_) trivial), keep0⟩; (simp_all [ranged18, inR]; done))
  refine awp_cond rfl (fun hc => ?_) (fun hc => ?_)
  · refine awp_seq ?_
    refine awp_reg ?_
    refine ev_assign tab_ok rfl rfl rfl ?_
    refine ev_nil ?_ rfl
    refine awp_ret ?_
    exact ⟨_, [], rfl, Mv.int (by rw [if_pos (by simpa using hc)]), cut_of (by decide) .nil, keep0⟩
  · refine awp_skip ?_
    refine awp_seq ?_
    refine awp_reg ?_
    refine ev_assign tab_ok rfl rfl rfl ?_
    refine ev_nil ?_ rfl
    refine awp_ret ?_
    exact ⟨_, [], rfl, Mv.int (by rw [if_neg (by simpa using hc)]), cut_of (by decide) .nil, keep0⟩
end Go.Proofs.Pm
end
section
namespace Go.Proofs.Pm
open Go
theorem sizesE_spec (x : Node) (level : Nat) (hb : x.bulk ≤ 1099511627776) : FCall Tryz.prog 124 [.agg (ruleC x level)] [] (.s (.int .i64 (if large18 x level then 7 else 0))) [] := by
  have hs := streams_len x
  refine fcall_intro tab_ok Tryz.call124 Tryz.func124 rfl rfl rfl (fun G w ι => ?_)
  refine awp_seq ?_
  refine awp_reg ?_
  refine ev_box rfl rfl rfl rfl (by constructor) ?_
  refine ev_assign tab_ok rfl rfl rfl ?_
  refine ev_nil ?_ rfl
  refine awp_seq ?_
  refine awp_reg ?_
  (refine ev_faB tab_ok rfl rfl rfl rfl rfl rfl rfl ?_)
  (refine ev_loadB tab_ok rfl rfl rfl rfl rfl rfl rfl ?_)
  try refine ev_as (show _ = PV.agg (nodeC x) by rfl) ?_
  refine ev_alloc tab_ok rfl rfl rfl rfl rfl rfl (by constructor) ?_
  refine ev_store tab_ok rfl rfl rfl rfl rfl rfl rfl rfl rfl (by repeat constructor) ?_
  refine ev_nil ?_ rfl
  refine awp_seq ?_
  refine awp_seq_to ⟨[(28, .s (.bool (decide (16 < level) || decide (262144 < x.data.size) || decide (64 < x.kids.length) || decide (4 < x.streams.length)))), (3, .ptr 1 0)], [.box (ruleC x level) 143, .box (nodeC x) 25]⟩ ?_ ?_
  · refine awp_reg ?_
    all_goals (refine ev_faB tab_ok rfl rfl rfl rfl rfl rfl rfl ?_)
    all_goals (refine ev_loadB tab_ok rfl rfl rfl rfl rfl rfl rfl ?_)
    all_goals refine ev_igtr tab_ok rfl rfl rfl rfl ?_
    all_goals refine ev_move tab_ok rfl rfl rfl ?_
    all_goals ((refine ev_split rfl rfl rfl (fun hg => ?_) (fun hg => ?_) <;> (first | refine ev_skip rfl rfl ?_ | refine ev_faB tab_ok rfl rfl rfl rfl rfl rfl rfl ?_)))
    all_goals (first | refine ev_skip rfl rfl ?_ | refine ev_loadB tab_ok rfl rfl rfl rfl rfl rfl rfl ?_)
    all_goals (first | refine ev_skip rfl rfl ?_ | refine ev_lenS tab_ok rfl rfl rfl rfl rfl rfl ?_)
    all_goals (first | refine ev_skip rfl rfl ?_ | refine ev_igtr tab_ok rfl rfl rfl rfl ?_)
    all_goals (first | refine ev_pickT tab_ok rfl rfl rfl rfl rfl ?_ | refine ev_pickF tab_ok rfl rfl rfl rfl rfl ?_)
    all_goals refine ev_move tab_ok rfl rfl rfl ?_
    all_goals (first | refine ev_skip rfl rfl ?_ | (refine ev_split rfl rfl rfl (fun hg => ?_) (fun hg => ?_) <;> (first | refine ev_skip rfl rfl ?_ | refine ev_faB tab_ok rfl rfl rfl rfl rfl rfl rfl ?_)))
    all_goals (first | refine ev_skip rfl rfl ?_ | refine ev_loadB tab_ok rfl rfl rfl rfl rfl rfl rfl ?_)
    all_goals (first | refine ev_skip rfl rfl ?_ | refine ev_lenL tab_ok rfl rfl rfl rfl rfl rfl ?_)
    all_goals (first | refine ev_skip rfl rfl ?_ | refine ev_igtr tab_ok rfl rfl rfl rfl ?_)
    all_goals (first | refine ev_pickT tab_ok rfl rfl rfl rfl rfl ?_ | refine ev_pickF tab_ok rfl rfl rfl rfl rfl ?_)
    all_goals refine ev_move tab_ok rfl rfl rfl ?_
    all_goals (first | refine ev_skip rfl rfl ?_ | (refine ev_split rfl rfl rfl (fun hg => ?_) (fun hg => ?_) <;> (first | refine ev_skip rfl rfl ?_ | refine ev_faB tab_ok rfl rfl rfl rfl rfl rfl rfl ?_)))
    all_goals (first | refine ev_skip rfl rfl ?_ | refine ev_loadB tab_ok rfl rfl rfl rfl rfl rfl rfl ?_)
    all_goals (first | refine ev_skip rfl rfl ?_ | refine ev_lenL tab_ok rfl rfl rfl rfl rfl rfl ?_)
    all_goals (first | refine ev_skip rfl rfl ?_ | refine ev_igtr tab_ok rfl rfl rfl rfl ?_)
    all_goals (first | refine ev_pickT tab_ok rfl rfl rfl rfl rfl ?_ | refine ev_pickF tab_ok rfl rfl rfl rfl rfl ?_)
    all_goals refine ev_nil ?_ rfl
    all_goals (refine ⟨[0, 1], le_of (by decide) (.cons rfl (.box (mvl_closed rfl)) (.cons rfl (.box (mvl_closed rfl)) .nil)) (EnvLe.cons rfl (Mv.bool ?_) (EnvLe.cons rfl (.ptr rfl) trivial)), keep0⟩)
    all_goals (first | (simp_all [kidsC_length]; omega) | (simp_all [kidsC_length]; rw [Bool.eq_iff_iff]; simp; omega))
  refine awp_cond rfl (fun hc => ?_) (fun hc => ?_)
  · refine awp_seq ?_
    refine awp_reg ?_
    refine ev_assign tab_ok rfl rfl rfl ?_
    refine ev_nil ?_ rfl
    refine awp_ret ?_
    exact ⟨_, [], rfl, Mv.int (by rw [large18, hc]; rfl), cut_of (by decide) .nil, keep0⟩
  · refine awp_skip ?_
    refine awp_seq ?_
    refine awp_seq ?_
    refine awp_reg ?_
    (refine ev_faB tab_ok rfl rfl rfl rfl rfl rfl rfl ?_)
    (refine ev_loadB tab_ok rfl rfl rfl rfl rfl rfl rfl ?_)
    (refine ev_lenL tab_ok rfl rfl rfl rfl rfl rfl ?_)
    refine ev_move tab_ok rfl rfl rfl ?_
    refine ev_nil ?_ rfl
    refine awp_block ?_
    refine awp_loop (fun i : Nat => ⟨[(32, .s (.int .i64 i)), (31, .s (.int .i64 x.streams.length)), (30, .list (x.streams.map strC))], []⟩) (fun i => i ≤ x.streams.length ∧ ∀ (j : Nat) (h : j < x.streams.length), j < i → decide (262144 < x.streams[j].2.size) = false) (fun i => x.streams.length - i) 0 [] ?_ ⟨Nat.zero_le _, fun j _ h => by omega⟩ keep0 (fun i hi => ?_)
    · all_goals (try refine le_of (by decide) ?_ ?_)
      repeat' (first | exact trivial | exact .nil | (refine EnvLe.cons rfl ?_ ?_) | exact .frz rfl | (refine Mv.int ?_) | fail)
      all_goals (try simp only [wrap_addL, wrap_addR, wrap_subL, wrap_subR]); all_goals (try (rw [wrap_i64 (by omega) (by omega)]; omega))
      all_goals simp
    refine awp_seq ?_
    refine awp_reg ?_
    (refine ev_ilss tab_ok rfl rfl rfl rfl ?_)
    refine ev_nil ?_ rfl
    refine awp_seq ?_
    refine awp_cond rfl (fun hc => ?_) (fun hc2 => ?_)
    · refine awp_skip ?_
      have hlt : i < x.streams.length := by simpa using hc
      have hx : x.streams[i]? = some x.streams[i] := List.getElem?_eq_getElem hlt
      refine awp_seq ?_
      refine awp_block ?_
      refine awp_seq ?_
      refine awp_reg ?_
      (refine ev_iaL tab_ok rfl rfl rfl rfl rfl rfl rfl rfl rfl (by omega) (by rw [Int.toNat_natCast]; exact strC_get hx) rfl ?_)
      (refine ev_loadE tab_ok rfl rfl rfl rfl rfl rfl ?_)
      refine ev_alloc tab_ok rfl rfl rfl rfl rfl rfl (by constructor) ?_
      refine ev_store tab_ok rfl rfl rfl rfl rfl rfl rfl rfl rfl (by repeat constructor) ?_
      refine ev_nil ?_ rfl
      refine awp_seq ?_
      refine awp_reg ?_
      (refine ev_faB tab_ok rfl rfl rfl rfl rfl rfl rfl ?_)
      (refine ev_loadB tab_ok rfl rfl rfl rfl rfl rfl rfl ?_)
      (refine ev_lenS tab_ok rfl rfl rfl rfl rfl rfl ?_)
      refine ev_igtr tab_ok rfl rfl rfl rfl ?_
      refine ev_nil ?_ rfl
      refine awp_cond rfl (fun hc => ?_) (fun hc => ?_)
      · refine awp_seq ?_
        refine awp_reg ?_
        refine ev_assign tab_ok rfl rfl rfl ?_
        refine ev_nil ?_ rfl
        refine awp_ret ?_
        have e : (x.streams.any fun s => decide (262144 < s.2.size)) = true := by
          rw [List.any_eq_true]
          exact ⟨_, List.getElem_mem hlt, by have : (262144 : Int) < x.streams[i].2.size := by simpa using hc
                                             simp; omega⟩
        exact ⟨_, [], rfl, Mv.int (by rw [large18, e, Bool.or_true]; rfl), cut_of (by decide) .nil, keep0⟩
      · refine awp_skip ?_
        refine awp_reg ?_
        (refine ev_iadd tab_ok rfl rfl rfl rfl ?_)
        refine ev_move tab_ok rfl rfl rfl ?_
        refine ev_nil ?_ rfl
        refine ⟨i + 1, [], ?_, by omega, ⟨hlt, fun j h hj => ?_⟩, keep0⟩
        · all_goals (try refine le_of (by decide) ?_ ?_)
          repeat' (first | exact trivial | exact .nil | (refine EnvLe.cons rfl ?_ ?_) | exact .frz rfl | (refine Mv.int ?_) | fail)
          all_goals (try simp only [wrap_addL, wrap_addR, wrap_subL, wrap_subR]); all_goals (try (rw [wrap_i64 (by omega) (by omega)]; omega))
        by_cases e : j = i
        · subst e
          have : ¬ (262144 : Int) < x.streams[j].2.size := by simpa using hc
          simp; omega
        · exact hi.2 j h (by omega)
    · refine awp_exit ?_
      have hge : i = x.streams.length := by
        have : ¬ i < x.streams.length := by simpa using hc2
        omega
      subst hge
      refine awp_seq ?_
      refine awp_reg ?_
      refine ev_assign tab_ok rfl rfl rfl ?_
      refine ev_nil ?_ rfl
      refine awp_ret ?_
      have e : (x.streams.any fun s => decide (262144 < s.2.size)) = false := by
        rw [List.any_eq_false]
        intro y hy
        obtain ⟨j, hj, rfl⟩ := List.getElem_of_mem hy
        have := hi.2 j hj hj
        rw [this]; decide
      exact ⟨_, [], rfl, Mv.int (by rw [large18, hc, e]; rfl), cut_of (by decide) .nil, keep0⟩
theorem streamsE_spec (x : Node) (level : Nat) (hb : x.bulk ≤ 1099511627776) : FCall Tryz.prog 125 [.agg (ruleC x level)] [] (.s (.int .i64 (firstErr (streamErr x.streams) 0 x.streams.length))) [] := by
  have hs := streams_len x
  refine fcall_intro tab_ok Tryz.call125 Tryz.func125 rfl rfl rfl (fun G w ι => ?_)
  refine awp_seq ?_
  refine awp_reg ?_
  refine ev_box rfl rfl rfl rfl (by constructor) ?_
  refine ev_assign tab_ok rfl rfl rfl ?_
  refine ev_nil ?_ rfl
  refine awp_seq ?_
  refine awp_seq ?_
  refine awp_reg ?_
  (refine ev_faB tab_ok rfl rfl rfl rfl rfl rfl rfl ?_)
  (refine ev_faB tab_ok rfl rfl rfl rfl rfl rfl rfl ?_)
  (refine ev_loadB tab_ok rfl rfl rfl rfl rfl rfl rfl ?_)
  (refine ev_lenL tab_ok rfl rfl rfl rfl rfl rfl ?_)
  refine ev_move tab_ok rfl rfl rfl ?_
  refine ev_nil ?_ rfl
  refine awp_block ?_
  refine awp_loop (fun i : Nat => ⟨[(10, .s (.int .i64 i)), (9, .s (.int .i64 x.streams.length)), (8, .list (x.streams.map strC)), (1, .ptr 0 0)], [.box (ruleC x level) 143]⟩) (fun i => i ≤ x.streams.length ∧ ∀ j, j < i → streamErr x.streams j = 0) (fun i => x.streams.length - i) 0 [0] ?_ ⟨Nat.zero_le _, fun j h => by omega⟩ keep0 (fun i hi => ?_)
  · all_goals (try refine le_of (by decide) ?_ ?_)
    repeat' (first | exact trivial | exact .nil | (refine CutL.cons rfl ?_ ?_) | (refine EnvLe.cons rfl ?_ ?_) | (refine MvS.box (mvl_closed rfl)) | exact .ptr rfl | exact .frz rfl | (refine Mv.int ?_) | fail)
    all_goals (try simp only [wrap_addL, wrap_addR, wrap_subL, wrap_subR]); all_goals (try (rw [wrap_i64 (by omega) (by omega)]; omega))
    all_goals simp
  refine awp_seq ?_
  refine awp_reg ?_
  (refine ev_ilss tab_ok rfl rfl rfl rfl ?_)
  refine ev_nil ?_ rfl
  refine awp_seq ?_
  refine awp_cond rfl (fun hc => ?_) (fun hc => ?_)
  · refine awp_skip ?_
    have hlt : i < x.streams.length := by simpa using hc
    have hx : x.streams[i]? = some x.streams[i] := List.getElem?_eq_getElem hlt
    have hp : x.streams[i - 1]? = some (x.streams[i - 1]'(by omega)) := List.getElem?_eq_getElem (by omega)
    have he : streamErr x.streams i = if name18 x.streams[i].1 = false then 4 else if decide (0 < i) && (x.streams[i].1.toList == (x.streams[i - 1]'(by omega)).1.toList) then 5 else if decide (0 < i) && less x.streams[i].1 (x.streams[i - 1]'(by omega)).1 then 1 else 0 := by
      unfold streamErr; rw [hx, hp]
    have hret : ∀ e : Int, e ≠ 0 → streamErr x.streams i = e → e = firstErr (streamErr x.streams) 0 x.streams.length := by
      intro e h0 h1
      rw [firstErr_at (f := streamErr x.streams) (lo := 0) (Nat.zero_le i) hlt (fun j _ hj => hi.2 j hj) (by rw [h1]; exact h0), h1]
    refine awp_seq ?_
    refine awp_block ?_
    refine awp_seq ?_
    refine awp_reg ?_
    refine ev_move tab_ok rfl rfl rfl ?_
    (refine ev_iaL tab_ok rfl rfl rfl rfl rfl rfl rfl rfl rfl (by omega) (by rw [Int.toNat_natCast]; exact strC_get hx) rfl ?_)
    (refine ev_loadE tab_ok rfl rfl rfl rfl rfl rfl ?_)
    refine ev_alloc tab_ok rfl rfl rfl rfl rfl rfl (by constructor) ?_
    refine ev_assign tab_ok rfl rfl rfl ?_
    refine ev_store tab_ok rfl rfl rfl rfl rfl rfl rfl rfl rfl (by repeat constructor) ?_
    refine ev_nil ?_ rfl
    refine awp_seq ?_
    refine awp_seq ?_
    refine awp_reg ?_
    (refine ev_faB tab_ok rfl rfl rfl rfl rfl rfl rfl ?_)
    (refine ev_loadB tab_ok rfl rfl rfl rfl rfl rfl rfl ?_)
    refine ev_call rfl rfl rfl rfl rfl (nameP_spec x.streams[i].1) rfl ?_
    refine ev_not tab_ok rfl rfl rfl ?_
    refine ev_nil ?_ rfl
    refine awp_cond rfl (fun hc => ?_) (fun hn => ?_)
    · refine awp_seq ?_
      refine awp_reg ?_
      refine ev_assign tab_ok rfl rfl rfl ?_
      refine ev_nil ?_ rfl
      refine awp_ret ?_
      exact ⟨_, [], rfl, Mv.int (hret 4 (by decide) (by rw [he, if_pos (by simpa using hc)])), cut_of (by decide) .nil, keep0⟩
    refine awp_skip ?_
    rw [if_neg (by simpa using hn)] at he
    refine awp_seq ?_
    refine awp_reg ?_
    refine ev_move tab_ok rfl rfl rfl ?_
    refine ev_igtr tab_ok rfl rfl rfl rfl ?_
    refine ev_nil ?_ rfl
    refine awp_cond rfl (fun hz => ?_) (fun hz => ?_)
    · have hz1 : 0 < i := by
        have : (0 : Int) < (i : Int) := by simpa using hz
        omega
      rw [decide_eq_true hz1, Bool.true_and, Bool.true_and] at he
      have heo : streamErr x.streams i = orderE (x.streams[i - 1]'(by omega)).1 x.streams[i].1 := by rw [he]; rfl
      have e1 : IntKind.i64.wrap ((i : Int) - 1) = ((i - 1 : Nat) : Int) := by rw [wrap_i64 (by omega) (by omega)]; omega
      refine awp_seq ?_
      refine awp_draw mixed ?_
      (refine ev_faB tab_ok rfl rfl rfl rfl rfl rfl rfl ?_)
      (refine ev_faB tab_ok rfl rfl rfl rfl rfl rfl rfl ?_)
      (refine ev_loadB tab_ok rfl rfl rfl rfl rfl rfl rfl ?_)
      refine ev_move tab_ok rfl rfl rfl ?_
      refine ev_isub tab_ok rfl rfl rfl rfl ?_
      try refine ev_as (by rw [e1]) ?_
      (refine ev_iaL tab_ok rfl rfl rfl rfl rfl rfl rfl rfl rfl (by omega) (by rw [Int.toNat_natCast]; exact strC_get hp) rfl ?_)
      (refine ev_faE tab_ok rfl rfl rfl rfl rfl rfl rfl rfl ?_)
      (refine ev_loadE tab_ok rfl rfl rfl rfl rfl rfl ?_)
      (refine ev_faB tab_ok rfl rfl rfl rfl rfl rfl rfl ?_)
      (refine ev_loadB tab_ok rfl rfl rfl rfl rfl rfl rfl ?_)
      refine ev_call rfl rfl rfl rfl rfl (orderE_spec (x.streams[i - 1]'(by omega)).1 x.streams[i].1) rfl ?_
      refine ev_assign tab_ok rfl rfl rfl ?_
      refine ev_nilD ?_ (by kernel_rfl)
      refine awp_seq ?_
      refine awp_reg ?_
      refine ev_move tab_ok rfl rfl rfl ?_
      (refine ev_ineq tab_ok rfl rfl rfl rfl ?_)
      refine ev_nil ?_ rfl
      refine awp_cond rfl (fun hc => ?_) (fun hc => ?_)
      · have h0 : orderE (x.streams[i - 1]'(by omega)).1 x.streams[i].1 ≠ 0 := by simpa using hc
        refine awp_seq ?_
        refine awp_reg ?_
        refine ev_move tab_ok rfl rfl rfl ?_
        refine ev_assign tab_ok rfl rfl rfl ?_
        refine ev_nil ?_ rfl
        refine awp_ret ?_
        exact ⟨_, [], rfl, Mv.int (hret _ h0 heo), cut_of (by decide) .nil, keep0⟩
      · have h0 : orderE (x.streams[i - 1]'(by omega)).1 x.streams[i].1 = 0 := by simpa using hc
        refine awp_skip ?_
        refine awp_reg ?_
        (refine ev_iadd tab_ok rfl rfl rfl rfl ?_)
        refine ev_move tab_ok rfl rfl rfl ?_
        refine ev_nil ?_ rfl
        refine ⟨i + 1, [0], ?_, by omega, ⟨hlt, fun j hj => ?_⟩, keep0⟩
        · all_goals (try refine le_of (by decide) ?_ ?_)
          repeat' (first | exact trivial | exact .nil | (refine CutL.cons rfl ?_ ?_) | (refine EnvLe.cons rfl ?_ ?_) | (refine MvS.box (mvl_closed rfl)) | exact .ptr rfl | exact .frz rfl | (refine Mv.int ?_) | fail)
          all_goals (try simp only [wrap_addL, wrap_addR, wrap_subL, wrap_subR]); all_goals (try (rw [wrap_i64 (by omega) (by omega)]; omega))
        by_cases e : j = i
        · subst e; rw [heo, h0]
        · exact hi.2 j (by omega)
    · have hz1 : ¬ 0 < i := by
        have : ¬ (0 : Int) < (i : Int) := by simpa using hz
        omega
      rw [decide_eq_false hz1] at he
      refine awp_skip ?_
      refine awp_reg ?_
      (refine ev_iadd tab_ok rfl rfl rfl rfl ?_)
      refine ev_move tab_ok rfl rfl rfl ?_
      refine ev_nil ?_ rfl
      refine ⟨i + 1, [0], ?_, by omega, ⟨hlt, fun j hj => ?_⟩, keep0⟩
      · all_goals (try refine le_of (by decide) ?_ ?_)
        repeat' (first | exact trivial | exact .nil | (refine CutL.cons rfl ?_ ?_) | (refine EnvLe.cons rfl ?_ ?_) | (refine MvS.box (mvl_closed rfl)) | exact .ptr rfl | exact .frz rfl | (refine Mv.int ?_) | fail)
        all_goals (try simp only [wrap_addL, wrap_addR, wrap_subL, wrap_subR]); all_goals (try (rw [wrap_i64 (by omega) (by omega)]; omega))
      by_cases e : j = i
      · subst e; rw [he]; rfl
      · exact hi.2 j (by omega)
  · refine awp_exit ?_
    have hge : i = x.streams.length := by
      have : ¬ i < x.streams.length := by simpa using hc
      omega
    refine awp_seq ?_
    refine awp_reg ?_
    refine ev_assign tab_ok rfl rfl rfl ?_
    refine ev_nil ?_ rfl
    refine awp_ret ?_
    exact ⟨_, [], rfl, Mv.int (firstErr_none (fun j _ hj => hi.2 j (by omega))).symm, cut_of (by decide) .nil, keep0⟩
theorem kidsE_spec (x : Node) (level : Nat) (hb : x.bulk ≤ 1099511627776) : FCall Tryz.prog 126 [.agg (ruleC x level)] [] (.s (.int .i64 (firstErr (kidErr x.kids) 1 x.kids.length))) [] := by
  have hk := kids_len x
  refine fcall_intro tab_ok Tryz.call126 Tryz.func126 rfl rfl rfl (fun G w ι => ?_)
  refine awp_seq ?_
  refine awp_reg ?_
  refine ev_box rfl rfl rfl rfl (by constructor) ?_
  refine ev_assign tab_ok rfl rfl rfl ?_
  refine ev_nil ?_ rfl
  refine awp_seq ?_
  refine awp_seq ?_
  refine awp_reg ?_
  refine ev_assign tab_ok rfl rfl rfl ?_
  refine ev_nil ?_ rfl
  refine awp_block ?_
  refine awp_loop (fun k : Nat => ⟨[(3, .s (.int .i64 k)), (1, .ptr 0 0)], [.box (ruleC x level) 143]⟩) (fun k => 1 ≤ k ∧ (k ≤ x.kids.length ∨ k = 1) ∧ ∀ j, 1 ≤ j → j < k → kidErr x.kids j = 0) (fun k => x.kids.length - k) 1 [0] ?_ ⟨Nat.le_refl _, .inr rfl, fun j h1 h2 => by omega⟩ keep0 (fun k hi => ?_)
  · all_goals (try refine le_of (by decide) ?_ ?_)
    repeat' (first | exact trivial | exact .nil | (refine CutL.cons rfl ?_ ?_) | (refine EnvLe.cons rfl ?_ ?_) | (refine MvS.box (mvl_closed rfl)) | exact .ptr rfl | exact .frz rfl | fail)
    all_goals (try simp only [wrap_addL, wrap_addR, wrap_subL, wrap_subR]); all_goals (try (rw [wrap_i64 (by omega) (by omega)]; omega))
  refine awp_seq ?_
  refine awp_seq ?_
  refine awp_reg ?_
  refine ev_move tab_ok rfl rfl rfl ?_
  (refine ev_faB tab_ok rfl rfl rfl rfl rfl rfl rfl ?_)
  (refine ev_faB tab_ok rfl rfl rfl rfl rfl rfl rfl ?_)
  (refine ev_loadB tab_ok rfl rfl rfl rfl rfl rfl rfl ?_)
  (refine ev_lenL tab_ok rfl rfl rfl rfl rfl rfl ?_)
  (refine ev_ilss tab_ok rfl rfl rfl rfl ?_)
  refine ev_nil ?_ rfl
  refine awp_cond rfl (fun hc => ?_) (fun hc => ?_)
  · refine awp_skip ?_
    have hlt : k < x.kids.length := by simpa [kidsC_length] using hc
    have hx : x.kids[k]? = some x.kids[k] := List.getElem?_eq_getElem hlt
    have hp : x.kids[k - 1]? = some (x.kids[k - 1]'(by omega)) := List.getElem?_eq_getElem (by omega)
    have he : kidErr x.kids k = orderE (x.kids[k - 1]'(by omega)).name x.kids[k].name := by
      unfold kidErr; rw [hx, hp]; rfl
    have hret : ∀ e : Int, e ≠ 0 → kidErr x.kids k = e → e = firstErr (kidErr x.kids) 1 x.kids.length := by
      intro e h0 h1
      rw [firstErr_at (f := kidErr x.kids) hi.1 hlt hi.2.2 (by rw [h1]; exact h0), h1]
    have e1 : IntKind.i64.wrap ((k : Int) - 1) = ((k - 1 : Nat) : Int) := by
      have := hi.1
      rw [wrap_i64 (by omega) (by omega)]; omega
    refine awp_seq ?_
    refine awp_block ?_
    refine awp_seq ?_
    refine awp_draw mixed ?_
    (refine ev_faB tab_ok rfl rfl rfl rfl rfl rfl rfl ?_)
    (refine ev_faB tab_ok rfl rfl rfl rfl rfl rfl rfl ?_)
    (refine ev_loadB tab_ok rfl rfl rfl rfl rfl rfl rfl ?_)
    refine ev_move tab_ok rfl rfl rfl ?_
    refine ev_isub tab_ok rfl rfl rfl rfl ?_
    try refine ev_as (by rw [e1]) ?_
    (refine ev_iaL tab_ok rfl rfl rfl rfl rfl rfl rfl rfl rfl (by omega) (by rw [Int.toNat_natCast]; exact kidsC_get hp) rfl ?_)
    (refine ev_faE tab_ok rfl rfl rfl rfl rfl rfl rfl rfl ?_)
    (refine ev_loadE tab_ok rfl rfl rfl rfl rfl rfl ?_)
    (refine ev_faB tab_ok rfl rfl rfl rfl rfl rfl rfl ?_)
    (refine ev_faB tab_ok rfl rfl rfl rfl rfl rfl rfl ?_)
    (refine ev_loadB tab_ok rfl rfl rfl rfl rfl rfl rfl ?_)
    refine ev_move tab_ok rfl rfl rfl ?_
    (refine ev_iaL tab_ok rfl rfl rfl rfl rfl rfl rfl rfl rfl (by omega) (by rw [Int.toNat_natCast]; exact kidsC_get hx) rfl ?_)
    (refine ev_faE tab_ok rfl rfl rfl rfl rfl rfl rfl rfl ?_)
    (refine ev_loadE tab_ok rfl rfl rfl rfl rfl rfl ?_)
    refine ev_call rfl rfl rfl rfl rfl (orderE_spec (x.kids[k - 1]'(by omega)).name x.kids[k].name) rfl ?_
    refine ev_assign tab_ok rfl rfl rfl ?_
    refine ev_nilD ?_ (by kernel_rfl)
    refine awp_seq ?_
    refine awp_reg ?_
    refine ev_move tab_ok rfl rfl rfl ?_
    (refine ev_ineq tab_ok rfl rfl rfl rfl ?_)
    refine ev_nil ?_ rfl
    refine awp_cond rfl (fun hc => ?_) (fun hc => ?_)
    · have h0 : orderE (x.kids[k - 1]'(by omega)).name x.kids[k].name ≠ 0 := by simpa using hc
      refine awp_seq ?_
      refine awp_reg ?_
      refine ev_move tab_ok rfl rfl rfl ?_
      refine ev_assign tab_ok rfl rfl rfl ?_
      refine ev_nil ?_ rfl
      refine awp_ret ?_
      exact ⟨_, [], rfl, Mv.int (hret _ h0 he), cut_of (by decide) .nil, keep0⟩
    · have h0 : orderE (x.kids[k - 1]'(by omega)).name x.kids[k].name = 0 := by simpa using hc
      refine awp_skip ?_
      refine awp_reg ?_
      refine ev_move tab_ok rfl rfl rfl ?_
      (refine ev_iadd tab_ok rfl rfl rfl rfl ?_)
      refine ev_assign tab_ok rfl rfl rfl ?_
      refine ev_nil ?_ rfl
      refine ⟨k + 1, [0], ?_, by omega, ⟨by omega, .inl hlt, fun j h1 h2 => ?_⟩, keep0⟩
      · all_goals (try refine le_of (by decide) ?_ ?_)
        repeat' (first | exact trivial | exact .nil | (refine CutL.cons rfl ?_ ?_) | (refine EnvLe.cons rfl ?_ ?_) | (refine MvS.box (mvl_closed rfl)) | exact .ptr rfl | (refine Mv.int ?_) | fail)
        all_goals (try simp only [wrap_addL, wrap_addR, wrap_subL, wrap_subR]); all_goals (try (rw [wrap_i64 (by omega) (by omega)]; omega))
      by_cases e : j = k
      · subst e; rw [he, h0]
      · exact hi.2.2 j h1 (by omega)
  · refine awp_exit ?_
    have hge : ¬ k < x.kids.length := by simpa [kidsC_length] using hc
    refine awp_seq ?_
    refine awp_reg ?_
    refine ev_assign tab_ok rfl rfl rfl ?_
    refine ev_nil ?_ rfl
    refine awp_ret ?_
    exact ⟨_, [], rfl, Mv.int (firstErr_none (fun j h1 h2 => hi.2.2 j h1 (by omega))).symm, cut_of (by decide) .nil, keep0⟩
end Go.Proofs.Pm
end
section
namespace Go.Proofs.Pm
open Go
theorem belowP_spec (path name : B) (level : Nat) (h1 : 1 ≤ level) (hb : path.size + name.size ≤ 4611686018427387904) : FCall Tryz.prog 114 [.s (.string path), .s (.string name), .s (.int .i64 ((level + 1 : Nat) : Int))] [] (.s (.string (belowR path name level))) [] := by
  refine fcall_intro tab_ok Tryz.call114 Tryz.func114 rfl rfl rfl (fun G w ι => ?_)
  refine awp_seq ?_
  refine awp_reg ?_
  refine ev_assign tab_ok rfl rfl rfl ?_
  refine ev_nil ?_ rfl
  refine awp_seq ?_
  refine awp_seq ?_
  refine awp_reg ?_
  refine ev_move tab_ok rfl rfl rfl ?_
  refine ev_ileq tab_ok rfl rfl rfl rfl ?_
  refine ev_nil ?_ rfl
  refine awp_cond rfl (fun hc => ?_) (fun hc => ?_)
  · have h : level = 1 := by
      have : ((level + 1 : Nat) : Int) ≤ 2 := by simpa using hc
      omega
    refine awp_seq ?_
    refine awp_reg ?_
    refine ev_move tab_ok rfl rfl rfl ?_
    refine ev_assign tab_ok rfl rfl rfl ?_
    refine ev_nil ?_ rfl
    refine awp_ret ?_
    exact ⟨_, [], rfl, Mv.str (by rw [belowR, if_pos h]), cut_of (by decide) .nil, keep0⟩
  · have h : ¬ level = 1 := by
      have : ¬ ((level + 1 : Nat) : Int) ≤ 2 := by simpa using hc
      omega
    refine awp_skip ?_
    refine awp_seq ?_
    refine awp_reg ?_
    refine ev_move tab_ok rfl rfl rfl ?_
    (refine ev_sadd tab_ok rfl rfl rfl rfl (by (simp only [ByteArray.size_append, bsize1]; omega)) ?_)
    refine ev_move tab_ok rfl rfl rfl ?_
    (refine ev_sadd tab_ok rfl rfl rfl rfl (by (simp only [ByteArray.size_append, bsize1]; omega)) ?_)
    refine ev_assign tab_ok rfl rfl rfl ?_
    refine ev_nil ?_ rfl
    refine awp_ret ?_
    exact ⟨_, [], rfl, Mv.str (by rw [belowR, if_neg h]; rfl), cut_of (by decide) .nil, keep0⟩
section
variable {σ : Type}
def kidsF (f : σ → Node → σ × Bool) : σ → List Node → σ × Bool
  | s, [] => (s, true)
  | s, k :: r => if (f s k).2 then kidsF f (f s k).1 r else ((f s k).1, false)
def walkR (step : σ → Node → B → Nat → σ × Bool) (s : σ) (x : Node) (path : B) (level : Nat) : σ × Bool :=
  if (step s x path level).2 then x.kids.attach.foldl (fun r k => if r.2 then walkR step r.1 k.1 (belowR path k.1.name level) (level + 1) else r) ((step s x path level).1, true) else ((step s x path level).1, false)
 termination_by SizeOf.sizeOf x
 decreasing_by exact kid_sizeOf k.2
theorem foldl_stop {f : σ → Node → σ × Bool} (s : σ) : ∀ (l : List Node), l.foldl (fun r k => if r.2 then f r.1 k else r) (s, false) = (s, false)
  | [] => rfl
  | k :: r => foldl_stop s r
theorem foldl_kidsF {f : σ → Node → σ × Bool} : ∀ (l : List Node) (s : σ), l.foldl (fun r k => if r.2 then f r.1 k else r) (s, true) = kidsF f s l
  | [], s => rfl
  | k :: r, s => by
    rw [List.foldl_cons, kidsF]
    simp only [if_true]
    cases h : f s k with
    | mk s' b =>
      cases b with
      | true => simp only [if_true]; exact foldl_kidsF r s'
      | false => simp only [Bool.false_eq_true, if_false]; exact foldl_stop s' r
theorem walkR_eq (step : σ → Node → B → Nat → σ × Bool) (s : σ) (x : Node) (path : B) (level : Nat) : walkR step s x path level = if (step s x path level).2 then kidsF (fun s k => walkR step s k (belowR path k.name level) (level + 1)) (step s x path level).1 x.kids else ((step s x path level).1, false) := by
  rw [walkR]
  congr 1
  rw [← foldl_kidsF]
  exact List.foldl_attach (f := fun r k => if r.2 then walkR step r.1 k (belowR path k.name level) (level + 1) else r)
theorem kidsF_ok {f : σ → Node → σ × Bool} {ok : σ → Nat → Prop} (hm : ∀ s b b', b' ≤ b → ok s b → ok s b') : ∀ (l : List Node) (s : σ) (b : Nat), (∀ k ∈ l, ∀ s b, ok s (k.count + b) → ok (f s k).1 b) → ok s ((l.map Node.count).sum + b) → ok (kidsF f s l).1 b
  | [], s, b, _, h => by simpa [kidsF] using h
  | k :: r, s, b, hf, h => by
    rw [List.map_cons, List.sum_cons, Nat.add_assoc] at h
    have h1 := hf k List.mem_cons_self s _ h
    rw [kidsF]
    split
    · exact kidsF_ok hm r _ b (fun k hk => hf k (List.mem_cons_of_mem _ hk)) h1
    · exact hm _ _ _ (by omega) h1
theorem walkR_ok {step : σ → Node → B → Nat → σ × Bool} {ok : σ → Nat → Prop} (hm : ∀ s b b', b' ≤ b → ok s b → ok s b') (hok : ∀ s b x path level, ok s (b + 1) → ok (step s x path level).1 b) : ∀ (x : Node) (s : σ) (path : B) (level b : Nat), ok s (x.count + b) → ok (walkR step s x path level).1 b := by
  intro x
  induction x using Node.ind with
  | h x ih =>
  intro s path level b h
  rw [count_eq, Nat.add_assoc, Nat.add_comm] at h
  have h1 := hok s _ x path level h
  rw [walkR_eq]
  split
  · exact kidsF_ok hm _ _ _ (fun k hk s b h => ih k hk s _ _ b h) h1
  · exact hm _ _ _ (by omega) h1
end
def PreW (x : Node) (path : B) (level : Nat) : Prop := x.bulk ≤ 1099511627776 ∧ path.size + x.span ≤ 2199023255552 ∧ 1 ≤ level ∧ level + x.bulk ≤ 2199023255552
theorem walk1_spec {σ : Type} {g : FuncId} {caps : List PV} (A : σ → LS) (step : σ → Node → B → Nat → σ × Bool) (ok : σ → Nat → Prop)
    (hcaps : ∀ R : Nat → Nat → Prop, R 0 0 → MvL R caps caps) (hA : ∀ R : Nat → Nat → Prop, R 0 0 → ∀ s, MvS R (A s) (A s))
    (hmo : ∀ s b b', b' ≤ b → ok s b → ok s b') (hok : ∀ s b x path level, ok s (b + 1) → ok (step s x path level).1 b)
    (hv : ∀ s b x path level, ok s (b + 1) → PreW x path level → FCall Tryz.prog g ([.agg (nodeC x), .s (.string path), .s (.int .i64 level)] ++ caps) [A s] (.s (.bool (step s x path level).2)) [A ((step s x path level).1)]) :
    ∀ x s path level b, ok s (x.count + b) → PreW x path level → FCall Tryz.prog 80 [.agg (nodeC x), .s (.string path), .s (.int .i64 level), .fn g [] caps] [A s] (.s (.bool (walkR step s x path level).2)) [A ((walkR step s x path level).1)] := by
  intro x
  induction x using Node.ind with
  | h x ih =>
  intro s path level b hs hp
  have hk := kids_len x
  have hp' := hp
  obtain ⟨hb, hps, hl1, hl2⟩ := hp'
  have hc1 := count_eq x
  have hvis := hv s ((x.kids.map Node.count).sum + b) x path level (by rw [hc1] at hs; rw [show (x.kids.map Node.count).sum + b + 1 = 1 + (x.kids.map Node.count).sum + b by omega]; exact hs) hp
  have hok1 := hok s ((x.kids.map Node.count).sum + b) x path level (by rw [hc1] at hs; rw [show (x.kids.map Node.count).sum + b + 1 = 1 + (x.kids.map Node.count).sum + b by omega]; exact hs)
  have hw := walkR_eq step s x path level
  generalize step s x path level = r0 at *
  refine fcall_intro tab_ok Tryz.call80 Tryz.func80 rfl rfl rfl (fun G w ι => ?_)
  refine awp_seq ?_
  refine awp_reg ?_
  refine ev_box rfl rfl rfl rfl (by constructor) ?_
  refine ev_assign tab_ok rfl rfl rfl ?_
  refine ev_nil ?_ rfl
  refine awp_seq ?_
  refine awp_seq ?_
  refine awp_reg ?_
  refine ev_move tab_ok rfl rfl rfl ?_
  (refine ev_loadB tab_ok rfl rfl rfl rfl rfl rfl rfl ?_)
  refine ev_move tab_ok rfl rfl rfl ?_
  refine ev_move tab_ok rfl rfl rfl ?_
  refine ev_callG (sg := [0]) (nu := []) (Sin := [_]) (Sout := [A r0.1]) rfl rfl rfl rfl (hvis) (by repeat' (first | exact hcaps _ (by exact rfl) | (refine MvL.cons ?_ ?_) | exact .frz rfl | fail)) (by repeat' (first | exact trivial | (refine And.intro rfl ?_))) (by repeat' (first | exact hA _ (by exact rfl) _ | exact .nil | (refine MvSs.cons ?_ ?_) | fail)) (by repeat' (first | exact .frz rfl | fail)) (by repeat' (first | exact hA _ (by exact rfl) _ | exact .nil | (refine MvSs.cons ?_ ?_) | fail)) rfl rfl (by decide) rfl ?_
  refine ev_not tab_ok rfl rfl rfl ?_
  refine ev_nil ?_ rfl
  refine awp_cond rfl (fun hc => ?_) (fun hc => ?_)
  · have h0 : r0.2 = false := by simpa using hc
    rw [h0, if_neg (by decide)] at hw
    refine awp_seq ?_
    refine awp_reg ?_
    refine ev_assign tab_ok rfl rfl rfl ?_
    refine ev_nil ?_ rfl
    refine awp_ret ?_
    refine ⟨_, [0], rfl, Mv.bool (by rw [hw]), ?_, keep1⟩
    rw [hw]
    exact cut_of (by decide) (.cons rfl (hA _ (by exact rfl) _) .nil)
  · have h0 : r0.2 = true := by simpa using hc
    rw [h0, if_pos rfl] at hw
    refine awp_skip ?_
    refine awp_seq ?_
    refine awp_seq ?_
    refine awp_reg ?_
    (refine ev_faB tab_ok rfl rfl rfl rfl rfl rfl rfl ?_)
    (refine ev_loadB tab_ok rfl rfl rfl rfl rfl rfl rfl ?_)
    (refine ev_lenL tab_ok rfl rfl rfl rfl rfl rfl ?_)
    refine ev_move tab_ok rfl rfl rfl ?_
    refine ev_nil ?_ rfl
    refine awp_block ?_
    refine awp_loop (fun q : Nat × σ => ⟨[(20, .s (.int .i64 q.1)), (19, .s (.int .i64 x.kids.length)), (18, .list (kidsC x.kids)), (1, .s (.string path)), (2, .s (.int .i64 level)), (3, .fn g [] caps)], [A (q.2)]⟩) (fun q => q.1 ≤ x.kids.length ∧ ok q.2 (((x.kids.drop q.1).map Node.count).sum + b) ∧ walkR step s x path level = kidsF (fun s k => walkR step s k (belowR path k.name level) (level + 1)) q.2 (x.kids.drop q.1)) (fun q => x.kids.length - q.1) (0, r0.1) [0] ?_ ⟨Nat.zero_le _, by simpa using hok1, by simpa using hw⟩ keep1 (fun q hq => ?_)
    · all_goals (try refine le_of (by decide) ?_ ?_)
      repeat' (first | exact trivial | exact hA _ (by exact rfl) _ | exact Mv.fnL .nil (hcaps _ (by exact rfl)) | exact .nil | (refine CutL.cons rfl ?_ ?_) | (refine EnvLe.cons rfl ?_ ?_) | exact .frz rfl | (refine Mv.int ?_) | fail)
      all_goals (try simp only [wrap_addL, wrap_addR, wrap_subL, wrap_subR]); all_goals (try (rw [wrap_i64 (by omega) (by omega)]; omega))
      all_goals simp [kidsC_length]
    obtain ⟨i, s1⟩ := q
    obtain ⟨hi, hs1, hw1⟩ := hq
    simp only at hi hs1 hw1
    change AWp _ _ _ ⟨[(20, .s (.int .i64 i)), (19, .s (.int .i64 x.kids.length)), (18, .list (kidsC x.kids)), (1, .s (.string path)), (2, .s (.int .i64 level)), (3, .fn g [] caps)], [A s1]⟩ _
    refine awp_seq ?_
    refine awp_reg ?_
    (refine ev_ilss tab_ok rfl rfl rfl rfl ?_)
    refine ev_nil ?_ rfl
    refine awp_seq ?_
    refine awp_cond rfl (fun hc => ?_) (fun hc => ?_)
    · refine awp_skip ?_
      have hlt : i < x.kids.length := by simpa using hc
      have hx : x.kids[i]? = some x.kids[i] := List.getElem?_eq_getElem hlt
      have hm : x.kids[i] ∈ x.kids := List.getElem_mem _
      have h1 := kid_bulk hm
      have h2 := kid_span hm
      have h3 := belowR_size path x.kids[i].name level
      have e1 : IntKind.i64.wrap ((level : Int) + 1) = ((level + 1 : Nat) : Int) := by rw [wrap_i64 (by omega) (by omega)]; omega
      rw [List.drop_eq_getElem_cons hlt, kidsF] at hw1
      rw [List.drop_eq_getElem_cons hlt, List.map_cons, List.sum_cons, Nat.add_assoc] at hs1
      have hpk : PreW x.kids[i] (belowR path x.kids[i].name level) (level + 1) := ⟨by omega, by omega, by omega, by omega⟩
      have hcall := ih _ hm s1 _ _ _ hs1 hpk
      have hok2 := walkR_ok hmo hok x.kids[i] s1 (belowR path x.kids[i].name level) (level + 1) _ hs1
      refine awp_seq ?_
      refine awp_block ?_
      refine awp_seq ?_
      refine awp_reg ?_
      (refine ev_iaL tab_ok rfl rfl rfl rfl rfl rfl rfl rfl rfl (by omega) (by rw [Int.toNat_natCast]; exact kidsC_get hx) rfl ?_)
      (refine ev_loadE tab_ok rfl rfl rfl rfl rfl rfl ?_)
      refine ev_alloc tab_ok rfl rfl rfl rfl rfl rfl (by constructor) ?_
      refine ev_store tab_ok rfl rfl rfl rfl rfl rfl rfl rfl rfl (by repeat constructor) ?_
      refine ev_nil ?_ rfl
      generalize x.kids[i] = k at *
      generalize walkR step s1 k (belowR path k.name level) (level + 1) = r1 at *
      refine awp_seq ?_
      refine awp_draw mixed ?_
      (refine ev_loadB tab_ok rfl rfl rfl rfl rfl rfl rfl ?_)
      refine ev_move tab_ok rfl rfl rfl ?_
      (refine ev_faB tab_ok rfl rfl rfl rfl rfl rfl rfl ?_)
      (refine ev_loadB tab_ok rfl rfl rfl rfl rfl rfl rfl ?_)
      refine ev_move tab_ok rfl rfl rfl ?_
      (refine ev_iadd tab_ok rfl rfl rfl rfl ?_)
      try refine ev_as (by rw [e1]) ?_
      refine ev_call rfl rfl rfl rfl rfl (belowP_spec path k.name level hl1 (by omega)) rfl ?_
      refine ev_move tab_ok rfl rfl rfl ?_
      (refine ev_iadd tab_ok rfl rfl rfl rfl ?_)
      try refine ev_as (by rw [e1]) ?_
      refine ev_move tab_ok rfl rfl rfl ?_
      refine ev_callG (sg := [0]) (nu := []) (Sin := [_]) (Sout := [A r1.1]) rfl rfl rfl rfl (hcall) (by repeat' (first | exact hcaps _ (by exact rfl) | exact .nil | (refine MvL.cons ?_ ?_) | exact .frz rfl | (refine Mv.fnL ?_ ?_) | fail)) (by repeat' (first | exact trivial | (refine And.intro rfl ?_))) (by repeat' (first | exact hA _ (by exact rfl) _ | exact .nil | (refine MvSs.cons ?_ ?_) | fail)) (by repeat' (first | exact .frz rfl | fail)) (by repeat' (first | exact hA _ (by exact rfl) _ | exact .nil | (refine MvSs.cons ?_ ?_) | fail)) rfl rfl (by decide) rfl ?_
      refine ev_not tab_ok rfl rfl rfl ?_
      refine ev_nilD ?_ (by kernel_rfl)
      refine awp_cond rfl (fun hc => ?_) (fun hc => ?_)
      · have h0 : r1.2 = false := by simpa using hc
        rw [h0, if_neg (by decide)] at hw1
        refine awp_seq ?_
        refine awp_reg ?_
        refine ev_assign tab_ok rfl rfl rfl ?_
        refine ev_nil ?_ rfl
        refine awp_ret ?_
        refine ⟨_, [0], rfl, Mv.bool (by rw [hw1]), ?_, keep1⟩
        rw [hw1]
        exact cut_of (by decide) (.cons rfl (hA _ (by exact rfl) _) .nil)
      · have h0 : r1.2 = true := by simpa using hc
        rw [h0, if_pos rfl] at hw1
        refine awp_skip ?_
        refine awp_reg ?_
        (refine ev_iadd tab_ok rfl rfl rfl rfl ?_)
        refine ev_move tab_ok rfl rfl rfl ?_
        refine ev_nil ?_ rfl
        refine ⟨(i + 1, r1.1), [0], ?_, by show x.kids.length - (i + 1) < x.kids.length - i; omega, ⟨hlt, hok2, hw1⟩, keep1⟩
        all_goals (try refine le_of (by decide) ?_ ?_)
        repeat' (first | exact trivial | exact hA _ (by exact rfl) _ | exact Mv.fnL .nil (hcaps _ (by exact rfl)) | exact .nil | (refine CutL.cons rfl ?_ ?_) | (refine EnvLe.cons rfl ?_ ?_) | exact .frz rfl | (refine Mv.int ?_) | fail)
        all_goals (try simp only [wrap_addL, wrap_addR, wrap_subL, wrap_subR]); all_goals (try (rw [wrap_i64 (by omega) (by omega)]; omega))
    · refine awp_exit ?_
      have hge : i = x.kids.length := by
        have : ¬ i < x.kids.length := by simpa using hc
        omega
      subst hge
      rw [List.drop_length, kidsF] at hw1
      refine awp_seq ?_
      refine awp_reg ?_
      refine ev_assign tab_ok rfl rfl rfl ?_
      refine ev_nil ?_ rfl
      refine awp_ret ?_
      refine ⟨_, [0], rfl, Mv.bool (by rw [hw1]), ?_, keep1⟩
      rw [hw1]
      exact cut_of (by decide) (.cons rfl (hA _ (by exact rfl) _) .nil)
theorem walk2_spec {σ : Type} {g : FuncId} {caps : List PV} (A B' : σ → LS) (step : σ → Node → B → Nat → σ × Bool) (ok : σ → Nat → Prop)
    (hcaps : ∀ R : Nat → Nat → Prop, R 0 0 → R 1 1 → MvL R caps caps) (hA : ∀ R : Nat → Nat → Prop, R 0 0 → R 1 1 → ∀ s, MvS R (A s) (A s)) (hB : ∀ R : Nat → Nat → Prop, R 0 0 → R 1 1 → ∀ s, MvS R (B' s) (B' s))
    (hmo : ∀ s b b', b' ≤ b → ok s b → ok s b') (hok : ∀ s b x path level, ok s (b + 1) → ok (step s x path level).1 b)
    (hv : ∀ s b x path level, ok s (b + 1) → PreW x path level → FCall Tryz.prog g ([.agg (nodeC x), .s (.string path), .s (.int .i64 level)] ++ caps) [A s, B' s] (.s (.bool (step s x path level).2)) [A ((step s x path level).1), B' ((step s x path level).1)]) :
    ∀ x s path level b, ok s (x.count + b) → PreW x path level → FCall Tryz.prog 80 [.agg (nodeC x), .s (.string path), .s (.int .i64 level), .fn g [] caps] [A s, B' s] (.s (.bool (walkR step s x path level).2)) [A ((walkR step s x path level).1), B' ((walkR step s x path level).1)] := by
  intro x
  induction x using Node.ind with
  | h x ih =>
  intro s path level b hs hp
  have hk := kids_len x
  have hp' := hp
  obtain ⟨hb, hps, hl1, hl2⟩ := hp'
  have hc1 := count_eq x
  have hvis := hv s ((x.kids.map Node.count).sum + b) x path level (by rw [hc1] at hs; rw [show (x.kids.map Node.count).sum + b + 1 = 1 + (x.kids.map Node.count).sum + b by omega]; exact hs) hp
  have hok1 := hok s ((x.kids.map Node.count).sum + b) x path level (by rw [hc1] at hs; rw [show (x.kids.map Node.count).sum + b + 1 = 1 + (x.kids.map Node.count).sum + b by omega]; exact hs)
  have hw := walkR_eq step s x path level
  generalize step s x path level = r0 at *
  refine fcall_intro tab_ok Tryz.call80 Tryz.func80 rfl rfl rfl (fun G w ι => ?_)
  refine awp_seq ?_
  refine awp_reg ?_
  refine ev_box rfl rfl rfl rfl (by constructor) ?_
  refine ev_assign tab_ok rfl rfl rfl ?_
  refine ev_nil ?_ rfl
  refine awp_seq ?_
  refine awp_seq ?_
  refine awp_reg ?_
  refine ev_move tab_ok rfl rfl rfl ?_
  (refine ev_loadB tab_ok rfl rfl rfl rfl rfl rfl rfl ?_)
  refine ev_move tab_ok rfl rfl rfl ?_
  refine ev_move tab_ok rfl rfl rfl ?_
  refine ev_callG (sg := [0, 1]) (nu := []) (Sin := [_, _]) (Sout := [A r0.1, B' r0.1]) rfl rfl rfl rfl (hvis) (by repeat' (first | exact hcaps _ (by exact rfl) (by exact rfl) | (refine MvL.cons ?_ ?_) | exact .frz rfl | fail)) (by repeat' (first | exact trivial | (refine And.intro rfl ?_))) (by repeat' (first | exact hA _ (by exact rfl) (by exact rfl) _ | exact hB _ (by exact rfl) (by exact rfl) _ | exact .nil | (refine MvSs.cons ?_ ?_) | fail)) (by repeat' (first | exact .frz rfl | fail)) (by repeat' (first | exact hA _ (by exact rfl) (by exact rfl) _ | exact hB _ (by exact rfl) (by exact rfl) _ | exact .nil | (refine MvSs.cons ?_ ?_) | fail)) rfl rfl (by decide) rfl ?_
  refine ev_not tab_ok rfl rfl rfl ?_
  refine ev_nil ?_ rfl
  refine awp_cond rfl (fun hc => ?_) (fun hc => ?_)
  · have h0 : r0.2 = false := by simpa using hc
    rw [h0, if_neg (by decide)] at hw
    refine awp_seq ?_
    refine awp_reg ?_
    refine ev_assign tab_ok rfl rfl rfl ?_
    refine ev_nil ?_ rfl
    refine awp_ret ?_
    refine ⟨_, [0, 1], rfl, Mv.bool (by rw [hw]), ?_, keep2⟩
    rw [hw]
    exact cut_of (by decide) (.cons rfl (hA _ (by exact rfl) (by exact rfl) _) (.cons rfl (hB _ (by exact rfl) (by exact rfl) _) .nil))
  · have h0 : r0.2 = true := by simpa using hc
    rw [h0, if_pos rfl] at hw
    refine awp_skip ?_
    refine awp_seq ?_
    refine awp_seq ?_
    refine awp_reg ?_
    (refine ev_faB tab_ok rfl rfl rfl rfl rfl rfl rfl ?_)
    (refine ev_loadB tab_ok rfl rfl rfl rfl rfl rfl rfl ?_)
    (refine ev_lenL tab_ok rfl rfl rfl rfl rfl rfl ?_)
    refine ev_move tab_ok rfl rfl rfl ?_
    refine ev_nil ?_ rfl
    refine awp_block ?_
    refine awp_loop (fun q : Nat × σ => ⟨[(20, .s (.int .i64 q.1)), (19, .s (.int .i64 x.kids.length)), (18, .list (kidsC x.kids)), (1, .s (.string path)), (2, .s (.int .i64 level)), (3, .fn g [] caps)], [A (q.2), B' (q.2)]⟩) (fun q => q.1 ≤ x.kids.length ∧ ok q.2 (((x.kids.drop q.1).map Node.count).sum + b) ∧ walkR step s x path level = kidsF (fun s k => walkR step s k (belowR path k.name level) (level + 1)) q.2 (x.kids.drop q.1)) (fun q => x.kids.length - q.1) (0, r0.1) [0, 1] ?_ ⟨Nat.zero_le _, by simpa using hok1, by simpa using hw⟩ keep2 (fun q hq => ?_)
    · all_goals (try refine le_of (by decide) ?_ ?_)
      repeat' (first | exact trivial | exact hA _ (by exact rfl) (by exact rfl) _ | exact hB _ (by exact rfl) (by exact rfl) _ | exact Mv.fnL .nil (hcaps _ (by exact rfl) (by exact rfl)) | exact .nil | (refine CutL.cons rfl ?_ ?_) | (refine EnvLe.cons rfl ?_ ?_) | exact .frz rfl | (refine Mv.int ?_) | fail)
      all_goals (try simp only [wrap_addL, wrap_addR, wrap_subL, wrap_subR]); all_goals (try (rw [wrap_i64 (by omega) (by omega)]; omega))
      all_goals simp [kidsC_length]
    obtain ⟨i, s1⟩ := q
    obtain ⟨hi, hs1, hw1⟩ := hq
    simp only at hi hs1 hw1
    change AWp _ _ _ ⟨[(20, .s (.int .i64 i)), (19, .s (.int .i64 x.kids.length)), (18, .list (kidsC x.kids)), (1, .s (.string path)), (2, .s (.int .i64 level)), (3, .fn g [] caps)], [A s1, B' s1]⟩ _
    refine awp_seq ?_
    refine awp_reg ?_
    (refine ev_ilss tab_ok rfl rfl rfl rfl ?_)
    refine ev_nil ?_ rfl
    refine awp_seq ?_
    refine awp_cond rfl (fun hc => ?_) (fun hc => ?_)
    · refine awp_skip ?_
      have hlt : i < x.kids.length := by simpa using hc
      have hx : x.kids[i]? = some x.kids[i] := List.getElem?_eq_getElem hlt
      have hm : x.kids[i] ∈ x.kids := List.getElem_mem _
      have h1 := kid_bulk hm
      have h2 := kid_span hm
      have h3 := belowR_size path x.kids[i].name level
      have e1 : IntKind.i64.wrap ((level : Int) + 1) = ((level + 1 : Nat) : Int) := by rw [wrap_i64 (by omega) (by omega)]; omega
      rw [List.drop_eq_getElem_cons hlt, kidsF] at hw1
      rw [List.drop_eq_getElem_cons hlt, List.map_cons, List.sum_cons, Nat.add_assoc] at hs1
      have hpk : PreW x.kids[i] (belowR path x.kids[i].name level) (level + 1) := ⟨by omega, by omega, by omega, by omega⟩
      have hcall := ih _ hm s1 _ _ _ hs1 hpk
      have hok2 := walkR_ok hmo hok x.kids[i] s1 (belowR path x.kids[i].name level) (level + 1) _ hs1
      refine awp_seq ?_
      refine awp_block ?_
      refine awp_seq ?_
      refine awp_reg ?_
      (refine ev_iaL tab_ok rfl rfl rfl rfl rfl rfl rfl rfl rfl (by omega) (by rw [Int.toNat_natCast]; exact kidsC_get hx) rfl ?_)
      (refine ev_loadE tab_ok rfl rfl rfl rfl rfl rfl ?_)
      refine ev_alloc tab_ok rfl rfl rfl rfl rfl rfl (by constructor) ?_
      refine ev_store tab_ok rfl rfl rfl rfl rfl rfl rfl rfl rfl (by repeat constructor) ?_
      refine ev_nil ?_ rfl
      generalize x.kids[i] = k at *
      generalize walkR step s1 k (belowR path k.name level) (level + 1) = r1 at *
      refine awp_seq ?_
      refine awp_draw mixed ?_
      (refine ev_loadB tab_ok rfl rfl rfl rfl rfl rfl rfl ?_)
      refine ev_move tab_ok rfl rfl rfl ?_
      (refine ev_faB tab_ok rfl rfl rfl rfl rfl rfl rfl ?_)
      (refine ev_loadB tab_ok rfl rfl rfl rfl rfl rfl rfl ?_)
      refine ev_move tab_ok rfl rfl rfl ?_
      (refine ev_iadd tab_ok rfl rfl rfl rfl ?_)
      try refine ev_as (by rw [e1]) ?_
      refine ev_call rfl rfl rfl rfl rfl (belowP_spec path k.name level hl1 (by omega)) rfl ?_
      refine ev_move tab_ok rfl rfl rfl ?_
      (refine ev_iadd tab_ok rfl rfl rfl rfl ?_)
      try refine ev_as (by rw [e1]) ?_
      refine ev_move tab_ok rfl rfl rfl ?_
      refine ev_callG (sg := [0, 1]) (nu := []) (Sin := [_, _]) (Sout := [A r1.1, B' r1.1]) rfl rfl rfl rfl (hcall) (by repeat' (first | exact hcaps _ (by exact rfl) (by exact rfl) | exact .nil | (refine MvL.cons ?_ ?_) | exact .frz rfl | (refine Mv.fnL ?_ ?_) | fail)) (by repeat' (first | exact trivial | (refine And.intro rfl ?_))) (by repeat' (first | exact hA _ (by exact rfl) (by exact rfl) _ | exact hB _ (by exact rfl) (by exact rfl) _ | exact .nil | (refine MvSs.cons ?_ ?_) | fail)) (by repeat' (first | exact .frz rfl | fail)) (by repeat' (first | exact hA _ (by exact rfl) (by exact rfl) _ | exact hB _ (by exact rfl) (by exact rfl) _ | exact .nil | (refine MvSs.cons ?_ ?_) | fail)) rfl rfl (by decide) rfl ?_
      refine ev_not tab_ok rfl rfl rfl ?_
      refine ev_nilD ?_ (by kernel_rfl)
      refine awp_cond rfl (fun hc => ?_) (fun hc => ?_)
      · have h0 : r1.2 = false := by simpa using hc
        rw [h0, if_neg (by decide)] at hw1
        refine awp_seq ?_
        refine awp_reg ?_
        refine ev_assign tab_ok rfl rfl rfl ?_
        refine ev_nil ?_ rfl
        refine awp_ret ?_
        refine ⟨_, [0, 1], rfl, Mv.bool (by rw [hw1]), ?_, keep2⟩
        rw [hw1]
        exact cut_of (by decide) (.cons rfl (hA _ (by exact rfl) (by exact rfl) _) (.cons rfl (hB _ (by exact rfl) (by exact rfl) _) .nil))
      · have h0 : r1.2 = true := by simpa using hc
        rw [h0, if_pos rfl] at hw1
        refine awp_skip ?_
        refine awp_reg ?_
        (refine ev_iadd tab_ok rfl rfl rfl rfl ?_)
        refine ev_move tab_ok rfl rfl rfl ?_
        refine ev_nil ?_ rfl
        refine ⟨(i + 1, r1.1), [0, 1], ?_, by show x.kids.length - (i + 1) < x.kids.length - i; omega, ⟨hlt, hok2, hw1⟩, keep2⟩
        all_goals (try refine le_of (by decide) ?_ ?_)
        repeat' (first | exact trivial | exact hA _ (by exact rfl) (by exact rfl) _ | exact hB _ (by exact rfl) (by exact rfl) _ | exact Mv.fnL .nil (hcaps _ (by exact rfl) (by exact rfl)) | exact .nil | (refine CutL.cons rfl ?_ ?_) | (refine EnvLe.cons rfl ?_ ?_) | exact .frz rfl | (refine Mv.int ?_) | fail)
        all_goals (try simp only [wrap_addL, wrap_addR, wrap_subL, wrap_subR]); all_goals (try (rw [wrap_i64 (by omega) (by omega)]; omega))
    · refine awp_exit ?_
      have hge : i = x.kids.length := by
        have : ¬ i < x.kids.length := by simpa using hc
        omega
      subst hge
      rw [List.drop_length, kidsF] at hw1
      refine awp_seq ?_
      refine awp_reg ?_
      refine ev_assign tab_ok rfl rfl rfl ?_
      refine ev_nil ?_ rfl
      refine awp_ret ?_
      refine ⟨_, [0, 1], rfl, Mv.bool (by rw [hw1]), ?_, keep2⟩
      rw [hw1]
      exact cut_of (by decide) (.cons rfl (hA _ (by exact rfl) (by exact rfl) _) (.cons rfl (hB _ (by exact rfl) (by exact rfl) _) .nil))
end Go.Proofs.Pm
end

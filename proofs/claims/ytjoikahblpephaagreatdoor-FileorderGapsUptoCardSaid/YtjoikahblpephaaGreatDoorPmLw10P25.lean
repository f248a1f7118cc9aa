/- A part of the proof of one law: the machine on pure values and the walks of functions. -/
import Derived.Test.YtjoikahblpephaaGreatDoorPmLw10P24
set_option linter.all false
section
namespace Go.Proofs.Pm
open Go
def SymOk (m : WM) (idx : B → Nat) (N : Nat) : Prop := ∀ (A X Y C Z : List B) (l0 : List B) (a md b : Nat), X.length + Y.length ≤ N → l0 = A ++ X ++ Y ++ C → A.length = a → a + X.length = md → md + Y.length = b → X ≠ [] → Y ≠ [] → Runs (wOf m) idx X Y → Z.Pairwise (leR (wOf m) idx) → Z.Perm (X ++ Y) → l0.length ≤ 1099511627776 →
    FCall Tryz.prog 116 [.sl 0 l0.length, .s (.int .i64 (a : Int)), .s (.int .i64 (md : Int)), .s (.int .i64 (b : Int)), .fn 53 [] [.ptr 1 0]] [.box (strS l0) 9, .box [.mp 2] 76, .mp (mpOf (kvW m))] (.tup []) [.box (strS (A ++ Z ++ C)) 9, .box [.mp 2] 76, .mp (mpOf (kvW m))]
set_option maxHeartbeats 4000000 in
theorem sym3_spec (m : WM) (idx : B → Nat) (N : Nat) (ih : SymOk m idx N) (A X Y C Z : List B) (l0 : List B) (a md b : Nat) (hN : X.length + Y.length ≤ N + 1) (hl0 : l0 = A ++ X ++ Y ++ C) (ha : A.length = a) (hm : a + X.length = md) (hb : md + Y.length = b) (hX : 2 ≤ X.length) (hY : 2 ≤ Y.length) (hR : Runs (wOf m) idx X Y) (hZ : Z.Pairwise (leR (wOf m) idx)) (hZp : Z.Perm (X ++ Y)) (hn : l0.length ≤ 1099511627776) :
    FCall Tryz.prog 116 [.sl 0 l0.length, .s (.int .i64 (a : Int)), .s (.int .i64 (md : Int)), .s (.int .i64 (b : Int)), .fn 53 [] [.ptr 1 0]] [.box (strS l0) 9, .box [.mp 2] 76, .mp (mpOf (kvW m))] (.tup []) [.box (strS (A ++ Z ++ C)) 9, .box [.mp 2] 76, .mp (mpOf (kvW m))] := by
  have hlen := rotA hl0
  have hxg : ∀ h, a ≤ h → h < md → getS l0 h = getS X (h - a) := fun h h1 h2 => by
    rw [hl0, List.append_assoc, List.append_assoc, ← List.append_assoc A X, getS_in (by omega) (by omega), ha]
  have hyg : ∀ h, md ≤ h → h < b → getS l0 h = getS Y (h - md) := fun h h1 h2 => by
    rw [hl0, getS_in (by simp; omega) (by simp; omega)]
    congr 1
    simp; omega
  obtain ⟨mid, hmid⟩ : ∃ mid, mid = (a + b) / 2 := ⟨_, rfl⟩
  obtain ⟨lo, hlo⟩ : ∃ lo, lo = if mid < md then mid + md - b else a := ⟨_, rfl⟩
  obtain ⟨hi, hhi⟩ : ∃ hi, hi = if mid < md then mid else md := ⟨_, rfl⟩
  have hb1 : a ≤ lo ∧ lo ≤ hi ∧ hi ≤ md ∧ hi ≤ mid ∧ mid + md ≤ lo + b := by
    rw [hlo, hhi]; split <;> omega
  obtain ⟨b1, b2, b3, b4, b5⟩ := hb1
  have hmono : ∀ c c', c ≤ c' → lo ≤ c → c' < hi → ltK (wOf m) (getS l0 (mid + md - 1 - c)) (getS l0 c) = true → ltK (wOf m) (getS l0 (mid + md - 1 - c')) (getS l0 c') = true := fun c c' h1 h2 h3 h4 => by
    rw [hyg _ (by omega) (by omega), hxg c (by omega) (by omega)] at h4
    rw [hyg _ (by omega) (by omega), hxg c' (by omega) (by omega)]
    have k1 := mono_get hR.x (i := c - a) (j := c' - a) (by omega) (by omega)
    have k2 := mono_get hR.y (i := mid + md - 1 - c' - md) (j := mid + md - 1 - c - md) (by omega) (by omega)
    rw [ltK_key] at h4 ⊢
    omega
  refine fcall_intro tab_ok Tryz.call116 Tryz.func116 rfl rfl rfl (fun G w ι => ?_)
  refine awp_seq ?_
  refine awp_seq ?_
  refine awp_reg ?_
  refine ev_move tab_ok rfl rfl rfl ?_
  refine ev_move tab_ok rfl rfl rfl ?_
  refine ev_isub tab_ok rfl rfl rfl rfl ?_
  try refine ev_as (show _ = PV.s (.int .i64 ((X.length : Nat) : Int)) by rw [wrap_i64 (by omega) (by omega)]; congr 2; omega) ?_
  (refine ev_ieql tab_ok rfl rfl rfl rfl ?_)
  refine ev_nil ?_ rfl
  refine awp_cond rfl (fun hc => ?_) (fun hc => ?_)
  · have : (X.length : Int) = 1 := by simpa using hc
    omega
  refine awp_skip ?_
  refine awp_seq ?_
  refine awp_seq ?_
  refine awp_reg ?_
  refine ev_move tab_ok rfl rfl rfl ?_
  refine ev_move tab_ok rfl rfl rfl ?_
  refine ev_isub tab_ok rfl rfl rfl rfl ?_
  try refine ev_as (show _ = PV.s (.int .i64 ((Y.length : Nat) : Int)) by rw [wrap_i64 (by omega) (by omega)]; congr 2; omega) ?_
  (refine ev_ieql tab_ok rfl rfl rfl rfl ?_)
  refine ev_nil ?_ rfl
  refine awp_cond rfl (fun hc => ?_) (fun hc => ?_)
  · have : (Y.length : Int) = 1 := by simpa using hc
    omega
  refine awp_skip ?_
  refine awp_seq ?_
  refine awp_reg ?_
  refine ev_move tab_ok rfl rfl rfl ?_
  refine ev_move tab_ok rfl rfl rfl ?_
  (refine ev_iadd tab_ok rfl rfl rfl rfl ?_)
  try refine ev_as (show _ = PV.s (.int .i64 ((a + b : Nat) : Int)) by rw [wrap_i64 (by omega) (by omega)]; rfl) ?_
  (refine ev_conv tab_ok rfl rfl rfl rfl rfl rfl rfl rfl ?_)
  try refine ev_as (show _ = PV.s (.int .u64 ((a + b : Nat) : Int)) by rw [wrap_u64 (by omega) (by omega)]) ?_
  (refine ev_ishr tab_ok rfl rfl rfl rfl (by decide) ?_)
  try refine ev_as (show _ = PV.s (.int .u64 (mid : Int)) by rw [half_shr, hmid]) ?_
  (refine ev_conv tab_ok rfl rfl rfl rfl rfl rfl rfl rfl ?_)
  try refine ev_as (show _ = PV.s (.int .i64 (mid : Int)) by rw [wrap_i64 (by omega) (by omega)]) ?_
  refine ev_assign tab_ok rfl rfl rfl ?_
  refine ev_nil ?_ rfl
  refine awp_seq ?_
  refine awp_reg ?_
  refine ev_move tab_ok rfl rfl rfl ?_
  refine ev_move tab_ok rfl rfl rfl ?_
  (refine ev_iadd tab_ok rfl rfl rfl rfl ?_)
  try refine ev_as (show _ = PV.s (.int .i64 ((mid + md : Nat) : Int)) by rw [wrap_i64 (by omega) (by omega)]; rfl) ?_
  refine ev_assign tab_ok rfl rfl rfl ?_
  refine ev_nil ?_ rfl
  refine awp_seq ?_
  refine awp_reg ?_
  refine ev_assign tab_ok rfl rfl rfl ?_
  refine ev_assign tab_ok rfl rfl rfl ?_
  refine ev_nil ?_ rfl
  refine awp_seq_to ⟨[(20, .s (.int .i64 (lo : Int))), (21, .s (.int .i64 (hi : Int))), (19, .s (.int .i64 ((mid + md : Nat) : Int))), (18, .s (.int .i64 (mid : Int))), (0, .sl 0 l0.length), (1, .s (.int .i64 (a : Int))), (2, .s (.int .i64 (md : Int))), (3, .s (.int .i64 (b : Int))), (4, .fn 53 [] [.ptr 1 0])], [.box (strS l0) 9, .box [.mp 2] 76, .mp (mpOf (kvW m))]⟩ ?_ ?_
  · refine awp_seq ?_
    refine awp_reg ?_
    refine ev_move tab_ok rfl rfl rfl ?_
    refine ev_move tab_ok rfl rfl rfl ?_
    refine ev_igtr tab_ok rfl rfl rfl rfl ?_
    refine ev_nil ?_ rfl
    refine awp_cond rfl (fun hc => ?_) (fun hc => ?_)
    · have hlt : mid < md := by rw [dec_lt] at hc; exact of_decide_eq_true hc
      rw [if_pos hlt] at hlo hhi
      refine awp_seq ?_
      refine awp_reg ?_
      refine ev_move tab_ok rfl rfl rfl ?_
      refine ev_move tab_ok rfl rfl rfl ?_
      refine ev_isub tab_ok rfl rfl rfl rfl ?_
      try refine ev_as (show _ = PV.s (.int .i64 (lo : Int)) by rw [wrap_i64 (by omega) (by omega)]; congr 2; omega) ?_
      refine ev_assign tab_ok rfl rfl rfl ?_
      refine ev_nil ?_ rfl
      refine awp_reg ?_
      refine ev_move tab_ok rfl rfl rfl ?_
      refine ev_assign tab_ok rfl rfl rfl ?_
      refine ev_nil ?_ rfl
      refine ⟨[0, 1, 2], ?_, keep3⟩
      all_goals (try refine le_of (by decide) ?_ ?_)
      repeat' (first | exact trivial | exact .nil | (refine CutL.cons rfl ?_ ?_) | (refine EnvLe.cons rfl ?_ ?_) | exact MvS.box (strS_mv _) | exact .sl rfl | exact .frz rfl | (refine Mv.int ?_) | fail)
      all_goals (try simp only [wrap_addL, wrap_addR, wrap_subL, wrap_subR]); all_goals (try (rw [wrap_i64 (by omega) (by omega)]; omega))
      all_goals first | exact .box (.cons (.mp rfl) .nil) | exact .mp (kvW_mv m) | exact Mv.fnL .nil (.cons (.ptr rfl) .nil) | rw [hhi]
    · have hlt : ¬ mid < md := by rw [dec_lt] at hc; simpa using hc
      rw [if_neg hlt] at hlo hhi
      refine awp_seq ?_
      refine awp_reg ?_
      refine ev_move tab_ok rfl rfl rfl ?_
      refine ev_assign tab_ok rfl rfl rfl ?_
      refine ev_nil ?_ rfl
      refine awp_reg ?_
      refine ev_move tab_ok rfl rfl rfl ?_
      refine ev_assign tab_ok rfl rfl rfl ?_
      refine ev_nil ?_ rfl
      refine ⟨[0, 1, 2], ?_, keep3⟩
      all_goals (try refine le_of (by decide) ?_ ?_)
      repeat' (first | exact trivial | exact .nil | (refine CutL.cons rfl ?_ ?_) | (refine EnvLe.cons rfl ?_ ?_) | exact MvS.box (strS_mv _) | exact .sl rfl | exact .frz rfl | (refine Mv.int ?_) | fail)
      all_goals (try simp only [wrap_addL, wrap_addR, wrap_subL, wrap_subR]); all_goals (try (rw [wrap_i64 (by omega) (by omega)]; omega))
      all_goals first | exact .box (.cons (.mp rfl) .nil) | exact .mp (kvW_mv m) | exact Mv.fnL .nil (.cons (.ptr rfl) .nil) | rw [hlo] | rw [hhi]
  refine awp_seq ?_
  refine awp_reg ?_
  refine ev_move tab_ok rfl rfl rfl ?_
  refine ev_isub tab_ok rfl rfl rfl rfl ?_
  try refine ev_as (show _ = PV.s (.int .i64 ((mid + md - 1 : Nat) : Int)) by rw [wrap_i64 (by omega) (by omega)]; congr 2; omega) ?_
  refine ev_assign tab_ok rfl rfl rfl ?_
  refine ev_nil ?_ rfl
  refine awp_seq ?_
  refine awp_block ?_
  refine awp_loop (fun q : Nat × Nat => ⟨[(20, .s (.int .i64 (q.1 : Int))), (21, .s (.int .i64 (q.2 : Int))), (22, .s (.int .i64 ((mid + md - 1 : Nat) : Int))), (19, .s (.int .i64 ((mid + md : Nat) : Int))), (18, .s (.int .i64 (mid : Int))), (0, .sl 0 l0.length), (1, .s (.int .i64 (a : Int))), (2, .s (.int .i64 (md : Int))), (3, .s (.int .i64 (b : Int))), (4, .fn 53 [] [.ptr 1 0])], [.box (strS l0) 9, .box [.mp 2] 76, .mp (mpOf (kvW m))]⟩) (fun q => lo ≤ q.1 ∧ q.1 ≤ q.2 ∧ q.2 ≤ hi ∧ (∀ c, lo ≤ c → c < q.1 → ltK (wOf m) (getS l0 (mid + md - 1 - c)) (getS l0 c) = false) ∧ ∀ c, q.2 ≤ c → c < hi → ltK (wOf m) (getS l0 (mid + md - 1 - c)) (getS l0 c) = true) (fun q => q.2 - q.1) (lo, hi) [0, 1, 2] ?_ ⟨Nat.le_refl _, b2, Nat.le_refl _, fun h h1 h2 => absurd h2 (by show ¬ h < lo; omega), fun h h1 h2 => absurd h2 (by show ¬ h < hi; have : hi ≤ h := h1; omega)⟩ keep3 (fun q hq => ?_)
  · all_goals (try refine le_of (by decide) ?_ ?_)
    repeat' (first | exact trivial | exact .nil | (refine CutL.cons rfl ?_ ?_) | (refine EnvLe.cons rfl ?_ ?_) | exact MvS.box (strS_mv _) | exact .sl rfl | exact .frz rfl | fail)
    all_goals (try simp only [wrap_addL, wrap_addR, wrap_subL, wrap_subR]); all_goals (try (rw [wrap_i64 (by omega) (by omega)]; omega))
    all_goals first | exact .box (.cons (.mp rfl) .nil) | exact .mp (kvW_mv m) | exact Mv.fnL .nil (.cons (.ptr rfl) .nil)
  obtain ⟨i, j⟩ := q
  obtain ⟨hi1, hij, hj, hfa, htr⟩ := hq
  simp only at hi1 hij hj hfa htr
  change AWp _ _ _ ⟨[(20, .s (.int .i64 (i : Int))), (21, .s (.int .i64 (j : Int))), (22, .s (.int .i64 ((mid + md - 1 : Nat) : Int))), (19, .s (.int .i64 ((mid + md : Nat) : Int))), (18, .s (.int .i64 (mid : Int))), (0, .sl 0 l0.length), (1, .s (.int .i64 (a : Int))), (2, .s (.int .i64 (md : Int))), (3, .s (.int .i64 (b : Int))), (4, .fn 53 [] [.ptr 1 0])], [.box (strS l0) 9, .box [.mp 2] 76, .mp (mpOf (kvW m))]⟩ _
  refine awp_seq ?_
  refine awp_seq ?_
  refine awp_reg ?_
  refine ev_move tab_ok rfl rfl rfl ?_
  refine ev_move tab_ok rfl rfl rfl ?_
  (refine ev_ilss tab_ok rfl rfl rfl rfl ?_)
  refine ev_nil ?_ rfl
  refine awp_cond rfl (fun hc => ?_) (fun hc => ?_)
  · refine awp_skip ?_
    have hlt : i < j := by simpa using hc
    have h2 : (i + j) / 2 < j ∧ i ≤ (i + j) / 2 := by omega
    obtain ⟨hcj, hci⟩ := h2
    refine awp_block ?_
    refine awp_seq ?_
    refine awp_reg ?_
    refine ev_move tab_ok rfl rfl rfl ?_
    refine ev_move tab_ok rfl rfl rfl ?_
    (refine ev_iadd tab_ok rfl rfl rfl rfl ?_)
    try refine ev_as (show _ = PV.s (.int .i64 ((i + j : Nat) : Int)) by rw [wrap_i64 (by omega) (by omega)]; rfl) ?_
    (refine ev_conv tab_ok rfl rfl rfl rfl rfl rfl rfl rfl ?_)
    try refine ev_as (show _ = PV.s (.int .u64 ((i + j : Nat) : Int)) by rw [wrap_u64 (by omega) (by omega)]) ?_
    (refine ev_ishr tab_ok rfl rfl rfl rfl (by decide) ?_)
    try refine ev_as (show _ = PV.s (.int .u64 (((i + j) / 2 : Nat) : Int)) by rw [half_shr]) ?_
    (refine ev_conv tab_ok rfl rfl rfl rfl rfl rfl rfl rfl ?_)
    try refine ev_as (show _ = PV.s (.int .i64 (((i + j) / 2 : Nat) : Int)) by rw [wrap_i64 (by omega) (by omega)]) ?_
    refine ev_assign tab_ok rfl rfl rfl ?_
    refine ev_nil ?_ rfl
    generalize hce : (i + j) / 2 = c at *
    refine awp_seq ?_
    refine awp_draw mixed ?_
    refine ev_move tab_ok rfl rfl rfl ?_
    refine ev_move tab_ok rfl rfl rfl ?_
    refine ev_move tab_ok rfl rfl rfl ?_
    refine ev_move tab_ok rfl rfl rfl ?_
    refine ev_isub tab_ok rfl rfl rfl rfl ?_
    try refine ev_as (show _ = PV.s (.int .i64 ((mid + md - 1 - c : Nat) : Int)) by rw [wrap_i64 (by omega) (by omega)]; congr 2; omega) ?_
    (refine ev_iaS tab_ok rfl rfl rfl rfl rfl rfl rfl rfl rfl rfl (by omega) (by omega) ?_)
    try refine ev_as (show _ = PV.ptr 0 (mid + md - 1 - c) by rw [Int.toNat_natCast]) ?_
    (refine ev_loadB tab_ok rfl rfl rfl rfl rfl rfl (strS_load rfl (by omega)) ?_)
    refine ev_move tab_ok rfl rfl rfl ?_
    refine ev_move tab_ok rfl rfl rfl ?_
    (refine ev_iaS tab_ok rfl rfl rfl rfl rfl rfl rfl rfl rfl rfl (by omega) (by omega) ?_)
    try refine ev_as (show _ = PV.ptr 0 c by rw [Int.toNat_natCast]) ?_
    (refine ev_loadB tab_ok rfl rfl rfl rfl rfl rfl (strS_load rfl (by omega)) ?_)
    refine ev_callG (sg := [1, 2]) (nu := []) (Sin := [_, _]) (Sout := [.box [.mp 2] 76, .mp (mpOf (kvW m))]) rfl rfl rfl rfl (cmpW_spec m (getS l0 (mid + md - 1 - c)) (getS l0 c)) (by repeat' (first | exact .nil | (refine MvL.cons ?_ ?_) | exact .ptr rfl | exact .frz rfl | fail)) (by repeat' (first | exact trivial | (refine And.intro rfl ?_))) (by repeat' (first | exact .nil | (refine MvSs.cons ?_ ?_) | (refine MvS.box ?_) | (refine MvS.mp ?_) | exact kvW_mv _ | (refine MvL.cons ?_ ?_) | exact .mp rfl | fail)) (by repeat' (first | exact .frz rfl | fail)) (by repeat' (first | exact .nil | (refine MvSs.cons ?_ ?_) | (refine MvS.box ?_) | (refine MvS.mp ?_) | exact kvW_mv _ | (refine MvL.cons ?_ ?_) | exact .mp rfl | fail)) rfl rfl (by decide) rfl ?_
    (refine ev_ilss tab_ok rfl rfl rfl rfl ?_)
    refine ev_not tab_ok rfl rfl rfl ?_
    refine ev_nilD ?_ (by kernel_rfl)
    refine awp_cond rfl (fun hc => ?_) (fun hc => ?_)
    · rw [ltK_cmp] at hc
      have hc : ltK (wOf m) (getS l0 (mid + md - 1 - c)) (getS l0 c) = false := by simpa using hc
      refine awp_reg ?_
      refine ev_move tab_ok rfl rfl rfl ?_
      (refine ev_iadd tab_ok rfl rfl rfl rfl ?_)
      try refine ev_as (show _ = PV.s (.int .i64 ((c + 1 : Nat) : Int)) by rw [wrap_i64 (by omega) (by omega)]; rfl) ?_
      refine ev_assign tab_ok rfl rfl rfl ?_
      refine ev_nil ?_ rfl
      refine ⟨(c + 1, j), [0, 1, 2], ?_, by show j - (c + 1) < j - i; omega, ⟨by show lo ≤ c + 1; omega, by show c + 1 ≤ j; omega, hj, fun h h1 h2 => ?_, htr⟩, keep3⟩
      · all_goals (try refine le_of (by decide) ?_ ?_)
        repeat' (first | exact trivial | exact .nil | (refine CutL.cons rfl ?_ ?_) | (refine EnvLe.cons rfl ?_ ?_) | exact MvS.box (strS_mv _) | exact .sl rfl | exact .frz rfl | fail)
        all_goals (try simp only [wrap_addL, wrap_addR, wrap_subL, wrap_subR]); all_goals (try (rw [wrap_i64 (by omega) (by omega)]; omega))
        all_goals first | exact .box (.cons (.mp rfl) .nil) | exact .mp (kvW_mv m) | exact Mv.fnL .nil (.cons (.ptr rfl) .nil)
      · cases hk : ltK (wOf m) (getS l0 (mid + md - 1 - h)) (getS l0 h) with
        | false => rfl
        | true => exact absurd (hmono h c (by have : h < c + 1 := h2; omega) h1 (by omega) hk) (by rw [hc]; decide)
    · rw [ltK_cmp] at hc
      have hc : ltK (wOf m) (getS l0 (mid + md - 1 - c)) (getS l0 c) = true := by simpa using hc
      refine awp_reg ?_
      refine ev_move tab_ok rfl rfl rfl ?_
      refine ev_assign tab_ok rfl rfl rfl ?_
      refine ev_nil ?_ rfl
      refine ⟨(i, c), [0, 1, 2], ?_, by show c - i < j - i; omega, ⟨hi1, hci, by show c ≤ hi; omega, hfa, fun h h1 h2 => hmono c h h1 (by omega) h2 hc⟩, keep3⟩
      all_goals (try refine le_of (by decide) ?_ ?_)
      repeat' (first | exact trivial | exact .nil | (refine CutL.cons rfl ?_ ?_) | (refine EnvLe.cons rfl ?_ ?_) | exact MvS.box (strS_mv _) | exact .sl rfl | exact .frz rfl | fail)
      all_goals (try simp only [wrap_addL, wrap_addR, wrap_subL, wrap_subR]); all_goals (try (rw [wrap_i64 (by omega) (by omega)]; omega))
      all_goals first | exact .box (.cons (.mp rfl) .nil) | exact .mp (kvW_mv m) | exact Mv.fnL .nil (.cons (.ptr rfl) .nil)
  refine awp_exit ?_
  have hje : j = i := by
    have : ¬ i < j := by simpa using hc
    omega
  subst hje
  obtain ⟨en, hen⟩ : ∃ en, en = mid + md - j := ⟨_, rfl⟩
  obtain ⟨X1, X2, rfl, hX1, hX2⟩ := split_len X (n := j - a) (by omega)
  obtain ⟨Y1, Y2, rfl, hY1, hY2⟩ := split_len Y (n := en - md) (by omega)
  have hcross := merge_split hR (fun x y hx hy => ?_) (fun y x hy hx => ?_)
  rotate_left
  · have hne : X1 ≠ [] := by intro e; simp [e] at hx
    have hne2 : Y2 ≠ [] := by intro e; simp [e] at hy
    have l1 := List.length_pos_iff.2 hne
    have l2 := List.length_pos_iff.2 hne2
    have hxe : x = getS l0 (j - 1) := by
      rw [hxg _ (by omega) (by omega), getS_left (by omega)]
      rw [getLast_some hne] at hx
      cases hx
      rw [List.getLast_eq_getElem]
      simp [getS, show j - 1 - a = X1.length - 1 by omega, show X1.length - 1 < X1.length by omega]
    have hye : y = getS l0 en := by
      rw [hyg _ (by omega) (by omega), getS_right (by omega), show en - md - Y1.length = 0 by omega]
      cases Y2 with
      | nil => exact absurd rfl hne2
      | cons f r => simp at hy; subst hy; rfl
    have hlo1 : lo ≤ j - 1 := by
      rw [hlo]
      split
      · simp only [List.length_append] at hb hY2; omega
      · omega
    have := hfa (j - 1) hlo1 (by omega)
    rw [show mid + md - 1 - (j - 1) = en by omega] at this
    rw [hxe, hye]
    exact this
  · have hne : Y1 ≠ [] := by intro e; simp [e] at hy
    have hne2 : X2 ≠ [] := by intro e; simp [e] at hx
    have l1 := List.length_pos_iff.2 hne
    have l2 := List.length_pos_iff.2 hne2
    have hye : y = getS l0 (en - 1) := by
      rw [hyg _ (by omega) (by omega), getS_left (by omega)]
      rw [getLast_some hne] at hy
      cases hy
      rw [List.getLast_eq_getElem]
      simp [getS, show en - 1 - md = Y1.length - 1 by omega, show Y1.length - 1 < Y1.length by omega]
    have hxe : x = getS l0 j := by
      rw [hxg _ (by omega) (by simp only [List.length_append] at hm hX2; omega), getS_right (by omega), show j - a - X1.length = 0 by omega]
      cases X2 with
      | nil => exact absurd rfl hne2
      | cons f r => simp at hx; subst hx; rfl
    have hhi1 : j < hi := by
      rw [hhi]
      simp only [List.length_append] at hm hX2
      split
      · omega
      · omega
    have := htr j (Nat.le_refl _) hhi1
    rw [show mid + md - 1 - j = en - 1 by omega] at this
    rw [hxe, hye]
    exact this
  obtain ⟨hR1, hR2⟩ := hR.sub
  obtain ⟨Z1, hZ1, hZ1p⟩ := sort_exists (wOf m) idx (X1 ++ Y1)
  obtain ⟨Z2, hZ2, hZ2p⟩ := sort_exists (wOf m) idx (X2 ++ Y2)
  have hperm : (X1 ++ Y1 ++ (X2 ++ Y2)).Perm (X1 ++ X2 ++ (Y1 ++ Y2)) := by
    have h1 : (Y1 ++ (X2 ++ Y2)).Perm (X2 ++ (Y1 ++ Y2)) := by
      rw [← List.append_assoc, ← List.append_assoc]
      exact List.perm_append_comm.append_right Y2
    have := h1.append_left X1
    simpa using this
  have hZe : Z1 ++ Z2 = Z := by
    refine sorted_unique hR.inj ?_ hZ ((hZ1p.append hZ2p).trans hperm) hZp
    rw [List.pairwise_append]
    exact ⟨hZ1, hZ2, fun p hp q hq => hcross p (hZ1p.mem_iff.1 hp) q (hZ2p.mem_iff.1 hq)⟩
  have hlX : (X1 ++ X2).length = X1.length + X2.length := List.length_append
  have hlY : (Y1 ++ Y2).length = Y1.length + Y2.length := List.length_append
  rw [hlX] at hm hX hX2 hlen hN
  rw [hlY] at hb hY hY2 hlen hN
  have hY2' : Y2.length = Y1.length + Y2.length - (en - md) := hY2
  have hz1l : Z1.length = X1.length + Y1.length := by rw [hZ1p.length_eq]; simp
  have hz2l : Z2.length = X2.length + Y2.length := by rw [hZ2p.length_eq]; simp
  obtain ⟨l1, hl1⟩ : ∃ l1, l1 = A ++ (X1 ++ Y1) ++ (X2 ++ Y2) ++ C := ⟨_, rfl⟩
  obtain ⟨l2, hl2⟩ : ∃ l2, l2 = A ++ Z1 ++ (X2 ++ Y2) ++ C := ⟨_, rfl⟩
  have hl1l : l1.length = l0.length := by rw [hl1, hlen]; simp; omega
  have hl2l : l2.length = l0.length := by rw [hl2, hlen]; simp; omega
  refine awp_seq ?_
  refine awp_reg ?_
  refine ev_move tab_ok rfl rfl rfl ?_
  refine ev_move tab_ok rfl rfl rfl ?_
  refine ev_isub tab_ok rfl rfl rfl rfl ?_
  try refine ev_as (show _ = PV.s (.int .i64 (en : Int)) by rw [wrap_i64 (by omega) (by omega)]; congr 2; omega) ?_
  refine ev_assign tab_ok rfl rfl rfl ?_
  refine ev_nil ?_ rfl
  refine awp_seq_to ⟨[(24, .s (.int .i64 (en : Int))), (20, .s (.int .i64 (j : Int))), (18, .s (.int .i64 (mid : Int))), (0, .sl 0 l0.length), (1, .s (.int .i64 (a : Int))), (2, .s (.int .i64 (md : Int))), (3, .s (.int .i64 (b : Int))), (4, .fn 53 [] [.ptr 1 0])], [.box (strS l1) 9, .box [.mp 2] 76, .mp (mpOf (kvW m))]⟩ ?_ ?_
  · refine awp_seq_to ⟨[(185, .s (.bool (decide (j < md) && decide (md < en)))), (24, .s (.int .i64 (en : Int))), (20, .s (.int .i64 (j : Int))), (18, .s (.int .i64 (mid : Int))), (0, .sl 0 l0.length), (1, .s (.int .i64 (a : Int))), (2, .s (.int .i64 (md : Int))), (3, .s (.int .i64 (b : Int))), (4, .fn 53 [] [.ptr 1 0])], [.box (strS l0) 9, .box [.mp 2] 76, .mp (mpOf (kvW m))]⟩ ?_ ?_
    · cases hy : decide (j < md)
      all_goals
        refine awp_reg ?_
        refine ev_move tab_ok rfl rfl rfl ?_
        refine ev_move tab_ok rfl rfl rfl ?_
        (refine ev_ilss tab_ok rfl rfl rfl rfl ?_)
        try refine ev_as (show _ = PV.s (.bool _) by rw [dec_lt, hy]) ?_
        refine ev_move tab_ok rfl rfl rfl ?_
        (first | refine ev_skip rfl rfl ?_ | refine ev_move tab_ok rfl rfl rfl ?_)
        (first | refine ev_skip rfl rfl ?_ | refine ev_move tab_ok rfl rfl rfl ?_)
        (first | refine ev_skip rfl rfl ?_ | refine ev_ilss tab_ok rfl rfl rfl rfl ?_)
        (first | refine ev_pickT tab_ok rfl rfl rfl rfl rfl ?_ | refine ev_pickF tab_ok rfl rfl rfl rfl rfl ?_)
        refine ev_nil ?_ rfl
        refine ⟨[0, 1, 2], ?_, keep3⟩
        all_goals (try refine le_of (by decide) ?_ ?_)
        repeat' (first | exact trivial | exact .nil | (refine CutL.cons rfl ?_ ?_) | (refine EnvLe.cons rfl ?_ ?_) | exact MvS.box (strS_mv _) | exact .sl rfl | exact .frz rfl | (refine Mv.bool ?_) | fail)
        all_goals (try simp only [wrap_addL, wrap_addR, wrap_subL, wrap_subR]); all_goals (try (rw [wrap_i64 (by omega) (by omega)]; omega))
        all_goals first | exact .box (.cons (.mp rfl) .nil) | exact .mp (kvW_mv m) | exact Mv.fnL .nil (.cons (.ptr rfl) .nil) | (rw [dec_lt]; rfl)
    refine awp_cond rfl (fun hc => ?_) (fun hc => ?_)
    · rw [Bool.and_eq_true, decide_eq_true_eq, decide_eq_true_eq] at hc
      have hrot := rotP_spec m (A ++ X1) X2 Y1 (Y2 ++ C) (by intro e; have h0 := congrArg List.length e; rw [List.length_nil] at h0; omega) (by intro e; have h0 := congrArg List.length e; rw [List.length_nil] at h0; omega) l0 (by rw [hl0]; simp) hn j md en (by simp; omega) (by omega) (by omega)
      rw [show A ++ X1 ++ Y1 ++ X2 ++ (Y2 ++ C) = l1 by rw [hl1]; simp] at hrot
      refine awp_reg ?_
      refine ev_move tab_ok rfl rfl rfl ?_
      refine ev_move tab_ok rfl rfl rfl ?_
      refine ev_move tab_ok rfl rfl rfl ?_
      refine ev_move tab_ok rfl rfl rfl ?_
      refine ev_move tab_ok rfl rfl rfl ?_
      refine ev_callG (sg := [0, 1, 2]) (nu := []) (Sin := [_, _, _]) (Sout := [.box (strS l1) 9, .box [.mp 2] 76, .mp (mpOf (kvW m))]) rfl rfl rfl rfl (hrot) (by repeat' (first | exact .nil | (refine MvL.cons ?_ ?_) | exact .ptr rfl | exact .sl rfl | exact .frz rfl | (refine Mv.fnL ?_ ?_) | fail)) (by repeat' (first | exact trivial | (refine And.intro rfl ?_))) (by repeat' (first | exact .nil | (refine MvSs.cons ?_ ?_) | (refine MvS.box ?_) | (refine MvS.mp ?_) | exact kvW_mv _ | exact strS_mv _ | (refine MvL.cons ?_ ?_) | exact .mp rfl | fail)) (by repeat' (first | exact .frz rfl | fail)) (by repeat' (first | exact .nil | (refine MvSs.cons ?_ ?_) | (refine MvS.box ?_) | (refine MvS.mp ?_) | exact kvW_mv _ | exact strS_mv _ | (refine MvL.cons ?_ ?_) | exact .mp rfl | fail)) rfl rfl (by decide) rfl ?_
      refine ev_nil ?_ rfl
      refine ⟨[0, 1, 2], ?_, keep3⟩
      all_goals (try refine le_of (by decide) ?_ ?_)
      repeat' (first | exact trivial | exact .nil | (refine CutL.cons rfl ?_ ?_) | (refine EnvLe.cons rfl ?_ ?_) | exact MvS.box (strS_mv _) | exact .sl rfl | exact .frz rfl | fail)
      all_goals (try simp only [wrap_addL, wrap_addR, wrap_subL, wrap_subR]); all_goals (try (rw [wrap_i64 (by omega) (by omega)]; omega))
      all_goals first | exact .box (.cons (.mp rfl) .nil) | exact .mp (kvW_mv m) | exact Mv.fnL .nil (.cons (.ptr rfl) .nil)
    · refine awp_skip ?_
      have he : X2 = [] ∨ Y1 = [] := by
        rcases Nat.lt_or_ge j md with h | h
        · right
          refine List.eq_nil_of_length_eq_zero ?_
          rw [decide_eq_true h, Bool.true_and, decide_eq_false_iff_not] at hc
          omega
        · left
          exact List.eq_nil_of_length_eq_zero (by omega)
      have hll : l0 = l1 := by
        rw [hl0, hl1]
        rcases he with rfl | rfl <;> simp
      refine ⟨[0, 1, 2], ?_, keep3⟩
      all_goals (try refine le_of (by decide) ?_ ?_)
      repeat' (first | exact trivial | exact .nil | (refine CutL.cons rfl ?_ ?_) | (refine EnvLe.cons rfl ?_ ?_) | exact .sl rfl | exact .frz rfl | fail)
      all_goals (try simp only [wrap_addL, wrap_addR, wrap_subL, wrap_subR]); all_goals (try (rw [wrap_i64 (by omega) (by omega)]; omega))
      all_goals first | exact .box (.cons (.mp rfl) .nil) | exact .mp (kvW_mv m) | exact Mv.fnL .nil (.cons (.ptr rfl) .nil) | (rw [hll]; exact .box (strS_mv _))
  refine awp_seq_to ⟨[(24, .s (.int .i64 (en : Int))), (18, .s (.int .i64 (mid : Int))), (0, .sl 0 l0.length), (3, .s (.int .i64 (b : Int))), (4, .fn 53 [] [.ptr 1 0])], [.box (strS l2) 9, .box [.mp 2] 76, .mp (mpOf (kvW m))]⟩ ?_ ?_
  · refine awp_seq_to ⟨[(199, .s (.bool (decide (a < j) && decide (j < mid)))), (24, .s (.int .i64 (en : Int))), (20, .s (.int .i64 (j : Int))), (18, .s (.int .i64 (mid : Int))), (0, .sl 0 l0.length), (1, .s (.int .i64 (a : Int))), (3, .s (.int .i64 (b : Int))), (4, .fn 53 [] [.ptr 1 0])], [.box (strS l1) 9, .box [.mp 2] 76, .mp (mpOf (kvW m))]⟩ ?_ ?_
    · cases hy : decide (a < j)
      all_goals
        refine awp_reg ?_
        refine ev_move tab_ok rfl rfl rfl ?_
        refine ev_move tab_ok rfl rfl rfl ?_
        (refine ev_ilss tab_ok rfl rfl rfl rfl ?_)
        try refine ev_as (show _ = PV.s (.bool _) by rw [dec_lt, hy]) ?_
        refine ev_move tab_ok rfl rfl rfl ?_
        (first | refine ev_skip rfl rfl ?_ | refine ev_move tab_ok rfl rfl rfl ?_)
        (first | refine ev_skip rfl rfl ?_ | refine ev_move tab_ok rfl rfl rfl ?_)
        (first | refine ev_skip rfl rfl ?_ | refine ev_ilss tab_ok rfl rfl rfl rfl ?_)
        (first | refine ev_pickT tab_ok rfl rfl rfl rfl rfl ?_ | refine ev_pickF tab_ok rfl rfl rfl rfl rfl ?_)
        refine ev_nil ?_ rfl
        refine ⟨[0, 1, 2], ?_, keep3⟩
        all_goals (try refine le_of (by decide) ?_ ?_)
        repeat' (first | exact trivial | exact .nil | (refine CutL.cons rfl ?_ ?_) | (refine EnvLe.cons rfl ?_ ?_) | exact MvS.box (strS_mv _) | exact .sl rfl | exact .frz rfl | (refine Mv.bool ?_) | fail)
        all_goals (try simp only [wrap_addL, wrap_addR, wrap_subL, wrap_subR]); all_goals (try (rw [wrap_i64 (by omega) (by omega)]; omega))
        all_goals first | exact .box (.cons (.mp rfl) .nil) | exact .mp (kvW_mv m) | exact Mv.fnL .nil (.cons (.ptr rfl) .nil) | (rw [dec_lt]; rfl)
    refine awp_cond rfl (fun hc => ?_) (fun hc => ?_)
    · rw [Bool.and_eq_true, decide_eq_true_eq, decide_eq_true_eq] at hc
      have hrec := ih A X1 Y1 (X2 ++ Y2 ++ C) Z1 l1 a j mid (by omega) (by rw [hl1]; simp) ha (by omega) (by omega) (by intro e; have h0 := congrArg List.length e; rw [List.length_nil] at h0; omega) (by intro e; have h0 := congrArg List.length e; rw [List.length_nil] at h0; omega) hR1 hZ1 hZ1p (by omega)
      rw [hl1l, show A ++ Z1 ++ (X2 ++ Y2 ++ C) = l2 by rw [hl2]; simp] at hrec
      refine awp_reg ?_
      refine ev_move tab_ok rfl rfl rfl ?_
      refine ev_move tab_ok rfl rfl rfl ?_
      refine ev_move tab_ok rfl rfl rfl ?_
      refine ev_move tab_ok rfl rfl rfl ?_
      refine ev_move tab_ok rfl rfl rfl ?_
      refine ev_callG (sg := [0, 1, 2]) (nu := []) (Sin := [_, _, _]) (Sout := [.box (strS l2) 9, .box [.mp 2] 76, .mp (mpOf (kvW m))]) rfl rfl rfl rfl (hrec) (by repeat' (first | exact .nil | (refine MvL.cons ?_ ?_) | exact .ptr rfl | exact .sl rfl | exact .frz rfl | (refine Mv.fnL ?_ ?_) | fail)) (by repeat' (first | exact trivial | (refine And.intro rfl ?_))) (by repeat' (first | exact .nil | (refine MvSs.cons ?_ ?_) | (refine MvS.box ?_) | (refine MvS.mp ?_) | exact kvW_mv _ | exact strS_mv _ | (refine MvL.cons ?_ ?_) | exact .mp rfl | fail)) (by repeat' (first | exact .frz rfl | fail)) (by repeat' (first | exact .nil | (refine MvSs.cons ?_ ?_) | (refine MvS.box ?_) | (refine MvS.mp ?_) | exact kvW_mv _ | exact strS_mv _ | (refine MvL.cons ?_ ?_) | exact .mp rfl | fail)) rfl rfl (by decide) rfl ?_
      refine ev_nil ?_ rfl
      refine ⟨[0, 1, 2], ?_, keep3⟩
      all_goals (try refine le_of (by decide) ?_ ?_)
      repeat' (first | exact trivial | exact .nil | (refine CutL.cons rfl ?_ ?_) | (refine EnvLe.cons rfl ?_ ?_) | exact MvS.box (strS_mv _) | exact .sl rfl | exact .frz rfl | fail)
      all_goals (try simp only [wrap_addL, wrap_addR, wrap_subL, wrap_subR]); all_goals (try (rw [wrap_i64 (by omega) (by omega)]; omega))
      all_goals first | exact .box (.cons (.mp rfl) .nil) | exact .mp (kvW_mv m) | exact Mv.fnL .nil (.cons (.ptr rfl) .nil)
    · refine awp_skip ?_
      have he : X1 = [] ∨ Y1 = [] := by
        rcases Nat.lt_or_ge a j with h | h
        · right
          refine List.eq_nil_of_length_eq_zero ?_
          rw [decide_eq_true h, Bool.true_and, decide_eq_false_iff_not] at hc
          omega
        · left
          exact List.eq_nil_of_length_eq_zero (by omega)
      have hll : l1 = l2 := by
        rw [hl1, hl2, runs_sorted1 hR1 he hZ1 hZ1p]
      refine ⟨[0, 1, 2], ?_, keep3⟩
      all_goals (try refine le_of (by decide) ?_ ?_)
      repeat' (first | exact trivial | exact .nil | (refine CutL.cons rfl ?_ ?_) | (refine EnvLe.cons rfl ?_ ?_) | exact .sl rfl | exact .frz rfl | fail)
      all_goals (try simp only [wrap_addL, wrap_addR, wrap_subL, wrap_subR]); all_goals (try (rw [wrap_i64 (by omega) (by omega)]; omega))
      all_goals first | exact .box (.cons (.mp rfl) .nil) | exact .mp (kvW_mv m) | exact Mv.fnL .nil (.cons (.ptr rfl) .nil) | (rw [hll]; exact .box (strS_mv _))
  refine awp_seq_to ⟨[(213, .s (.bool (decide (mid < en) && decide (en < b)))), (24, .s (.int .i64 (en : Int))), (18, .s (.int .i64 (mid : Int))), (0, .sl 0 l0.length), (3, .s (.int .i64 (b : Int))), (4, .fn 53 [] [.ptr 1 0])], [.box (strS l2) 9, .box [.mp 2] 76, .mp (mpOf (kvW m))]⟩ ?_ ?_
  · cases hy : decide (mid < en)
    all_goals
      refine awp_reg ?_
      refine ev_move tab_ok rfl rfl rfl ?_
      refine ev_move tab_ok rfl rfl rfl ?_
      (refine ev_ilss tab_ok rfl rfl rfl rfl ?_)
      try refine ev_as (show _ = PV.s (.bool _) by rw [dec_lt, hy]) ?_
      refine ev_move tab_ok rfl rfl rfl ?_
      (first | refine ev_skip rfl rfl ?_ | refine ev_move tab_ok rfl rfl rfl ?_)
      (first | refine ev_skip rfl rfl ?_ | refine ev_move tab_ok rfl rfl rfl ?_)
      (first | refine ev_skip rfl rfl ?_ | refine ev_ilss tab_ok rfl rfl rfl rfl ?_)
      (first | refine ev_pickT tab_ok rfl rfl rfl rfl rfl ?_ | refine ev_pickF tab_ok rfl rfl rfl rfl rfl ?_)
      refine ev_nil ?_ rfl
      refine ⟨[0, 1, 2], ?_, keep3⟩
      all_goals (try refine le_of (by decide) ?_ ?_)
      repeat' (first | exact trivial | exact .nil | (refine CutL.cons rfl ?_ ?_) | (refine EnvLe.cons rfl ?_ ?_) | exact MvS.box (strS_mv _) | exact .sl rfl | exact .frz rfl | (refine Mv.bool ?_) | fail)
      all_goals (try simp only [wrap_addL, wrap_addR, wrap_subL, wrap_subR]); all_goals (try (rw [wrap_i64 (by omega) (by omega)]; omega))
      all_goals first | exact .box (.cons (.mp rfl) .nil) | exact .mp (kvW_mv m) | exact Mv.fnL .nil (.cons (.ptr rfl) .nil) | (rw [dec_lt]; rfl)
  refine awp_cond rfl (fun hc => ?_) (fun hc => ?_)
  · rw [Bool.and_eq_true, decide_eq_true_eq, decide_eq_true_eq] at hc
    have hrec := ih (A ++ Z1) X2 Y2 C Z2 l2 mid en b (by omega) (by rw [hl2]; simp) (by simp; omega) (by omega) (by omega) (by intro e; have h0 := congrArg List.length e; rw [List.length_nil] at h0; omega) (by intro e; have h0 := congrArg List.length e; rw [List.length_nil] at h0; omega) hR2 hZ2 hZ2p (by omega)
    rw [hl2l, show A ++ Z1 ++ Z2 ++ C = A ++ Z ++ C by rw [← hZe]; simp] at hrec
    refine awp_reg ?_
    refine ev_move tab_ok rfl rfl rfl ?_
    refine ev_move tab_ok rfl rfl rfl ?_
    refine ev_move tab_ok rfl rfl rfl ?_
    refine ev_move tab_ok rfl rfl rfl ?_
    refine ev_move tab_ok rfl rfl rfl ?_
    refine ev_callG (sg := [0, 1, 2]) (nu := []) (Sin := [_, _, _]) (Sout := [.box (strS (A ++ Z ++ C)) 9, .box [.mp 2] 76, .mp (mpOf (kvW m))]) rfl rfl rfl rfl (hrec) (by repeat' (first | exact .nil | (refine MvL.cons ?_ ?_) | exact .ptr rfl | exact .sl rfl | exact .frz rfl | (refine Mv.fnL ?_ ?_) | fail)) (by repeat' (first | exact trivial | (refine And.intro rfl ?_))) (by repeat' (first | exact .nil | (refine MvSs.cons ?_ ?_) | (refine MvS.box ?_) | (refine MvS.mp ?_) | exact kvW_mv _ | exact strS_mv _ | (refine MvL.cons ?_ ?_) | exact .mp rfl | fail)) (by repeat' (first | exact .frz rfl | fail)) (by repeat' (first | exact .nil | (refine MvSs.cons ?_ ?_) | (refine MvS.box ?_) | (refine MvS.mp ?_) | exact kvW_mv _ | exact strS_mv _ | (refine MvL.cons ?_ ?_) | exact .mp rfl | fail)) rfl rfl (by decide) rfl ?_
    refine ev_nil ?_ rfl
    exact ⟨_, [0, 1, 2], rfl, .frz rfl, cut_of (by decide) (.cons rfl (.box (strS_mv _)) (.cons rfl (.box (.cons (.mp rfl) .nil)) (.cons rfl (.mp (kvW_mv m)) .nil))), keep3⟩
  · refine awp_skip ?_
    have he : X2 = [] ∨ Y2 = [] := by
      rcases Nat.lt_or_ge mid en with h | h
      · right
        refine List.eq_nil_of_length_eq_zero ?_
        rw [decide_eq_true h, Bool.true_and, decide_eq_false_iff_not] at hc
        omega
      · left
        exact List.eq_nil_of_length_eq_zero (by omega)
    have hll : l2 = A ++ Z ++ C := by
      rw [hl2, ← hZe, runs_sorted1 hR2 he hZ2 hZ2p]
      simp
    refine ⟨_, [0, 1, 2], rfl, .frz rfl, ?_, keep3⟩
    rw [hll]
    exact cut_of (by decide) (.cons rfl (.box (strS_mv _)) (.cons rfl (.box (.cons (.mp rfl) .nil)) (.cons rfl (.mp (kvW_mv m)) .nil)))
theorem sym_ok (m : WM) (idx : B → Nat) : ∀ N, SymOk m idx N
  | 0 => fun A X Y C Z l0 a md b hN hl0 ha hm hb hX hY => absurd (List.length_pos_iff.2 hX) (by omega)
  | N + 1 => fun A X Y C Z l0 a md b hN hl0 ha hm hb hX hY hR hZ hZp hn => by
    have h1 := List.length_pos_iff.2 hX
    have h2 := List.length_pos_iff.2 hY
    rcases Nat.lt_or_ge 1 X.length with h3 | h3
    · rcases Nat.lt_or_ge 1 Y.length with h4 | h4
      · exact sym3_spec m idx N (sym_ok m idx N) A X Y C Z l0 a md b hN hl0 ha hm hb h3 h4 hR hZ hZp hn
      · obtain ⟨y, rfl⟩ : ∃ y, Y = [y] := by
          match Y, h2, h4 with
          | [y], _, _ => exact ⟨y, rfl⟩
        exact sym2_spec m idx A X C Z y l0 a md b hl0 ha hm hb h3 hR hZ hZp hn
    · obtain ⟨x, rfl⟩ : ∃ x, X = [x] := by
        match X, h1, h3 with
        | [x], _, _ => exact ⟨x, rfl⟩
      exact sym1_spec m idx A Y C Z x l0 a md b hl0 ha hm hb hR hZ hZp hn
end Go.Proofs.Pm
end
section
namespace Go.Proofs.Pm
open Go
theorem stable40_spec (m : WM) (idx : B → Nat) (l0 Z : List B) (h20 : 20 ≤ l0.length) (h40 : l0.length < 40) (hinc : l0.Pairwise (fun x y => idx x ≤ idx y)) (hinj : ∀ p ∈ l0, ∀ q ∈ l0, idx p = idx q → p = q) (hZ : Z.Pairwise (leR (wOf m) idx)) (hZp : Z.Perm l0) :
    FCall Tryz.prog 82 [.sl 0 l0.length, .s (.int .i64 (l0.length : Int)), .fn 53 [] [.ptr 1 0]] [.box (strS l0) 9, .box [.mp 2] 76, .mp (mpOf (kvW m))] (.tup []) [.box (strS Z) 9, .box [.mp 2] 76, .mp (mpOf (kvW m))] := by
  obtain ⟨X0, Y0, hXY, hX0, hY0⟩ := split_len l0 h20
  rw [hXY, List.pairwise_append] at hinc
  obtain ⟨X', e1, hX1, hX2⟩ := insS_eq (key := wOf m) (idx := idx) (a := 0) (b := 20) (A := []) (Z := X0) (C := Y0) rfl (by omega) hinc.1
  rw [List.nil_append, List.nil_append, ← hXY] at e1
  have hX'l : X'.length = 20 := by rw [hX2.length_eq, hX0]
  obtain ⟨Y', e2, hY1, hY2⟩ := insS_eq (key := wOf m) (idx := idx) (a := 20) (b := l0.length) (A := X') (Z := Y0) (C := []) hX'l (by omega) hinc.2.1
  rw [List.append_nil, List.append_nil] at e2
  have hY'l : Y'.length = l0.length - 20 := by rw [hY2.length_eq, hY0]
  have hperm : (X' ++ Y').Perm l0 := by rw [hXY]; exact hX2.append hY2
  have hR : Runs (wOf m) idx X' Y' := ⟨hX1, hY1, fun p hp q hq => hinc.2.2 p (hX2.mem_iff.1 hp) q (hY2.mem_iff.1 hq), fun p hp q hq => hinj p (hperm.mem_iff.1 hp) q (hperm.mem_iff.1 hq)⟩
  have hZp2 : Z.Perm (X' ++ Y') := hZp.trans hperm.symm
  have hl1 : (X' ++ Y0).length = l0.length := by simp; omega
  have hl2 : (X' ++ Y').length = l0.length := by simp; omega
  have hc1 := insertP_spec m l0 0 20 h20 (by omega) (Nat.zero_le _)
  rw [ltW_eq, e1] at hc1
  have hc2 := insertP_spec m (X' ++ Y0) 20 l0.length (by omega) (by omega) (by omega)
  rw [ltW_eq, e2, hl1] at hc2
  refine fcall_intro tab_ok Tryz.call82 Tryz.func82 rfl rfl rfl (fun G w ι => ?_)
  refine awp_seq ?_
  refine awp_reg ?_
  refine ev_assign tab_ok rfl rfl rfl ?_
  refine ev_nil ?_ rfl
  refine awp_seq ?_
  refine awp_reg ?_
  refine ev_move tab_ok rfl rfl rfl ?_
  refine ev_assign tab_ok rfl rfl rfl ?_
  refine ev_assign tab_ok rfl rfl rfl ?_
  refine ev_nil ?_ rfl
  refine awp_seq ?_
  refine awp_block ?_
  refine awp_loop (fun q : Nat => ⟨[(6, .s (.int .i64 20)), (7, .s (.int .i64 ((20 * q : Nat) : Int))), (8, .s (.int .i64 ((20 * q + 20 : Nat) : Int))), (0, .sl 0 l0.length), (1, .s (.int .i64 (l0.length : Int))), (2, .fn 53 [] [.ptr 1 0])], [.box (strS (if q = 0 then l0 else X' ++ Y0)) 9, .box [.mp 2] 76, .mp (mpOf (kvW m))]⟩) (fun q => q ≤ 1) (fun q => 1 - q) 0 [0, 1, 2] ?_ (Nat.zero_le _) keep3 (fun q hq => ?_)
  · all_goals (try refine le_of (by decide) ?_ ?_)
    repeat' (first | exact trivial | exact .nil | (refine CutL.cons rfl ?_ ?_) | (refine EnvLe.cons rfl ?_ ?_) | exact MvS.box (strS_mv _) | exact .sl rfl | exact .frz rfl | fail)
    all_goals (try simp only [wrap_addL, wrap_addR, wrap_subL, wrap_subR]); all_goals (try (rw [wrap_i64 (by omega) (by omega)]; omega))
    all_goals first | exact .box (.cons (.mp rfl) .nil) | exact .mp (kvW_mv _) | exact Mv.fnL .nil (.cons (.ptr rfl) .nil)
  refine awp_seq ?_
  refine awp_seq ?_
  refine awp_reg ?_
  refine ev_move tab_ok rfl rfl rfl ?_
  refine ev_move tab_ok rfl rfl rfl ?_
  refine ev_ileq tab_ok rfl rfl rfl rfl ?_
  refine ev_nil ?_ rfl
  refine awp_cond rfl (fun hc => ?_) (fun hc => ?_)
  · refine awp_skip ?_
    have hq0 : q = 0 := by
      have : ((20 * q + 20 : Nat) : Int) ≤ (l0.length : Int) := of_decide_eq_true hc
      omega
    subst hq0
    rw [if_pos rfl]
    refine awp_block ?_
    refine awp_seq ?_
    refine awp_reg ?_
    refine ev_move tab_ok rfl rfl rfl ?_
    refine ev_move tab_ok rfl rfl rfl ?_
    refine ev_move tab_ok rfl rfl rfl ?_
    refine ev_move tab_ok rfl rfl rfl ?_
    refine ev_callG (sg := [0, 1, 2]) (nu := []) (Sin := [_, _, _]) (Sout := [.box (strS (X' ++ Y0)) 9, .box [.mp 2] 76, .mp (mpOf (kvW m))]) rfl rfl rfl rfl (hc1) (by repeat' (first | exact .nil | (refine MvL.cons ?_ ?_) | exact .ptr rfl | exact .sl rfl | exact .frz rfl | (refine Mv.fnL ?_ ?_) | fail)) (by repeat' (first | exact trivial | (refine And.intro rfl ?_))) (by repeat' (first | exact .nil | (refine MvSs.cons ?_ ?_) | (refine MvS.box ?_) | (refine MvS.mp ?_) | exact kvW_mv _ | exact strS_mv _ | (refine MvL.cons ?_ ?_) | exact .mp rfl | fail)) (by repeat' (first | exact .frz rfl | fail)) (by repeat' (first | exact .nil | (refine MvSs.cons ?_ ?_) | (refine MvS.box ?_) | (refine MvS.mp ?_) | exact kvW_mv _ | exact strS_mv _ | (refine MvL.cons ?_ ?_) | exact .mp rfl | fail)) rfl rfl (by decide) rfl ?_
    refine ev_nil ?_ rfl
    refine awp_seq ?_
    refine awp_reg ?_
    refine ev_move tab_ok rfl rfl rfl ?_
    refine ev_assign tab_ok rfl rfl rfl ?_
    refine ev_nil ?_ rfl
    refine awp_reg ?_
    refine ev_move tab_ok rfl rfl rfl ?_
    refine ev_move tab_ok rfl rfl rfl ?_
    (refine ev_iadd tab_ok rfl rfl rfl rfl ?_)
    try refine ev_as (show _ = PV.s (.int .i64 ((20 * 1 + 20 : Nat) : Int)) by rw [wrap_i64 (by omega) (by omega)]; rfl) ?_
    refine ev_assign tab_ok rfl rfl rfl ?_
    refine ev_nil ?_ rfl
    refine ⟨1, [0, 1, 2], ?_, by decide, Nat.le_refl _, keep3⟩
    all_goals (try refine le_of (by decide) ?_ ?_)
    repeat' (first | exact trivial | exact .nil | (refine CutL.cons rfl ?_ ?_) | (refine EnvLe.cons rfl ?_ ?_) | exact MvS.box (strS_mv _) | exact .sl rfl | exact .frz rfl | fail)
    all_goals (try simp only [wrap_addL, wrap_addR, wrap_subL, wrap_subR]); all_goals (try (rw [wrap_i64 (by omega) (by omega)]; omega))
    all_goals first | exact .box (.cons (.mp rfl) .nil) | exact .mp (kvW_mv _) | exact Mv.fnL .nil (.cons (.ptr rfl) .nil)
  have hq1 : q = 1 := by
    have : ¬ ((20 * q + 20 : Nat) : Int) ≤ (l0.length : Int) := of_decide_eq_false hc
    omega
  subst hq1
  rw [if_neg (by decide)]
  refine awp_exit ?_
  refine awp_seq ?_
  refine awp_reg ?_
  refine ev_move tab_ok rfl rfl rfl ?_
  refine ev_move tab_ok rfl rfl rfl ?_
  refine ev_move tab_ok rfl rfl rfl ?_
  refine ev_move tab_ok rfl rfl rfl ?_
  refine ev_callG (sg := [0, 1, 2]) (nu := []) (Sin := [_, _, _]) (Sout := [.box (strS (X' ++ Y')) 9, .box [.mp 2] 76, .mp (mpOf (kvW m))]) rfl rfl rfl rfl (hc2) (by repeat' (first | exact .nil | (refine MvL.cons ?_ ?_) | exact .ptr rfl | exact .sl rfl | exact .frz rfl | (refine Mv.fnL ?_ ?_) | fail)) (by repeat' (first | exact trivial | (refine And.intro rfl ?_))) (by repeat' (first | exact .nil | (refine MvSs.cons ?_ ?_) | (refine MvS.box ?_) | (refine MvS.mp ?_) | exact kvW_mv _ | exact strS_mv _ | (refine MvL.cons ?_ ?_) | exact .mp rfl | fail)) (by repeat' (first | exact .frz rfl | fail)) (by repeat' (first | exact .nil | (refine MvSs.cons ?_ ?_) | (refine MvS.box ?_) | (refine MvS.mp ?_) | exact kvW_mv _ | exact strS_mv _ | (refine MvL.cons ?_ ?_) | exact .mp rfl | fail)) rfl rfl (by decide) rfl ?_
  refine ev_nil ?_ rfl
  refine awp_block ?_
  refine awp_loop (fun q : Nat => ⟨[(6, .s (.int .i64 ((20 * q + 20 : Nat) : Int))), (0, .sl 0 l0.length), (1, .s (.int .i64 (l0.length : Int))), (2, .fn 53 [] [.ptr 1 0])], [.box (strS (if q = 0 then X' ++ Y' else Z)) 9, .box [.mp 2] 76, .mp (mpOf (kvW m))]⟩) (fun q => q ≤ 1) (fun q => 1 - q) 0 [0, 1, 2] ?_ (Nat.zero_le _) keep3 (fun q hq => ?_)
  · all_goals (try refine le_of (by decide) ?_ ?_)
    repeat' (first | exact trivial | exact .nil | (refine CutL.cons rfl ?_ ?_) | (refine EnvLe.cons rfl ?_ ?_) | exact MvS.box (strS_mv _) | exact .sl rfl | exact .frz rfl | fail)
    all_goals (try simp only [wrap_addL, wrap_addR, wrap_subL, wrap_subR]); all_goals (try (rw [wrap_i64 (by omega) (by omega)]; omega))
    all_goals first | exact .box (.cons (.mp rfl) .nil) | exact .mp (kvW_mv _) | exact Mv.fnL .nil (.cons (.ptr rfl) .nil)
  refine awp_seq ?_
  refine awp_seq ?_
  refine awp_reg ?_
  refine ev_move tab_ok rfl rfl rfl ?_
  refine ev_move tab_ok rfl rfl rfl ?_
  (refine ev_ilss tab_ok rfl rfl rfl rfl ?_)
  refine ev_nil ?_ rfl
  refine awp_cond rfl (fun hc => ?_) (fun hc => ?_)
  · have hq0 : q = 0 := by
      have : ((20 * q + 20 : Nat) : Int) < (l0.length : Int) := of_decide_eq_true hc
      omega
    subst hq0
    have hlt : 20 < l0.length := by
      have : ((20 * 0 + 20 : Nat) : Int) < (l0.length : Int) := of_decide_eq_true hc
      omega
    rw [if_pos rfl]
    have hmg := sym_ok m idx (X'.length + Y'.length) [] X' Y' [] Z (X' ++ Y') 0 20 l0.length (Nat.le_refl _) (by simp) rfl (by omega) (by omega) (by intro e; rw [e] at hX'l; simp at hX'l) (by intro e; have h0 := congrArg List.length e; rw [List.length_nil] at h0; omega) hR hZ hZp2 (by omega)
    rw [hl2, List.nil_append, List.append_nil] at hmg
    refine awp_skip ?_
    refine awp_block ?_
    refine awp_seq ?_
    refine awp_reg ?_
    refine ev_move tab_ok rfl rfl rfl ?_
    refine ev_imul tab_ok rfl rfl rfl rfl ?_
    try refine ev_as (show _ = PV.s (.int .i64 40) by rw [wrap_i64 (by omega) (by omega)]; rfl) ?_
    refine ev_assign tab_ok rfl rfl rfl ?_
    refine ev_assign tab_ok rfl rfl rfl ?_
    refine ev_nil ?_ rfl
    refine awp_seq ?_
    refine awp_block ?_
    refine awp_loop (fun q : Unit => ⟨[(7, .s (.int .i64 0)), (8, .s (.int .i64 40)), (6, .s (.int .i64 20)), (0, .sl 0 l0.length), (1, .s (.int .i64 (l0.length : Int))), (2, .fn 53 [] [.ptr 1 0])], [.box (strS (X' ++ Y')) 9, .box [.mp 2] 76, .mp (mpOf (kvW m))]⟩) (fun q => True) (fun q => 0) () [0, 1, 2] ?_ trivial keep3 (fun q hq => ?_)
    · all_goals (try refine le_of (by decide) ?_ ?_)
      repeat' (first | exact trivial | exact .nil | (refine CutL.cons rfl ?_ ?_) | (refine EnvLe.cons rfl ?_ ?_) | exact MvS.box (strS_mv _) | exact .sl rfl | exact .frz rfl | fail)
      all_goals (try simp only [wrap_addL, wrap_addR, wrap_subL, wrap_subR]); all_goals (try (rw [wrap_i64 (by omega) (by omega)]; omega))
      all_goals first | exact .box (.cons (.mp rfl) .nil) | exact .mp (kvW_mv _) | exact Mv.fnL .nil (.cons (.ptr rfl) .nil)
    refine awp_seq ?_
    refine awp_seq ?_
    refine awp_reg ?_
    refine ev_move tab_ok rfl rfl rfl ?_
    refine ev_move tab_ok rfl rfl rfl ?_
    refine ev_ileq tab_ok rfl rfl rfl rfl ?_
    refine ev_nil ?_ rfl
    refine awp_cond rfl (fun hc => ?_) (fun hc => ?_)
    · have : (40 : Int) ≤ (l0.length : Int) := of_decide_eq_true hc
      omega
    refine awp_exit ?_
    refine awp_seq ?_
    refine awp_seq ?_
    refine awp_reg ?_
    refine ev_move tab_ok rfl rfl rfl ?_
    refine ev_move tab_ok rfl rfl rfl ?_
    (refine ev_iadd tab_ok rfl rfl rfl rfl ?_)
    refine ev_assign tab_ok rfl rfl rfl ?_
    refine ev_nil ?_ rfl
    refine awp_seq ?_
    refine awp_reg ?_
    refine ev_move tab_ok rfl rfl rfl ?_
    refine ev_move tab_ok rfl rfl rfl ?_
    (refine ev_ilss tab_ok rfl rfl rfl rfl ?_)
    refine ev_nil ?_ rfl
    refine awp_cond rfl (fun hc => ?_) (fun hc => ?_)
    · refine awp_reg ?_
      refine ev_move tab_ok rfl rfl rfl ?_
      refine ev_move tab_ok rfl rfl rfl ?_
      refine ev_move tab_ok rfl rfl rfl ?_
      refine ev_move tab_ok rfl rfl rfl ?_
      refine ev_move tab_ok rfl rfl rfl ?_
      refine ev_callG (sg := [0, 1, 2]) (nu := []) (Sin := [_, _, _]) (Sout := [.box (strS Z) 9, .box [.mp 2] 76, .mp (mpOf (kvW m))]) rfl rfl rfl rfl (hmg) (by repeat' (first | exact .nil | (refine MvL.cons ?_ ?_) | exact .ptr rfl | exact .sl rfl | exact .frz rfl | (refine Mv.fnL ?_ ?_) | fail)) (by repeat' (first | exact trivial | (refine And.intro rfl ?_))) (by repeat' (first | exact .nil | (refine MvSs.cons ?_ ?_) | (refine MvS.box ?_) | (refine MvS.mp ?_) | exact kvW_mv _ | exact strS_mv _ | (refine MvL.cons ?_ ?_) | exact .mp rfl | fail)) (by repeat' (first | exact .frz rfl | fail)) (by repeat' (first | exact .nil | (refine MvSs.cons ?_ ?_) | (refine MvS.box ?_) | (refine MvS.mp ?_) | exact kvW_mv _ | exact strS_mv _ | (refine MvL.cons ?_ ?_) | exact .mp rfl | fail)) rfl rfl (by decide) rfl ?_
      refine ev_nil ?_ rfl
      refine awp_reg ?_
      refine ev_move tab_ok rfl rfl rfl ?_
      refine ev_imul tab_ok rfl rfl rfl rfl ?_
      refine ev_assign tab_ok rfl rfl rfl ?_
      refine ev_nil ?_ rfl
      refine ⟨1, [0, 1, 2], ?_, by decide, Nat.le_refl _, keep3⟩
      all_goals (try refine le_of (by decide) ?_ ?_)
      repeat' (first | exact trivial | exact .nil | (refine CutL.cons rfl ?_ ?_) | (refine EnvLe.cons rfl ?_ ?_) | exact MvS.box (strS_mv _) | exact .sl rfl | exact .frz rfl | fail)
      all_goals (try simp only [wrap_addL, wrap_addR, wrap_subL, wrap_subR]); all_goals (try (rw [wrap_i64 (by omega) (by omega)]; omega))
      all_goals first | exact .box (.cons (.mp rfl) .nil) | exact .mp (kvW_mv _) | exact Mv.fnL .nil (.cons (.ptr rfl) .nil)
    · have : ¬ (20 : Int) < (l0.length : Int) := of_decide_eq_false hc
      omega
  · refine awp_exit ?_
    have hfin : (if q = 0 then X' ++ Y' else Z) = Z := by
      split
      · have hge : ¬ 20 < l0.length := by
          have : ¬ ((20 * q + 20 : Nat) : Int) < (l0.length : Int) := of_decide_eq_false hc
          omega
        exact (runs_sorted1 hR (.inr (List.eq_nil_of_length_eq_zero (by omega))) hZ hZp2).symm
      · rfl
    rw [hfin]
    exact ⟨_, [0, 1, 2], rfl, .frz rfl, cut_of (by decide) (.cons rfl (.box (strS_mv _)) (.cons rfl (.box (.cons (.mp rfl) .nil)) (.cons rfl (.mp (kvW_mv m)) .nil))), keep3⟩
theorem stable_spec (m : WM) (idx : B → Nat) (l0 Z : List B) (h40 : l0.length < 40) (hinc : l0.Pairwise (fun x y => idx x ≤ idx y)) (hinj : ∀ p ∈ l0, ∀ q ∈ l0, idx p = idx q → p = q) (hZ : Z.Pairwise (leR (wOf m) idx)) (hZp : Z.Perm l0) :
    FCall Tryz.prog 82 [.sl 0 l0.length, .s (.int .i64 (l0.length : Int)), .fn 53 [] [.ptr 1 0]] [.box (strS l0) 9, .box [.mp 2] 76, .mp (mpOf (kvW m))] (.tup []) [.box (strS Z) 9, .box [.mp 2] 76, .mp (mpOf (kvW m))] := by
  rcases Nat.lt_or_ge l0.length 20 with h | h
  · obtain ⟨Z', e1, h1, h2⟩ := insS_eq (key := wOf m) (idx := idx) (a := 0) (b := l0.length) (A := []) (Z := l0) (C := []) rfl (by omega) hinc
    rw [List.nil_append, List.nil_append, List.append_nil, List.append_nil] at e1
    have := stableSmall_spec m l0 h
    rw [ltW_eq, e1, sorted_unique hinj h1 hZ h2 hZp] at this
    exact this
  · exact stable40_spec m idx l0 Z h h40 hinc hinj hZ hZp
end Go.Proofs.Pm
end
section
namespace Go.Proofs.Pm
open Go
def ixL : List B → B → Nat
  | [], _ => 0
  | q :: r, p => if p = q then 0 else ixL r p + 1
theorem ixL_get : ∀ {l : List B} {i : Nat} {p : B}, l.Nodup → l[i]? = some p → ixL l p = i
  | [], i, p, _, h => by simp at h
  | q :: r, 0, p, _, h => by simp at h; subst h; simp [ixL]
  | q :: r, i + 1, p, hn, h => by
    rw [List.nodup_cons] at hn
    simp only [List.getElem?_cons_succ] at h
    have hne : p ≠ q := by
      intro e; subst e
      exact hn.1 (List.mem_of_getElem? h)
    rw [ixL, if_neg hne, ixL_get hn.2 h]
theorem ixL_inc {l : List B} (hn : l.Nodup) : l.Pairwise (fun x y => ixL l x ≤ ixL l y) := by
  rw [List.pairwise_iff_getElem]
  intro i j hi hj hij
  rw [ixL_get hn (List.getElem?_eq_getElem hi), ixL_get hn (List.getElem?_eq_getElem hj)]
  omega
theorem ixL_inj {l : List B} (hn : l.Nodup) : ∀ p ∈ l, ∀ q ∈ l, ixL l p = ixL l q → p = q := by
  intro p hp q hq h
  obtain ⟨i, hi, rfl⟩ := List.getElem_of_mem hp
  obtain ⟨j, hj, rfl⟩ := List.getElem_of_mem hq
  rw [ixL_get hn (List.getElem?_eq_getElem hi), ixL_get hn (List.getElem?_eq_getElem hj)] at h
  subst h; rfl
def BestW (x : Node) (out l : List B) (n : Nat) (b m : Int) : Prop :=
  (b = -1 ∧ ∀ (k : Nat) (q : B), k < n → l[k]? = some q → has out q = true) ∨
  ∃ (j : Nat) (p : B), b = j ∧ j < n ∧ l[j]? = some p ∧ has out p = false ∧ m = weight47 x p ∧ ∀ (k : Nat) (q : B), k < n → l[k]? = some q → has out q = false → weight47 x q < m ∨ (m = weight47 x q ∧ j ≤ k)
theorem pickW_best {x : Node} {out l : List B} : ∀ (r pre : List B) (i : Nat) (b m : Int), l = pre ++ r → pre.length = i → BestW x out l i b m → ∃ m', BestW x out l l.length (pickW x out r i b m) m'
  | [], pre, i, b, m, hl, hi, h => by
    rw [List.append_nil] at hl
    subst hl hi
    exact ⟨m, h⟩
  | p :: r, pre, i, b, m, hl, hi, h => by
    have hp : l[i]? = some p := by rw [hl, ← hi]; simp
    have hstep : ∀ k q, k < i + 1 → l[k]? = some q → (k < i) ∨ (k = i ∧ q = p) := fun k q hk hq => by
      rcases Nat.lt_or_ge k i with h1 | h1
      · exact .inl h1
      · have : k = i := by omega
        subst this
        rw [hp] at hq
        exact .inr ⟨rfl, (Option.some.inj hq).symm⟩
    rw [pickW]
    split
    · rename_i hc
      simp only [takeW, Bool.and_eq_true, Bool.not_eq_true', Bool.or_eq_true, decide_eq_true_eq] at hc
      refine pickW_best r (pre ++ [p]) (i + 1) i (weight47 x p) (by rw [hl]; simp) (by simp [hi]) (.inr ⟨i, p, rfl, Nat.lt_succ_self i, hp, hc.1, rfl, fun k q hk hq hh => ?_⟩)
      rcases hstep k q hk hq with h1 | ⟨rfl, rfl⟩
      · rcases h with ⟨e, h2⟩ | ⟨j, p', e, hj, h2, h3, h4, h5⟩
        · rw [h2 k q h1 hq] at hh; cases hh
        · rcases hc.2 with h6 | h6
          · omega
          · rcases h5 k q h1 hq hh with h7 | h7 <;> exact .inl (by omega)
      · exact .inr ⟨rfl, Nat.le_refl _⟩
    · rename_i hc
      refine pickW_best r (pre ++ [p]) (i + 1) b m (by rw [hl]; simp) (by simp [hi]) ?_
      rcases h with ⟨e, h2⟩ | ⟨j, p', e, hj, h2, h3, h4, h5⟩
      · refine .inl ⟨e, fun k q hk hq => ?_⟩
        rcases hstep k q hk hq with h1 | ⟨rfl, rfl⟩
        · exact h2 k q h1 hq
        · subst e
          cases hh : has out q with
          | true => rfl
          | false => simp [takeW, hh] at hc
      · refine .inr ⟨j, p', e, by omega, h2, h3, h4, fun k q hk hq hh => ?_⟩
        rcases hstep k q hk hq with h1 | ⟨rfl, rfl⟩
        · exact h5 k q h1 hq hh
        · have h6 : ¬ m < weight47 x q := by
            intro h6
            apply hc
            simp [takeW, hh, h6]
          rcases Int.lt_or_eq_of_le (Int.not_lt.1 h6) with h7 | h7
          · exact .inl h7
          · refine .inr ⟨h7.symm, ?_⟩
            omega
theorem pickB_best {x : Node} {out l : List B} (hl : l.Nodup) (hn : ∃ p ∈ l, has out p = false) : pickB x out l ∈ l ∧ has out (pickB x out l) = false ∧ ∀ q ∈ l, has out q = false → leR (weight47 x) (ixL l) (pickB x out l) q := by
  obtain ⟨m', h⟩ := pickW_best (x := x) (out := out) (l := l) l [] 0 (-1) 0 rfl rfl (.inl ⟨rfl, fun k q hk => absurd hk (Nat.not_lt_zero k)⟩)
  rcases h with ⟨_, h⟩ | ⟨j, p, e, hj, h2, h3, h4, h5⟩
  · obtain ⟨p, hp, hh⟩ := hn
    obtain ⟨k, hk, rfl⟩ := List.getElem_of_mem hp
    rw [h k _ hk (List.getElem?_eq_getElem hk)] at hh
    cases hh
  · have hpb : pickB x out l = p := by rw [pickB, e]; simp [h2]
    rw [hpb]
    refine ⟨List.mem_of_getElem? h2, h3, fun q hq hh => ?_⟩
    obtain ⟨k, hk, rfl⟩ := List.getElem_of_mem hq
    rcases h5 k _ hk (List.getElem?_eq_getElem hk) hh with h6 | ⟨h6, h7⟩
    · exact .inl (by omega)
    · refine .inr ⟨by omega, ?_⟩
      rw [ixL_get hl h2, ixL_get hl (List.getElem?_eq_getElem hk)]
      exact h7
theorem byWn_best {x : Node} {l : List B} (hl : l.Nodup) : ∀ n, n ≤ l.length → (byWn x l n).Pairwise (leR (weight47 x) (ixL l)) ∧ ∀ p ∈ byWn x l n, ∀ q ∈ l, q ∉ byWn x l n → leR (weight47 x) (ixL l) p q
  | 0, _ => ⟨.nil, fun p hp => by cases hp⟩
  | n + 1, h => by
    obtain ⟨h1, h2⟩ := byWn_best (x := x) hl n (by omega)
    obtain ⟨k1, k2, k3⟩ := pickB_best (x := x) hl (not_all (m := byWn x l n) hl (by rw [byWn_length]; omega))
    rw [byWn]
    refine ⟨?_, fun p hp q hq hnq => ?_⟩
    · rw [List.pairwise_append]
      exact ⟨h1, by simp, fun p hp q hq => by rw [List.mem_singleton] at hq; subst hq; exact h2 p hp _ k1 (has_not.1 k2)⟩
    · simp only [List.mem_append, List.mem_singleton, not_or] at hnq hp
      rcases hp with hp | rfl
      · exact h2 p hp q hq hnq.1
      · exact k3 q hq (has_not.2 hnq.1)
theorem byW47_sorted (x : Node) : (byW47 x).Pairwise (leR (weight47 x) (ixL (files47 x))) := (byWn_best (files47_nodup x) _ (Nat.le_refl _)).1
theorem byW47_perm (x : Node) : (byW47 x).Perm (files47 x) := by
  obtain ⟨h1, h2⟩ := byWn_ok (x := x) (files47_nodup x) _ (Nat.le_refl _)
  exact perm_of h1 h2 (byWn_length _ _ _)
theorem wOf_map (x : Node) : ∀ (l : List B) (p : B), p ∈ l → wOf (wmOf x l) p = (weightR x p).1
  | q :: r, p, h => by
    show (if p = q then _ else wOf (wmOf x r) p) = _
    by_cases e : p = q
    · rw [if_pos e, e]
    · rw [if_neg e]
      exact wOf_map x r p ((List.mem_cons.1 h).resolve_left e)
theorem files47_valid {x : Node} {p : B} (h : p ∈ files47 x) : valid18 x = true := by
  have h1 := (List.mem_filter.1 h).1
  unfold paths18 at h1
  split at h1
  · assumption
  · cases h1
theorem weightR_file {x : Node} {p : B} (h : p ∈ files47 x) : (weightR x p).1 = weight47 x p := by
  have h1 := (files47_found h).1
  unfold weightR
  rw [files47_valid h]
  cases hf : find47 x p with
  | none => rw [hf] at h1; cases h1
  | some y => rfl
theorem files_lt (x : Node) (h : x.count ≤ 40) : (files47 x).length < 40 := by
  unfold files47 paths18
  split
  · rename_i hv
    obtain ⟨hok, _⟩ := valid18_ok hv
    have hk := (one18_parts hok.one).1
    have hk0 : x.kind = 0 := by
      simp only [kindBad, Bool.or_eq_false_iff] at hk
      have := hk.2
      simpa using this
    have hroot : isFile x ⟨#[]⟩ = false := by
      have : findR x ⟨#[]⟩ = (x, true) := by
        unfold findR find47
        rw [if_pos (show emptyB ⟨#[]⟩ = true by simp [emptyB])]
      unfold isFile
      rw [this, hk0]
      rfl
    rw [pathsR_eq, List.filter_cons, hroot]
    have h1 := pathsR_length x ⟨#[]⟩ 1
    rw [pathsR_eq, List.length_cons] at h1
    have h2 := List.length_filter_le (isFile x) (x.kids.flatMap fun k => pathsR k (belowR ⟨#[]⟩ k.name 1) (1 + 1))
    simp only [Bool.false_eq_true, if_false]
    omega
  · simp
theorem byWeightP_spec (x : Node) (hb : x.bulk ≤ 4294967280) (hc : x.count ≤ 40) : FCall Tryz.prog 18 [.agg (nodeC x)] [] (.list (strL (byW47 x))) [] := by
  have hn := files47_nodup x
  refine byWeightP_of x (byW47 x) hb (byWn_length _ _ _) (sortF_of _ _ _ (stable_spec _ (ixL (files47 x)) _ _ (files_lt x hc) (ixL_inc hn) (ixL_inj hn) ?_ (byW47_perm x)))
  refine (byW47_sorted x).imp_of_mem (fun {a b} ha hb' h => ?_)
  have e1 := wOf_map x (files47 x) a ((byW47_perm x).mem_iff.1 ha)
  have e2 := wOf_map x (files47 x) b ((byW47_perm x).mem_iff.1 hb')
  rw [weightR_file ((byW47_perm x).mem_iff.1 ha)] at e1
  rw [weightR_file ((byW47_perm x).mem_iff.1 hb')] at e2
  unfold leR at h ⊢
  rw [e1, e2]
  exact h
end Go.Proofs.Pm
end

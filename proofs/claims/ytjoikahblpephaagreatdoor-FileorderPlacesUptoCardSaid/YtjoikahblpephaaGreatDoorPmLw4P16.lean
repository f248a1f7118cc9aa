/- A part of the proof of one law: the machine on pure values and the walks of functions. -/
import Derived.Test.YtjoikahblpephaaGreatDoorPmLw4P12
import Derived.Test.YtjoikahblpephaaGreatDoorPmLw4P13
set_option linter.all false
section
namespace Go.Proofs.Pm
open Go
def accStep (l out : List B) (a : B) : List B := if has l a && !has out a then out ++ [a] else out
def addStep (out : List B) (p : B) : List B := if !has out p then out ++ [p] else out
def accFold (l acc : List B) : List B := acc.foldl (accStep l) []
def byA (l acc : List B) : List B := l.foldl addStep (accFold l acc)
def byA47 (x : Node) (acc : List B) : List B := byA (byW47 x) acc
def Sub (l out : List B) : Prop := out.Nodup ∧ ∀ p ∈ out, p ∈ l
theorem Sub.len {l out : List B} (h : Sub l out) : out.length ≤ l.length := nodup_le h.1 h.2
theorem Sub.snoc {l out : List B} {p : B} (h : Sub l out) (hp : p ∈ l) (hn : p ∉ out) : Sub l (out ++ [p]) := by
  refine ⟨?_, fun q hq => ?_⟩
  · rw [List.nodup_append]
    refine ⟨h.1, by simp, fun a ha b hb e => ?_⟩
    rw [List.mem_singleton] at hb
    subst hb e
    exact hn ha
  · rcases List.mem_append.1 hq with hq | hq
    · exact h.2 q hq
    · rw [List.mem_singleton] at hq; subst hq; exact hp
theorem accStep_sub {l out : List B} (a : B) (h : Sub l out) : Sub l (accStep l out a) := by
  unfold accStep
  split
  · rename_i hc
    simp only [Bool.and_eq_true, Bool.not_eq_true'] at hc
    exact h.snoc (has_iff.1 hc.1) (has_not.1 hc.2)
  · exact h
theorem accFold_sub {l : List B} : ∀ (acc out : List B), Sub l out → Sub l (acc.foldl (accStep l) out)
  | [], out, h => h
  | a :: r, out, h => accFold_sub r _ (accStep_sub a h)
theorem sub_nil (l : List B) : Sub l [] := ⟨List.nodup_nil, fun p hp => by cases hp⟩
def dlen (x : Node) (p : B) : Int := ((findR x p).1.data.size : Int)
theorem descend_bulk : ∀ (ns : List B) (x y : Node), descend x ns = some y → y.bulk ≤ x.bulk
  | [], x, y, h => by simp only [descend, Option.some.injEq] at h; subst h; exact Nat.le_refl _
  | n :: r, x, y, h => by
    rw [descend] at h
    split at h
    · rename_i k hk
      split at h
      · rename_i z hz
        have := descend_bulk r z y h
        have := kid_bulk (List.mem_of_getElem? hz)
        omega
      · cases h
    · cases h
theorem find47_bulk {x y : Node} {p : B} (h : find47 x p = some y) : y.bulk ≤ x.bulk := by
  unfold find47 at h
  split at h
  · simp only [Option.some.injEq] at h; subst h; exact Nat.le_refl _
  · exact descend_bulk _ _ _ h
theorem dlen_le (x : Node) (p : B) : 0 ≤ dlen x p ∧ dlen x p ≤ x.bulk := by
  unfold dlen findR
  cases h : find47 x p with
  | none =>
    simp only [zeroN]
    have := bulk_pos x
    rw [bsize0]
    omega
  | some y =>
    have h1 := find47_bulk h
    have h2 := bulk_eq y
    simp only
    omega
theorem blocks_le {n : Int} (h0 : 0 ≤ n) (h : n ≤ 1099511627776) : 0 ≤ blocks n ∧ blocks n ≤ 1099511627776 ∧ blocks n = if n = 0 then 0 else (n - 1) / 2048 + 1 := by
  unfold blocks
  by_cases hn : n ≤ 0
  · obtain rfl : n = 0 := by omega
    simp
  · rw [if_neg hn, if_neg (by omega), wrap_i64 (n := n - 1) (by omega) (by omega), Int.tdiv_eq_ediv_of_nonneg (by omega), wrap_i64 (n := (n - 1) / 2048) (by omega) (by omega), wrap_i64 (by omega) (by omega)]
    omega
def placeAux (x : Node) : List B → Int → Option (List File)
  | [], _ => some []
  | p :: r, a => if 4096 - blocks (dlen x p) < a then none else (placeAux x r (a + blocks (dlen x p))).map ((p, a, dlen x p) :: ·)
def placeR (x : Node) (order : List B) (start : Int) : List File × Int := match placeAux x order start with
  | some l => (l, 0)
  | none => ([], 12)
theorem place_spec (x : Node) (order : List B) (start : Int) (hb : x.bulk ≤ 1099511627776) (ho : order.length ≤ 1099511627776) (hp : ∀ p ∈ order, p.size ≤ 4398046511104) (hs : 0 ≤ start) : FCall Tryz.prog 58 [.agg (nodeC x), .list (strL order), .s (.int .i64 start)] [] (.tup [.list (filesC (placeR x order start).1), .s (.int .i64 (placeR x order start).2)]) [] := by
  refine fcall_intro tab_ok Tryz.call58 Tryz.func58 rfl rfl rfl (fun G w ι => ?_)
  refine awp_seq ?_
  refine awp_reg ?_
  refine ev_box rfl rfl rfl rfl (by constructor) ?_
  refine ev_assign tab_ok rfl rfl rfl ?_
  refine ev_assign tab_ok rfl rfl rfl ?_
  refine ev_nil ?_ rfl
  refine awp_seq ?_
  refine awp_reg ?_
  refine ev_assign tab_ok rfl rfl rfl ?_
  refine ev_nil ?_ rfl
  refine awp_ghost 8 3 69 rfl (by constructor) ?_
  refine awp_seq ?_
  refine awp_reg ?_
  refine ev_move tab_ok rfl rfl rfl ?_
  refine ev_assign tab_ok rfl rfl rfl ?_
  refine ev_nil ?_ rfl
  refine awp_seq ?_
  refine awp_seq ?_
  refine awp_reg ?_
  refine ev_assign tab_ok rfl rfl rfl ?_
  refine ev_nil ?_ rfl
  refine awp_block ?_
  refine awp_loop (fun q : Nat × List File × Int => ⟨[(10, .s (.int .i64 q.1)), (9, .s (.int .i64 q.2.2)), (8, .row (filesC q.2.1) 1), (1, .list (strL order)), (3, .ptr 0 0)], [.box (nodeC x) 25, .row q.2.1.length 3 69]⟩) (fun q => q.1 ≤ order.length ∧ q.2.1.length = q.1 ∧ 0 ≤ q.2.2 ∧ placeAux x order start = (placeAux x (order.drop q.1) q.2.2).map (q.2.1 ++ ·)) (fun q => order.length - q.1) (0, [], start) [0, 1] ?_ ⟨Nat.zero_le _, rfl, hs, by simp⟩ keep0 (fun q hq => ?_)
  · all_goals (try refine le_of (by decide) ?_ ?_)
    repeat' (first | exact trivial | exact .nil | (refine CutL.cons rfl ?_ ?_) | (refine EnvLe.cons rfl ?_ ?_) | exact MvS.row | (refine MvS.box (mvl_closed rfl)) | exact .ptr rfl | exact .row rfl | exact .frz rfl | fail)
    all_goals (try simp only [wrap_addL, wrap_addR, wrap_subL, wrap_subR]); all_goals (try (rw [wrap_i64 (by omega) (by omega)]; omega))
  obtain ⟨i, ac, a⟩ := q
  obtain ⟨h1, h2, h3, h4⟩ := hq
  simp only at h1 h2 h3 h4
  change AWp _ _ _ ⟨[(10, .s (.int .i64 i)), (9, .s (.int .i64 a)), (8, .row (filesC ac) 1), (1, .list (strL order)), (3, .ptr 0 0)], [.box (nodeC x) 25, .row ac.length 3 69]⟩ _
  refine awp_seq ?_
  refine awp_seq ?_
  refine awp_reg ?_
  refine ev_move tab_ok rfl rfl rfl ?_
  refine ev_move tab_ok rfl rfl rfl ?_
  (refine ev_lenL tab_ok rfl rfl rfl rfl rfl rfl ?_)
  (refine ev_ilss tab_ok rfl rfl rfl rfl ?_)
  refine ev_nil ?_ rfl
  refine awp_cond rfl (fun hc => ?_) (fun hc => ?_)
  · refine awp_skip ?_
    have hlt : i < order.length := by simpa [strL_length] using hc
    have hx : order[i]? = some order[i] := List.getElem?_eq_getElem hlt
    have hpi := hp order[i] (List.getElem_mem hlt)
    rw [List.drop_eq_getElem_cons hlt, placeAux] at h4
    generalize order[i] = p at *
    have hd := dlen_le x p
    have hbl := blocks_le (n := dlen x p) hd.1 (by omega)
    refine awp_seq ?_
    refine awp_block ?_
    refine awp_seq ?_
    refine awp_draw mixed ?_
    (refine ev_loadB tab_ok rfl rfl rfl rfl rfl rfl rfl ?_)
    refine ev_move tab_ok rfl rfl rfl ?_
    refine ev_move tab_ok rfl rfl rfl ?_
    (refine ev_iaL tab_ok rfl rfl rfl rfl rfl rfl rfl rfl rfl (by omega) (by rw [Int.toNat_natCast]; exact strL_get hx) rfl ?_)
    (refine ev_loadE tab_ok rfl rfl rfl rfl rfl rfl ?_)
    refine ev_call rfl rfl rfl rfl rfl (find47_spec x p hb hpi) rfl ?_
    refine ev_move tab_ok rfl rfl rfl ?_
    refine ev_extract tab_ok rfl rfl rfl rfl ?_
    refine ev_extract tab_ok rfl rfl rfl rfl ?_
    refine ev_alloc tab_ok rfl rfl rfl rfl rfl rfl (by constructor) ?_
    refine ev_store tab_ok rfl rfl rfl rfl rfl rfl rfl rfl rfl (by repeat constructor) ?_
    refine ev_assign tab_ok rfl rfl rfl ?_
    refine ev_nilD ?_ (by kernel_rfl)
    refine awp_seq ?_
    refine awp_seq ?_
    refine awp_reg ?_
    refine ev_move tab_ok rfl rfl rfl ?_
    (refine ev_faB tab_ok rfl rfl rfl rfl rfl rfl rfl ?_)
    (refine ev_loadB tab_ok rfl rfl rfl rfl rfl rfl rfl ?_)
    (refine ev_lenS tab_ok rfl rfl rfl rfl rfl rfl ?_)
    refine ev_call rfl rfl rfl rfl rfl (blocks25_spec (dlen x p)) rfl ?_
    refine ev_isub tab_ok rfl rfl rfl rfl ?_
    try refine ev_as (show _ = PV.s (.int .i64 (4096 - blocks (dlen x p))) by rw [wrap_i64 (by omega) (by omega)]) ?_
    refine ev_igtr tab_ok rfl rfl rfl rfl ?_
    refine ev_nil ?_ rfl
    refine awp_cond rfl (fun hc => ?_) (fun hc => ?_)
    · have hc : 4096 - blocks (dlen x p) < a := by simpa using hc
      refine awp_seq ?_
      refine awp_reg ?_
      refine ev_assign tab_ok rfl rfl rfl ?_
      refine ev_assign tab_ok rfl rfl rfl ?_
      refine ev_nil ?_ rfl
      refine awp_ghost 6 3 69 rfl (by constructor) ?_
      refine awp_ret ?_
      refine ⟨_, [], rfl, ?_, cut_of (by decide) .nil, keep0⟩
      rw [placeR, h4, if_pos hc]
      exact .tupL (.cons (.rowL rfl) (.cons (.frz rfl) .nil))
    · have hc : ¬ 4096 - blocks (dlen x p) < a := by simpa using hc
      rw [if_neg hc] at h4
      refine awp_skip ?_
      refine awp_seq ?_
      refine awp_draw mixed ?_
      refine ev_move tab_ok rfl rfl rfl ?_
      refine ev_move tab_ok rfl rfl rfl ?_
      refine ev_move tab_ok rfl rfl rfl ?_
      (refine ev_iaL tab_ok rfl rfl rfl rfl rfl rfl rfl rfl rfl (by omega) (by rw [Int.toNat_natCast]; exact strL_get hx) rfl ?_)
      (refine ev_loadE tab_ok rfl rfl rfl rfl rfl rfl ?_)
      refine ev_move tab_ok rfl rfl rfl ?_
      (refine ev_faB tab_ok rfl rfl rfl rfl rfl rfl rfl ?_)
      (refine ev_loadB tab_ok rfl rfl rfl rfl rfl rfl rfl ?_)
      (refine ev_lenS tab_ok rfl rfl rfl rfl rfl rfl ?_)
      refine ev_build tab_ok rfl rfl rfl rfl rfl rfl rfl rfl rfl rfl rfl rfl ?_
      refine ev_buildSlice tab_ok rfl rfl rfl rfl rfl rfl rfl rfl rfl rfl rfl rfl rfl rfl (by constructor) ?_
      (refine ev_append tab_ok rfl rfl rfl rfl rfl rfl rfl rfl rfl rfl rfl rfl rfl rfl (by repeat constructor) (by (simp [filesC_length, ordL_length]; done)) (by simp [fileC]) (by exact filesC_len _) (by (simp only [filesC_length, ordL_length, List.length_append, List.length_cons, List.length_nil]; omega)) (by (simp only [filesC_length, ordL_length, List.length_append, List.length_cons, List.length_nil]; omega)) ?_)
      refine ev_assign tab_ok rfl rfl rfl ?_
      refine ev_nilD ?_ (by kernel_rfl)
      refine awp_reg ?_
      refine ev_move tab_ok rfl rfl rfl ?_
      (refine ev_faB tab_ok rfl rfl rfl rfl rfl rfl rfl ?_)
      (refine ev_loadB tab_ok rfl rfl rfl rfl rfl rfl rfl ?_)
      (refine ev_lenS tab_ok rfl rfl rfl rfl rfl rfl ?_)
      refine ev_call rfl rfl rfl rfl rfl (blocks25_spec (dlen x p)) rfl ?_
      (refine ev_iadd tab_ok rfl rfl rfl rfl ?_)
      try refine ev_as (show _ = PV.s (.int .i64 (a + blocks (dlen x p))) by rw [wrap_i64 (by omega) (by omega)]) ?_
      refine ev_assign tab_ok rfl rfl rfl ?_
      refine ev_nil ?_ rfl
      refine awp_reg ?_
      refine ev_move tab_ok rfl rfl rfl ?_
      (refine ev_iadd tab_ok rfl rfl rfl rfl ?_)
      refine ev_assign tab_ok rfl rfl rfl ?_
      refine ev_nil ?_ rfl
      refine ⟨(i + 1, ac ++ [(p, a, dlen x p)], a + blocks (dlen x p)), [0, 1], ?_, by show order.length - (i + 1) < order.length - i; omega, ⟨hlt, by simp [h2], by show 0 ≤ a + blocks (dlen x p); omega, ?_⟩, keep0⟩
      all_goals (try refine le_of (by decide) ?_ ?_)
      repeat' (first | exact trivial | exact .nil | (refine CutL.cons rfl ?_ ?_) | (refine EnvLe.cons rfl ?_ ?_) | (refine MvS.box (mvl_closed rfl)) | exact .ptr rfl | exact .frz rfl | (refine Mv.rowE rfl ?_) | (refine MvS.rowE ?_) | (refine Mv.int ?_) | fail)
      all_goals (try simp only [wrap_addL, wrap_addR, wrap_subL, wrap_subR]); all_goals (try (rw [wrap_i64 (by omega) (by omega)]; omega))
      all_goals (try simp [filesC, fileC, dlen])
      show _ = Option.map _ _
      rw [h4, Option.map_map]
      congr 1
  · refine awp_exit ?_
    have hge : i = order.length := by
      have : ¬ i < order.length := by simpa [strL_length] using hc
      omega
    subst hge
    rw [List.drop_length, placeAux] at h4
    refine awp_seq ?_
    refine awp_reg ?_
    refine ev_move tab_ok rfl rfl rfl ?_
    refine ev_assign tab_ok rfl rfl rfl ?_
    refine ev_assign tab_ok rfl rfl rfl ?_
    refine ev_nil ?_ rfl
    refine awp_ret ?_
    refine ⟨_, [], rfl, ?_, cut_of (by decide) .nil, keep0⟩
    rw [placeR, h4]
    exact .tupL (.cons (.rowL (by simp)) (.cons (.frz rfl) .nil))
end Go.Proofs.Pm
end
section
namespace Go.Proofs.Pm
open Go
def ordBad (l : List B) : List B → List B → Bool
  | _, [] => false
  | pre, p :: r => (!has l p || has pre p) || ordBad l (pre ++ [p]) r
theorem ordBad_mem {l : List B} : ∀ (r pre : List B), ordBad l pre r = false → ∀ p ∈ r, p ∈ l
  | [], _, _, p, hp => by cases hp
  | q :: r, pre, h, p, hp => by
    simp only [ordBad, Bool.or_eq_false_iff, Bool.not_eq_false'] at h
    rcases List.mem_cons.1 hp with rfl | hp
    · exact has_iff.1 h.1.1
    · exact ordBad_mem r _ h.2 p hp
def PlaceR (x : Node) (order : List B) (start : Int) : List File × Int :=
  if (!valid18 x || decide (order.length ≠ (files47 x).length)) || decide (start < 0) then ([], 1) else if ordBad (files47 x) [] order then ([], 1) else placeR x order start
theorem Place47_spec (x : Node) (order : List B) (start : Int) (hb : x.bulk ≤ 1099511627776) : FCall Tryz.prog 23 [.agg (nodeC x), .list (strL order), .s (.int .i64 start)] [] (.tup [.list (filesC (PlaceR x order start).1), .s (.int .i64 (PlaceR x order start).2)]) [] := by
  have hpl := files47_length x
  refine fcall_intro tab_ok Tryz.call23 Tryz.func23 rfl rfl rfl (fun G w ι => ?_)
  refine awp_len 1 rfl (fun hol => ?_)
  rw [strL_length] at hol
  refine awp_seq ?_
  refine awp_reg ?_
  refine ev_box rfl rfl rfl rfl (by constructor) ?_
  refine ev_assign tab_ok rfl rfl rfl ?_
  refine ev_assign tab_ok rfl rfl rfl ?_
  refine ev_nil ?_ rfl
  refine awp_seq ?_
  refine awp_reg ?_
  (refine ev_loadB tab_ok rfl rfl rfl rfl rfl rfl rfl ?_)
  refine ev_call rfl rfl rfl rfl rfl (files47_spec x hb) rfl ?_
  refine ev_assign tab_ok rfl rfl rfl ?_
  refine ev_nil ?_ rfl
  have hfound : ∀ p ∈ files47 x, p.size ≤ x.bulk := fun p hp => (files47_found hp).2
  have hfin : PlaceR x order start = if (!valid18 x || decide (order.length ≠ (files47 x).length)) || decide (start < 0) then ([], 1) else if ordBad (files47 x) [] order then ([], 1) else placeR x order start := rfl
  generalize files47 x = l at *
  refine awp_seq ?_
  refine awp_seq_to ⟨[(25, .s (.bool ((!valid18 x || decide (order.length ≠ l.length)) || decide (start < 0)))), (8, .list (strL l)), (1, .list (strL order)), (2, .s (.int .i64 start)), (3, .ptr 0 0)], [.box (nodeC x) 25]⟩ ?_ ?_
  · cases hz : !valid18 x
    · cases hy : ((order.length : Int) != (l.length : Int))
      all_goals
        refine awp_reg ?_
        (refine ev_loadB tab_ok rfl rfl rfl rfl rfl rfl rfl ?_)
        refine ev_call rfl rfl rfl rfl rfl (valid18_spec x hb) rfl ?_
        refine ev_not tab_ok rfl rfl rfl ?_
        try refine ev_is (congrArg Value.bool (hz)) ?_
        refine ev_move tab_ok rfl rfl rfl ?_
        (refine ev_move tab_ok rfl rfl rfl ?_)
        (refine ev_lenL tab_ok rfl rfl rfl rfl rfl rfl ?_)
        (refine ev_move tab_ok rfl rfl rfl ?_)
        (refine ev_lenL tab_ok rfl rfl rfl rfl rfl rfl ?_)
        (refine ev_ineq tab_ok rfl rfl rfl rfl ?_)
        try refine ev_as (show _ = PV.s (.bool _) by rw [strL_length, strL_length, hy]) ?_
        (refine ev_pickF tab_ok rfl rfl rfl rfl rfl ?_)
        refine ev_move tab_ok rfl rfl rfl ?_
        (first | refine ev_skip rfl rfl ?_ | refine ev_move tab_ok rfl rfl rfl ?_)
        (first | refine ev_skip rfl rfl ?_ | refine ev_ilss tab_ok rfl rfl rfl rfl ?_)
        (first | refine ev_pickT tab_ok rfl rfl rfl rfl rfl ?_ | refine ev_pickF tab_ok rfl rfl rfl rfl rfl ?_)
        refine ev_nil ?_ rfl
        refine ⟨[0], ?_, keep0⟩
        all_goals (try refine le_of (by decide) ?_ ?_)
        repeat' (first | exact trivial | exact .nil | (refine CutL.cons rfl ?_ ?_) | (refine EnvLe.cons rfl ?_ ?_) | (refine MvS.box (mvl_closed rfl)) | exact .ptr rfl | exact .frz rfl | (refine Mv.bool ?_) | fail)
        all_goals (try simp only [wrap_addL, wrap_addR, wrap_subL, wrap_subR]); all_goals (try (rw [wrap_i64 (by omega) (by omega)]; omega))
        all_goals
          have hy' : decide (order.length ≠ l.length) = ((order.length : Int) != (l.length : Int)) := by
            by_cases e : order.length = l.length
            · rw [e]; simp
            · have : (order.length : Int) ≠ (l.length : Int) := by omega
              simp [e, this]
          rw [hy', hy]; simp
    · refine awp_reg ?_
      (refine ev_loadB tab_ok rfl rfl rfl rfl rfl rfl rfl ?_)
      refine ev_call rfl rfl rfl rfl rfl (valid18_spec x hb) rfl ?_
      refine ev_not tab_ok rfl rfl rfl ?_
      try refine ev_is (congrArg Value.bool (hz)) ?_
      refine ev_move tab_ok rfl rfl rfl ?_
      (refine ev_skip rfl rfl ?_)
      (refine ev_skip rfl rfl ?_)
      (refine ev_skip rfl rfl ?_)
      (refine ev_skip rfl rfl ?_)
      (refine ev_skip rfl rfl ?_)
      (refine ev_pickT tab_ok rfl rfl rfl rfl rfl ?_)
      refine ev_move tab_ok rfl rfl rfl ?_
      (refine ev_skip rfl rfl ?_)
      (refine ev_skip rfl rfl ?_)
      (refine ev_pickT tab_ok rfl rfl rfl rfl rfl ?_)
      refine ev_nil ?_ rfl
      refine ⟨[0], ?_, keep0⟩
      all_goals (try refine le_of (by decide) ?_ ?_)
      repeat' (first | exact trivial | exact .nil | (refine CutL.cons rfl ?_ ?_) | (refine EnvLe.cons rfl ?_ ?_) | (refine MvS.box (mvl_closed rfl)) | exact .ptr rfl | exact .frz rfl | fail)
      all_goals (try simp only [wrap_addL, wrap_addR, wrap_subL, wrap_subR]); all_goals (try (rw [wrap_i64 (by omega) (by omega)]; omega))
      all_goals simp
  refine awp_cond rfl (fun hc => ?_) (fun hc => ?_)
  · rw [if_pos hc] at hfin
    refine awp_seq ?_
    refine awp_reg ?_
    refine ev_assign tab_ok rfl rfl rfl ?_
    refine ev_assign tab_ok rfl rfl rfl ?_
    refine ev_nil ?_ rfl
    refine awp_ghost 6 3 69 rfl (by constructor) ?_
    refine awp_ret ?_
    refine ⟨_, [], rfl, ?_, cut_of (by decide) .nil, keep0⟩
    rw [hfin]
    exact .tupL (.cons (.rowL rfl) (.cons (.frz rfl) .nil))
  · rw [if_neg (by rw [hc]; decide)] at hfin
    simp only [Bool.or_eq_false_iff, decide_eq_false_iff_not, Decidable.not_not, Int.not_lt] at hc
    obtain ⟨⟨_, hlen⟩, hs0⟩ := hc
    refine awp_skip ?_
    refine awp_seq ?_
    refine awp_seq ?_
    refine awp_reg ?_
    refine ev_assign tab_ok rfl rfl rfl ?_
    refine ev_nil ?_ rfl
    refine awp_block ?_
    refine awp_loop (fun i : Nat => ⟨[(9, .s (.int .i64 i)), (8, .list (strL l)), (1, .list (strL order)), (2, .s (.int .i64 start)), (3, .ptr 0 0)], [.box (nodeC x) 25]⟩) (fun i => i ≤ order.length ∧ ordBad l [] order = ordBad l (order.take i) (order.drop i)) (fun i => order.length - i) 0 [0] ?_ ⟨Nat.zero_le _, rfl⟩ keep0 (fun i hi => ?_)
    · all_goals (try refine le_of (by decide) ?_ ?_)
      repeat' (first | exact trivial | exact .nil | (refine CutL.cons rfl ?_ ?_) | (refine EnvLe.cons rfl ?_ ?_) | (refine MvS.box (mvl_closed rfl)) | exact .ptr rfl | exact .frz rfl | fail)
      all_goals (try simp only [wrap_addL, wrap_addR, wrap_subL, wrap_subR]); all_goals (try (rw [wrap_i64 (by omega) (by omega)]; omega))
    obtain ⟨hi, hob⟩ := hi
    refine awp_seq ?_
    refine awp_seq ?_
    refine awp_reg ?_
    refine ev_move tab_ok rfl rfl rfl ?_
    refine ev_move tab_ok rfl rfl rfl ?_
    (refine ev_lenL tab_ok rfl rfl rfl rfl rfl rfl ?_)
    (refine ev_ilss tab_ok rfl rfl rfl rfl ?_)
    refine ev_nil ?_ rfl
    refine awp_cond rfl (fun hc => ?_) (fun hc => ?_)
    · refine awp_skip ?_
      have hlt : i < order.length := by simpa [strL_length] using hc
      have hx : order[i]? = some order[i] := List.getElem?_eq_getElem hlt
      have htk : order.take (i + 1) = order.take i ++ [order[i]] := by rw [List.take_add_one, hx]; rfl
      rw [List.drop_eq_getElem_cons hlt, ordBad, ← htk] at hob
      generalize order[i] = p at *
      refine awp_seq ?_
      refine awp_block ?_
      refine awp_seq_to ⟨[(48, .s (.bool (!has l p || has (order.take i) p))), (9, .s (.int .i64 i)), (8, .list (strL l)), (1, .list (strL order)), (2, .s (.int .i64 start)), (3, .ptr 0 0)], [.box (nodeC x) 25]⟩ ?_ ?_
      · cases hz : !has l p
        all_goals
          refine awp_draw mixed ?_
          refine ev_move tab_ok rfl rfl rfl ?_
          refine ev_move tab_ok rfl rfl rfl ?_
          refine ev_move tab_ok rfl rfl rfl ?_
          (refine ev_iaL tab_ok rfl rfl rfl rfl rfl rfl rfl rfl rfl (by omega) (by rw [Int.toNat_natCast]; exact strL_get hx) rfl ?_)
          (refine ev_loadE tab_ok rfl rfl rfl rfl rfl rfl ?_)
          refine ev_call rfl rfl rfl rfl rfl (has_spec l p) rfl ?_
          refine ev_not tab_ok rfl rfl rfl ?_
          try refine ev_is (congrArg Value.bool (hz)) ?_
          refine ev_move tab_ok rfl rfl rfl ?_
          (first | refine ev_skip rfl rfl ?_ | refine ev_move tab_ok rfl rfl rfl ?_)
          (first | refine ev_skip rfl rfl ?_ | refine ev_move tab_ok rfl rfl rfl ?_)
          (first | refine ev_skip rfl rfl ?_ | refine ev_slHi tab_ok rfl rfl rfl rfl rfl rfl rfl rfl rfl rfl (by (simp only [strL_length]; omega)) (by exact strL_len _) ?_)
          try refine ev_as (by rw [strL_take]) ?_
          (first | refine ev_skip rfl rfl ?_ | refine ev_move tab_ok rfl rfl rfl ?_)
          (first | refine ev_skip rfl rfl ?_ | refine ev_move tab_ok rfl rfl rfl ?_)
          (first | refine ev_skip rfl rfl ?_ | refine ev_iaL tab_ok rfl rfl rfl rfl rfl rfl rfl rfl rfl (by omega) (by rw [Int.toNat_natCast]; exact strL_get hx) rfl ?_)
          (first | refine ev_skip rfl rfl ?_ | refine ev_loadE tab_ok rfl rfl rfl rfl rfl rfl ?_)
          (first | refine ev_skip rfl rfl ?_ | refine ev_call rfl rfl rfl rfl rfl (has_spec (order.take i) p) rfl ?_)
          (first | refine ev_pickT tab_ok rfl rfl rfl rfl rfl ?_ | refine ev_pickF tab_ok rfl rfl rfl rfl rfl ?_)
          refine ev_nilD ?_ (by kernel_rfl)
          refine ⟨[0], ?_, keep0⟩
          all_goals (try refine le_of (by decide) ?_ ?_)
          repeat' (first | exact trivial | exact .nil | (refine CutL.cons rfl ?_ ?_) | (refine EnvLe.cons rfl ?_ ?_) | (refine MvS.box (mvl_closed rfl)) | exact .ptr rfl | exact .frz rfl | fail)
          all_goals (try simp only [wrap_addL, wrap_addR, wrap_subL, wrap_subR]); all_goals (try (rw [wrap_i64 (by omega) (by omega)]; omega))
          all_goals simp
      refine awp_cond rfl (fun hc => ?_) (fun hc => ?_)
      · rw [hc, Bool.true_or] at hob
        rw [if_pos hob] at hfin
        refine awp_seq ?_
        refine awp_reg ?_
        refine ev_assign tab_ok rfl rfl rfl ?_
        refine ev_assign tab_ok rfl rfl rfl ?_
        refine ev_nil ?_ rfl
        refine awp_ghost 6 3 69 rfl (by constructor) ?_
        refine awp_ret ?_
        refine ⟨_, [], rfl, ?_, cut_of (by decide) .nil, keep0⟩
        rw [hfin]
        exact .tupL (.cons (.rowL rfl) (.cons (.frz rfl) .nil))
      · rw [hc, Bool.false_or] at hob
        refine awp_skip ?_
        refine awp_reg ?_
        refine ev_move tab_ok rfl rfl rfl ?_
        (refine ev_iadd tab_ok rfl rfl rfl rfl ?_)
        refine ev_assign tab_ok rfl rfl rfl ?_
        refine ev_nil ?_ rfl
        refine ⟨i + 1, [0], ?_, by omega, ⟨hlt, hob⟩, keep0⟩
        all_goals (try refine le_of (by decide) ?_ ?_)
        repeat' (first | exact trivial | exact .nil | (refine CutL.cons rfl ?_ ?_) | (refine EnvLe.cons rfl ?_ ?_) | (refine MvS.box (mvl_closed rfl)) | exact .ptr rfl | exact .frz rfl | (refine Mv.int ?_) | fail)
        all_goals (try simp only [wrap_addL, wrap_addR, wrap_subL, wrap_subR]); all_goals (try (rw [wrap_i64 (by omega) (by omega)]; omega))
    · refine awp_exit ?_
      have hge : i = order.length := by
        have : ¬ i < order.length := by simpa [strL_length] using hc
        omega
      subst hge
      rw [List.drop_length, ordBad] at hob
      have hmem := ordBad_mem order [] hob
      rw [if_neg (by rw [hob]; decide)] at hfin
      refine awp_seq ?_
      refine awp_reg ?_
      (refine ev_loadB tab_ok rfl rfl rfl rfl rfl rfl rfl ?_)
      refine ev_move tab_ok rfl rfl rfl ?_
      refine ev_move tab_ok rfl rfl rfl ?_
      refine ev_call rfl rfl rfl rfl rfl (place_spec x order start hb (by omega) (fun p hp => by have := hfound p (hmem p hp); omega) hs0) rfl ?_
      refine ev_extract tab_ok rfl rfl rfl rfl ?_
      refine ev_extract tab_ok rfl rfl rfl rfl ?_
      refine ev_assign tab_ok rfl rfl rfl ?_
      refine ev_assign tab_ok rfl rfl rfl ?_
      refine ev_nil ?_ rfl
      refine awp_ret ?_
      exact ⟨_, [], rfl, Mv.val (by rw [hfin]) rfl, cut_of (by decide) .nil, keep0⟩
def wr (n : Int) : Int := IntKind.i64.wrap n
def maxI (a b : Int) : Int := if b > a then b else a
def validF (f : File) : Bool := decide (0 ≤ f.2.1) && decide (0 ≤ f.2.2) && decide (f.2.1 ≤ 4096) && decide (blocks f.2.2 ≤ wr (4096 - f.2.1))
structure CS where
  sum : Int
  pos : Int
  found : Bool
def stepF (a : B) (s : CS) (f : File) : CS := if f.1.toList == a.toList then (if 0 < f.2.2 then ⟨wr (s.sum + maxI (wr (s.pos - f.2.1)) (wr (f.2.1 - s.pos))), wr (f.2.1 + blocks f.2.2), true⟩ else ⟨s.sum, s.pos, true⟩) else s
def costAcc (files : List File) : List B → Int → Int → Option Int
  | [], sum, _ => some sum
  | a :: r, sum, pos => if (files.foldl (stepF a) ⟨sum, pos, false⟩).found then costAcc files r (files.foldl (stepF a) ⟨sum, pos, false⟩).sum (files.foldl (stepF a) ⟨sum, pos, false⟩).pos else none
def costR (files : List File) (acc : List B) : Int × Int := if decide (1024 < files.length) || decide (1024 < acc.length) then (0, 7) else if files.any (fun f => !validF f) then (0, 1) else match costAcc files acc 0 0 with
  | some c => (c, 0)
  | none => (0, 6)
end Go.Proofs.Pm
end
section
namespace Go.Proofs.Pm
open Go
def sameFiles : List File → List File → Bool
  | [], [] => true
  | f :: r, g :: s => sameFile f g && sameFiles r s
  | _, _ => false
theorem sameFiles_eq : ∀ {a b : List File}, a.length = b.length → sameFiles a b = (List.range a.length).all fun i => match a[i]?, b[i]? with
    | some f, some g => sameFile f g
    | _, _ => false
  | [], [], _ => rfl
  | f :: r, g :: s, h => by
    rw [sameFiles, sameFiles_eq (by simpa using h), List.length_cons, List.range_succ_eq_map, List.all_cons, List.all_map]
    rfl
theorem sameFiles_ne : ∀ {a b : List File}, a.length ≠ b.length → sameFiles a b = false
  | [], [], h => absurd rfl h
  | [], _ :: _, _ => rfl
  | _ :: _, [], _ => rfl
  | f :: r, g :: s, h => by rw [sameFiles, sameFiles_ne (by simpa using h), Bool.and_false]
theorem sameFiles_spec (a b : List File) : FCall Tryz.prog 26 [.list (filesC a), .list (filesC b)] [] (.s (.bool (sameFiles a b))) [] := by
  refine fcall_intro tab_ok Tryz.call26 Tryz.func26 rfl rfl rfl (fun G w ι => ?_)
  refine awp_len 0 rfl (fun hal => ?_)
  rw [filesC_length] at hal
  refine awp_seq ?_
  refine awp_reg ?_
  refine ev_assign tab_ok rfl rfl rfl ?_
  refine ev_nil ?_ rfl
  refine awp_seq ?_
  refine awp_seq ?_
  refine awp_reg ?_
  refine ev_move tab_ok rfl rfl rfl ?_
  (refine ev_lenL tab_ok rfl rfl rfl rfl rfl rfl ?_)
  refine ev_move tab_ok rfl rfl rfl ?_
  (refine ev_lenL tab_ok rfl rfl rfl rfl rfl rfl ?_)
  (refine ev_ineq tab_ok rfl rfl rfl rfl ?_)
  refine ev_nil ?_ rfl
  refine awp_cond rfl (fun hc => ?_) (fun hc => ?_)
  · have hne : a.length ≠ b.length := by
      intro e
      simp [filesC_length, e] at hc
    refine awp_seq ?_
    refine awp_reg ?_
    refine ev_assign tab_ok rfl rfl rfl ?_
    refine ev_nil ?_ rfl
    refine awp_ret ?_
    exact ⟨_, [], rfl, Mv.bool (sameFiles_ne hne).symm, cut_of (by decide) .nil, keep0⟩
  · have hl : a.length = b.length := by
      have : (a.length : Int) = b.length := by simpa [filesC_length] using hc
      omega
    have hfin := sameFiles_eq hl
    refine awp_skip ?_
    refine awp_seq ?_
    refine awp_seq ?_
    refine awp_reg ?_
    refine ev_assign tab_ok rfl rfl rfl ?_
    refine ev_nil ?_ rfl
    refine awp_block ?_
    refine awp_loop (fun i : Nat => ⟨[(5, .s (.int .i64 i)), (0, .list (filesC a)), (1, .list (filesC b))], []⟩) (fun i => i ≤ a.length ∧ ∀ (j : Nat) (h : j < a.length) (h' : j < b.length), j < i → sameFile a[j] b[j] = true) (fun i => a.length - i) 0 [] ?_ ⟨Nat.zero_le _, fun j _ _ h => by omega⟩ keep0 (fun i hi => ?_)
    · all_goals (try refine le_of (by decide) ?_ ?_)
      repeat' (first | exact trivial | exact .nil | (refine EnvLe.cons rfl ?_ ?_) | exact .frz rfl | fail)
      all_goals (try simp only [wrap_addL, wrap_addR, wrap_subL, wrap_subR]); all_goals (try (rw [wrap_i64 (by omega) (by omega)]; omega))
    refine awp_seq ?_
    refine awp_seq ?_
    refine awp_reg ?_
    refine ev_move tab_ok rfl rfl rfl ?_
    refine ev_move tab_ok rfl rfl rfl ?_
    (refine ev_lenL tab_ok rfl rfl rfl rfl rfl rfl ?_)
    (refine ev_ilss tab_ok rfl rfl rfl rfl ?_)
    refine ev_nil ?_ rfl
    refine awp_cond rfl (fun hc => ?_) (fun hc => ?_)
    · refine awp_skip ?_
      have hlt : i < a.length := by simpa [filesC_length] using hc
      have hltb : i < b.length := by omega
      have hx : a[i]? = some a[i] := List.getElem?_eq_getElem hlt
      have hy : b[i]? = some b[i] := List.getElem?_eq_getElem hltb
      refine awp_seq ?_
      refine awp_block ?_
      refine awp_seq ?_
      refine awp_draw mixed ?_
      refine ev_move tab_ok rfl rfl rfl ?_
      refine ev_move tab_ok rfl rfl rfl ?_
      (refine ev_iaL tab_ok rfl rfl rfl rfl rfl rfl rfl rfl rfl (by omega) (by rw [Int.toNat_natCast]; exact filesC_get hx) rfl ?_)
      (refine ev_loadE tab_ok rfl rfl rfl rfl rfl rfl ?_)
      refine ev_move tab_ok rfl rfl rfl ?_
      refine ev_move tab_ok rfl rfl rfl ?_
      (refine ev_iaL tab_ok rfl rfl rfl rfl rfl rfl rfl rfl rfl (by omega) (by rw [Int.toNat_natCast]; exact filesC_get hy) rfl ?_)
      (refine ev_loadE tab_ok rfl rfl rfl rfl rfl rfl ?_)
      refine ev_neq69 _ _ rfl rfl rfl rfl ?_
      refine ev_nilD ?_ (by kernel_rfl)
      refine awp_cond rfl (fun hc => ?_) (fun hc => ?_)
      · refine awp_seq ?_
        refine awp_reg ?_
        refine ev_assign tab_ok rfl rfl rfl ?_
        refine ev_nil ?_ rfl
        refine awp_ret ?_
        refine ⟨_, [], rfl, Mv.bool ?_, cut_of (by decide) .nil, keep0⟩
        rw [hfin, eq_comm, List.all_eq_false]
        refine ⟨i, List.mem_range.2 hlt, ?_⟩
        rw [hx, hy]
        simpa using hc
      · refine awp_skip ?_
        refine awp_reg ?_
        refine ev_move tab_ok rfl rfl rfl ?_
        (refine ev_iadd tab_ok rfl rfl rfl rfl ?_)
        refine ev_assign tab_ok rfl rfl rfl ?_
        refine ev_nil ?_ rfl
        refine ⟨i + 1, [], ?_, by omega, ⟨hlt, fun j h h' hj => ?_⟩, keep0⟩
        · all_goals (try refine le_of (by decide) ?_ ?_)
          repeat' (first | exact trivial | exact .nil | (refine EnvLe.cons rfl ?_ ?_) | exact .frz rfl | (refine Mv.int ?_) | fail)
          all_goals (try simp only [wrap_addL, wrap_addR, wrap_subL, wrap_subR]); all_goals (try (rw [wrap_i64 (by omega) (by omega)]; omega))
        by_cases e : j = i
        · subst e; simpa using hc
        · exact hi.2 j h h' (by omega)
    · refine awp_exit ?_
      have hge : i = a.length := by
        have : ¬ i < a.length := by simpa [filesC_length] using hc
        omega
      subst hge
      refine awp_seq ?_
      refine awp_reg ?_
      refine ev_assign tab_ok rfl rfl rfl ?_
      refine ev_nil ?_ rfl
      refine awp_ret ?_
      refine ⟨_, [], rfl, Mv.bool ?_, cut_of (by decide) .nil, keep0⟩
      rw [hfin, eq_comm, List.all_eq_true]
      intro j hj
      have hj := List.mem_range.1 hj
      rw [List.getElem?_eq_getElem hj, List.getElem?_eq_getElem (by omega : j < b.length)]
      exact hi.2 j hj (by omega) hj
def ordersR (l : List B) : Nat → List B → List (List B)
  | 0, first => [first]
  | n + 1, first => (l.filter fun p => !has first p).flatMap fun p => ordersR l n (first ++ [p])
def bestStep (x : Node) (acc : List B) (s : Option (List B × Int)) (o : List B) : Option (List B × Int) :=
  match s with
  | none => some (o, (costR (placeR x o 0).1 acc).1)
  | some s => if (costR (placeR x o 0).1 acc).1 < s.2 then some (o, (costR (placeR x o 0).1 acc).1) else some s
def bestO (s : Option (List B × Int)) : List B × Int := match s with
  | some s => s
  | none => ([], 0)
def bestR (x : Node) (acc : List B) : List B × Int :=
  if valid18 x = false then ([], 1) else if decide (6 < (files47 x).length) || decide (64 < acc.length) then ([], 7) else if acc.any (fun a => !has (files47 x) a) then ([], 6)
  else if (PlaceR x (files47 x) 0).2 ≠ 0 then ([], (PlaceR x (files47 x) 0).2) else if (files47 x).length = 0 then ([], 0) else ((bestO ((ordersR (files47 x) (files47 x).length []).foldl (bestStep x acc) none)).1, 0)
end Go.Proofs.Pm
end

/- A part of the proof of one law: the machine on pure values and the walks of functions. -/
import Derived.Test.YtjoikahblpephaaGreatDoorPmLw6P12
import Derived.Test.YtjoikahblpephaaGreatDoorPmLw6P13
set_option linter.all false
section
namespace Go.Proofs.Pm
open Go
def accStep (l out : List B) (a : B) : List B := if has l a && !has out a then out ++ [a] else out
def addStep (out : List B) (p : B) : List B := if !has out p then out ++ [p] else out
def accFold (l acc : List B) : List B := acc.foldl (accStep l) []
def byA (l acc : List B) : List B := l.foldl addStep (accFold l acc)
def byA47 (x : Node) (acc : List B) : List B := byA (byW47 x) acc
def Sub (l out : List B) : Prop := out.Nodup ∧ ∀ p ∈ out, p ∈ l
theorem Sub.len {l out : List B} (h : Sub l out) : out.length ≤ l.length := nodup_le h.1 h.2
theorem Sub.snoc {l out : List B} {p : B} (h : Sub l out) (hp : p ∈ l) (hn : p ∉ out) : Sub l (out ++ [p]) := by
  refine ⟨?_, fun q hq => ?_⟩
  · rw [List.nodup_append]
    refine ⟨h.1, by simp, fun a ha b hb e => ?_⟩
    rw [List.mem_singleton] at hb
    subst hb e
    exact hn ha
  · rcases List.mem_append.1 hq with hq | hq
    · exact h.2 q hq
    · rw [List.mem_singleton] at hq; subst hq; exact hp
theorem accStep_sub {l out : List B} (a : B) (h : Sub l out) : Sub l (accStep l out a) := by
  unfold accStep
  split
  · rename_i hc
    simp only [Bool.and_eq_true, Bool.not_eq_true'] at hc
    exact h.snoc (has_iff.1 hc.1) (has_not.1 hc.2)
  · exact h
theorem accFold_sub {l : List B} : ∀ (acc out : List B), Sub l out → Sub l (acc.foldl (accStep l) out)
  | [], out, h => h
  | a :: r, out, h => accFold_sub r _ (accStep_sub a h)
theorem sub_nil (l : List B) : Sub l [] := ⟨List.nodup_nil, fun p hp => by cases hp⟩
def dlen (x : Node) (p : B) : Int := ((findR x p).1.data.size : Int)
theorem descend_bulk : ∀ (ns : List B) (x y : Node), descend x ns = some y → y.bulk ≤ x.bulk
  | [], x, y, h => by simp only [descend, Option.some.injEq] at h; subst h; exact Nat.le_refl _
  | n :: r, x, y, h => by
    rw [descend] at h
    split at h
    · rename_i k hk
      split at h
      · rename_i z hz
        have := descend_bulk r z y h
        have := kid_bulk (List.mem_of_getElem? hz)
        omega
      · cases h
    · cases h
theorem find47_bulk {x y : Node} {p : B} (h : find47 x p = some y) : y.bulk ≤ x.bulk := by
  unfold find47 at h
  split at h
  · simp only [Option.some.injEq] at h; subst h; exact Nat.le_refl _
  · exact descend_bulk _ _ _ h
theorem dlen_le (x : Node) (p : B) : 0 ≤ dlen x p ∧ dlen x p ≤ x.bulk := by
  unfold dlen findR
  cases h : find47 x p with
  | none =>
    simp only [zeroN]
    have := bulk_pos x
    rw [bsize0]
    omega
  | some y =>
    have h1 := find47_bulk h
    have h2 := bulk_eq y
    simp only
    omega
theorem blocks_le {n : Int} (h0 : 0 ≤ n) (h : n ≤ 1099511627776) : 0 ≤ blocks n ∧ blocks n ≤ 1099511627776 ∧ blocks n = if n = 0 then 0 else (n - 1) / 2048 + 1 := by
  unfold blocks
  by_cases hn : n ≤ 0
  · obtain rfl : n = 0 := by omega
    simp
  · rw [if_neg hn, if_neg (by omega), wrap_i64 (n := n - 1) (by omega) (by omega), Int.tdiv_eq_ediv_of_nonneg (by omega), wrap_i64 (n := (n - 1) / 2048) (by omega) (by omega), wrap_i64 (by omega) (by omega)]
    omega
def placeAux (x : Node) : List B → Int → Option (List File)
  | [], _ => some []
  | p :: r, a => if 4096 - blocks (dlen x p) < a then none else (placeAux x r (a + blocks (dlen x p))).map ((p, a, dlen x p) :: ·)
def placeR (x : Node) (order : List B) (start : Int) : List File × Int := match placeAux x order start with
  | some l => (l, 0)
  | none => ([], 12)
theorem place_spec (x : Node) (order : List B) (start : Int) (hb : x.bulk ≤ 1099511627776) (ho : order.length ≤ 1099511627776) (hp : ∀ p ∈ order, p.size ≤ 4398046511104) (hs : 0 ≤ start) : FCall Tryz.prog 58 [.agg (nodeC x), .list (strL order), .s (.int .i64 start)] [] (.tup [.list (filesC (placeR x order start).1), .s (.int .i64 (placeR x order start).2)]) [] := by
  refine fcall_intro tab_ok Tryz.call58 Tryz.func58 rfl rfl rfl (fun G w ι => ?_)
  refine awp_seq ?_
  refine awp_reg ?_
  refine ev_box rfl rfl rfl rfl (by constructor) ?_
  refine ev_assign tab_ok rfl rfl rfl ?_
  refine ev_assign tab_ok rfl rfl rfl ?_
  refine ev_nil ?_ rfl
  refine awp_seq ?_
  refine awp_reg ?_
  refine ev_assign tab_ok rfl rfl rfl ?_
  refine ev_nil ?_ rfl
  refine awp_ghost 8 3 69 rfl (by constructor) ?_
  refine awp_seq ?_
  refine awp_reg ?_
  refine ev_move tab_ok rfl rfl rfl ?_
  refine ev_assign tab_ok rfl rfl rfl ?_
  refine ev_nil ?_ rfl
  refine awp_seq ?_
  refine awp_seq ?_
  refine awp_reg ?_
  refine ev_assign tab_ok rfl rfl rfl ?_
  refine ev_nil ?_ rfl
  refine awp_block ?_
  refine awp_loop (fun q : Nat × List File × Int => ⟨[(10, .s (.int .i64 q.1)), (9, .s (.int .i64 q.2.2)), (8, .row (filesC q.2.1) 1), (1, .list (strL order)), (3, .ptr 0 0)], [.box (nodeC x) 25, .row q.2.1.length 3 69]⟩) (fun q => q.1 ≤ order.length ∧ q.2.1.length = q.1 ∧ 0 ≤ q.2.2 ∧ placeAux x order start = (placeAux x (order.drop q.1) q.2.2).map (q.2.1 ++ ·)) (fun q => order.length - q.1) (0, [], start) [0, 1] ?_ ⟨Nat.zero_le _, rfl, hs, by simp⟩ keep0 (fun q hq => ?_)
  · all_goals (try refine le_of (by decide) ?_ ?_)
    repeat' (first | exact trivial | exact .nil | (refine CutL.cons rfl ?_ ?_) | (refine EnvLe.cons rfl ?_ ?_) | exact MvS.row | (refine MvS.box (mvl_closed rfl)) | exact .ptr rfl | exact .row rfl | exact .frz rfl | fail)
    all_goals (try simp only [wrap_addL, wrap_addR, wrap_subL, wrap_subR]); all_goals (try (rw [wrap_i64 (by omega) (by omega)]; omega))
  obtain ⟨i, ac, a⟩ := q
  obtain ⟨h1, h2, h3, h4⟩ := hq
  simp only at h1 h2 h3 h4
  change AWp _ _ _ ⟨[(10, .s (.int .i64 i)), (9, .s (.int .i64 a)), (8, .row (filesC ac) 1), (1, .list (strL order)), (3, .ptr 0 0)], [.box (nodeC x) 25, .row ac.length 3 69]⟩ _
  refine awp_seq ?_
  refine awp_seq ?_
  refine awp_reg ?_
  refine ev_move tab_ok rfl rfl rfl ?_
  refine ev_move tab_ok rfl rfl rfl ?_
  (refine ev_lenL tab_ok rfl rfl rfl rfl rfl rfl ?_)
  (refine ev_ilss tab_ok rfl rfl rfl rfl ?_)
  refine ev_nil ?_ rfl
  refine awp_cond rfl (fun hc => ?_) (fun hc => ?_)
  · refine awp_skip ?_
    have hlt : i < order.length := by simpa [strL_length] using hc
    have hx : order[i]? = some order[i] := List.getElem?_eq_getElem hlt
    have hpi := hp order[i] (List.getElem_mem hlt)
    rw [List.drop_eq_getElem_cons hlt, placeAux] at h4
    generalize order[i] = p at *
    have hd := dlen_le x p
    have hbl := blocks_le (n := dlen x p) hd.1 (by omega)
    refine awp_seq ?_
    refine awp_block ?_
    refine awp_seq ?_
    refine awp_draw mixed ?_
    (refine ev_loadB tab_ok rfl rfl rfl rfl rfl rfl rfl ?_)
    refine ev_move tab_ok rfl rfl rfl ?_
    refine ev_move tab_ok rfl rfl rfl ?_
    (refine ev_iaL tab_ok rfl rfl rfl rfl rfl rfl rfl rfl rfl (by omega) (by rw [Int.toNat_natCast]; exact strL_get hx) rfl ?_)
    (refine ev_loadE tab_ok rfl rfl rfl rfl rfl rfl ?_)
    refine ev_call rfl rfl rfl rfl rfl (find47_spec x p hb hpi) rfl ?_
    refine ev_move tab_ok rfl rfl rfl ?_
    refine ev_extract tab_ok rfl rfl rfl rfl ?_
    refine ev_extract tab_ok rfl rfl rfl rfl ?_
    refine ev_alloc tab_ok rfl rfl rfl rfl rfl rfl (by constructor) ?_
    refine ev_store tab_ok rfl rfl rfl rfl rfl rfl rfl rfl rfl (by repeat constructor) ?_
    refine ev_assign tab_ok rfl rfl rfl ?_
    refine ev_nilD ?_ (by kernel_rfl)
    refine awp_seq ?_
    refine awp_seq ?_
    refine awp_reg ?_
    refine ev_move tab_ok rfl rfl rfl ?_
    (refine ev_faB tab_ok rfl rfl rfl rfl rfl rfl rfl ?_)
    (refine ev_loadB tab_ok rfl rfl rfl rfl rfl rfl rfl ?_)
    (refine ev_lenS tab_ok rfl rfl rfl rfl rfl rfl ?_)
    refine ev_call rfl rfl rfl rfl rfl (blocks25_spec (dlen x p)) rfl ?_
    refine ev_isub tab_ok rfl rfl rfl rfl ?_
    try refine ev_as (show _ = PV.s (.int .i64 (4096 - blocks (dlen x p))) by rw [wrap_i64 (by omega) (by omega)]) ?_
    refine ev_igtr tab_ok rfl rfl rfl rfl ?_
    refine ev_nil ?_ rfl
    refine awp_cond rfl (fun hc => ?_) (fun hc => ?_)
    · have hc : 4096 - blocks (dlen x p) < a := by simpa using hc
      refine awp_seq ?_
      refine awp_reg ?_
      refine ev_assign tab_ok rfl rfl rfl ?_
      refine ev_assign tab_ok rfl rfl rfl ?_
      refine ev_nil ?_ rfl
      refine awp_ghost 6 3 69 rfl (by constructor) ?_
      refine awp_ret ?_
      refine ⟨_, [], rfl, ?_, cut_of (by decide) .nil, keep0⟩
      rw [placeR, h4, if_pos hc]
      exact .tupL (.cons (.rowL rfl) (.cons (.frz rfl) .nil))
    · have hc : ¬ 4096 - blocks (dlen x p) < a := by simpa using hc
      rw [if_neg hc] at h4
      refine awp_skip ?_
      refine awp_seq ?_
      refine awp_draw mixed ?_
      refine ev_move tab_ok rfl rfl rfl ?_
      refine ev_move tab_ok rfl rfl rfl ?_
      refine ev_move tab_ok rfl rfl rfl ?_
      (refine ev_iaL tab_ok rfl rfl rfl rfl rfl rfl rfl rfl rfl (by omega) (by rw [Int.toNat_natCast]; exact strL_get hx) rfl ?_)
      (refine ev_loadE tab_ok rfl rfl rfl rfl rfl rfl ?_)
      refine ev_move tab_ok rfl rfl rfl ?_
      (refine ev_faB tab_ok rfl rfl rfl rfl rfl rfl rfl ?_)
      (refine ev_loadB tab_ok rfl rfl rfl rfl rfl rfl rfl ?_)
      (refine ev_lenS tab_ok rfl rfl rfl rfl rfl rfl ?_)
      refine ev_build tab_ok rfl rfl rfl rfl rfl rfl rfl rfl rfl rfl rfl rfl ?_
      refine ev_buildSlice tab_ok rfl rfl rfl rfl rfl rfl rfl rfl rfl rfl rfl rfl rfl rfl (by constructor) ?_
      (refine ev_append tab_ok rfl rfl rfl rfl rfl rfl rfl rfl rfl rfl rfl rfl rfl rfl (by repeat constructor) (by (simp [filesC_length, ordL_length]; done)) (by simp [fileC]) (by exact filesC_len _) (by (simp only [filesC_length, ordL_length, List.length_append, List.length_cons, List.length_nil]; omega)) (by (simp only [filesC_length, ordL_length, List.length_append, List.length_cons, List.length_nil]; omega)) ?_)
      refine ev_assign tab_ok rfl rfl rfl ?_
      refine ev_nilD ?_ (by kernel_rfl)
      refine awp_reg ?_
      refine ev_move tab_ok rfl rfl rfl ?_
      (refine ev_faB tab_ok rfl rfl rfl rfl rfl rfl rfl ?_)
      (refine ev_loadB tab_ok rfl rfl rfl rfl rfl rfl rfl ?_)
      (refine ev_lenS tab_ok rfl rfl rfl rfl rfl rfl ?_)
      refine ev_call rfl rfl rfl rfl rfl (blocks25_spec (dlen x p)) rfl ?_
      (refine ev_iadd tab_ok rfl rfl rfl rfl ?_)
      try refine ev_as (show _ = PV.s (.int .i64 (a + blocks (dlen x p))) by rw [wrap_i64 (by omega) (by omega)]) ?_
      refine ev_assign tab_ok rfl rfl rfl ?_
      refine ev_nil ?_ rfl
      refine awp_reg ?_
      refine ev_move tab_ok rfl rfl rfl ?_
      (refine ev_iadd tab_ok rfl rfl rfl rfl ?_)
      refine ev_assign tab_ok rfl rfl rfl ?_
      refine ev_nil ?_ rfl
      refine ⟨(i + 1, ac ++ [(p, a, dlen x p)], a + blocks (dlen x p)), [0, 1], ?_, by show order.length - (i + 1) < order.length - i; omega, ⟨hlt, by simp [h2], by show 0 ≤ a + blocks (dlen x p); omega, ?_⟩, keep0⟩
      all_goals (try refine le_of (by decide) ?_ ?_)
      repeat' (first | exact trivial | exact .nil | (refine CutL.cons rfl ?_ ?_) | (refine EnvLe.cons rfl ?_ ?_) | (refine MvS.box (mvl_closed rfl)) | exact .ptr rfl | exact .frz rfl | (refine Mv.rowE rfl ?_) | (refine MvS.rowE ?_) | (refine Mv.int ?_) | fail)
      all_goals (try simp only [wrap_addL, wrap_addR, wrap_subL, wrap_subR]); all_goals (try (rw [wrap_i64 (by omega) (by omega)]; omega))
      all_goals (try simp [filesC, fileC, dlen])
      show _ = Option.map _ _
      rw [h4, Option.map_map]
      congr 1
  · refine awp_exit ?_
    have hge : i = order.length := by
      have : ¬ i < order.length := by simpa [strL_length] using hc
      omega
    subst hge
    rw [List.drop_length, placeAux] at h4
    refine awp_seq ?_
    refine awp_reg ?_
    refine ev_move tab_ok rfl rfl rfl ?_
    refine ev_assign tab_ok rfl rfl rfl ?_
    refine ev_assign tab_ok rfl rfl rfl ?_
    refine ev_nil ?_ rfl
    refine awp_ret ?_
    refine ⟨_, [], rfl, ?_, cut_of (by decide) .nil, keep0⟩
    rw [placeR, h4]
    exact .tupL (.cons (.rowL (by simp)) (.cons (.frz rfl) .nil))
end Go.Proofs.Pm
end
section
namespace Go.Proofs.Pm
open Go
def ordBad (l : List B) : List B → List B → Bool
  | _, [] => false
  | pre, p :: r => (!has l p || has pre p) || ordBad l (pre ++ [p]) r
theorem ordBad_mem {l : List B} : ∀ (r pre : List B), ordBad l pre r = false → ∀ p ∈ r, p ∈ l
  | [], _, _, p, hp => by cases hp
  | q :: r, pre, h, p, hp => by
    simp only [ordBad, Bool.or_eq_false_iff, Bool.not_eq_false'] at h
    rcases List.mem_cons.1 hp with rfl | hp
    · exact has_iff.1 h.1.1
    · exact ordBad_mem r _ h.2 p hp
def PlaceR (x : Node) (order : List B) (start : Int) : List File × Int :=
  if (!valid18 x || decide (order.length ≠ (files47 x).length)) || decide (start < 0) then ([], 1) else if ordBad (files47 x) [] order then ([], 1) else placeR x order start
theorem Place47_spec (x : Node) (order : List B) (start : Int) (hb : x.bulk ≤ 1099511627776) : FCall Tryz.prog 23 [.agg (nodeC x), .list (strL order), .s (.int .i64 start)] [] (.tup [.list (filesC (PlaceR x order start).1), .s (.int .i64 (PlaceR x order start).2)]) [] := by
  have hpl := files47_length x
  refine fcall_intro tab_ok Tryz.call23 Tryz.func23 rfl rfl rfl (fun G w ι => ?_)
  refine awp_len 1 rfl (fun hol => ?_)
  rw [strL_length] at hol
  refine awp_seq ?_
  refine awp_reg ?_
  refine ev_box rfl rfl rfl rfl (by constructor) ?_
  refine ev_assign tab_ok rfl rfl rfl ?_
  refine ev_assign tab_ok rfl rfl rfl ?_
  refine ev_nil ?_ rfl
  refine awp_seq ?_
  refine awp_reg ?_
  (refine ev_loadB tab_ok rfl rfl rfl rfl rfl rfl rfl ?_)
  refine ev_call rfl rfl rfl rfl rfl (files47_spec x hb) rfl ?_
  refine ev_assign tab_ok rfl rfl rfl ?_
  refine ev_nil ?_ rfl
  have hfound : ∀ p ∈ files47 x, p.size ≤ x.bulk := fun p hp => (files47_found hp).2
  have hfin : PlaceR x order start = if (!valid18 x || decide (order.length ≠ (files47 x).length)) || decide (start < 0) then ([], 1) else if ordBad (files47 x) [] order then ([], 1) else placeR x order start := rfl
  generalize files47 x = l at *
  refine awp_seq ?_
  refine awp_seq_to ⟨[(25, .s (.bool ((!valid18 x || decide (order.length ≠ l.length)) || decide (start < 0)))), (8, .list (strL l)), (1, .list (strL order)), (2, .s (.int .i64 start)), (3, .ptr 0 0)], [.box (nodeC x) 25]⟩ ?_ ?_
  · cases hz : !valid18 x
    · cases hy : ((order.length : Int) != (l.length : Int))
      all_goals
        refine awp_reg ?_
        (refine ev_loadB tab_ok rfl rfl rfl rfl rfl rfl rfl ?_)
        refine ev_call rfl rfl rfl rfl rfl (valid18_spec x hb) rfl ?_
        refine ev_not tab_ok rfl rfl rfl ?_
        try refine ev_is (congrArg Value.bool (hz)) ?_
        refine ev_move tab_ok rfl rfl rfl ?_
        (refine ev_move tab_ok rfl rfl rfl ?_)
        (refine ev_lenL tab_ok rfl rfl rfl rfl rfl rfl ?_)
        (refine ev_move tab_ok rfl rfl rfl ?_)
        (refine ev_lenL tab_ok rfl rfl rfl rfl rfl rfl ?_)
        (refine ev_ineq tab_ok rfl rfl rfl rfl ?_)
        try refine ev_as (show _ = PV.s (.bool _) by rw [strL_length, strL_length, hy]) ?_
        (refine ev_pickF tab_ok rfl rfl rfl rfl rfl ?_)
        refine ev_move tab_ok rfl rfl rfl ?_
        (first | refine ev_skip rfl rfl ?_ | refine ev_move tab_ok rfl rfl rfl ?_)
        (first | refine ev_skip rfl rfl ?_ | refine ev_ilss tab_ok rfl rfl rfl rfl ?_)
        (first | refine ev_pickT tab_ok rfl rfl rfl rfl rfl ?_ | refine ev_pickF tab_ok rfl rfl rfl rfl rfl ?_)
        refine ev_nil ?_ rfl
        refine ⟨[0], ?_, keep0⟩
        all_goals (try refine le_of (by decide) ?_ ?_)
        repeat' (first | exact trivial | exact .nil | (refine CutL.cons rfl ?_ ?_) | (refine EnvLe.cons rfl ?_ ?_) | (refine MvS.box (mvl_closed rfl)) | exact .ptr rfl | exact .frz rfl | (refine Mv.bool ?_) | fail)
        all_goals (try simp only [wrap_addL, wrap_addR, wrap_subL, wrap_subR]); all_goals (try (rw [wrap_i64 (by omega) (by omega)]; omega))
        all_goals
          have hy' : decide (order.length ≠ l.length) = ((order.length : Int) != (l.length : Int)) := by
            by_cases e : order.length = l.length
            · rw [e]; simp
            · have : (order.length : Int) ≠ (l.length : Int) := by omega
              simp [e, this]
          rw [hy', hy]; simp
    · refine awp_reg ?_
      (refine ev_loadB tab_ok rfl rfl rfl rfl rfl rfl rfl ?_)
      refine ev_call rfl rfl rfl rfl rfl (valid18_spec x hb) rfl ?_
      refine ev_not tab_ok rfl rfl rfl ?_
      try refine ev_is (congrArg Value.bool (hz)) ?_
      refine ev_move tab_ok rfl rfl rfl ?_
      (refine ev_skip rfl rfl ?_)
      (refine ev_skip rfl rfl ?_)
      (refine ev_skip rfl rfl ?_)
      (refine ev_skip rfl rfl ?_)
      (refine ev_skip rfl rfl ?_)
      (refine ev_pickT tab_ok rfl rfl rfl rfl rfl ?_)
      refine ev_move tab_ok rfl rfl rfl ?_
      (refine ev_skip rfl rfl ?_)
      (refine ev_skip rfl rfl ?_)
      (refine ev_pickT tab_ok rfl rfl rfl rfl rfl ?_)
      refine ev_nil ?_ rfl
      refine ⟨[0], ?_, keep0⟩
      all_goals (try refine le_of (by decide) ?_ ?_)
      repeat' (first | exact trivial | exact .nil | (refine CutL.cons rfl ?_ ?_) | (refine EnvLe.cons rfl ?_ ?_) | (refine MvS.box (mvl_closed rfl)) | exact .ptr rfl | exact .frz rfl | fail)
      all_goals (try simp only [wrap_addL, wrap_addR, wrap_subL, wrap_subR]); all_goals (try (rw [wrap_i64 (by omega) (by omega)]; omega))
      all_goals simp
  refine awp_cond rfl (fun hc => ?_) (fun hc => ?_)
  · rw [if_pos hc] at hfin
    refine awp_seq ?_
    refine awp_reg ?_
    refine ev_assign tab_ok rfl rfl rfl ?_
    refine ev_assign tab_ok rfl rfl rfl ?_
    refine ev_nil ?_ rfl
    refine awp_ghost 6 3 69 rfl (by constructor) ?_
    refine awp_ret ?_
    refine ⟨_, [], rfl, ?_, cut_of (by decide) .nil, keep0⟩
    rw [hfin]
    exact .tupL (.cons (.rowL rfl) (.cons (.frz rfl) .nil))
  · rw [if_neg (by rw [hc]; decide)] at hfin
    simp only [Bool.or_eq_false_iff, decide_eq_false_iff_not, Decidable.not_not, Int.not_lt] at hc
    obtain ⟨⟨_, hlen⟩, hs0⟩ := hc
    refine awp_skip ?_
    refine awp_seq ?_
    refine awp_seq ?_
    refine awp_reg ?_
    refine ev_assign tab_ok rfl rfl rfl ?_
    refine ev_nil ?_ rfl
    refine awp_block ?_
    refine awp_loop (fun i : Nat => ⟨[(9, .s (.int .i64 i)), (8, .list (strL l)), (1, .list (strL order)), (2, .s (.int .i64 start)), (3, .ptr 0 0)], [.box (nodeC x) 25]⟩) (fun i => i ≤ order.length ∧ ordBad l [] order = ordBad l (order.take i) (order.drop i)) (fun i => order.length - i) 0 [0] ?_ ⟨Nat.zero_le _, rfl⟩ keep0 (fun i hi => ?_)
    · all_goals (try refine le_of (by decide) ?_ ?_)
      repeat' (first | exact trivial | exact .nil | (refine CutL.cons rfl ?_ ?_) | (refine EnvLe.cons rfl ?_ ?_) | (refine MvS.box (mvl_closed rfl)) | exact .ptr rfl | exact .frz rfl | fail)
      all_goals (try simp only [wrap_addL, wrap_addR, wrap_subL, wrap_subR]); all_goals (try (rw [wrap_i64 (by omega) (by omega)]; omega))
    obtain ⟨hi, hob⟩ := hi
    refine awp_seq ?_
    refine awp_seq ?_
    refine awp_reg ?_
    refine ev_move tab_ok rfl rfl rfl ?_
    refine ev_move tab_ok rfl rfl rfl ?_
    (refine ev_lenL tab_ok rfl rfl rfl rfl rfl rfl ?_)
    (refine ev_ilss tab_ok rfl rfl rfl rfl ?_)
    refine ev_nil ?_ rfl
    refine awp_cond rfl (fun hc => ?_) (fun hc => ?_)
    · refine awp_skip ?_
      have hlt : i < order.length := by simpa [strL_length] using hc
      have hx : order[i]? = some order[i] := List.getElem?_eq_getElem hlt
      have htk : order.take (i + 1) = order.take i ++ [order[i]] := by rw [List.take_add_one, hx]; rfl
      rw [List.drop_eq_getElem_cons hlt, ordBad, ← htk] at hob
      generalize order[i] = p at *
      refine awp_seq ?_
      refine awp_block ?_
      refine awp_seq_to ⟨[(48, .s (.bool (!has l p || has (order.take i) p))), (9, .s (.int .i64 i)), (8, .list (strL l)), (1, .list (strL order)), (2, .s (.int .i64 start)), (3, .ptr 0 0)], [.box (nodeC x) 25]⟩ ?_ ?_
      · cases hz : !has l p
        all_goals
          refine awp_draw mixed ?_
          refine ev_move tab_ok rfl rfl rfl ?_
          refine ev_move tab_ok rfl rfl rfl ?_
          refine ev_move tab_ok rfl rfl rfl ?_
          (refine ev_iaL tab_ok rfl rfl rfl rfl rfl rfl rfl rfl rfl (by omega) (by rw [Int.toNat_natCast]; exact strL_get hx) rfl ?_)
          (refine ev_loadE tab_ok rfl rfl rfl rfl rfl rfl ?_)
          refine ev_call rfl rfl rfl rfl rfl (has_spec l p) rfl ?_
          refine ev_not tab_ok rfl rfl rfl ?_
          try refine ev_is (congrArg Value.bool (hz)) ?_
          refine ev_move tab_ok rfl rfl rfl ?_
          (first | refine ev_skip rfl rfl ?_ | refine ev_move tab_ok rfl rfl rfl ?_)
          (first | refine ev_skip rfl rfl ?_ | refine ev_move tab_ok rfl rfl rfl ?_)
          (first | refine ev_skip rfl rfl ?_ | refine ev_slHi tab_ok rfl rfl rfl rfl rfl rfl rfl rfl rfl rfl (by (simp only [strL_length]; omega)) (by exact strL_len _) ?_)
          try refine ev_as (by rw [strL_take]) ?_
          (first | refine ev_skip rfl rfl ?_ | refine ev_move tab_ok rfl rfl rfl ?_)
          (first | refine ev_skip rfl rfl ?_ | refine ev_move tab_ok rfl rfl rfl ?_)
          (first | refine ev_skip rfl rfl ?_ | refine ev_iaL tab_ok rfl rfl rfl rfl rfl rfl rfl rfl rfl (by omega) (by rw [Int.toNat_natCast]; exact strL_get hx) rfl ?_)
          (first | refine ev_skip rfl rfl ?_ | refine ev_loadE tab_ok rfl rfl rfl rfl rfl rfl ?_)
          (first | refine ev_skip rfl rfl ?_ | refine ev_call rfl rfl rfl rfl rfl (has_spec (order.take i) p) rfl ?_)
          (first | refine ev_pickT tab_ok rfl rfl rfl rfl rfl ?_ | refine ev_pickF tab_ok rfl rfl rfl rfl rfl ?_)
          refine ev_nilD ?_ (by kernel_rfl)
          refine ⟨[0], ?_, keep0⟩
          all_goals (try refine le_of (by decide) ?_ ?_)
          repeat' (first | exact trivial | exact .nil | (refine CutL.cons rfl ?_ ?_) | (refine EnvLe.cons rfl ?_ ?_) | (refine MvS.box (mvl_closed rfl)) | exact .ptr rfl | exact .frz rfl | fail)
          all_goals (try simp only [wrap_addL, wrap_addR, wrap_subL, wrap_subR]); all_goals (try (rw [wrap_i64 (by omega) (by omega)]; omega))
          all_goals simp
      refine awp_cond rfl (fun hc => ?_) (fun hc => ?_)
      · rw [hc, Bool.true_or] at hob
        rw [if_pos hob] at hfin
        refine awp_seq ?_
        refine awp_reg ?_
        refine ev_assign tab_ok rfl rfl rfl ?_
        refine ev_assign tab_ok rfl rfl rfl ?_
        refine ev_nil ?_ rfl
        refine awp_ghost 6 3 69 rfl (by constructor) ?_
        refine awp_ret ?_
        refine ⟨_, [], rfl, ?_, cut_of (by decide) .nil, keep0⟩
        rw [hfin]
        exact .tupL (.cons (.rowL rfl) (.cons (.frz rfl) .nil))
      · rw [hc, Bool.false_or] at hob
        refine awp_skip ?_
        refine awp_reg ?_
        refine ev_move tab_ok rfl rfl rfl ?_
        (refine ev_iadd tab_ok rfl rfl rfl rfl ?_)
        refine ev_assign tab_ok rfl rfl rfl ?_
        refine ev_nil ?_ rfl
        refine ⟨i + 1, [0], ?_, by omega, ⟨hlt, hob⟩, keep0⟩
        all_goals (try refine le_of (by decide) ?_ ?_)
        repeat' (first | exact trivial | exact .nil | (refine CutL.cons rfl ?_ ?_) | (refine EnvLe.cons rfl ?_ ?_) | (refine MvS.box (mvl_closed rfl)) | exact .ptr rfl | exact .frz rfl | (refine Mv.int ?_) | fail)
        all_goals (try simp only [wrap_addL, wrap_addR, wrap_subL, wrap_subR]); all_goals (try (rw [wrap_i64 (by omega) (by omega)]; omega))
    · refine awp_exit ?_
      have hge : i = order.length := by
        have : ¬ i < order.length := by simpa [strL_length] using hc
        omega
      subst hge
      rw [List.drop_length, ordBad] at hob
      have hmem := ordBad_mem order [] hob
      rw [if_neg (by rw [hob]; decide)] at hfin
      refine awp_seq ?_
      refine awp_reg ?_
      (refine ev_loadB tab_ok rfl rfl rfl rfl rfl rfl rfl ?_)
      refine ev_move tab_ok rfl rfl rfl ?_
      refine ev_move tab_ok rfl rfl rfl ?_
      refine ev_call rfl rfl rfl rfl rfl (place_spec x order start hb (by omega) (fun p hp => by have := hfound p (hmem p hp); omega) hs0) rfl ?_
      refine ev_extract tab_ok rfl rfl rfl rfl ?_
      refine ev_extract tab_ok rfl rfl rfl rfl ?_
      refine ev_assign tab_ok rfl rfl rfl ?_
      refine ev_assign tab_ok rfl rfl rfl ?_
      refine ev_nil ?_ rfl
      refine awp_ret ?_
      exact ⟨_, [], rfl, Mv.val (by rw [hfin]) rfl, cut_of (by decide) .nil, keep0⟩
def wr (n : Int) : Int := IntKind.i64.wrap n
def maxI (a b : Int) : Int := if b > a then b else a
def validF (f : File) : Bool := decide (0 ≤ f.2.1) && decide (0 ≤ f.2.2) && decide (f.2.1 ≤ 4096) && decide (blocks f.2.2 ≤ wr (4096 - f.2.1))
theorem validF_spec (f : File) : FCall Tryz.prog 59 [.agg (fileC f)] [] (.s (.bool (validF f))) [] := by
  refine fcall_intro tab_ok Tryz.call59 Tryz.func59 rfl rfl rfl (fun G w ι => ?_)
  refine awp_seq ?_
  refine awp_reg ?_
  refine ev_box rfl rfl rfl rfl (by constructor) ?_
  refine ev_assign tab_ok rfl rfl rfl ?_
  refine ev_nil ?_ rfl
  refine awp_seq_to ⟨[(2, .s (.bool (validF f)))], []⟩ ?_ ?_
  · refine awp_draw mixed ?_
    all_goals (refine ev_faB tab_ok rfl rfl rfl rfl rfl rfl rfl ?_)
    all_goals (refine ev_loadB tab_ok rfl rfl rfl rfl rfl rfl rfl ?_)
    all_goals refine ev_igeq tab_ok rfl rfl rfl rfl ?_
    all_goals refine ev_move tab_ok rfl rfl rfl ?_
    all_goals ((refine ev_split rfl rfl rfl (fun hg => ?_) (fun hg => ?_) <;> (first | refine ev_skip rfl rfl ?_ | refine ev_faB tab_ok rfl rfl rfl rfl rfl rfl rfl ?_)))
    all_goals (first | refine ev_skip rfl rfl ?_ | refine ev_loadB tab_ok rfl rfl rfl rfl rfl rfl rfl ?_)
    all_goals (first | refine ev_skip rfl rfl ?_ | refine ev_igeq tab_ok rfl rfl rfl rfl ?_)
    all_goals (first | refine ev_pickT tab_ok rfl rfl rfl rfl rfl ?_ | refine ev_pickF tab_ok rfl rfl rfl rfl rfl ?_)
    all_goals refine ev_move tab_ok rfl rfl rfl ?_
    all_goals (first | refine ev_skip rfl rfl ?_ | (refine ev_split rfl rfl rfl (fun hg => ?_) (fun hg => ?_) <;> (first | refine ev_skip rfl rfl ?_ | refine ev_faB tab_ok rfl rfl rfl rfl rfl rfl rfl ?_)))
    all_goals (first | refine ev_skip rfl rfl ?_ | refine ev_loadB tab_ok rfl rfl rfl rfl rfl rfl rfl ?_)
    all_goals (first | refine ev_skip rfl rfl ?_ | refine ev_ileq tab_ok rfl rfl rfl rfl ?_)
    all_goals (first | refine ev_pickT tab_ok rfl rfl rfl rfl rfl ?_ | refine ev_pickF tab_ok rfl rfl rfl rfl rfl ?_)
    all_goals refine ev_move tab_ok rfl rfl rfl ?_
    all_goals (first | refine ev_skip rfl rfl ?_ | (refine ev_split rfl rfl rfl (fun hg => ?_) (fun hg => ?_) <;> (first | refine ev_skip rfl rfl ?_ | refine ev_faB tab_ok rfl rfl rfl rfl rfl rfl rfl ?_)))
    all_goals (first | refine ev_skip rfl rfl ?_ | refine ev_loadB tab_ok rfl rfl rfl rfl rfl rfl rfl ?_)
    all_goals (first | refine ev_skip rfl rfl ?_ | refine ev_call rfl rfl rfl rfl rfl (blocks25_spec f.2.2) rfl ?_)
    all_goals (first | refine ev_skip rfl rfl ?_ | refine ev_faB tab_ok rfl rfl rfl rfl rfl rfl rfl ?_)
    all_goals (first | refine ev_skip rfl rfl ?_ | refine ev_loadB tab_ok rfl rfl rfl rfl rfl rfl rfl ?_)
    all_goals (first | refine ev_skip rfl rfl ?_ | refine ev_isub tab_ok rfl rfl rfl rfl ?_)
    all_goals (first | refine ev_skip rfl rfl ?_ | refine ev_ileq tab_ok rfl rfl rfl rfl ?_)
    all_goals (first | refine ev_pickT tab_ok rfl rfl rfl rfl rfl ?_ | refine ev_pickF tab_ok rfl rfl rfl rfl rfl ?_)
    all_goals refine ev_assign tab_ok rfl rfl rfl ?_
    all_goals refine ev_nilD ?_ (by kernel_rfl)
    all_goals (refine ⟨[], le_of (by decide) .nil (EnvLe.cons rfl (Mv.bool ?_) trivial), keep0⟩; first | (simp_all [validF, wr]; rfl) | (simp_all [validF, wr]; omega))
  · refine awp_ret ?_
    exact ⟨_, [], rfl, .frz rfl, cut_of (by decide) .nil, keep0⟩
structure CS where
  sum : Int
  pos : Int
  found : Bool
def stepF (a : B) (s : CS) (f : File) : CS := if f.1.toList == a.toList then (if 0 < f.2.2 then ⟨wr (s.sum + maxI (wr (s.pos - f.2.1)) (wr (f.2.1 - s.pos))), wr (f.2.1 + blocks f.2.2), true⟩ else ⟨s.sum, s.pos, true⟩) else s
def costAcc (files : List File) : List B → Int → Int → Option Int
  | [], sum, _ => some sum
  | a :: r, sum, pos => if (files.foldl (stepF a) ⟨sum, pos, false⟩).found then costAcc files r (files.foldl (stepF a) ⟨sum, pos, false⟩).sum (files.foldl (stepF a) ⟨sum, pos, false⟩).pos else none
def costR (files : List File) (acc : List B) : Int × Int := if decide (1024 < files.length) || decide (1024 < acc.length) then (0, 7) else if files.any (fun f => !validF f) then (0, 1) else match costAcc files acc 0 0 with
  | some c => (c, 0)
  | none => (0, 6)
theorem cost_spec (files : List File) (acc : List B) : FCall Tryz.prog 28 [.list (filesC files), .list (strL acc)] [] (.tup [.s (.int .i64 (costR files acc).1), .s (.int .i64 (costR files acc).2)]) [] := by
  refine fcall_intro tab_ok Tryz.call28 Tryz.func28 rfl rfl rfl (fun G w ι => ?_)
  refine awp_seq ?_
  refine awp_reg ?_
  refine ev_assign tab_ok rfl rfl rfl ?_
  refine ev_assign tab_ok rfl rfl rfl ?_
  refine ev_nil ?_ rfl
  refine awp_seq ?_
  refine awp_seq_to ⟨[(19, .s (.bool (decide (1024 < files.length) || decide (1024 < acc.length)))), (0, .list (filesC files)), (1, .list (strL acc))], []⟩ ?_ ?_
  · have e1 : decide (1024 < files.length) = decide ((1024 : Int) < ((filesC files).length : Int)) := by rw [filesC_length]; congr 1; exact propext ⟨fun h => by omega, fun h => by omega⟩
    have e2 : decide (1024 < acc.length) = decide ((1024 : Int) < ((strL acc).length : Int)) := by rw [strL_length]; congr 1; exact propext ⟨fun h => by omega, fun h => by omega⟩
    cases hz : decide ((1024 : Int) < ((filesC files).length : Int))
    all_goals
      refine awp_reg ?_
      refine ev_move tab_ok rfl rfl rfl ?_
      (refine ev_lenL tab_ok rfl rfl rfl rfl rfl rfl ?_)
      refine ev_igtr tab_ok rfl rfl rfl rfl ?_
      try refine ev_is (congrArg Value.bool (hz)) ?_
      refine ev_move tab_ok rfl rfl rfl ?_
      (first | refine ev_skip rfl rfl ?_ | refine ev_move tab_ok rfl rfl rfl ?_)
      (first | refine ev_skip rfl rfl ?_ | refine ev_lenL tab_ok rfl rfl rfl rfl rfl rfl ?_)
      (first | refine ev_skip rfl rfl ?_ | refine ev_igtr tab_ok rfl rfl rfl rfl ?_)
      (first | refine ev_pickT tab_ok rfl rfl rfl rfl rfl ?_ | refine ev_pickF tab_ok rfl rfl rfl rfl rfl ?_)
      refine ev_nil ?_ rfl
      refine ⟨[], ?_, keep0⟩
      all_goals (try refine le_of (by decide) ?_ ?_)
      repeat' (first | exact trivial | exact .nil | (refine EnvLe.cons rfl ?_ ?_) | exact .frz rfl | (refine Mv.bool ?_) | fail)
      all_goals (try simp only [wrap_addL, wrap_addR, wrap_subL, wrap_subR]); all_goals (try (rw [wrap_i64 (by omega) (by omega)]; omega))
      all_goals (rw [e1, e2, hz]; simp)
  refine awp_cond rfl (fun hc => ?_) (fun hc => ?_)
  · refine awp_seq ?_
    refine awp_reg ?_
    refine ev_assign tab_ok rfl rfl rfl ?_
    refine ev_assign tab_ok rfl rfl rfl ?_
    refine ev_nil ?_ rfl
    refine awp_ret ?_
    exact ⟨_, [], rfl, Mv.val (by rw [costR, if_pos hc]) rfl, cut_of (by decide) .nil, keep0⟩
  · have hfin : costR files acc = if files.any (fun f => !validF f) then ((0 : Int), (1 : Int)) else match costAcc files acc 0 0 with
      | some c => (c, 0)
      | none => (0, 6) := by rw [costR, if_neg (by rw [hc]; decide)]
    simp only [Bool.or_eq_false_iff, decide_eq_false_iff_not, Nat.not_lt] at hc
    obtain ⟨hfl, hal⟩ := hc
    refine awp_skip ?_
    refine awp_seq ?_
    refine awp_seq ?_
    refine awp_reg ?_
    refine ev_assign tab_ok rfl rfl rfl ?_
    refine ev_nil ?_ rfl
    refine awp_block ?_
    refine awp_loop (fun i : Nat => ⟨[(6, .s (.int .i64 i)), (0, .list (filesC files)), (1, .list (strL acc))], []⟩) (fun i => i ≤ files.length ∧ ∀ (j : Nat) (h : j < files.length), j < i → (!validF files[j]) = false) (fun i => files.length - i) 0 [] ?_ ⟨Nat.zero_le _, fun j _ h => by omega⟩ keep0 (fun i hi => ?_)
    · all_goals (try refine le_of (by decide) ?_ ?_)
      repeat' (first | exact trivial | exact .nil | (refine EnvLe.cons rfl ?_ ?_) | exact .frz rfl | fail)
      all_goals (try simp only [wrap_addL, wrap_addR, wrap_subL, wrap_subR]); all_goals (try (rw [wrap_i64 (by omega) (by omega)]; omega))
    refine awp_seq ?_
    refine awp_seq ?_
    refine awp_reg ?_
    refine ev_move tab_ok rfl rfl rfl ?_
    refine ev_move tab_ok rfl rfl rfl ?_
    (refine ev_lenL tab_ok rfl rfl rfl rfl rfl rfl ?_)
    (refine ev_ilss tab_ok rfl rfl rfl rfl ?_)
    refine ev_nil ?_ rfl
    refine awp_cond rfl (fun hc => ?_) (fun hc => ?_)
    · refine awp_skip ?_
      have hlt : i < files.length := by simpa [filesC_length] using hc
      have hx : files[i]? = some files[i] := List.getElem?_eq_getElem hlt
      refine awp_seq ?_
      refine awp_block ?_
      refine awp_seq ?_
      refine awp_reg ?_
      refine ev_move tab_ok rfl rfl rfl ?_
      refine ev_move tab_ok rfl rfl rfl ?_
      (refine ev_iaL tab_ok rfl rfl rfl rfl rfl rfl rfl rfl rfl (by omega) (by rw [Int.toNat_natCast]; exact filesC_get hx) rfl ?_)
      (refine ev_loadE tab_ok rfl rfl rfl rfl rfl rfl ?_)
      refine ev_call rfl rfl rfl rfl rfl (validF_spec files[i]) rfl ?_
      refine ev_not tab_ok rfl rfl rfl ?_
      refine ev_nil ?_ rfl
      refine awp_cond rfl (fun hc => ?_) (fun hc => ?_)
      · refine awp_seq ?_
        refine awp_reg ?_
        refine ev_assign tab_ok rfl rfl rfl ?_
        refine ev_assign tab_ok rfl rfl rfl ?_
        refine ev_nil ?_ rfl
        refine awp_ret ?_
        exact ⟨_, [], rfl, Mv.val (by rw [hfin, if_pos (List.any_eq_true.2 ⟨_, List.getElem_mem hlt, hc⟩)]) rfl, cut_of (by decide) .nil, keep0⟩
      · refine awp_skip ?_
        refine awp_reg ?_
        refine ev_move tab_ok rfl rfl rfl ?_
        (refine ev_iadd tab_ok rfl rfl rfl rfl ?_)
        refine ev_assign tab_ok rfl rfl rfl ?_
        refine ev_nil ?_ rfl
        refine ⟨i + 1, [], ?_, by omega, ⟨hlt, before_succ (p := fun f => !validF f) hlt hi.2 hc⟩, keep0⟩
        all_goals (try refine le_of (by decide) ?_ ?_)
        repeat' (first | exact trivial | exact .nil | (refine EnvLe.cons rfl ?_ ?_) | exact .frz rfl | (refine Mv.int ?_) | fail)
        all_goals (try simp only [wrap_addL, wrap_addR, wrap_subL, wrap_subR]); all_goals (try (rw [wrap_i64 (by omega) (by omega)]; omega))
    · refine awp_exit ?_
      have hge : i = files.length := by
        have : ¬ i < files.length := by simpa [filesC_length] using hc
        omega
      subst hge
      have hany : files.any (fun f => !validF f) = false := by
        rw [List.any_eq_false]
        intro y hy
        obtain ⟨j, hj, rfl⟩ := List.getElem_of_mem hy
        simpa using hi.2 j hj hj
      rw [hany, if_neg (by decide)] at hfin
      refine awp_seq ?_
      refine awp_reg ?_
      refine ev_assign tab_ok rfl rfl rfl ?_
      refine ev_assign tab_ok rfl rfl rfl ?_
      refine ev_nil ?_ rfl
      refine awp_seq ?_
      refine awp_seq ?_
      refine awp_reg ?_
      refine ev_assign tab_ok rfl rfl rfl ?_
      refine ev_nil ?_ rfl
      refine awp_block ?_
      refine awp_loop (fun q : Nat × Int × Int => ⟨[(9, .s (.int .i64 q.1)), (7, .s (.int .i64 q.2.1)), (8, .s (.int .i64 q.2.2)), (0, .list (filesC files)), (1, .list (strL acc))], []⟩) (fun q => q.1 ≤ acc.length ∧ costAcc files acc 0 0 = costAcc files (acc.drop q.1) q.2.1 q.2.2) (fun q => acc.length - q.1) (0, 0, 0) [] ?_ ⟨Nat.zero_le _, rfl⟩ keep0 (fun q hq => ?_)
      · all_goals (try refine le_of (by decide) ?_ ?_)
        repeat' (first | exact trivial | exact .nil | (refine EnvLe.cons rfl ?_ ?_) | exact .frz rfl | fail)
        all_goals (try simp only [wrap_addL, wrap_addR, wrap_subL, wrap_subR]); all_goals (try (rw [wrap_i64 (by omega) (by omega)]; omega))
      obtain ⟨j, s, p⟩ := q
      obtain ⟨hj, hca⟩ := hq
      simp only at hj hca
      change AWp _ _ _ ⟨[(9, .s (.int .i64 j)), (7, .s (.int .i64 s)), (8, .s (.int .i64 p)), (0, .list (filesC files)), (1, .list (strL acc))], []⟩ _
      refine awp_seq ?_
      refine awp_seq ?_
      refine awp_reg ?_
      refine ev_move tab_ok rfl rfl rfl ?_
      refine ev_move tab_ok rfl rfl rfl ?_
      (refine ev_lenL tab_ok rfl rfl rfl rfl rfl rfl ?_)
      (refine ev_ilss tab_ok rfl rfl rfl rfl ?_)
      refine ev_nil ?_ rfl
      refine awp_cond rfl (fun hc => ?_) (fun hc => ?_)
      · refine awp_skip ?_
        have hlt : j < acc.length := by simpa [strL_length] using hc
        have hx : acc[j]? = some acc[j] := List.getElem?_eq_getElem hlt
        rw [List.drop_eq_getElem_cons hlt, costAcc] at hca
        generalize acc[j] = a at *
        refine awp_seq ?_
        refine awp_block ?_
        refine awp_seq ?_
        refine awp_reg ?_
        refine ev_assign tab_ok rfl rfl rfl ?_
        refine ev_nil ?_ rfl
        refine awp_seq ?_
        refine awp_seq ?_
        refine awp_reg ?_
        refine ev_assign tab_ok rfl rfl rfl ?_
        refine ev_nil ?_ rfl
        refine awp_block ?_
        refine awp_loop (fun q : Nat × CS => ⟨[(11, .s (.int .i64 q.1)), (10, .s (.bool q.2.found)), (9, .s (.int .i64 j)), (7, .s (.int .i64 q.2.sum)), (8, .s (.int .i64 q.2.pos)), (0, .list (filesC files)), (1, .list (strL acc))], []⟩) (fun q => q.1 ≤ files.length ∧ q.2 = (files.take q.1).foldl (stepF a) ⟨s, p, false⟩) (fun q => files.length - q.1) (0, ⟨s, p, false⟩) [] ?_ ⟨Nat.zero_le _, rfl⟩ keep0 (fun q hq => ?_)
        · all_goals (try refine le_of (by decide) ?_ ?_)
          repeat' (first | exact trivial | exact .nil | (refine EnvLe.cons rfl ?_ ?_) | exact .frz rfl | fail)
          all_goals (try simp only [wrap_addL, wrap_addR, wrap_subL, wrap_subR]); all_goals (try (rw [wrap_i64 (by omega) (by omega)]; omega))
        obtain ⟨k, c⟩ := q
        obtain ⟨hk, hcs⟩ := hq
        simp only at hk hcs
        change AWp _ _ _ ⟨[(11, .s (.int .i64 k)), (10, .s (.bool c.found)), (9, .s (.int .i64 j)), (7, .s (.int .i64 c.sum)), (8, .s (.int .i64 c.pos)), (0, .list (filesC files)), (1, .list (strL acc))], []⟩ _
        refine awp_seq ?_
        refine awp_seq ?_
        refine awp_reg ?_
        refine ev_move tab_ok rfl rfl rfl ?_
        refine ev_move tab_ok rfl rfl rfl ?_
        (refine ev_lenL tab_ok rfl rfl rfl rfl rfl rfl ?_)
        (refine ev_ilss tab_ok rfl rfl rfl rfl ?_)
        refine ev_nil ?_ rfl
        refine awp_cond rfl (fun hc => ?_) (fun hc => ?_)
        · refine awp_skip ?_
          have hltk : k < files.length := by simpa [filesC_length] using hc
          have hxk : files[k]? = some files[k] := List.getElem?_eq_getElem hltk
          have hstep : (files.take (k + 1)).foldl (stepF a) ⟨s, p, false⟩ = stepF a c files[k] := by rw [hcs]; exact foldl_take_succ hxk
          generalize files[k] = f at *
          unfold stepF at hstep
          refine awp_seq ?_
          refine awp_block ?_
          refine awp_seq ?_
          refine awp_seq ?_
          refine awp_draw mixed ?_
          refine ev_move tab_ok rfl rfl rfl ?_
          refine ev_move tab_ok rfl rfl rfl ?_
          (refine ev_iaL tab_ok rfl rfl rfl rfl rfl rfl rfl rfl rfl (by omega) (by rw [Int.toNat_natCast]; exact filesC_get hxk) rfl ?_)
          (refine ev_faE tab_ok rfl rfl rfl rfl rfl rfl rfl rfl ?_)
          (refine ev_loadE tab_ok rfl rfl rfl rfl rfl rfl ?_)
          refine ev_move tab_ok rfl rfl rfl ?_
          refine ev_move tab_ok rfl rfl rfl ?_
          (refine ev_iaL tab_ok rfl rfl rfl rfl rfl rfl rfl rfl rfl (by omega) (by rw [Int.toNat_natCast]; exact strL_get hx) rfl ?_)
          (refine ev_loadE tab_ok rfl rfl rfl rfl rfl rfl ?_)
          (refine ev_sneq tab_ok rfl rfl rfl rfl ?_)
          refine ev_nilD ?_ (by kernel_rfl)
          refine awp_cond rfl (fun hc => ?_) (fun hc => ?_)
          · have hne : (f.1.toList == a.toList) = false := by simpa using hc
            refine awp_exit ?_
            refine awp_reg ?_
            refine ev_move tab_ok rfl rfl rfl ?_
            (refine ev_iadd tab_ok rfl rfl rfl rfl ?_)
            refine ev_assign tab_ok rfl rfl rfl ?_
            refine ev_nil ?_ rfl
            refine ⟨(k + 1, c), [], ?_, by show files.length - (k + 1) < files.length - k; omega, ⟨hltk, ?_⟩, keep0⟩
            · all_goals (try refine le_of (by decide) ?_ ?_)
              repeat' (first | exact trivial | exact .nil | (refine EnvLe.cons rfl ?_ ?_) | exact .frz rfl | (refine Mv.int ?_) | fail)
              all_goals (try simp only [wrap_addL, wrap_addR, wrap_subL, wrap_subR]); all_goals (try (rw [wrap_i64 (by omega) (by omega)]; omega))
            · show c = (files.take (k + 1)).foldl (stepF a) ⟨s, p, false⟩
              exact hstep.symm ▸ (by rw [hne]; rfl)
          · have heq : (f.1.toList == a.toList) = true := by simpa using hc
            refine awp_skip ?_
            refine awp_seq ?_
            refine awp_reg ?_
            refine ev_assign tab_ok rfl rfl rfl ?_
            refine ev_nil ?_ rfl
            refine awp_seq ?_
            refine awp_reg ?_
            refine ev_move tab_ok rfl rfl rfl ?_
            refine ev_move tab_ok rfl rfl rfl ?_
            (refine ev_iaL tab_ok rfl rfl rfl rfl rfl rfl rfl rfl rfl (by omega) (by rw [Int.toNat_natCast]; exact filesC_get hxk) rfl ?_)
            (refine ev_faE tab_ok rfl rfl rfl rfl rfl rfl rfl rfl ?_)
            (refine ev_loadE tab_ok rfl rfl rfl rfl rfl rfl ?_)
            refine ev_igtr tab_ok rfl rfl rfl rfl ?_
            refine ev_nil ?_ rfl
            refine awp_cond rfl (fun hc => ?_) (fun hc => ?_)
            · refine awp_seq ?_
              refine awp_draw mixed ?_
              refine ev_move tab_ok rfl rfl rfl ?_
              refine ev_move tab_ok rfl rfl rfl ?_
              refine ev_move tab_ok rfl rfl rfl ?_
              refine ev_move tab_ok rfl rfl rfl ?_
              (refine ev_iaL tab_ok rfl rfl rfl rfl rfl rfl rfl rfl rfl (by omega) (by rw [Int.toNat_natCast]; exact filesC_get hxk) rfl ?_)
              (refine ev_faE tab_ok rfl rfl rfl rfl rfl rfl rfl rfl ?_)
              (refine ev_loadE tab_ok rfl rfl rfl rfl rfl rfl ?_)
              refine ev_isub tab_ok rfl rfl rfl rfl ?_
              refine ev_move tab_ok rfl rfl rfl ?_
              refine ev_move tab_ok rfl rfl rfl ?_
              (refine ev_iaL tab_ok rfl rfl rfl rfl rfl rfl rfl rfl rfl (by omega) (by rw [Int.toNat_natCast]; exact filesC_get hxk) rfl ?_)
              (refine ev_faE tab_ok rfl rfl rfl rfl rfl rfl rfl rfl ?_)
              (refine ev_loadE tab_ok rfl rfl rfl rfl rfl rfl ?_)
              refine ev_move tab_ok rfl rfl rfl ?_
              refine ev_isub tab_ok rfl rfl rfl rfl ?_
              refine ev_imax tab_ok rfl rfl rfl rfl ?_
              (refine ev_iadd tab_ok rfl rfl rfl rfl ?_)
              refine ev_assign tab_ok rfl rfl rfl ?_
              refine ev_nilD ?_ (by kernel_rfl)
              refine awp_draw mixed ?_
              refine ev_move tab_ok rfl rfl rfl ?_
              refine ev_move tab_ok rfl rfl rfl ?_
              (refine ev_iaL tab_ok rfl rfl rfl rfl rfl rfl rfl rfl rfl (by omega) (by rw [Int.toNat_natCast]; exact filesC_get hxk) rfl ?_)
              (refine ev_faE tab_ok rfl rfl rfl rfl rfl rfl rfl rfl ?_)
              (refine ev_loadE tab_ok rfl rfl rfl rfl rfl rfl ?_)
              refine ev_move tab_ok rfl rfl rfl ?_
              refine ev_move tab_ok rfl rfl rfl ?_
              (refine ev_iaL tab_ok rfl rfl rfl rfl rfl rfl rfl rfl rfl (by omega) (by rw [Int.toNat_natCast]; exact filesC_get hxk) rfl ?_)
              (refine ev_faE tab_ok rfl rfl rfl rfl rfl rfl rfl rfl ?_)
              (refine ev_loadE tab_ok rfl rfl rfl rfl rfl rfl ?_)
              refine ev_call rfl rfl rfl rfl rfl (blocks25_spec f.2.2) rfl ?_
              (refine ev_iadd tab_ok rfl rfl rfl rfl ?_)
              refine ev_assign tab_ok rfl rfl rfl ?_
              refine ev_nilD ?_ (by kernel_rfl)
              refine awp_reg ?_
              refine ev_move tab_ok rfl rfl rfl ?_
              (refine ev_iadd tab_ok rfl rfl rfl rfl ?_)
              refine ev_assign tab_ok rfl rfl rfl ?_
              refine ev_nil ?_ rfl
              have hpos : 0 < f.2.2 := by simpa using hc
              refine ⟨(k + 1, ⟨wr (c.sum + maxI (wr (c.pos - f.2.1)) (wr (f.2.1 - c.pos))), wr (f.2.1 + blocks f.2.2), true⟩), [], ?_, by show files.length - (k + 1) < files.length - k; omega, ⟨hltk, ?_⟩, keep0⟩
              · all_goals (try refine le_of (by decide) ?_ ?_)
                repeat' (first | exact trivial | exact .nil | (refine EnvLe.cons rfl ?_ ?_) | exact .frz rfl | (refine Mv.int ?_) | fail)
                all_goals (try simp only [wrap_addL, wrap_addR, wrap_subL, wrap_subR]); all_goals (try (rw [wrap_i64 (by omega) (by omega)]; omega))
              · show _ = (files.take (k + 1)).foldl (stepF a) ⟨s, p, false⟩
                exact hstep.symm ▸ (by rw [heq, if_pos rfl, if_pos hpos])
            · refine awp_skip ?_
              refine awp_reg ?_
              refine ev_move tab_ok rfl rfl rfl ?_
              (refine ev_iadd tab_ok rfl rfl rfl rfl ?_)
              refine ev_assign tab_ok rfl rfl rfl ?_
              refine ev_nil ?_ rfl
              have hpos : ¬ 0 < f.2.2 := by simpa using hc
              refine ⟨(k + 1, ⟨c.sum, c.pos, true⟩), [], ?_, by show files.length - (k + 1) < files.length - k; omega, ⟨hltk, ?_⟩, keep0⟩
              · all_goals (try refine le_of (by decide) ?_ ?_)
                repeat' (first | exact trivial | exact .nil | (refine EnvLe.cons rfl ?_ ?_) | exact .frz rfl | (refine Mv.int ?_) | fail)
                all_goals (try simp only [wrap_addL, wrap_addR, wrap_subL, wrap_subR]); all_goals (try (rw [wrap_i64 (by omega) (by omega)]; omega))
              · show _ = (files.take (k + 1)).foldl (stepF a) ⟨s, p, false⟩
                exact hstep.symm ▸ (by rw [heq, if_pos rfl, if_neg hpos])
        · refine awp_exit ?_
          have hge : k = files.length := by
            have : ¬ k < files.length := by simpa [filesC_length] using hc
            omega
          subst hge
          rw [List.take_length] at hcs
          rw [← hcs] at hca
          refine awp_seq ?_
          refine awp_reg ?_
          refine ev_move tab_ok rfl rfl rfl ?_
          refine ev_not tab_ok rfl rfl rfl ?_
          refine ev_nil ?_ rfl
          refine awp_cond rfl (fun hc => ?_) (fun hc => ?_)
          · have hfd : c.found = false := by simpa using hc
            rw [hfd, if_neg (by decide)] at hca
            rw [hca] at hfin
            refine awp_seq ?_
            refine awp_reg ?_
            refine ev_assign tab_ok rfl rfl rfl ?_
            refine ev_assign tab_ok rfl rfl rfl ?_
            refine ev_nil ?_ rfl
            refine awp_ret ?_
            exact ⟨_, [], rfl, Mv.val (by rw [hfin]) rfl, cut_of (by decide) .nil, keep0⟩
          · have hfd : c.found = true := by simpa using hc
            rw [hfd, if_pos rfl] at hca
            refine awp_skip ?_
            refine awp_reg ?_
            refine ev_move tab_ok rfl rfl rfl ?_
            (refine ev_iadd tab_ok rfl rfl rfl rfl ?_)
            refine ev_assign tab_ok rfl rfl rfl ?_
            refine ev_nil ?_ rfl
            refine ⟨(j + 1, c.sum, c.pos), [], ?_, by show acc.length - (j + 1) < acc.length - j; omega, ⟨hlt, hca⟩, keep0⟩
            all_goals (try refine le_of (by decide) ?_ ?_)
            repeat' (first | exact trivial | exact .nil | (refine EnvLe.cons rfl ?_ ?_) | exact .frz rfl | (refine Mv.int ?_) | fail)
            all_goals (try simp only [wrap_addL, wrap_addR, wrap_subL, wrap_subR]); all_goals (try (rw [wrap_i64 (by omega) (by omega)]; omega))
      · refine awp_exit ?_
        have hge : j = acc.length := by
          have : ¬ j < acc.length := by simpa [strL_length] using hc
          omega
        subst hge
        rw [List.drop_length, costAcc] at hca
        rw [hca] at hfin
        refine awp_seq ?_
        refine awp_reg ?_
        refine ev_move tab_ok rfl rfl rfl ?_
        refine ev_assign tab_ok rfl rfl rfl ?_
        refine ev_assign tab_ok rfl rfl rfl ?_
        refine ev_nil ?_ rfl
        refine awp_ret ?_
        exact ⟨_, [], rfl, Mv.val (by rw [hfin]) rfl, cut_of (by decide) .nil, keep0⟩
end Go.Proofs.Pm
end
section
namespace Go.Proofs.Pm
open Go
def sameFiles : List File → List File → Bool
  | [], [] => true
  | f :: r, g :: s => sameFile f g && sameFiles r s
  | _, _ => false
theorem sameFiles_eq : ∀ {a b : List File}, a.length = b.length → sameFiles a b = (List.range a.length).all fun i => match a[i]?, b[i]? with
    | some f, some g => sameFile f g
    | _, _ => false
  | [], [], _ => rfl
  | f :: r, g :: s, h => by
    rw [sameFiles, sameFiles_eq (by simpa using h), List.length_cons, List.range_succ_eq_map, List.all_cons, List.all_map]
    rfl
theorem sameFiles_ne : ∀ {a b : List File}, a.length ≠ b.length → sameFiles a b = false
  | [], [], h => absurd rfl h
  | [], _ :: _, _ => rfl
  | _ :: _, [], _ => rfl
  | f :: r, g :: s, h => by rw [sameFiles, sameFiles_ne (by simpa using h), Bool.and_false]
theorem sameFiles_spec (a b : List File) : FCall Tryz.prog 26 [.list (filesC a), .list (filesC b)] [] (.s (.bool (sameFiles a b))) [] := by
  refine fcall_intro tab_ok Tryz.call26 Tryz.func26 rfl rfl rfl (fun G w ι => ?_)
  refine awp_len 0 rfl (fun hal => ?_)
  rw [filesC_length] at hal
  refine awp_seq ?_
  refine awp_reg ?_
  refine ev_assign tab_ok rfl rfl rfl ?_
  refine ev_nil ?_ rfl
  refine awp_seq ?_
  refine awp_seq ?_
  refine awp_reg ?_
  refine ev_move tab_ok rfl rfl rfl ?_
  (refine ev_lenL tab_ok rfl rfl rfl rfl rfl rfl ?_)
  refine ev_move tab_ok rfl rfl rfl ?_
  (refine ev_lenL tab_ok rfl rfl rfl rfl rfl rfl ?_)
  (refine ev_ineq tab_ok rfl rfl rfl rfl ?_)
  refine ev_nil ?_ rfl
  refine awp_cond rfl (fun hc => ?_) (fun hc => ?_)
  · have hne : a.length ≠ b.length := by
      intro e
      simp [filesC_length, e] at hc
    refine awp_seq ?_
    refine awp_reg ?_
    refine ev_assign tab_ok rfl rfl rfl ?_
    refine ev_nil ?_ rfl
    refine awp_ret ?_
    exact ⟨_, [], rfl, Mv.bool (sameFiles_ne hne).symm, cut_of (by decide) .nil, keep0⟩
  · have hl : a.length = b.length := by
      have : (a.length : Int) = b.length := by simpa [filesC_length] using hc
      omega
    have hfin := sameFiles_eq hl
    refine awp_skip ?_
    refine awp_seq ?_
    refine awp_seq ?_
    refine awp_reg ?_
    refine ev_assign tab_ok rfl rfl rfl ?_
    refine ev_nil ?_ rfl
    refine awp_block ?_
    refine awp_loop (fun i : Nat => ⟨[(5, .s (.int .i64 i)), (0, .list (filesC a)), (1, .list (filesC b))], []⟩) (fun i => i ≤ a.length ∧ ∀ (j : Nat) (h : j < a.length) (h' : j < b.length), j < i → sameFile a[j] b[j] = true) (fun i => a.length - i) 0 [] ?_ ⟨Nat.zero_le _, fun j _ _ h => by omega⟩ keep0 (fun i hi => ?_)
    · all_goals (try refine le_of (by decide) ?_ ?_)
      repeat' (first | exact trivial | exact .nil | (refine EnvLe.cons rfl ?_ ?_) | exact .frz rfl | fail)
      all_goals (try simp only [wrap_addL, wrap_addR, wrap_subL, wrap_subR]); all_goals (try (rw [wrap_i64 (by omega) (by omega)]; omega))
    refine awp_seq ?_
    refine awp_seq ?_
    refine awp_reg ?_
    refine ev_move tab_ok rfl rfl rfl ?_
    refine ev_move tab_ok rfl rfl rfl ?_
    (refine ev_lenL tab_ok rfl rfl rfl rfl rfl rfl ?_)
    (refine ev_ilss tab_ok rfl rfl rfl rfl ?_)
    refine ev_nil ?_ rfl
    refine awp_cond rfl (fun hc => ?_) (fun hc => ?_)
    · refine awp_skip ?_
      have hlt : i < a.length := by simpa [filesC_length] using hc
      have hltb : i < b.length := by omega
      have hx : a[i]? = some a[i] := List.getElem?_eq_getElem hlt
      have hy : b[i]? = some b[i] := List.getElem?_eq_getElem hltb
      refine awp_seq ?_
      refine awp_block ?_
      refine awp_seq ?_
      refine awp_draw mixed ?_
      refine ev_move tab_ok rfl rfl rfl ?_
      refine ev_move tab_ok rfl rfl rfl ?_
      (refine ev_iaL tab_ok rfl rfl rfl rfl rfl rfl rfl rfl rfl (by omega) (by rw [Int.toNat_natCast]; exact filesC_get hx) rfl ?_)
      (refine ev_loadE tab_ok rfl rfl rfl rfl rfl rfl ?_)
      refine ev_move tab_ok rfl rfl rfl ?_
      refine ev_move tab_ok rfl rfl rfl ?_
      (refine ev_iaL tab_ok rfl rfl rfl rfl rfl rfl rfl rfl rfl (by omega) (by rw [Int.toNat_natCast]; exact filesC_get hy) rfl ?_)
      (refine ev_loadE tab_ok rfl rfl rfl rfl rfl rfl ?_)
      refine ev_neq69 _ _ rfl rfl rfl rfl ?_
      refine ev_nilD ?_ (by kernel_rfl)
      refine awp_cond rfl (fun hc => ?_) (fun hc => ?_)
      · refine awp_seq ?_
        refine awp_reg ?_
        refine ev_assign tab_ok rfl rfl rfl ?_
        refine ev_nil ?_ rfl
        refine awp_ret ?_
        refine ⟨_, [], rfl, Mv.bool ?_, cut_of (by decide) .nil, keep0⟩
        rw [hfin, eq_comm, List.all_eq_false]
        refine ⟨i, List.mem_range.2 hlt, ?_⟩
        rw [hx, hy]
        simpa using hc
      · refine awp_skip ?_
        refine awp_reg ?_
        refine ev_move tab_ok rfl rfl rfl ?_
        (refine ev_iadd tab_ok rfl rfl rfl rfl ?_)
        refine ev_assign tab_ok rfl rfl rfl ?_
        refine ev_nil ?_ rfl
        refine ⟨i + 1, [], ?_, by omega, ⟨hlt, fun j h h' hj => ?_⟩, keep0⟩
        · all_goals (try refine le_of (by decide) ?_ ?_)
          repeat' (first | exact trivial | exact .nil | (refine EnvLe.cons rfl ?_ ?_) | exact .frz rfl | (refine Mv.int ?_) | fail)
          all_goals (try simp only [wrap_addL, wrap_addR, wrap_subL, wrap_subR]); all_goals (try (rw [wrap_i64 (by omega) (by omega)]; omega))
        by_cases e : j = i
        · subst e; simpa using hc
        · exact hi.2 j h h' (by omega)
    · refine awp_exit ?_
      have hge : i = a.length := by
        have : ¬ i < a.length := by simpa [filesC_length] using hc
        omega
      subst hge
      refine awp_seq ?_
      refine awp_reg ?_
      refine ev_assign tab_ok rfl rfl rfl ?_
      refine ev_nil ?_ rfl
      refine awp_ret ?_
      refine ⟨_, [], rfl, Mv.bool ?_, cut_of (by decide) .nil, keep0⟩
      rw [hfin, eq_comm, List.all_eq_true]
      intro j hj
      have hj := List.mem_range.1 hj
      rw [List.getElem?_eq_getElem hj, List.getElem?_eq_getElem (by omega : j < b.length)]
      exact hi.2 j hj (by omega) hj
def ordersR (l : List B) : Nat → List B → List (List B)
  | 0, first => [first]
  | n + 1, first => (l.filter fun p => !has first p).flatMap fun p => ordersR l n (first ++ [p])
theorem flatMap_le {α β : Type} {f : α → List β} {c : Nat} : ∀ (xs : List α), (∀ x ∈ xs, (f x).length ≤ c) → (xs.flatMap f).length ≤ xs.length * c
  | [], _ => by simp
  | y :: r, h => by
    rw [List.flatMap_cons, List.length_append, List.length_cons, Nat.succ_mul]
    have := h y List.mem_cons_self
    have := flatMap_le r (fun x hx => h x (List.mem_cons_of_mem _ hx))
    omega
theorem ordersR_length (l : List B) : ∀ (n : Nat) (first : List B), (ordersR l n first).length ≤ l.length ^ n
  | 0, first => by simp [ordersR]
  | n + 1, first => by
    rw [ordersR, Nat.pow_succ, Nat.mul_comm]
    refine Nat.le_trans (flatMap_le (c := l.length ^ n) _ (fun p _ => ordersR_length l n _)) ?_
    exact Nat.mul_le_mul_right _ (List.length_filter_le _ _)
theorem ordersR_mem (l : List B) : ∀ (n : Nat) (first : List B), ∀ o ∈ ordersR l n first, o.length = first.length + n ∧ ∀ p ∈ o, p ∈ first ∨ p ∈ l
  | 0, first, o, h => by
    rw [ordersR, List.mem_singleton] at h
    subst h
    exact ⟨rfl, fun p hp => .inl hp⟩
  | n + 1, first, o, h => by
    rw [ordersR, List.mem_flatMap] at h
    obtain ⟨p, hp, ho⟩ := h
    obtain ⟨h1, h2⟩ := ordersR_mem l n _ o ho
    refine ⟨by rw [h1]; simp; omega, fun q hq => ?_⟩
    rcases h2 q hq with h3 | h3
    · rcases List.mem_append.1 h3 with h3 | h3
      · exact .inl h3
      · rw [List.mem_singleton] at h3
        subst h3
        exact .inr (List.mem_filter.1 hp).1
    · exact .inr h3
theorem orders_spec (l : List B) (hl : l.length ≤ 6) : ∀ (n : Nat) (first : List B), first.length + n = l.length → FCall Tryz.prog 63 [.list (strL l), .list (strL first)] [] (.list (ordL (ordersR l n first))) [] := by
  intro n
  induction n with
  | zero =>
    intro first hf
    refine fcall_intro tab_ok Tryz.call63 Tryz.func63 rfl rfl rfl (fun G w ι => ?_)
    refine awp_seq ?_
    refine awp_reg ?_
    refine ev_assign tab_ok rfl rfl rfl ?_
    refine ev_nil ?_ rfl
    refine awp_seq ?_
    refine awp_seq ?_
    refine awp_reg ?_
    refine ev_move tab_ok rfl rfl rfl ?_
    (refine ev_lenL tab_ok rfl rfl rfl rfl rfl rfl ?_)
    refine ev_move tab_ok rfl rfl rfl ?_
    (refine ev_lenL tab_ok rfl rfl rfl rfl rfl rfl ?_)
    (refine ev_ieql tab_ok rfl rfl rfl rfl ?_)
    refine ev_nil ?_ rfl
    refine awp_cond rfl (fun hc => ?_) (fun hc => ?_)
    · refine awp_seq ?_
      refine awp_reg ?_
      refine ev_move tab_ok rfl rfl rfl ?_
      refine ev_buildSlice tab_ok rfl rfl rfl rfl rfl rfl rfl rfl rfl rfl rfl rfl rfl rfl (by constructor) ?_
      refine ev_assign tab_ok rfl rfl rfl ?_
      refine ev_nil ?_ rfl
      refine awp_ret ?_
      exact ⟨_, [], rfl, Mv.rowL rfl, cut_of (by decide) .nil, keep0⟩
    · exfalso
      have : first.length ≠ l.length := by
        intro e
        simp [strL_length, e] at hc
      omega
  | succ n ih =>
    intro first hf
    refine fcall_intro tab_ok Tryz.call63 Tryz.func63 rfl rfl rfl (fun G w ι => ?_)
    refine awp_seq ?_
    refine awp_reg ?_
    refine ev_assign tab_ok rfl rfl rfl ?_
    refine ev_nil ?_ rfl
    refine awp_seq ?_
    refine awp_seq ?_
    refine awp_reg ?_
    refine ev_move tab_ok rfl rfl rfl ?_
    (refine ev_lenL tab_ok rfl rfl rfl rfl rfl rfl ?_)
    refine ev_move tab_ok rfl rfl rfl ?_
    (refine ev_lenL tab_ok rfl rfl rfl rfl rfl rfl ?_)
    (refine ev_ieql tab_ok rfl rfl rfl rfl ?_)
    refine ev_nil ?_ rfl
    refine awp_cond rfl (fun hc => ?_) (fun hc => ?_)
    · exfalso
      have : first.length = l.length := by
        simp only [strL_length, beq_iff_eq] at hc
        omega
      omega
    · refine awp_skip ?_
      have hpow : l.length ^ n ≤ 7776 := by
        have h1 : l.length ^ n ≤ 6 ^ n := Nat.pow_le_pow_left hl n
        have h2 : 6 ^ n ≤ 6 ^ 5 := Nat.pow_le_pow_right (by decide) (by omega)
        have h3 : 6 ^ 5 = 7776 := by decide
        omega
      refine awp_seq ?_
      refine awp_reg ?_
      refine ev_assign tab_ok rfl rfl rfl ?_
      refine ev_nil ?_ rfl
      refine awp_ghost 5 1 26 rfl (by constructor) ?_
      refine awp_seq ?_
      refine awp_seq ?_
      refine awp_reg ?_
      refine ev_assign tab_ok rfl rfl rfl ?_
      refine ev_nil ?_ rfl
      refine awp_block ?_
      refine awp_loop (fun i : Nat => ⟨[(6, .s (.int .i64 i)), (5, .row (ordL (((l.take i).filter fun p => !has first p).flatMap fun p => ordersR l n (first ++ [p]))) 0), (0, .list (strL l)), (1, .list (strL first))], [.row (((l.take i).filter fun p => !has first p).flatMap fun p => ordersR l n (first ++ [p])).length 1 26]⟩) (fun i => i ≤ l.length) (fun i => l.length - i) 0 [0] ?_ (Nat.zero_le _) keep0 (fun i hi => ?_)
      · all_goals (try refine le_of (by decide) ?_ ?_)
        repeat' (first | exact trivial | exact .nil | (refine CutL.cons rfl ?_ ?_) | (refine EnvLe.cons rfl ?_ ?_) | exact MvS.row | exact .row rfl | exact .frz rfl | fail)
        all_goals (try simp only [wrap_addL, wrap_addR, wrap_subL, wrap_subR]); all_goals (try (rw [wrap_i64 (by omega) (by omega)]; omega))
      refine awp_seq ?_
      refine awp_seq ?_
      refine awp_reg ?_
      refine ev_move tab_ok rfl rfl rfl ?_
      refine ev_move tab_ok rfl rfl rfl ?_
      (refine ev_lenL tab_ok rfl rfl rfl rfl rfl rfl ?_)
      (refine ev_ilss tab_ok rfl rfl rfl rfl ?_)
      refine ev_nil ?_ rfl
      refine awp_cond rfl (fun hc => ?_) (fun hc => ?_)
      · refine awp_skip ?_
        have hlt : i < l.length := by simpa [strL_length] using hc
        have hx : l[i]? = some l[i] := List.getElem?_eq_getElem hlt
        have h4 := filter_take_succ (p := fun p => !has first p) hx
        have hlen : (((l.take i).filter fun p => !has first p).flatMap fun p => ordersR l n (first ++ [p])).length ≤ 6 * 7776 := by
          have h1 := flatMap_le (c := l.length ^ n) ((l.take i).filter fun p => !has first p) (f := fun p => ordersR l n (first ++ [p])) (fun p _ => ordersR_length l n _)
          have h2 := filter_take_le (p := fun p => !has first p) l i
          have h3 : ((l.take i).filter fun p => !has first p).length * l.length ^ n ≤ 6 * 7776 := Nat.mul_le_mul (by omega) hpow
          omega
        have hlen2 := Nat.le_trans (ordersR_length l n (first ++ [l[i]])) hpow
        have hcall := ih (first ++ [l[i]]) (by simp; omega)
        generalize l[i] = p at *
        refine awp_seq ?_
        refine awp_block ?_
        refine awp_seq ?_
        refine awp_reg ?_
        refine ev_move tab_ok rfl rfl rfl ?_
        refine ev_move tab_ok rfl rfl rfl ?_
        refine ev_move tab_ok rfl rfl rfl ?_
        (refine ev_iaL tab_ok rfl rfl rfl rfl rfl rfl rfl rfl rfl (by omega) (by rw [Int.toNat_natCast]; exact strL_get hx) rfl ?_)
        (refine ev_loadE tab_ok rfl rfl rfl rfl rfl rfl ?_)
        refine ev_call rfl rfl rfl rfl rfl (has_spec first p) rfl ?_
        refine ev_not tab_ok rfl rfl rfl ?_
        refine ev_nil ?_ rfl
        refine awp_cond rfl (fun hc => ?_) (fun hc => ?_)
        · refine awp_draw mixed ?_
          refine ev_move tab_ok rfl rfl rfl ?_
          refine ev_move tab_ok rfl rfl rfl ?_
          refine ev_bs0 tab_ok rfl rfl rfl rfl rfl rfl rfl (by constructor) ?_
          refine ev_move tab_ok rfl rfl rfl ?_
          (refine ev_append tab_ok rfl rfl rfl rfl rfl rfl rfl rfl rfl rfl rfl rfl rfl rfl (by repeat constructor) (by rfl) (by exact strL_len _) (by simp [fileC]) (by (simp only [strL_length, intL_length, List.length_append, List.length_cons, List.length_nil]; omega)) (by (simp only [strL_length, intL_length, List.length_append, List.length_cons, List.length_nil]; omega)) ?_)
          try refine ev_as (show _ = PV.row (strL first) _ by rfl) ?_
          refine ev_move tab_ok rfl rfl rfl ?_
          refine ev_move tab_ok rfl rfl rfl ?_
          (refine ev_iaL tab_ok rfl rfl rfl rfl rfl rfl rfl rfl rfl (by omega) (by rw [Int.toNat_natCast]; exact strL_get hx) rfl ?_)
          (refine ev_loadE tab_ok rfl rfl rfl rfl rfl rfl ?_)
          refine ev_buildSlice tab_ok rfl rfl rfl rfl rfl rfl rfl rfl rfl rfl rfl rfl rfl rfl (by constructor) ?_
          (refine ev_append tab_ok rfl rfl rfl rfl rfl rfl rfl rfl rfl rfl rfl rfl rfl rfl (by repeat constructor) (by (simp [strL_length, intL_length]; done)) (by exact one_len _) (by exact strL_len _) (by (simp only [strL_length, intL_length, List.length_append, List.length_cons, List.length_nil]; omega)) (by (simp only [strL_length, intL_length, List.length_append, List.length_cons, List.length_nil]; omega)) ?_)
          try refine ev_as (show _ = PV.row (strL (first ++ [p])) _ by rw [strL_append]; rfl) ?_
          refine ev_call rfl rfl rfl rfl rfl (hcall) rfl ?_
          (refine ev_append tab_ok rfl rfl rfl rfl rfl rfl rfl rfl rfl rfl rfl rfl rfl rfl (by repeat constructor) (by (simp [filesC_length, ordL_length]; done)) (by exact ordL_len _) (by exact ordL_len _) (by (simp only [filesC_length, ordL_length, List.length_append, List.length_cons, List.length_nil]; omega)) (by (simp only [filesC_length, ordL_length, List.length_append, List.length_cons, List.length_nil]; omega)) ?_)
          refine ev_assign tab_ok rfl rfl rfl ?_
          refine ev_nilD ?_ (by kernel_rfl)
          refine awp_reg ?_
          refine ev_move tab_ok rfl rfl rfl ?_
          (refine ev_iadd tab_ok rfl rfl rfl rfl ?_)
          refine ev_assign tab_ok rfl rfl rfl ?_
          refine ev_nil ?_ rfl
          rw [if_pos hc] at h4
          refine ⟨i + 1, [0], ?_, by omega, hlt, keep0⟩
          all_goals (try refine le_of (by decide) ?_ ?_)
          repeat' (first | exact trivial | exact .nil | (refine CutL.cons rfl ?_ ?_) | (refine EnvLe.cons rfl ?_ ?_) | exact .frz rfl | (refine Mv.rowE rfl ?_) | (refine MvS.rowE ?_) | (refine Mv.int ?_) | fail)
          all_goals (try simp only [wrap_addL, wrap_addR, wrap_subL, wrap_subR]); all_goals (try (rw [wrap_i64 (by omega) (by omega)]; omega))
          all_goals (rw [h4]; simp [ordL, List.flatMap_append])
        · refine awp_skip ?_
          refine awp_reg ?_
          refine ev_move tab_ok rfl rfl rfl ?_
          (refine ev_iadd tab_ok rfl rfl rfl rfl ?_)
          refine ev_assign tab_ok rfl rfl rfl ?_
          refine ev_nil ?_ rfl
          rw [if_neg (by rw [hc]; decide), List.append_nil] at h4
          refine ⟨i + 1, [0], ?_, by omega, hlt, keep0⟩
          all_goals (try refine le_of (by decide) ?_ ?_)
          repeat' (first | exact trivial | exact .nil | (refine CutL.cons rfl ?_ ?_) | (refine EnvLe.cons rfl ?_ ?_) | exact .frz rfl | (refine Mv.rowE rfl ?_) | (refine MvS.rowE ?_) | (refine Mv.int ?_) | fail)
          all_goals (try simp only [wrap_addL, wrap_addR, wrap_subL, wrap_subR]); all_goals (try (rw [wrap_i64 (by omega) (by omega)]; omega))
          all_goals (rw [h4])
      · refine awp_exit ?_
        have hge : i = l.length := by
          have : ¬ i < l.length := by simpa [strL_length] using hc
          omega
        subst hge
        refine awp_seq ?_
        refine awp_reg ?_
        refine ev_move tab_ok rfl rfl rfl ?_
        refine ev_assign tab_ok rfl rfl rfl ?_
        refine ev_nil ?_ rfl
        refine awp_ret ?_
        exact ⟨_, [], rfl, Mv.rowL (by rw [ordersR, List.take_length]), cut_of (by decide) .nil, keep0⟩
def bestStep (x : Node) (acc : List B) (s : Option (List B × Int)) (o : List B) : Option (List B × Int) :=
  match s with
  | none => some (o, (costR (placeR x o 0).1 acc).1)
  | some s => if (costR (placeR x o 0).1 acc).1 < s.2 then some (o, (costR (placeR x o 0).1 acc).1) else some s
def bestO (s : Option (List B × Int)) : List B × Int := match s with
  | some s => s
  | none => ([], 0)
def bestR (x : Node) (acc : List B) : List B × Int :=
  if valid18 x = false then ([], 1) else if decide (6 < (files47 x).length) || decide (64 < acc.length) then ([], 7) else if acc.any (fun a => !has (files47 x) a) then ([], 6)
  else if (PlaceR x (files47 x) 0).2 ≠ 0 then ([], (PlaceR x (files47 x) 0).2) else if (files47 x).length = 0 then ([], 0) else ((bestO ((ordersR (files47 x) (files47 x).length []).foldl (bestStep x acc) none)).1, 0)
theorem bestStep_some {x : Node} {acc : List B} : ∀ (os : List (List B)) (s : Option (List B × Int)), os ≠ [] → (os.foldl (bestStep x acc) s).isSome = true := by
  have h1 : ∀ (os : List (List B)) (s : List B × Int), (os.foldl (bestStep x acc) (some s)).isSome = true := by
    intro os
    induction os with
    | nil => intro s; rfl
    | cons o r ih =>
      intro s
      rw [List.foldl_cons, bestStep]
      split
      · exact ih _
      · exact ih _
  intro os s h
  cases os with
  | nil => exact absurd rfl h
  | cons o r =>
    rw [List.foldl_cons]
    cases s with
    | none => exact h1 r _
    | some s =>
      rw [bestStep]
      split
      · exact h1 r _
      · exact h1 r _
theorem best_spec (x : Node) (acc : List B) (hb : x.bulk ≤ 1099511627776) : FCall Tryz.prog 30 [.agg (nodeC x), .list (strL acc)] [] (.tup [.list (strL (bestR x acc).1), .s (.int .i64 (bestR x acc).2)]) [] := by
  have hpl := files47_length x
  refine fcall_intro tab_ok Tryz.call30 Tryz.func30 rfl rfl rfl (fun G w ι => ?_)
  refine awp_len 1 rfl (fun hal => ?_)
  rw [strL_length] at hal
  refine awp_seq ?_
  refine awp_reg ?_
  refine ev_box rfl rfl rfl rfl (by constructor) ?_
  refine ev_assign tab_ok rfl rfl rfl ?_
  refine ev_assign tab_ok rfl rfl rfl ?_
  refine ev_nil ?_ rfl
  refine awp_seq ?_
  refine awp_seq ?_
  refine awp_reg ?_
  (refine ev_loadB tab_ok rfl rfl rfl rfl rfl rfl rfl ?_)
  refine ev_call rfl rfl rfl rfl rfl (valid18_spec x hb) rfl ?_
  refine ev_not tab_ok rfl rfl rfl ?_
  refine ev_nil ?_ rfl
  refine awp_cond rfl (fun hc => ?_) (fun hc => ?_)
  · have h : valid18 x = false := by simpa using hc
    refine awp_seq ?_
    refine awp_reg ?_
    refine ev_assign tab_ok rfl rfl rfl ?_
    refine ev_assign tab_ok rfl rfl rfl ?_
    refine ev_nil ?_ rfl
    refine awp_ret ?_
    refine ⟨_, [], rfl, ?_, cut_of (by decide) .nil, keep0⟩
    rw [bestR, if_pos h]
    exact .tupL (.cons .nilL (.cons (.frz rfl) .nil))
  · have h : ¬ valid18 x = false := by simpa using hc
    have hfin : bestR x acc = if decide (6 < (files47 x).length) || decide (64 < acc.length) then ([], (7 : Int)) else if acc.any (fun a => !has (files47 x) a) then ([], 6)
      else if (PlaceR x (files47 x) 0).2 ≠ 0 then ([], (PlaceR x (files47 x) 0).2) else if (files47 x).length = 0 then ([], 0) else ((bestO ((ordersR (files47 x) (files47 x).length []).foldl (bestStep x acc) none)).1, 0) := by rw [bestR, if_neg h]
    refine awp_skip ?_
    refine awp_seq ?_
    refine awp_reg ?_
    (refine ev_loadB tab_ok rfl rfl rfl rfl rfl rfl rfl ?_)
    refine ev_call rfl rfl rfl rfl rfl (files47_spec x hb) rfl ?_
    refine ev_assign tab_ok rfl rfl rfl ?_
    refine ev_nil ?_ rfl
    have hPl := Place47_spec x (files47 x) 0 hb
    have hsz : ∀ p ∈ files47 x, p.size ≤ x.bulk := fun p hp => (files47_found hp).2
    generalize PlaceR x (files47 x) 0 = pl at *
    generalize files47 x = l at *
    refine awp_seq ?_
    refine awp_seq_to ⟨[(30, .s (.bool (decide (6 < l.length) || decide (64 < acc.length)))), (6, .list (strL l)), (1, .list (strL acc)), (2, .ptr 0 0)], [.box (nodeC x) 25]⟩ ?_ ?_
    · have e1 : decide (6 < l.length) = decide ((6 : Int) < ((strL l).length : Int)) := by rw [strL_length]; congr 1; exact propext ⟨fun h => by omega, fun h => by omega⟩
      have e2 : decide (64 < acc.length) = decide ((64 : Int) < ((strL acc).length : Int)) := by rw [strL_length]; congr 1; exact propext ⟨fun h => by omega, fun h => by omega⟩
      cases hz : decide ((6 : Int) < ((strL l).length : Int))
      all_goals
        refine awp_reg ?_
        refine ev_move tab_ok rfl rfl rfl ?_
        (refine ev_lenL tab_ok rfl rfl rfl rfl rfl rfl ?_)
        refine ev_igtr tab_ok rfl rfl rfl rfl ?_
        try refine ev_is (congrArg Value.bool (hz)) ?_
        refine ev_move tab_ok rfl rfl rfl ?_
        (first | refine ev_skip rfl rfl ?_ | refine ev_move tab_ok rfl rfl rfl ?_)
        (first | refine ev_skip rfl rfl ?_ | refine ev_lenL tab_ok rfl rfl rfl rfl rfl rfl ?_)
        (first | refine ev_skip rfl rfl ?_ | refine ev_igtr tab_ok rfl rfl rfl rfl ?_)
        (first | refine ev_pickT tab_ok rfl rfl rfl rfl rfl ?_ | refine ev_pickF tab_ok rfl rfl rfl rfl rfl ?_)
        refine ev_nil ?_ rfl
        refine ⟨[0], ?_, keep0⟩
        all_goals (try refine le_of (by decide) ?_ ?_)
        repeat' (first | exact trivial | exact .nil | (refine CutL.cons rfl ?_ ?_) | (refine EnvLe.cons rfl ?_ ?_) | (refine MvS.box (mvl_closed rfl)) | exact .ptr rfl | exact .frz rfl | (refine Mv.bool ?_) | fail)
        all_goals (try simp only [wrap_addL, wrap_addR, wrap_subL, wrap_subR]); all_goals (try (rw [wrap_i64 (by omega) (by omega)]; omega))
        all_goals (rw [e1, e2, hz]; simp)
    refine awp_cond rfl (fun hc => ?_) (fun hc => ?_)
    · rw [if_pos hc] at hfin
      refine awp_seq ?_
      refine awp_reg ?_
      refine ev_assign tab_ok rfl rfl rfl ?_
      refine ev_assign tab_ok rfl rfl rfl ?_
      refine ev_nil ?_ rfl
      refine awp_ret ?_
      refine ⟨_, [], rfl, ?_, cut_of (by decide) .nil, keep0⟩
      rw [hfin]
      exact .tupL (.cons .nilL (.cons (.frz rfl) .nil))
    · rw [if_neg (by rw [hc]; decide)] at hfin
      simp only [Bool.or_eq_false_iff, decide_eq_false_iff_not, Nat.not_lt] at hc
      obtain ⟨hl6, ha64⟩ := hc
      refine awp_skip ?_
      refine awp_seq ?_
      refine awp_seq ?_
      refine awp_reg ?_
      refine ev_assign tab_ok rfl rfl rfl ?_
      refine ev_nil ?_ rfl
      refine awp_block ?_
      refine awp_loop (fun i : Nat => ⟨[(7, .s (.int .i64 i)), (6, .list (strL l)), (1, .list (strL acc)), (2, .ptr 0 0)], [.box (nodeC x) 25]⟩) (fun i => i ≤ acc.length ∧ ∀ (j : Nat) (h : j < acc.length), j < i → (!has l acc[j]) = false) (fun i => acc.length - i) 0 [0] ?_ ⟨Nat.zero_le _, fun j _ h => by omega⟩ keep0 (fun i hi => ?_)
      · all_goals (try refine le_of (by decide) ?_ ?_)
        repeat' (first | exact trivial | exact .nil | (refine CutL.cons rfl ?_ ?_) | (refine EnvLe.cons rfl ?_ ?_) | (refine MvS.box (mvl_closed rfl)) | exact .ptr rfl | exact .frz rfl | fail)
        all_goals (try simp only [wrap_addL, wrap_addR, wrap_subL, wrap_subR]); all_goals (try (rw [wrap_i64 (by omega) (by omega)]; omega))
      refine awp_seq ?_
      refine awp_seq ?_
      refine awp_reg ?_
      refine ev_move tab_ok rfl rfl rfl ?_
      refine ev_move tab_ok rfl rfl rfl ?_
      (refine ev_lenL tab_ok rfl rfl rfl rfl rfl rfl ?_)
      (refine ev_ilss tab_ok rfl rfl rfl rfl ?_)
      refine ev_nil ?_ rfl
      refine awp_cond rfl (fun hc => ?_) (fun hc => ?_)
      · refine awp_skip ?_
        have hlt : i < acc.length := by simpa [strL_length] using hc
        have hx : acc[i]? = some acc[i] := List.getElem?_eq_getElem hlt
        refine awp_seq ?_
        refine awp_block ?_
        refine awp_seq ?_
        refine awp_reg ?_
        refine ev_move tab_ok rfl rfl rfl ?_
        refine ev_move tab_ok rfl rfl rfl ?_
        refine ev_move tab_ok rfl rfl rfl ?_
        (refine ev_iaL tab_ok rfl rfl rfl rfl rfl rfl rfl rfl rfl (by omega) (by rw [Int.toNat_natCast]; exact strL_get hx) rfl ?_)
        (refine ev_loadE tab_ok rfl rfl rfl rfl rfl rfl ?_)
        refine ev_call rfl rfl rfl rfl rfl (has_spec l acc[i]) rfl ?_
        refine ev_not tab_ok rfl rfl rfl ?_
        refine ev_nil ?_ rfl
        refine awp_cond rfl (fun hc => ?_) (fun hc => ?_)
        · rw [if_pos (List.any_eq_true.2 ⟨_, List.getElem_mem hlt, hc⟩)] at hfin
          refine awp_seq ?_
          refine awp_reg ?_
          refine ev_assign tab_ok rfl rfl rfl ?_
          refine ev_assign tab_ok rfl rfl rfl ?_
          refine ev_nil ?_ rfl
          refine awp_ret ?_
          refine ⟨_, [], rfl, ?_, cut_of (by decide) .nil, keep0⟩
          rw [hfin]
          exact .tupL (.cons .nilL (.cons (.frz rfl) .nil))
        · refine awp_skip ?_
          refine awp_reg ?_
          refine ev_move tab_ok rfl rfl rfl ?_
          (refine ev_iadd tab_ok rfl rfl rfl rfl ?_)
          refine ev_assign tab_ok rfl rfl rfl ?_
          refine ev_nil ?_ rfl
          refine ⟨i + 1, [0], ?_, by omega, ⟨hlt, before_succ (p := fun a => !has l a) hlt hi.2 hc⟩, keep0⟩
          all_goals (try refine le_of (by decide) ?_ ?_)
          repeat' (first | exact trivial | exact .nil | (refine CutL.cons rfl ?_ ?_) | (refine EnvLe.cons rfl ?_ ?_) | (refine MvS.box (mvl_closed rfl)) | exact .ptr rfl | exact .frz rfl | (refine Mv.int ?_) | fail)
          all_goals (try simp only [wrap_addL, wrap_addR, wrap_subL, wrap_subR]); all_goals (try (rw [wrap_i64 (by omega) (by omega)]; omega))
      · refine awp_exit ?_
        have hge : i = acc.length := by
          have : ¬ i < acc.length := by simpa [strL_length] using hc
          omega
        subst hge
        have hany : acc.any (fun a => !has l a) = false := by
          rw [List.any_eq_false]
          intro y hy
          obtain ⟨j, hj, rfl⟩ := List.getElem_of_mem hy
          simpa using hi.2 j hj hj
        rw [hany, if_neg (by decide)] at hfin
        refine awp_seq ?_
        refine awp_seq ?_
        refine awp_reg ?_
        (refine ev_loadB tab_ok rfl rfl rfl rfl rfl rfl rfl ?_)
        refine ev_move tab_ok rfl rfl rfl ?_
        refine ev_call rfl rfl rfl rfl rfl (hPl) rfl ?_
        refine ev_move tab_ok rfl rfl rfl ?_
        refine ev_extract tab_ok rfl rfl rfl rfl ?_
        refine ev_extract tab_ok rfl rfl rfl rfl ?_
        refine ev_assign tab_ok rfl rfl rfl ?_
        refine ev_assign tab_ok rfl rfl rfl ?_
        refine ev_nil ?_ rfl
        refine awp_seq ?_
        refine awp_reg ?_
        refine ev_move tab_ok rfl rfl rfl ?_
        (refine ev_ineq tab_ok rfl rfl rfl rfl ?_)
        refine ev_nil ?_ rfl
        refine awp_cond rfl (fun hc => ?_) (fun hc => ?_)
        · have h0 : pl.2 ≠ 0 := by simpa using hc
          rw [if_pos h0] at hfin
          refine awp_seq ?_
          refine awp_reg ?_
          refine ev_move tab_ok rfl rfl rfl ?_
          refine ev_assign tab_ok rfl rfl rfl ?_
          refine ev_assign tab_ok rfl rfl rfl ?_
          refine ev_nil ?_ rfl
          refine awp_ret ?_
          refine ⟨_, [], rfl, ?_, cut_of (by decide) .nil, keep0⟩
          rw [hfin]
          exact .tupL (.cons .nilL (.cons (.frz rfl) .nil))
        · have h0 : ¬ pl.2 ≠ 0 := by simpa using hc
          rw [if_neg h0] at hfin
          refine awp_skip ?_
          refine awp_seq ?_
          refine awp_seq ?_
          refine awp_reg ?_
          refine ev_move tab_ok rfl rfl rfl ?_
          (refine ev_lenL tab_ok rfl rfl rfl rfl rfl rfl ?_)
          (refine ev_ieql tab_ok rfl rfl rfl rfl ?_)
          refine ev_nil ?_ rfl
          refine awp_cond rfl (fun hc => ?_) (fun hc => ?_)
          · have hl0 : l.length = 0 := by simpa [strL] using hc
            rw [if_pos hl0] at hfin
            refine awp_seq ?_
            refine awp_reg ?_
            refine ev_assign tab_ok rfl rfl rfl ?_
            refine ev_assign tab_ok rfl rfl rfl ?_
            refine ev_nil ?_ rfl
            refine awp_ret ?_
            refine ⟨_, [], rfl, ?_, cut_of (by decide) .nil, keep0⟩
            rw [hfin]
            exact .tupL (.cons .nilL (.cons (.frz rfl) .nil))
          · have hl0 : ¬ l.length = 0 := by
              intro e
              have : l = [] := List.eq_nil_of_length_eq_zero e
              subst this
              simp [strL] at hc
            rw [if_neg hl0] at hfin
            have hmem : ∀ o ∈ ordersR l l.length [], o.length ≤ 6 ∧ ∀ p ∈ o, p.size ≤ x.bulk := by
              intro o ho
              obtain ⟨h1, h2⟩ := ordersR_mem l l.length [] o ho
              refine ⟨by simp at h1; omega, fun p hp => ?_⟩
              rcases h2 p hp with h3 | h3
              · cases h3
              · exact hsz p h3
            refine awp_skip ?_
            refine awp_seq ?_
            refine awp_reg ?_
            refine ev_move tab_ok rfl rfl rfl ?_
            refine ev_callM rfl rfl rfl rfl (orders_spec l hl6 l.length [] (by simp)) (by repeat (first | exact .nil | exact .nilL | (refine .cons ?_ ?_) | (exact .frz rfl))) rfl ?_
            refine ev_assign tab_ok rfl rfl rfl ?_
            refine ev_nil ?_ rfl
            generalize ordersR l l.length [] = os at *
            refine awp_len 10 rfl (fun hol => ?_)
            rw [ordL_length] at hol
            refine awp_seq ?_
            refine awp_reg ?_
            refine ev_assign tab_ok rfl rfl rfl ?_
            refine ev_nil ?_ rfl
            refine awp_seq ?_
            refine awp_reg ?_
            refine ev_assign tab_ok rfl rfl rfl ?_
            refine ev_nil ?_ rfl
            refine awp_seq ?_
            refine awp_seq ?_
            refine awp_reg ?_
            refine ev_assign tab_ok rfl rfl rfl ?_
            refine ev_nil ?_ rfl
            refine awp_block ?_
            refine awp_loop (fun j : Nat => ⟨[(13, .s (.int .i64 j)), (12, .s (.int .i64 (bestO ((os.take j).foldl (bestStep x acc) none)).2)), (11, .list (strL (bestO ((os.take j).foldl (bestStep x acc) none)).1)), (10, .list (ordL os)), (1, .list (strL acc)), (2, .ptr 0 0)], [.box (nodeC x) 25]⟩) (fun j => j ≤ os.length) (fun j => os.length - j) 0 [0] ?_ (Nat.zero_le _) keep0 (fun j hj => ?_)
            · all_goals (try refine le_of (by decide) ?_ ?_)
              repeat' (first | exact trivial | exact .nil | (refine CutL.cons rfl ?_ ?_) | (refine EnvLe.cons rfl ?_ ?_) | (refine MvS.box (mvl_closed rfl)) | exact .ptr rfl | exact .nilL | exact .frz rfl | fail)
              all_goals (try simp only [wrap_addL, wrap_addR, wrap_subL, wrap_subR]); all_goals (try (rw [wrap_i64 (by omega) (by omega)]; omega))
            refine awp_seq ?_
            refine awp_seq ?_
            refine awp_reg ?_
            refine ev_move tab_ok rfl rfl rfl ?_
            refine ev_move tab_ok rfl rfl rfl ?_
            (refine ev_lenL tab_ok rfl rfl rfl rfl rfl rfl ?_)
            (refine ev_ilss tab_ok rfl rfl rfl rfl ?_)
            refine ev_nil ?_ rfl
            refine awp_cond rfl (fun hc => ?_) (fun hc => ?_)
            · refine awp_skip ?_
              have hlt : j < os.length := by simpa [ordL_length] using hc
              have hx : os[j]? = some os[j] := List.getElem?_eq_getElem hlt
              have hm := hmem os[j] (List.getElem_mem hlt)
              have hstep : (os.take (j + 1)).foldl (bestStep x acc) none = bestStep x acc ((os.take j).foldl (bestStep x acc) none) os[j] := foldl_take_succ hx
              have hsome : j ≠ 0 → ((os.take j).foldl (bestStep x acc) none).isSome = true := fun hj0 => bestStep_some (x := x) (acc := acc) (os.take j) none (by
                intro e
                have h1 : (os.take j).length = j := List.length_take_of_le (by omega)
                rw [e] at h1
                simp at h1
                omega)
              have hzero : j = 0 → ((os.take j).foldl (bestStep x acc) none) = none := fun e => by subst e; rfl
              generalize (os.take j).foldl (bestStep x acc) none = s at *
              generalize os[j] = o at *
              refine awp_seq ?_
              refine awp_block ?_
              refine awp_seq ?_
              refine awp_draw mixed ?_
              (refine ev_loadB tab_ok rfl rfl rfl rfl rfl rfl rfl ?_)
              refine ev_move tab_ok rfl rfl rfl ?_
              refine ev_move tab_ok rfl rfl rfl ?_
              (refine ev_iaL tab_ok rfl rfl rfl rfl rfl rfl rfl rfl rfl (by omega) (by rw [Int.toNat_natCast]; exact ordL_get hx) rfl ?_)
              (refine ev_loadE tab_ok rfl rfl rfl rfl rfl rfl ?_)
              refine ev_call rfl rfl rfl rfl rfl (place_spec x o 0 hb (by omega) (fun p hp => by have := hm.2 p hp; omega) (by decide)) rfl ?_
              refine ev_move tab_ok rfl rfl rfl ?_
              refine ev_extract tab_ok rfl rfl rfl rfl ?_
              refine ev_extract tab_ok rfl rfl rfl rfl ?_
              refine ev_assign tab_ok rfl rfl rfl ?_
              refine ev_assign tab_ok rfl rfl rfl ?_
              refine ev_nilD ?_ (by kernel_rfl)
              refine awp_seq ?_
              refine awp_reg ?_
              refine ev_move tab_ok rfl rfl rfl ?_
              refine ev_move tab_ok rfl rfl rfl ?_
              refine ev_call rfl rfl rfl rfl rfl (cost_spec (placeR x o 0).1 acc) rfl ?_
              refine ev_move tab_ok rfl rfl rfl ?_
              refine ev_extract tab_ok rfl rfl rfl rfl ?_
              refine ev_extract tab_ok rfl rfl rfl rfl ?_
              refine ev_assign tab_ok rfl rfl rfl ?_
              refine ev_assign tab_ok rfl rfl rfl ?_
              refine ev_nil ?_ rfl
              have hcond : (decide (j = 0) || decide ((costR (placeR x o 0).1 acc).1 < (bestO s).2)) = true → bestStep x acc s o = some (o, (costR (placeR x o 0).1 acc).1) := by
                intro hh
                by_cases e : j = 0
                · rw [hzero e]; rfl
                · cases s with
                  | none => rfl
                  | some s =>
                    rw [decide_eq_false e, Bool.false_or] at hh
                    have hh : (costR (placeR x o 0).1 acc).1 < s.2 := of_decide_eq_true hh
                    show (if _ then _ else _) = _
                    rw [if_pos hh]
              have hcond2 : (decide (j = 0) || decide ((costR (placeR x o 0).1 acc).1 < (bestO s).2)) = false → bestStep x acc s o = s := by
                intro hh
                simp only [Bool.or_eq_false_iff, decide_eq_false_iff_not] at hh
                cases s with
                | none => have := hsome hh.1; cases this
                | some s =>
                  have hh2 : ¬ (costR (placeR x o 0).1 acc).1 < s.2 := hh.2
                  show (if _ then _ else _) = _
                  rw [if_neg hh2]
              refine awp_seq_to ⟨[(85, .s (.bool (decide (j = 0) || decide ((costR (placeR x o 0).1 acc).1 < (bestO s).2)))), (16, .s (.int .i64 (costR (placeR x o 0).1 acc).1)), (13, .s (.int .i64 j)), (12, .s (.int .i64 (bestO s).2)), (11, .list (strL (bestO s).1)), (10, .list (ordL os)), (1, .list (strL acc)), (2, .ptr 0 0)], [.box (nodeC x) 25]⟩ ?_ ?_
              · cases hz : ((j : Int) == 0)
                all_goals
                  refine awp_reg ?_
                  refine ev_move tab_ok rfl rfl rfl ?_
                  (refine ev_ieql tab_ok rfl rfl rfl rfl ?_)
                  try refine ev_is (congrArg Value.bool (hz)) ?_
                  refine ev_move tab_ok rfl rfl rfl ?_
                  (first | refine ev_skip rfl rfl ?_ | refine ev_move tab_ok rfl rfl rfl ?_)
                  (first | refine ev_skip rfl rfl ?_ | refine ev_move tab_ok rfl rfl rfl ?_)
                  (first | refine ev_skip rfl rfl ?_ | refine ev_ilss tab_ok rfl rfl rfl rfl ?_)
                  (first | refine ev_pickT tab_ok rfl rfl rfl rfl rfl ?_ | refine ev_pickF tab_ok rfl rfl rfl rfl rfl ?_)
                  refine ev_nil ?_ rfl
                  refine ⟨[0], ?_, keep0⟩
                  all_goals (try refine le_of (by decide) ?_ ?_)
                  repeat' (first | exact trivial | exact .nil | (refine CutL.cons rfl ?_ ?_) | (refine EnvLe.cons rfl ?_ ?_) | (refine MvS.box (mvl_closed rfl)) | exact .ptr rfl | exact .frz rfl | (refine Mv.bool ?_) | fail)
                  all_goals (try simp only [wrap_addL, wrap_addR, wrap_subL, wrap_subR]); all_goals (try (rw [wrap_i64 (by omega) (by omega)]; omega))
                  all_goals
                    have : decide (j = 0) = ((j : Int) == 0) := by
                      by_cases e : j = 0
                      · subst e; rfl
                      · have : (j : Int) ≠ 0 := by omega
                        simp [e]
                    rw [this, hz]; simp
              refine awp_cond rfl (fun hc => ?_) (fun hc => ?_)
              · refine awp_reg ?_
                refine ev_move tab_ok rfl rfl rfl ?_
                refine ev_move tab_ok rfl rfl rfl ?_
                (refine ev_iaL tab_ok rfl rfl rfl rfl rfl rfl rfl rfl rfl (by omega) (by rw [Int.toNat_natCast]; exact ordL_get hx) rfl ?_)
                (refine ev_loadE tab_ok rfl rfl rfl rfl rfl rfl ?_)
                refine ev_move tab_ok rfl rfl rfl ?_
                refine ev_assign tab_ok rfl rfl rfl ?_
                refine ev_assign tab_ok rfl rfl rfl ?_
                refine ev_nil ?_ rfl
                refine awp_reg ?_
                refine ev_move tab_ok rfl rfl rfl ?_
                (refine ev_iadd tab_ok rfl rfl rfl rfl ?_)
                refine ev_assign tab_ok rfl rfl rfl ?_
                refine ev_nil ?_ rfl
                refine ⟨j + 1, [0], ?_, by omega, hlt, keep0⟩
                all_goals (try refine le_of (by decide) ?_ ?_)
                repeat' (first | exact trivial | exact .nil | (refine CutL.cons rfl ?_ ?_) | (refine EnvLe.cons rfl ?_ ?_) | (refine MvS.box (mvl_closed rfl)) | exact .ptr rfl | exact .frz rfl | (refine Mv.int ?_) | fail)
                all_goals (try simp only [wrap_addL, wrap_addR, wrap_subL, wrap_subR]); all_goals (try (rw [wrap_i64 (by omega) (by omega)]; omega))
                all_goals (rw [hstep, hcond hc]; first | rfl | exact .frz rfl)
              · refine awp_skip ?_
                refine awp_reg ?_
                refine ev_move tab_ok rfl rfl rfl ?_
                (refine ev_iadd tab_ok rfl rfl rfl rfl ?_)
                refine ev_assign tab_ok rfl rfl rfl ?_
                refine ev_nil ?_ rfl
                refine ⟨j + 1, [0], ?_, by omega, hlt, keep0⟩
                all_goals (try refine le_of (by decide) ?_ ?_)
                repeat' (first | exact trivial | exact .nil | (refine CutL.cons rfl ?_ ?_) | (refine EnvLe.cons rfl ?_ ?_) | (refine MvS.box (mvl_closed rfl)) | exact .ptr rfl | exact .frz rfl | (refine Mv.int ?_) | fail)
                all_goals (try simp only [wrap_addL, wrap_addR, wrap_subL, wrap_subR]); all_goals (try (rw [wrap_i64 (by omega) (by omega)]; omega))
                all_goals (rw [hstep, hcond2 hc]; try exact .frz rfl)
            · refine awp_exit ?_
              have hge : j = os.length := by
                have : ¬ j < os.length := by simpa [ordL_length] using hc
                omega
              subst hge
              rw [List.take_length]
              refine awp_seq ?_
              refine awp_reg ?_
              refine ev_move tab_ok rfl rfl rfl ?_
              refine ev_assign tab_ok rfl rfl rfl ?_
              refine ev_assign tab_ok rfl rfl rfl ?_
              refine ev_nil ?_ rfl
              refine awp_ret ?_
              exact ⟨_, [], rfl, Mv.val (by rw [hfin]) rfl, cut_of (by decide) .nil, keep0⟩
end Go.Proofs.Pm
end

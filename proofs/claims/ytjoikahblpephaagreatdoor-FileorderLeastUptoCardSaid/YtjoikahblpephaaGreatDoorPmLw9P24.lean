/- A part of the proof of one law: the machine on pure values and the walks of functions. -/
import Derived.Test.YtjoikahblpephaaGreatDoorPmLw9P13
import Derived.Test.YtjoikahblpephaaGreatDoorPmLw9P16
import Derived.Test.YtjoikahblpephaaGreatDoorPmLw9P19
import Derived.Test.YtjoikahblpephaaGreatDoorPmLw9P22
import Derived.Test.YtjoikahblpephaaGreatDoorPmLw9P23
set_option linter.all false
section
namespace Go.Proofs.Pm
open Go
def rfOf : Code → Option (Code × Code)
  | .rangeFunc _ _ a b => some (a, b)
  | .seq x y => match rfOf x with
    | some r => some r
    | none => rfOf y
  | .block _ c => rfOf c
  | .loop c => rfOf c
  | .cond _ x y => match rfOf x with
    | some r => some r
    | none => rfOf y
  | _ => none
def rfA (f : Func) : Code := match f.body with
  | some c => ((rfOf c).getD (.skip, .skip)).1
  | none => .skip
def rfB (f : Func) : Code := match f.body with
  | some c => ((rfOf c).getD (.skip, .skip)).2
  | none => .skip
theorem keep3 {r : List Nat} : ∀ i, i < 3 → (0 :: 1 :: 2 :: r)[i]? = some i := fun i h => by
  match i, h with
  | 0, _ => rfl
  | 1, _ => rfl
  | 2, _ => rfl
theorem keep4 {r : List Nat} : ∀ i, i < 4 → (0 :: 1 :: 2 :: 3 :: r)[i]? = some i := fun i h => by
  match i, h with
  | 0, _ => rfl
  | 1, _ => rfl
  | 2, _ => rfl
  | 3, _ => rfl
theorem valuesP_spec (l : List B) : FCall Tryz.prog 43 [.list (strL l)] [] (.fn 72 [] [.ptr 0 0]) [.box [.list (strL l)] 26] := by
  refine fcall_intro tab_ok Tryz.call43 Tryz.func43 rfl rfl rfl (fun G w ι => ?_)
  refine awp_seq ?_
  refine awp_reg ?_
  refine ev_box rfl rfl rfl rfl (by constructor) ?_
  refine ev_assign tab_ok rfl rfl rfl ?_
  refine ev_nil ?_ rfl
  refine awp_seq ?_
  refine awp_reg ?_
  refine ev_mkFn tab_ok rfl rfl rfl rfl rfl ?_
  refine ev_assign tab_ok rfl rfl rfl ?_
  refine ev_nil ?_ rfl
  refine awp_ret ?_
  exact ⟨_, [0], rfl, Mv.fnL .nil (.cons (.ptr rfl) .nil), cut_of (by decide) (.cons rfl (.box (mvl_closed rfl)) .nil), keep0⟩
theorem valuesIter {N : Nat} {φ : List Value → Obj} (l : List B) (hl : l.length ≤ 1099511627776) (hy : ∀ (a : List B) (x : B), a.length < l.length → YCall Tryz.prog [.yl 0, .s (.string x)] [.obj (slots N [(2, .ptr 1 0)]) φ, .box [.row (strL a) 2] 26, .row a.length 1 9] (.s (.bool true)) [.obj (slots N [(2, .ptr 1 0)]) φ, .box [.row (strL (a ++ [x])) 2] 26, .row (a.length + 1) 1 9]) :
    FCall Tryz.prog 72 [.yl 0, .ptr 3 0] [.obj (slots N [(2, .ptr 1 0)]) φ, .box [.row [] 2] 26, .row 0 1 9, .box [.list (strL l)] 26] (.tup []) [.obj (slots N [(2, .ptr 1 0)]) φ, .box [.row (strL l) 2] 26, .row l.length 1 9, .box [.list (strL l)] 26] := by
  refine fcall_intro tab_ok Tryz.call72 Tryz.func72 rfl rfl rfl (fun G w ι => ?_)
  refine awp_seq ?_
  refine awp_reg ?_
  (refine ev_loadB tab_ok rfl rfl rfl rfl rfl rfl rfl ?_)
  (refine ev_lenL tab_ok rfl rfl rfl rfl rfl rfl ?_)
  refine ev_move tab_ok rfl rfl rfl ?_
  refine ev_nil ?_ rfl
  refine awp_block ?_
  refine awp_loop (fun i : Nat => ⟨[(7, .s (.int .i64 i)), (6, .s (.int .i64 l.length)), (5, .list (strL l)), (0, .yl 0)], [.obj (slots N [(2, .ptr 1 0)]) φ, .box [.row (strL (l.take i)) 2] 26, .row (l.take i).length 1 9, .box [.list (strL l)] 26]⟩) (fun i => i ≤ l.length) (fun i => l.length - i) 0 [0, 1, 2, 3] ?_ (Nat.zero_le _) keep4 (fun i hi => ?_)
  · all_goals (try refine le_of (by decide) ?_ ?_)
    repeat' (first | exact trivial | exact .nil | (refine CutL.cons rfl ?_ ?_) | (refine EnvLe.cons rfl ?_ ?_) | exact MvS.row | (refine MvS.box (mvl_closed rfl)) | (refine slots_R ?_) | (refine And.intro ⟨_, rfl, ?_⟩ ?_) | exact .ptr rfl | exact .yl rfl | exact .frz rfl | (refine Mv.int ?_) | fail)
    all_goals (try simp only [wrap_addL, wrap_addR, wrap_subL, wrap_subR]); all_goals (try (rw [wrap_i64 (by omega) (by omega)]; omega))
    all_goals first | exact .box (.cons (.row rfl) .nil) | simp [strL_length]
  refine awp_seq ?_
  refine awp_reg ?_
  (refine ev_ilss tab_ok rfl rfl rfl rfl ?_)
  refine ev_nil ?_ rfl
  refine awp_seq ?_
  refine awp_cond rfl (fun hc => ?_) (fun hc => ?_)
  · refine awp_skip ?_
    have hlt : i < l.length := by simpa using hc
    have hx : l[i]? = some l[i] := List.getElem?_eq_getElem hlt
    have htk : l.take (i + 1) = l.take i ++ [l[i]] := by rw [List.take_add_one, hx]; rfl
    have hln : (l.take i).length = i := by rw [List.length_take]; omega
    have hyc := hy (l.take i) l[i] (by omega)
    rw [← htk] at hyc
    refine awp_seq ?_
    refine awp_block ?_
    refine awp_seq ?_
    refine awp_reg ?_
    (refine ev_iaL tab_ok rfl rfl rfl rfl rfl rfl rfl rfl rfl (by omega) (by rw [Int.toNat_natCast]; exact strL_get hx) rfl ?_)
    (refine ev_loadE tab_ok rfl rfl rfl rfl rfl rfl ?_)
    refine ev_assign tab_ok rfl rfl rfl ?_
    refine ev_nil ?_ rfl
    refine awp_seq ?_
    refine awp_reg ?_
    refine ev_move tab_ok rfl rfl rfl ?_
    refine ev_move tab_ok rfl rfl rfl ?_
    refine ev_yield (sg := [0, 1, 2]) (nu := []) (Sin := [_, _, _]) (Sout := [.obj (slots N [(2, .ptr 1 0)]) φ, .box [.row (strL (l.take (i + 1))) 2] 26, .row ((l.take i).length + 1) 1 9]) rfl rfl rfl rfl (hyc) (by repeat' (first | exact .nil | (refine MvL.cons ?_ ?_) | exact .yl rfl | exact .frz rfl | fail)) (by repeat' (first | exact trivial | (refine And.intro rfl ?_))) (by repeat' (first | exact .nil | (refine MvSs.cons ?_ ?_) | exact MvS.row | (refine MvS.box ?_) | (refine slots_R ?_) | (refine And.intro ⟨_, rfl, ?_⟩ ?_) | exact trivial | (refine MvL.cons ?_ ?_) | exact .ptr rfl | exact .row rfl | fail)) (by repeat' (first | exact .frz rfl | fail)) (by repeat' (first | exact .nil | (refine MvSs.cons ?_ ?_) | exact MvS.row | (refine MvS.box ?_) | (refine slots_R ?_) | (refine And.intro ⟨_, rfl, ?_⟩ ?_) | exact trivial | (refine MvL.cons ?_ ?_) | exact .ptr rfl | exact .row rfl | fail)) rfl rfl (by decide) rfl ?_
    refine ev_not tab_ok rfl rfl rfl ?_
    refine ev_nil ?_ rfl
    refine awp_cond rfl (fun hc => ?_) (fun hc => ?_)
    · exact absurd hc (by simp)
    · refine awp_skip ?_
      refine awp_reg ?_
      (refine ev_iadd tab_ok rfl rfl rfl rfl ?_)
      refine ev_move tab_ok rfl rfl rfl ?_
      refine ev_nil ?_ rfl
      refine ⟨i + 1, [0, 1, 2, 3], ?_, by omega, hlt, keep4⟩
      all_goals (try refine le_of (by decide) ?_ ?_)
      repeat' (first | exact trivial | exact .nil | (refine CutL.cons rfl ?_ ?_) | (refine EnvLe.cons rfl ?_ ?_) | (refine MvS.box (mvl_closed rfl)) | (refine slots_R ?_) | (refine And.intro ⟨_, rfl, ?_⟩ ?_) | exact .ptr rfl | exact .yl rfl | exact .frz rfl | (refine MvS.rowE ?_) | (refine Mv.int ?_) | fail)
      all_goals (try simp only [wrap_addL, wrap_addR, wrap_subL, wrap_subR]); all_goals (try (rw [wrap_i64 (by omega) (by omega)]; omega))
      all_goals first | exact .box (.cons (.row rfl) .nil) | skip
      all_goals (rw [htk, List.length_append]; rfl)
  · refine awp_exit ?_
    have hge : i = l.length := by
      have : ¬ i < l.length := by simpa using hc
      omega
    subst hge
    refine ⟨_, [0, 1, 2, 3], rfl, .frz rfl, ?_, keep4⟩
    rw [List.take_length]
    exact cut_of (by decide) (.cons rfl (slots_R ⟨⟨_, rfl, .ptr rfl⟩, trivial⟩) (.cons rfl (.box (.cons (.row rfl) .nil)) (.cons rfl .row (.cons rfl (.box (mvl_closed rfl)) .nil))))
theorem appendSeqP_spec (l : List B) (hl : l.length ≤ 1099511627776) : FCall Tryz.prog 103 [.s (.slice none 0 0), .fn 72 [] [.ptr 0 0]] [.box [.list (strL l)] 26] (.row (strL l) 1) [.box [.list (strL l)] 26, .row l.length 1 9] := by
  refine fcall_intro tab_ok Tryz.call103 Tryz.func103 rfl rfl rfl (fun G w ι => ?_)
  refine awp_seq ?_
  refine awp_reg ?_
  refine ev_box rfl rfl rfl rfl (by constructor) ?_
  refine ev_assign tab_ok rfl rfl rfl ?_
  refine ev_nil ?_ rfl
  refine awp_ghostB 1 1 9 rfl (by repeat constructor) (by constructor) ?_
  refine awp_seq ?_
  refine awp_seq ?_
  refine awp_reg ?_
  refine ev_move tab_ok rfl rfl rfl ?_
  refine ev_nil ?_ rfl
  refine awp_block ?_
  refine awp_rangeFunc (envC := [(2, .ptr 1 0)]) (envC' := [(2, .ptr 1 0)]) (sg := [3, 1, 2, 0]) (ρ := [0, 1, 2]) (pend := none) (st2 := ⟨[(2, .ptr 1 0)], [.box [.list (strL l)] 26, .box [.row (strL l) 2] 26, .row l.length 1 9]⟩) (args := [.yl 0, .ptr 3 0])
    (H' := [.box [.list (strL l)] 26, .box [.row (strL l) 2] 26, .row l.length 1 9]) (Sin := fun fn D => [_, _, _, _]) (Sout := fun fn D => [.obj (slots _ [(2, .ptr 1 0)]) (recO _ _ _ none fn D), .box [.row (strL l) 2] 26, .row l.length 1 9, .box [.list (strL l)] 26])
    rfl rfl ⟨rfl, trivial⟩ (fun fn D => valuesIter (N := Tryz.f103.ntmps) (φ := recO #[7] (rfA Tryz.f103) (rfB Tryz.f103) none fn D) l hl (fun a x ha => ?_)) (.cons (.yl rfl) (.cons (.ptr rfl) .nil)) (fun fn D => ⟨rfl, rfl, rfl, rfl, trivial⟩)
    (fun fn D => ?_) (fun fn D => ?_) (fun _ _ => rfl) (fun _ _ => rfl) (by decide) rfl (fun _ _ => rfl) (fun fn D => ?_) (by simp) keep1 ?_
  · have hal : a.length + 1 ≤ 1099511627776 := by omega
    refine ycall_intro (pend := none) rfl rfl (fun G w ι l => ?_)
    refine awp_reg ?_
    refine ev_assign tab_ok rfl rfl rfl ?_
    refine ev_nil ?_ rfl
    refine ⟨rfl, _, rfl, ?_⟩
    refine awp_block ?_
    refine awp_reg ?_
    (refine ev_loadB tab_ok rfl rfl rfl rfl rfl rfl rfl ?_)
    refine ev_move tab_ok rfl rfl rfl ?_
    refine ev_buildSlice tab_ok rfl rfl rfl rfl rfl rfl rfl rfl rfl rfl rfl rfl rfl rfl (by constructor) ?_
    (refine ev_append tab_ok rfl rfl rfl rfl rfl rfl rfl rfl rfl rfl rfl rfl rfl rfl (by repeat constructor) (by (simp [strL_length, intL_length]; done)) (by exact one_len _) (by exact strL_len _) (by (simp only [strL_length, intL_length, List.length_append, List.length_cons, List.length_nil]; omega)) (by (simp only [strL_length, intL_length, List.length_append, List.length_cons, List.length_nil]; omega)) ?_)
    refine ev_store tab_ok rfl rfl rfl rfl rfl rfl rfl rfl rfl (by repeat constructor) ?_
    refine ev_nil ?_ rfl
    refine ⟨[0, 1, 2], rfl, ?_, keep3⟩
    exact cut_of (by decide) (.cons rfl (slots_R ⟨⟨_, rfl, .ptr rfl⟩, trivial⟩) (.cons rfl (.box (.cons (Mv.rowE rfl (by simp [strL])) .nil)) (.cons rfl (MvS.rowE (by simp [strL])) .nil)))
  · exact .cons (slots_R ⟨⟨_, rfl, .ptr rfl⟩, trivial⟩) (.cons (.box (.cons (.row rfl) .nil)) (.cons .row (.cons (.box (mvl_closed rfl)) .nil)))
  · exact .cons (slots_R ⟨⟨_, rfl, .ptr rfl⟩, trivial⟩) (.cons (.box (.cons (.row rfl) .nil)) (.cons .row (.cons (.box (mvl_closed rfl)) .nil)))
  · all_goals (try refine le_of (by decide) ?_ ?_)
    repeat' (first | exact trivial | exact .nil | (refine CutL.cons rfl ?_ ?_) | (refine EnvLe.cons rfl ?_ ?_) | exact MvS.row | (refine MvS.box (mvl_closed rfl)) | exact .ptr rfl | fail)
    all_goals (try simp only [wrap_addL, wrap_addR, wrap_subL, wrap_subR]); all_goals (try (rw [wrap_i64 (by omega) (by omega)]; omega))
    all_goals exact .box (.cons (.row rfl) .nil)
  refine awp_seq ?_
  refine awp_reg ?_
  (refine ev_loadB tab_ok rfl rfl rfl rfl rfl rfl rfl ?_)
  refine ev_assign tab_ok rfl rfl rfl ?_
  refine ev_nil ?_ rfl
  refine awp_ret ?_
  exact ⟨_, [0, 2], rfl, .row rfl, cut_of (by decide) (.cons rfl (.box (mvl_closed rfl)) (.cons rfl .row .nil)), keep1⟩
end Go.Proofs.Pm
end
section
namespace Go.Proofs.Pm
open Go
theorem box_turn {G : Good} {w w' : World} {ι : Intp} {H : List LS} {i b c : Nat} {bs bs' : List PV} {t : TypeId} {vs' : Array Value} (hH : HRel G w ι H) (hi : H[i]? = some (.box bs t)) (hb : ι i = some (b, c)) (h1 : w'.os = w.os) (h2 : w'.tape = w.tape) (h3 : w'.output = w.output) (h4 : w.heap.size ≤ w'.heap.size)
    (h5 : ∀ k, k < w.heap.size → k ≠ b → w'.heap[k]? = w.heap[k]?) (h6 : w'.heap[b]? = some (.cells vs' t (0, 0))) (h7 : bs'.length ≤ vs'.size) (h8 : ∀ (j : Nat) (v : Value), j < bs'.length → vs'[j]? = some v → v.oneCell' = true)
    (h9 : ∀ (j : Nat) (x : PV) (v : Value), bs'[j]? = some x → vs'[j]? = some v → VRep (Prot G ι (H.set i (.box bs' t))) w' ι (H.set i (.box bs' t)) x v) : HRel G w' ι (H.set i (.box bs' t)) ∧ Ext G w ι H w' ι (H.set i (.box bs' t)) ∧ Out w ι H.length w' ι (H.set i (.box bs' t)).length := by
  have hll := (List.getElem?_eq_some_iff.1 hi).1
  have hset : ∀ {j : Nat} {s : LS}, H[j]? = some s → j ≠ i → (H.set i (.box bs' t))[j]? = some s := fun h hj => by rw [List.getElem?_set_ne (Ne.symm hj)]; exact h
  have he : Ext G w ι H w' ι (H.set i (.box bs' t)) := by
    refine ⟨by simp, h4, fun a v hp h => ?_, fun j cs t' hj => ⟨rfl, ?_⟩, fun j n sz t hj => ⟨n, hset hj (fun e => by subst e; rw [hi] at hj; cases hj), Nat.le_refl _, fun _ => rfl⟩, fun j kvs hj => ⟨rfl, kvs, hset hj (fun e => by subst e; rw [hi] at hj; cases hj)⟩, fun j xs φ hj => ⟨rfl, xs, φ, hset hj (fun e => by subst e; rw [hi] at hj; cases hj)⟩⟩
    · have hne : a.block ≠ b := fun e => by
        obtain ⟨n, sz, t', k1, k2⟩ := hp.2 i c hll (by rw [e]; exact hb)
        rw [hi] at k1; injection k1 with k1; cases k1
      refine ⟨by rw [World.cell?_of_block (h5 _ (World.block_lt_of_cell? w a h) hne)]; exact h, hp.1, fun j d hj e => ?_⟩
      simp only [List.length_set] at hj
      obtain ⟨n, sz, t', k1, k2⟩ := hp.2 j d hj e
      exact ⟨n, sz, t', hset k1 (fun e => by subst e; rw [hi] at k1; cases k1), k2⟩
    · by_cases hj2 : j = i
      · subst hj2
        rw [hi] at hj; injection hj with hj; injection hj with e1 e2; subst e2
        exact ⟨bs', by simp [hll]⟩
      · exact ⟨cs, hset hj hj2⟩
  exact ⟨hH.upd hll (fun _ _ => rfl) he (fun j b' c' hj hji e => h5 b' (hH.lt j b' c' hj e) (fun e2 => hji (hH.inj j i b' c' c hj hll e (by rw [hb, e2])))) ⟨b, c, vs', hb, h6, h7, h8, h9⟩ (fun b2 c2 e j d hj hji e2 => hji (hH.inj j i b2 d c2 hj hll e2 e)) (fun b2 c2 e => Nat.lt_of_lt_of_le (hH.lt i b2 c2 hll e) h4) (fun b2 c2 e off => hH.good i b2 c2 hll e off), he, ⟨h1, h2, h3, h4, fun k hk hn => h5 k hk (fun e => hn i c hll (by rw [hb, e])), fun j b' c' hj e => .inl ⟨by simpa using hj, e⟩⟩⟩
def junkS : LS → LS
  | .box cs t => .box (cs.map fun _ => .junk) t
  | s => s
def plainS : LS → Bool
  | .box _ _ => true
  | .row _ _ _ => true
  | .absent => true
  | _ => false
def scalarB : PV → Bool
  | .s _ => true
  | _ => false
theorem flatten_at {xs : List (List PV)} {sz : Nat} (hs : ∀ x ∈ xs, x.length = sz) {k : Nat} {p : PV} (hk : xs.flatten[k]? = some p) : ∃ x, xs[k / sz]? = some x ∧ x[k % sz]? = some p ∧ k / sz * sz + k % sz = k ∧ k % sz < sz := by
  have hl := (List.getElem?_eq_some_iff.1 hk).1
  rw [flatten_length hs] at hl
  obtain ⟨h1, h2, h3⟩ := place_of hl
  have hx : xs[k / sz]? = some xs[k / sz] := List.getElem?_eq_getElem h1
  have hxl := hs _ (List.getElem_mem h1)
  have hp : xs[k / sz][k % sz]? = some (xs[k / sz][k % sz]'(by omega)) := List.getElem?_eq_getElem _
  have := flatten_get hs hx hp
  rw [h3, hk] at this
  injection this with this
  exact ⟨_, hx, by rw [hp, this], h3, h2⟩
section
variable {P : Program} {Γ : Ctx}
theorem add_at (b k : Nat) : (⟨b, 0, none⟩ : Addr).add k = ⟨b, k, none⟩ := by unfold Addr.add; split <;> simp_all
theorem awp_thaw {c : Code} {Q : Exit → St → Prop} {env : List (Nat × PV)} {H H' : List LS} (t i : Nat) {xs : List (List PV)} {n sz : Nat} {et : TypeId} {s0 : ByteArray} {r0 : List PV} (ht : look env t = some (.row xs i)) (hi : H[i]? = some (.row n sz et)) (hn : xs.length = n) (hx : ∀ x ∈ xs, x.length = sz) (hs : xs.all (fun x => x.all scalarB) = true)
    (h0 : xs[0]? = some (.s (.string s0) :: r0)) (hk : Γ.H.length ≤ i) (hp : H.all plainS = true) (hH : (H.map junkS).set i (.box xs.flatten et) = H') (h : AWp P Γ c ⟨[(t, .sl i n)], H'⟩ Q) : AWp P Γ c ⟨env, H⟩ Q := fun a w hsr => by
  subst hH
  have hll := (List.getElem?_eq_some_iff.1 hi).1
  obtain ⟨ι, g1, g2, g3, g4, g5, g6, g7⟩ := hsr
  obtain ⟨v, hv, hr⟩ := g2 t _ ht
  obtain ⟨hlist, _, hown⟩ := row_inv hr
  have hown := hown sz et (by rw [hi, hn])
  have hn0 : 0 < xs.length := (List.getElem?_eq_some_iff.1 h0).1
  rcases hown with ⟨_, _, hz⟩ | ⟨b, cp, hb, rfl⟩
  · omega
  obtain ⟨A, cp2, sz2, vs, hve, hcap, hmax, hsz2, hA, hrep⟩ := list_inv hlist
  injection hve with hve1 hve2 hve3
  subst hve1 hve3
  have hszz : sz2 = sz := by
    have hm := List.mem_of_getElem? h0
    rw [← hsz2 _ hm, hx _ hm]
  subst hszz
  obtain ⟨ad, had, hcells⟩ := hA hn0
  injection had with had
  subst had
  rcases g1.rel i _ hi with ⟨e1, _⟩ | ⟨b', c', cur, e1, e2, e3, e4, e5⟩
  · rw [hb] at e1; cases e1
  rw [hb] at e1
  injection e1 with e1
  injection e1 with e1 e1'
  subst e1 e1'
  have hcur : ∀ (k : Nat) (p : PV), xs.flatten[k]? = some p → ∃ u, cur[k]? = some u ∧ p = .s u ∧ u.oneCell' = true := fun k p hkp => by
    obtain ⟨x, h1, h2, h3, h4⟩ := flatten_at hx hkp
    obtain ⟨q1, q2, q3⟩ := hcells _ _ _ h1 h4
    rw [add_at, h3, cell_of_row w b k cur et (0, 0) e2] at q1
    have hsc := List.all_eq_true.1 (List.all_eq_true.1 hs x (List.mem_of_getElem? h1)) p (List.mem_of_getElem? h2)
    cases p with
    | s u =>
      have := s_inv (hrep _ _ _ _ h1 h2)
      exact ⟨_, q1, by rw [this], q2⟩
    | _ => simp [scalarB] at hsc
  have hget : ∀ {j : Nat} {s : LS}, j ≠ i → H[j]? = some s → ((H.map junkS).set i (.box xs.flatten et))[j]? = some (junkS s) := fun hj h => by rw [List.getElem?_set_ne (Ne.symm hj)]; simp [h]
  have hself : ((H.map junkS).set i (.box xs.flatten et))[i]? = some (.box xs.flatten et) := by rw [List.getElem?_set_self (by simpa using hll)]
  have hlen : ((H.map junkS).set i (.box xs.flatten et)).length = H.length := by simp
  have hprot : ∀ (a : Addr), a.block ≠ b → Prot Γ.G ι H a.block a.off → Prot Γ.G ι ((H.map junkS).set i (.box xs.flatten et)) a.block a.off := fun a hne hp => by
    refine ⟨hp.1, fun j d hj e => ?_⟩
    rw [hlen] at hj
    obtain ⟨m, sz', t', k1, k2⟩ := hp.2 j d hj e
    have hji : j ≠ i := fun e2 => by subst e2; rw [hb] at e; injection e with e; injection e with e; exact hne e.symm
    exact ⟨m, sz', t', hget hji k1, k2⟩
  have hbn : ∀ {a : Addr} {k : IntKind} {z : Int}, a = ⟨a.block, 0, none⟩ → w.cell? a = some (.int k z) → a.block ≠ b := fun {a k z} ha hc e => by
    obtain ⟨u, hu, hpu, _⟩ := hcur 0 (.s (.string s0)) (by
      have := flatten_get hx h0 (j := 0) (p := .s (.string s0)) rfl
      simpa using this)
    rw [ha, e, cell_of_row w b 0 cur et (0, 0) e2, hu] at hc
    injection hc with hc
    injection hpu with hpu
    rw [← hpu] at hc
    cases hc
  have hGn : Γ.w.heap.size ≤ b := by
    rcases g7.new i b cp hll hb with ⟨h1, _⟩ | h1
    · omega
    · exact h1
  have hplain : ∀ {j : Nat} {s : LS}, H[j]? = some s → plainS s = true := fun h => List.all_eq_true.1 hp _ (List.mem_of_getElem? h)
  refine h a w ⟨ι, ⟨fun j s' hj => ?_, fun j j' b1 c1 d1 hj hj' => ?_, fun j b1 c1 hj => ?_, fun j b1 c1 hj => ?_, ⟨fun cc hcc => ?_, fun ii hii => ?_, fun ii hii => ?_, ?_⟩⟩, fun tt p hp => ?_, g3, g4, by rw [hlen]; exact g5, ⟨by rw [hlen]; exact g6.len, g6.heap, fun ad v hp hc => ?_, fun j cs t' hj => ?_, fun j m sz' t' hj => ?_, fun j kvs hj => ?_, fun j ys φ hj => ?_⟩, by rw [hlen]; exact g7⟩
  · by_cases hji : j = i
    · subst hji
      rw [hself] at hj
      injection hj with hj
      subst hj
      refine ⟨b, cp, cur, hb, e2, ?_, fun k u hk hu => ?_, fun k p u hp hu => ?_⟩
      · rw [flatten_length hx, e3, hn]; exact Nat.mul_le_mul_right _ e4
      · obtain ⟨u', h1, _, h3⟩ := hcur k _ (List.getElem?_eq_getElem hk)
        rw [hu] at h1; injection h1 with h1; rw [h1]; exact h3
      · obtain ⟨u', h1, h2, _⟩ := hcur k p hp
        rw [hu] at h1; injection h1 with h1; rw [h2, h1]; exact .s _
    · have hjl : j < H.length := by have := (List.getElem?_eq_some_iff.1 hj).1; rwa [hlen] at this
      have hHj : H[j]? = some H[j] := List.getElem?_eq_getElem hjl
      rw [hget hji hHj] at hj
      injection hj with hj
      have hpl := hplain hHj
      have hrel := g1.rel j _ hHj
      generalize H[j] = s at *
      cases s with
      | box cs t' =>
        subst hj
        obtain ⟨b1, c1, vs1, k1, k2, k3, k4, k5⟩ := hrel
        refine ⟨b1, c1, vs1, k1, k2, by simpa using k3, by simpa using k4, fun k x u hx hu => ?_⟩
        rw [List.getElem?_map] at hx
        cases hcx : cs[k]? with
        | none => rw [hcx] at hx; cases hx
        | some y => rw [hcx] at hx; injection hx with hx; rw [← hx]; exact .junk _
      | row m sz' t' => subst hj; exact hrel
      | absent => subst hj; exact hrel
      | arr _ _ _ => simp [plainS] at hpl
      | mp _ => simp [plainS] at hpl
      | obj _ _ => simp [plainS] at hpl
  · rw [hlen] at hj hj'; exact g1.inj j j' b1 c1 d1 hj hj'
  · rw [hlen] at hj; exact g1.lt j b1 c1 hj
  · rw [hlen] at hj; exact g1.good j b1 c1 hj
  · have h1 := g1.base.first cc hcc
    have h2 := g1.base.first 0 (by omega)
    exact ⟨h1.1, hprot ⟨1, cc, none⟩ (hbn (a := ⟨1, 0, none⟩) rfl h2.1) h1.2⟩
  · have h1 := g1.base.lo ii hii
    have h2 := g1.base.lo 0 (by omega)
    exact ⟨h1.1, hprot ⟨2, 2 * ii, none⟩ (hbn (a := ⟨2, 0, none⟩) rfl h2.1) h1.2⟩
  · have h1 := g1.base.hi ii hii
    have h2 := g1.base.lo 0 (by omega)
    exact ⟨h1.1, hprot ⟨2, 2 * ii + 1, none⟩ (hbn (a := ⟨2, 0, none⟩) rfl h2.1) h1.2⟩
  · obtain ⟨m, h1, h2⟩ := g1.base.len
    exact ⟨m, h1, hprot ⟨0, 0, none⟩ (hbn (a := ⟨0, 0, none⟩) rfl h1) h2⟩
  · simp only [look] at hp
    cases hb2 : Nat.beq t tt with
    | true =>
      rw [hb2] at hp
      simp only [cond_true, Option.some.injEq] at hp
      subst hp
      rw [← Nat.eq_of_beq_eq_true hb2]
      refine ⟨_, hv, ?_⟩
      rw [hn]
      exact .sl hb ⟨_, _, hself⟩ e4 e5
    | false => rw [hb2] at hp; simp at hp
  · obtain ⟨k1, k2⟩ := g6.prot ad v hp hc
    have := World.block_lt_of_cell? Γ.w ad hc
    exact ⟨k1, hprot ad (by omega) k2⟩
  · obtain ⟨k1, cs', k2⟩ := g6.box j cs t' hj
    exact ⟨k1, _, hget (fun e => by subst e; rw [hi] at k2; cases k2) k2⟩
  · obtain ⟨n', k1, k2, k3⟩ := g6.row j m sz' t' hj
    exact ⟨n', hget (fun e => by subst e; have := (List.getElem?_eq_some_iff.1 hj).1; omega) k1, k2, k3⟩
  · obtain ⟨_, _, k2⟩ := g6.mp j kvs hj
    have := hplain k2
    simp [plainS] at this
  · obtain ⟨_, _, _, k2⟩ := g6.obj j ys φ hj
    have := hplain k2
    simp [plainS] at this
theorem awp_seal {c : Code} {Q : Exit → St → Prop} {env env2 : List (Nat × PV)} {H H2 : List LS} {ρ : List Nat} (t i : Nat) {xs : List (List PV)} {cs : List PV} {n sz : Nat} {et : TypeId} (ht : look env t = some (.sl i n)) (hi : H[i]? = some (.box cs et)) (hcs : xs.flatten = cs) (hn : xs.length = n) (hx : ∀ x ∈ xs, x.length = sz) (hcl : xs.all closedLB = true)
    (hle : Le ρ ⟨env, H⟩ ⟨env2, H2⟩) (hρ : i ∉ ρ) (hk : ∀ i, i < Γ.H.length → ρ[i]? = some i) (h : AWp P Γ c ⟨(t, .list xs) :: env2, H2⟩ Q) : AWp P Γ c ⟨env, H⟩ Q := fun a w hsr => by
  subst hcs
  have hll := (List.getElem?_eq_some_iff.1 hi).1
  obtain ⟨ι, g1, g2, g3, g4, g5, g6, g7⟩ := id hsr
  obtain ⟨v, hv, hr⟩ := g2 t _ ht
  obtain ⟨b, cp, _, _, m, rfl, hb, _, hnm, hm⟩ := sl_inv hr
  obtain ⟨b', c', vs, e1, e2, e3, e4, e5⟩ := g1.rel i _ hi
  rw [hb] at e1
  injection e1 with e1
  injection e1 with e1 e1'
  subst e1 e1'
  have hcut := hle.cut
  refine h a w ⟨fun j => (ρ[j]?).bind ι, hcut.rel g1, fun tt p hp => ?_, g3, g4, g5.mono (fun j b c _ e => by
    obtain ⟨i, hi, e2⟩ := bindι e
    exact ⟨i, hcut.lt hi, e2⟩), hcut.ext hk g6, hcut.out hk g7⟩
  simp only [look] at hp
  cases hb2 : Nat.beq t tt with
  | true =>
    rw [hb2] at hp
    simp only [cond_true, Option.some.injEq] at hp
    subst hp
    rw [← Nat.eq_of_beq_eq_true hb2]
    refine ⟨_, hv, ?_⟩
    have hun : ∀ off, Prot Γ.G (fun j => (ρ[j]?).bind ι) H2 b off := fun off => by
      refine ⟨g1.good i b cp hll hb off, fun j d hj e => ?_⟩
      obtain ⟨i2, hi2, e2⟩ := bindι e
      have := g1.inj i2 i b d cp (hcut.lt hi2) hll e2 hb
      subst this
      exact absurd (List.mem_of_getElem? hi2) hρ
    refine .list (c := m) sz (fun k j => vs.getD (k * sz + j) undef) hn.symm (by omega) hm hx (fun _ => ⟨_, rfl, fun k j x hkx hj => ?_⟩) (fun k j x p hkx hjp => ?_)
    · have hp : x[j]? = some (x[j]'(by rw [hx x (List.mem_of_getElem? hkx)]; exact hj)) := List.getElem?_eq_getElem _
      have hf := flatten_get hx hkx hp
      have hfl := (List.getElem?_eq_some_iff.1 hf).1
      have hvl : k * sz + j < vs.size := Nat.lt_of_lt_of_le hfl e3
      have hgd : vs.getD (k * sz + j) undef = vs[k * sz + j] := by simp [hvl]
      rw [add_at, hgd]
      exact ⟨by rw [cell_of_row w b _ vs et (0, 0) e2]; exact Array.getElem?_eq_getElem hvl, e4 _ _ hfl (Array.getElem?_eq_getElem hvl), by rw [Nat.zero_add]; exact hun _⟩
    · have hf := flatten_get hx hkx hjp
      have hfl := (List.getElem?_eq_some_iff.1 hf).1
      have hvl : k * sz + j < vs.size := Nat.lt_of_lt_of_le hfl e3
      have hgd : vs.getD (k * sz + j) undef = vs[k * sz + j] := by simp [hvl]
      rw [hgd]
      have h1 := e5 _ _ _ hf (Array.getElem?_eq_getElem hvl)
      have hc1 := closed_get (List.all_eq_true.1 hcl x (List.mem_of_getElem? hkx)) p (List.mem_of_getElem? hjp)
      exact (h1.closed hc1).keep (fun a v hp hc => ⟨hc, hcut.prot hp⟩) (fun _ _ _ h => by simp at h) (fun _ _ _ _ h => by simp at h) (fun _ _ h => by simp at h) (fun _ _ _ h => by simp at h)
  | false =>
    rw [hb2] at hp
    obtain ⟨q, hq, hm⟩ := hle.env.get tt p hp
    obtain ⟨u, hu, hur⟩ := g2 tt q hq
    exact ⟨u, hu, hcut.val hm hur⟩
end
def strS (l : List B) : List PV := l.map fun s => .s (.string s)
theorem strS_length (l : List B) : (strS l).length = l.length := by simp [strS]
theorem strS_flatten (l : List B) : (strL l).flatten = strS l := by
  induction l with
  | nil => rfl
  | cons x r ih => simp [strL, strS] at ih ⊢; exact ih
def sortS (l : List B) : List B := ((l.map us).mergeSort fun x y => decide (x ≤ y)).map fun x => ⟨x.toArray⟩
theorem us_mk (x : List UInt8) : us ⟨x.toArray⟩ = x := by simp [us]
theorem mk_us (b : B) : (⟨(us b).toArray⟩ : B) = b := us_inj (us_mk _)
theorem sortS_us (l : List B) : (sortS l).map us = (l.map us).mergeSort fun x y => decide (x ≤ y) := by
  rw [sortS, List.map_map]
  conv => rhs; rw [← List.map_id ((l.map us).mergeSort fun x y => decide (x ≤ y))]
  exact List.map_congr_left (fun x _ => us_mk x)
theorem sortS_length (l : List B) : (sortS l).length = l.length := by simp [sortS]
theorem sortS_perm (l : List B) : (sortS l).Perm l := by
  have h := List.mergeSort_perm (l.map us) (fun x y => decide (x ≤ y))
  have h2 := h.map (fun x => (⟨x.toArray⟩ : B))
  rw [List.map_map] at h2
  have : l.map ((fun x => (⟨x.toArray⟩ : B)) ∘ us) = l := by
    conv => rhs; rw [← List.map_id l]
    exact List.map_congr_left (fun x _ => mk_us x)
  rwa [this] at h2
theorem sortP_spec (l : List B) (hl : l.length < 4611686018427387904) : FCall Tryz.prog 41 [.sl 0 l.length] [.box (strS l) 9] (.tup []) [.box (strS (sortS l)) 9] := by
  refine ⟨Tryz.call41, fun G w ι av hH hG hav => ?_⟩
  cases hav with
  | @cons _ _ v0 _ hv0 hav =>
  cases hav
  obtain ⟨b, c, _, _, m, rfl, hb, _, hnm, hm⟩ := sl_inv hv0
  obtain ⟨b', c', vs, e1, e2, e3, e4, e5⟩ := hH.rel 0 _ rfl
  rw [hb] at e1
  injection e1 with e1
  injection e1 with e1 e1'
  subst e1 e1'
  rw [strS_length] at e3
  have hcell : ∀ j (hj : j < l.length), vs[j]? = some (.string l[j]) := fun j hj => by
    have h1 : vs[j]? = some (vs[j]'(by omega)) := Array.getElem?_eq_getElem _
    rw [h1, s_inv (e5 j (.s (.string l[j])) _ (by simp [strS, hj]) h1)]
  have hHolds : Sort.Holds encStr w b 0 (l.map us).toArray := by
    intro j hj
    have hj : j < l.length := by simpa using hj
    have hg : (l.map us).toArray[j]! = us l[j] := by
      rw [getElem!_pos _ j (by simpa using hj)]; simp
    refine ⟨?_, ?_⟩
    · rw [hg, Nat.zero_add, cell_of_row w b j vs 9 (0, 0) e2, hcell j hj]
    · simp [World.frozen?, e2]
  have hblk : b < w.heap.size := (Array.getElem?_eq_some_iff.1 e2).1
  have hc := Tryz.slices_Sort_string b 0 m (l.map us) w hHolds hblk (by simpa using hl)
  rw [List.length_map] at hc
  refine Calls.mono hc ?_
  rintro e w' ⟨rfl, n, os, rfl⟩
  rw [← sortS_us]
  obtain ⟨vs', hvs'⟩ : ∃ vs', vs' = Sort.putCells encStr 0 ((sortS l).map us).toArray vs := ⟨_, rfl⟩
  have hsz' : vs'.size = vs.size := by rw [hvs']; simp [Sort.putCells]
  have hcell' : ∀ j (hj : j < (sortS l).length), vs'[j]? = some (.string (sortS l)[j]) := fun j hj => by
    have hjl : j < l.length := by rwa [sortS_length] at hj
    rw [hvs']
    simp only [Sort.putCells, Array.getElem?_mapIdx]
    rw [Array.getElem?_eq_getElem (by omega : j < vs.size)]
    have hg : ((sortS l).map us).toArray[j - 0]! = us (sortS l)[j] := by
      rw [getElem!_pos _ _ (by simpa using hj)]; simp
    rw [Option.map_some, if_pos ⟨Nat.zero_le _, by simpa using hj⟩, hg]
  have hheap : ∀ k, k < w.heap.size → (Sort.grow (Sort.putRow encStr (Sort.ahead w n) b 0 ((sortS l).map us).toArray) os).heap[k]? = (w.heap.modify b (Sort.onCells (Sort.putCells encStr 0 ((sortS l).map us).toArray)))[k]? := fun k hk => by
    show ((w.heap.modify b _) ++ os)[k]? = _
    rw [Array.getElem?_append_left (by simpa using hk)]
  obtain ⟨q1, q2, q3⟩ := box_turn (w' := Sort.grow (Sort.putRow encStr (Sort.ahead w n) b 0 ((sortS l).map us).toArray) os) (bs' := strS (sortS l)) (vs' := vs') hH rfl hb rfl rfl rfl (by simp) (fun k hk hkb => by
      rw [hheap k hk, Array.getElem?_modify, if_neg (Ne.symm hkb)]) (by
      rw [hheap b hblk, Array.getElem?_modify, if_pos rfl, e2, hvs']; rfl) (by rw [strS_length, sortS_length, hsz']; exact e3) (fun j v hj hv => by
      rw [strS_length] at hj
      rw [hcell' j hj] at hv
      injection hv with hv
      subst hv; rfl) (fun j x v hx hv => by
      have hj : j < (sortS l).length := by have := (List.getElem?_eq_some_iff.1 hx).1; rwa [strS_length] at this
      rw [hcell' j hj] at hv
      injection hv with hv
      have : x = .s (.string (sortS l)[j]) := by simpa [strS, hj] using hx.symm
      rw [this, ← hv]
      exact .s _)
  exact ⟨_, ι, rfl, q1, .tup rfl (fun j x v hx => by simp at hx), q2, q3⟩
end Go.Proofs.Pm
end
section
namespace Go.Proofs.Pm
open Go
theorem strS_closed (l : List B) : closedLB (strS l) = true := by
  induction l with
  | nil => rfl
  | cons x r ih => simpa [strS, closedLB, closedB] using ih
theorem strS_mv {R : Nat → Nat → Prop} (l : List B) : MvL R (strS l) (strS l) := mvl_closed (strS_closed l)
theorem awp_junk {P : Program} {Γ : Ctx} {c : Code} {Q : Exit → St → Prop} {env : List (Nat × PV)} {H H' : List LS} (i : Nat) {cs : List PV} {t : TypeId} (hi : H[i]? = some (.box cs t)) (hH : H.set i (.box (cs.map fun _ => .junk) t) = H') (h : AWp P Γ c ⟨env, H'⟩ Q) : AWp P Γ c ⟨env, H⟩ Q := fun a w hsr => by
  subst hH
  have hll := (List.getElem?_eq_some_iff.1 hi).1
  obtain ⟨ι, g1, g2, g3, g4, g5, g6, g7⟩ := hsr
  obtain ⟨b, cp, vs, e1, e2, e3, e4, e5⟩ := g1.rel i _ hi
  obtain ⟨q1, q2, q3⟩ := box_turn (w' := w) (bs' := cs.map fun _ => .junk) g1 hi e1 rfl rfl rfl (Nat.le_refl _) (fun _ _ _ => rfl) e2 (by simpa using e3) (by simpa using e4) (fun j x v hx hv => by
    rw [List.getElem?_map] at hx
    cases hc : cs[j]? with
    | none => rw [hc] at hx; cases hx
    | some y => rw [hc] at hx; injection hx with hx; rw [← hx]; exact .junk _)
  exact h a w ⟨ι, q1, fun t p hp => by obtain ⟨v, hv, hr⟩ := g2 t p hp; exact ⟨v, hv, hr.ext q2⟩, g3, g4, g5.out q3, g6.trans q2, g7.trans q3⟩
theorem collectP_spec (l : List B) (hl : l.length ≤ 1099511627776) : FCall Tryz.prog 71 [.fn 72 [] [.ptr 0 0]] [.box [.list (strL l)] 26] (.row (strL l) 1) [.box [.list (strL l)] 26, .row l.length 1 9] := by
  refine fcall_intro tab_ok Tryz.call71 Tryz.func71 rfl rfl rfl (fun G w ι => ?_)
  refine awp_seq ?_
  refine awp_reg ?_
  refine ev_assign tab_ok rfl rfl rfl ?_
  refine ev_nil ?_ rfl
  refine awp_seq ?_
  refine awp_reg ?_
  refine ev_move tab_ok rfl rfl rfl ?_
  refine ev_callG (sg := [0]) (nu := [1]) (Sin := [_]) (Sout := [.box [.list (strL l)] 26, .row l.length 1 9]) rfl rfl rfl rfl (appendSeqP_spec l hl) (by repeat' (first | exact .nil | (refine MvL.cons ?_ ?_) | exact .ptr rfl | exact .frz rfl | (refine Mv.fnL ?_ ?_) | fail)) (by repeat' (first | exact trivial | (refine And.intro rfl ?_))) (by repeat' (first | exact .nil | (refine MvSs.cons ?_ ?_) | (refine MvS.box ?_) | exact mvl_closed rfl | fail)) (by repeat' (first | exact .row rfl | fail)) (by repeat' (first | exact .nil | (refine MvSs.cons ?_ ?_) | exact MvS.row | (refine MvS.box ?_) | exact mvl_closed rfl | fail)) rfl rfl (by decide) rfl ?_
  refine ev_assign tab_ok rfl rfl rfl ?_
  refine ev_nil ?_ rfl
  refine awp_ret ?_
  exact ⟨_, [0, 1], rfl, .row rfl, cut_of (by decide) (.cons rfl (.box (mvl_closed rfl)) (.cons rfl .row .nil)), keep1⟩
theorem sortNil_spec : FCall Tryz.prog 41 [.list []] [] (.tup []) [] := by
  refine ⟨Tryz.call41, fun G w ι av hH hG hav => ?_⟩
  cases hav with
  | @cons _ _ v0 _ hv0 hav =>
  cases hav
  obtain ⟨A, cp, sz, vs, rfl, _⟩ := list_inv hv0
  refine Calls.mono (Tryz.slices_Sort_string_none A cp w) ?_
  rintro e w' ⟨rfl, rfl⟩
  exact ⟨_, ι, rfl, hH, .tup rfl (fun j x v hx => by simp at hx), Ext.refl _ _ _ _, Out.refl _ _ _⟩
theorem sortedP_spec (l : List B) (hl : l.length ≤ 1099511627776) : FCall Tryz.prog 42 [.fn 72 [] [.ptr 0 0]] [.box [.list (strL l)] 26] (.list (strL (sortS l))) [.box [.junk] 26] := by
  refine fcall_intro tab_ok Tryz.call42 Tryz.func42 rfl rfl rfl (fun G w ι => ?_)
  refine awp_seq ?_
  refine awp_reg ?_
  refine ev_assign tab_ok rfl rfl rfl ?_
  refine ev_nil ?_ rfl
  refine awp_seq ?_
  refine awp_reg ?_
  refine ev_move tab_ok rfl rfl rfl ?_
  refine ev_callG (sg := [0]) (nu := [1]) (Sin := [_]) (Sout := [.box [.list (strL l)] 26, .row l.length 1 9]) rfl rfl rfl rfl (collectP_spec l hl) (by repeat' (first | exact .nil | (refine MvL.cons ?_ ?_) | exact .ptr rfl | (refine Mv.fnL ?_ ?_) | fail)) (by repeat' (first | exact trivial | (refine And.intro rfl ?_))) (by repeat' (first | exact .nil | (refine MvSs.cons ?_ ?_) | (refine MvS.box ?_) | exact mvl_closed rfl | fail)) (by repeat' (first | exact .row rfl | fail)) (by repeat' (first | exact .nil | (refine MvSs.cons ?_ ?_) | exact MvS.row | (refine MvS.box ?_) | exact mvl_closed rfl | fail)) rfl rfl (by decide) rfl ?_
  refine ev_assign tab_ok rfl rfl rfl ?_
  refine ev_nil ?_ rfl
  cases l with
  | nil =>
    refine awp_weaken ⟨[(3, .list [])], [.box [.list []] 26]⟩ [0] ?_ keep1 ?_
    · all_goals (try refine le_of (by decide) ?_ ?_)
      repeat' (first | exact trivial | exact .nil | (refine CutL.cons rfl ?_ ?_) | (refine EnvLe.cons rfl ?_ ?_) | (refine MvS.box (mvl_closed rfl)) | exact .frz rfl | fail)
      all_goals (try simp only [wrap_addL, wrap_addR, wrap_subL, wrap_subR]); all_goals (try (rw [wrap_i64 (by omega) (by omega)]; omega))
    refine awp_seq ?_
    refine awp_reg ?_
    refine ev_move tab_ok rfl rfl rfl ?_
    refine ev_call rfl rfl rfl rfl rfl (sortNil_spec) rfl ?_
    refine ev_nil ?_ rfl
    refine awp_seq ?_
    refine awp_reg ?_
    refine ev_move tab_ok rfl rfl rfl ?_
    refine ev_assign tab_ok rfl rfl rfl ?_
    refine ev_nil ?_ rfl
    refine awp_junk 0 rfl rfl ?_
    refine awp_ret ?_
    exact ⟨_, [0], rfl, Mv.val (by simp [sortS, strL]) rfl, cut_of (by decide) (.cons rfl (.box (mvl_closed rfl)) .nil), keep1⟩
  | cons x r =>
    have hln : (x :: r).length = r.length + 1 := rfl
    refine awp_thaw 3 1 (xs := strL (x :: r)) (n := (x :: r).length) (sz := 1) (et := 9) rfl rfl (strL_length _) (strL_len _) (by simp [strL, scalarB]) (s0 := x) (r0 := []) rfl (Nat.le_refl _) rfl rfl ?_
    rw [strS_flatten]
    generalize x :: r = l at *
    refine awp_seq ?_
    refine awp_reg ?_
    refine ev_move tab_ok rfl rfl rfl ?_
    refine ev_callG (sg := [1]) (nu := []) (Sin := [_]) (Sout := [.box (strS (sortS l)) 9]) rfl rfl rfl rfl (sortP_spec l (by omega)) (by repeat' (first | exact .nil | (refine MvL.cons ?_ ?_) | exact .sl rfl | fail)) (by repeat' (first | exact trivial | (refine And.intro rfl ?_))) (by repeat' (first | exact .nil | (refine MvSs.cons ?_ ?_) | (refine MvS.box ?_) | exact strS_mv _ | fail)) (by repeat' (first | exact .frz rfl | fail)) (by repeat' (first | exact .nil | (refine MvSs.cons ?_ ?_) | (refine MvS.box ?_) | exact strS_mv _ | fail)) rfl rfl (by decide) rfl ?_
    refine ev_nil ?_ rfl
    refine awp_seal 3 1 (xs := strL (sortS l)) (n := l.length) (sz := 1) (ρ := [0]) (env2 := []) (H2 := [.box [.junk] 26]) rfl rfl (strS_flatten _) (by rw [strL_length, sortS_length]) (strL_len _) (by simp [strL, closedLB, closedB]) ?_ (by decide) keep1 ?_
    · all_goals (try refine le_of (by decide) ?_ ?_)
      repeat' (first | exact trivial | exact .nil | (refine CutL.cons rfl ?_ ?_) | (refine MvS.box (mvl_closed rfl)) | fail)
      all_goals (try simp only [wrap_addL, wrap_addR, wrap_subL, wrap_subR]); all_goals (try (rw [wrap_i64 (by omega) (by omega)]; omega))
    refine awp_seq ?_
    refine awp_reg ?_
    refine ev_move tab_ok rfl rfl rfl ?_
    refine ev_assign tab_ok rfl rfl rfl ?_
    refine ev_nil ?_ rfl
    refine awp_ret ?_
    exact ⟨_, [0], rfl, .frz rfl, cut_of (by decide) (.cons rfl (.box (mvl_closed rfl)) .nil), keep1⟩
end Go.Proofs.Pm
end
section
namespace Go.Proofs.Pm
open Go
theorem leL_trans (a b c : List UInt8) (h1 : decide (a ≤ b) = true) (h2 : decide (b ≤ c) = true) : decide (a ≤ c) = true := by
  simp only [decide_eq_true_eq] at *
  exact List.le_trans h1 h2
theorem leL_total (a b : List UInt8) : (decide (a ≤ b) || decide (b ≤ a)) = true := by
  simp only [Bool.or_eq_true, decide_eq_true_eq]
  exact List.le_total a b
theorem sortS_congr {a b : List B} (h : a.Perm b) : sortS a = sortS b := by
  unfold sortS
  congr 1
  refine List.Perm.eq_of_pairwise (le := fun x y => decide (x ≤ y) = true) (fun x y _ _ h1 h2 => ?_) (List.pairwise_mergeSort leL_trans leL_total _) (List.pairwise_mergeSort leL_trans leL_total _) (((List.mergeSort_perm _ _).trans (h.map us)).trans (List.mergeSort_perm _ _).symm)
  simp only [decide_eq_true_eq] at h1 h2
  exact List.le_antisymm h1 h2
theorem sortS_iff {a b : List B} : sortS a = sortS b ↔ a.Perm b :=
  ⟨fun h => (sortS_perm a).symm.trans (h ▸ sortS_perm b), sortS_congr⟩
theorem perm_of {α : Type} [DecidableEq α] : ∀ {a b : List α}, a.Nodup → (∀ p ∈ a, p ∈ b) → a.length = b.length → a.Perm b
  | [], b, _, _, h => by
    have : b = [] := List.eq_nil_of_length_eq_zero (by simpa using h.symm)
    rw [this]
  | p :: r, b, hn, hs, hl => by
    rw [List.nodup_cons] at hn
    have hp := hs p List.mem_cons_self
    have h1 := List.perm_cons_erase hp
    have h2 : r.Perm (b.erase p) := perm_of hn.2 (fun q hq => by
      have hne : q ≠ p := fun e => hn.1 (e ▸ hq)
      exact (List.mem_erase_of_ne hne).2 (hs q (List.mem_cons_of_mem _ hq))) (by
      have := h1.length_eq
      simp only [List.length_cons] at this hl
      omega)
    exact (h2.cons p).trans h1.symm
theorem ordBad_iff {l : List B} : ∀ (r pre : List B), ordBad l pre r = false ↔ (∀ p ∈ r, p ∈ l) ∧ r.Nodup ∧ ∀ p ∈ r, p ∉ pre
  | [], pre => by simp [ordBad]
  | q :: r, pre => by
    rw [ordBad, Bool.or_eq_false_iff, Bool.or_eq_false_iff, ordBad_iff r, Bool.not_eq_false', has_iff, has_not, List.nodup_cons]
    constructor
    · rintro ⟨⟨h1, h2⟩, h3, h4, h5⟩
      refine ⟨fun p hp => ?_, ⟨fun hq => h5 q hq (List.mem_append_right _ (List.mem_singleton.2 rfl)), h4⟩, fun p hp => ?_⟩
      · rcases List.mem_cons.1 hp with rfl | hp
        · exact h1
        · exact h3 p hp
      · rcases List.mem_cons.1 hp with rfl | hp
        · exact h2
        · exact fun hm => h5 p hp (List.mem_append_left _ hm)
    · rintro ⟨h1, ⟨h2, h3⟩, h4⟩
      refine ⟨⟨h1 q List.mem_cons_self, h4 q List.mem_cons_self⟩, fun p hp => h1 p (List.mem_cons_of_mem _ hp), h3, fun p hp hm => ?_⟩
      rcases List.mem_append.1 hm with hm | hm
      · exact h4 p (List.mem_cons_of_mem _ hp) hm
      · rw [List.mem_singleton] at hm
        exact h2 (hm ▸ hp)
theorem order_ok {l order : List B} (hn : l.Nodup) : (order.length = l.length ∧ ordBad l [] order = false) ↔ order.Perm l := by
  rw [ordBad_iff]
  constructor
  · rintro ⟨h1, h2, h3, _⟩
    exact perm_of h3 h2 h1
  · intro h
    exact ⟨h.length_eq, fun p hp => h.mem_iff.1 hp, h.nodup_iff.2 hn, fun p _ hm => by cases hm⟩
def placeBad (x : Node) (order : List B) (start : Int) : Bool := (!valid18 x || decide (start < 0)) || !sameStrs (sortS order) (sortS (files47 x))
theorem PlaceR_eq (x : Node) (order : List B) (start : Int) : PlaceR x order start = if placeBad x order start then ([], 1) else placeR x order start := by
  unfold PlaceR placeBad
  cases hv : valid18 x with
  | false => simp
  | true =>
    have hn := files47_nodup x
    by_cases hs : start < 0
    · simp [hs]
    · have ho := order_ok (order := order) hn
      by_cases hp : order.Perm (files47 x)
      · obtain ⟨h1, h2⟩ := ho.2 hp
        have h3 : sameStrs (sortS order) (sortS (files47 x)) = true := sameStrs_iff.2 (sortS_iff.2 hp)
        simp [hs, h1, h2, h3]
      · have h3 : sameStrs (sortS order) (sortS (files47 x)) = false := by
          rw [← Bool.not_eq_true, sameStrs_iff, sortS_iff]; exact hp
        by_cases hl : order.length = (files47 x).length
        · have h2 : ordBad (files47 x) [] order = true := by
            cases hb : ordBad (files47 x) [] order with
            | true => rfl
            | false => exact absurd (ho.1 ⟨hl, hb⟩) hp
          simp [hs, hl, h2, h3]
        · simp [hs, hl, h3]
end Go.Proofs.Pm
end
section
namespace Go.Proofs.Pm
open Go
theorem placeP_spec (x : Node) (order : List B) (start : Int) (hb : x.bulk ≤ 4294967280) (ho : order.length ≤ 1099511627776) : FCall Tryz.prog 22 [.agg (nodeC x), .list (strL order), .s (.int .i64 start)] [] (.tup [.list (filesC (PlaceR x order start).1), .s (.int .i64 (PlaceR x order start).2)]) [] := by
  have hpl := files47_length x
  have hfin := PlaceR_eq x order start
  refine fcall_intro tab_ok Tryz.call22 Tryz.func22 rfl rfl rfl (fun G w ι => ?_)
  refine awp_seq ?_
  refine awp_reg ?_
  refine ev_box rfl rfl rfl rfl (by constructor) ?_
  refine ev_assign tab_ok rfl rfl rfl ?_
  refine ev_assign tab_ok rfl rfl rfl ?_
  refine ev_nil ?_ rfl
  refine awp_seq ?_
  refine awp_seq_to ⟨[(29, .s (.bool (placeBad x order start))), (1, .list (strL order)), (2, .s (.int .i64 start)), (3, .ptr 0 0)], [.box (nodeC x) 25]⟩ ?_ ?_
  · cases hz : valid18 x
    · refine awp_draw mixed ?_
      (refine ev_loadB tab_ok rfl rfl rfl rfl rfl rfl rfl ?_)
      refine ev_call rfl rfl rfl rfl rfl (validP_spec x (by omega)) rfl ?_
      try refine ev_as (show _ = PV.s (.bool _) by rw [hz]) ?_
      refine ev_not tab_ok rfl rfl rfl ?_
      refine ev_move tab_ok rfl rfl rfl ?_
      (refine ev_skip rfl rfl ?_)
      (refine ev_skip rfl rfl ?_)
      (refine ev_pickT tab_ok rfl rfl rfl rfl rfl ?_)
      refine ev_move tab_ok rfl rfl rfl ?_
      (refine ev_skip rfl rfl ?_)
      (refine ev_skip rfl rfl ?_)
      (refine ev_skip rfl rfl ?_)
      (refine ev_skip rfl rfl ?_)
      (refine ev_skip rfl rfl ?_)
      (refine ev_skip rfl rfl ?_)
      (refine ev_skip rfl rfl ?_)
      (refine ev_skip rfl rfl ?_)
      (refine ev_skip rfl rfl ?_)
      (refine ev_pickT tab_ok rfl rfl rfl rfl rfl ?_)
      refine ev_nilD ?_ (by kernel_rfl)
      refine ⟨[0], ?_, keep0⟩
      all_goals (try refine le_of (by decide) ?_ ?_)
      repeat' (first | exact trivial | exact .nil | (refine CutL.cons rfl ?_ ?_) | (refine EnvLe.cons rfl ?_ ?_) | (refine MvS.box (mvl_closed rfl)) | exact .ptr rfl | exact .frz rfl | (refine Mv.bool ?_) | fail)
      all_goals (try simp only [wrap_addL, wrap_addR, wrap_subL, wrap_subR]); all_goals (try (rw [wrap_i64 (by omega) (by omega)]; omega))
      all_goals simp [placeBad, hz]
    · cases hy : decide (start < 0)
      · refine awp_draw mixed ?_
        (refine ev_loadB tab_ok rfl rfl rfl rfl rfl rfl rfl ?_)
        refine ev_call rfl rfl rfl rfl rfl (validP_spec x (by omega)) rfl ?_
        try refine ev_as (show _ = PV.s (.bool _) by rw [hz]) ?_
        refine ev_not tab_ok rfl rfl rfl ?_
        refine ev_move tab_ok rfl rfl rfl ?_
        (refine ev_move tab_ok rfl rfl rfl ?_)
        (refine ev_ilss tab_ok rfl rfl rfl rfl ?_)
        try refine ev_is (congrArg Value.bool (hy)) ?_
        (refine ev_pickF tab_ok rfl rfl rfl rfl rfl ?_)
        refine ev_move tab_ok rfl rfl rfl ?_
        (refine ev_move tab_ok rfl rfl rfl ?_)
        (refine ev_callG (sg := []) (nu := [1]) (Sin := []) (Sout := [.box [.list (strL order)] 26]) (r' := .fn 72 [] [.ptr 1 0]) rfl rfl rfl rfl (valuesP_spec order) (by repeat' (first | exact .nil | (refine MvL.cons ?_ ?_) | exact .frz rfl | fail)) (by repeat' (first | exact trivial | (refine And.intro rfl ?_))) (by repeat' (first | exact .nil | fail)) (by repeat' (first | exact .nil | (refine MvL.cons ?_ ?_) | exact .ptr rfl | (refine Mv.fnL ?_ ?_) | fail)) (by repeat' (first | exact .nil | (refine MvSs.cons ?_ ?_) | (refine MvS.box ?_) | exact mvl_closed rfl | fail)) rfl rfl (by decide) rfl ?_)
        (refine ev_callG (sg := [1]) (nu := []) (Sin := [_]) (Sout := [.box [.junk] 26]) rfl rfl rfl rfl (sortedP_spec order ho) (by repeat' (first | exact .nil | (refine MvL.cons ?_ ?_) | exact .ptr rfl | (refine Mv.fnL ?_ ?_) | fail)) (by repeat' (first | exact trivial | (refine And.intro rfl ?_))) (by repeat' (first | exact .nil | (refine MvSs.cons ?_ ?_) | (refine MvS.box ?_) | exact mvl_closed rfl | fail)) (by repeat' (first | exact .frz rfl | fail)) (by repeat' (first | exact .nil | (refine MvSs.cons ?_ ?_) | (refine MvS.box ?_) | exact mvl_closed rfl | fail)) rfl rfl (by decide) rfl ?_)
        (refine ev_loadB tab_ok rfl rfl rfl rfl rfl rfl rfl ?_)
        (refine ev_call rfl rfl rfl rfl rfl (filesP_spec x hb) rfl ?_)
        (refine ev_callG (sg := []) (nu := [2]) (Sin := []) (Sout := [.box [.list (strL (files47 x))] 26]) (r' := .fn 72 [] [.ptr 2 0]) rfl rfl rfl rfl (valuesP_spec (files47 x)) (by repeat' (first | exact .nil | (refine MvL.cons ?_ ?_) | exact .frz rfl | fail)) (by repeat' (first | exact trivial | (refine And.intro rfl ?_))) (by repeat' (first | exact .nil | fail)) (by repeat' (first | exact .nil | (refine MvL.cons ?_ ?_) | exact .ptr rfl | (refine Mv.fnL ?_ ?_) | fail)) (by repeat' (first | exact .nil | (refine MvSs.cons ?_ ?_) | (refine MvS.box ?_) | exact mvl_closed rfl | fail)) rfl rfl (by decide) rfl ?_)
        (refine ev_callG (sg := [2]) (nu := []) (Sin := [_]) (Sout := [.box [.junk] 26]) rfl rfl rfl rfl (sortedP_spec (files47 x) (by omega)) (by repeat' (first | exact .nil | (refine MvL.cons ?_ ?_) | exact .ptr rfl | (refine Mv.fnL ?_ ?_) | fail)) (by repeat' (first | exact trivial | (refine And.intro rfl ?_))) (by repeat' (first | exact .nil | (refine MvSs.cons ?_ ?_) | (refine MvS.box ?_) | exact mvl_closed rfl | fail)) (by repeat' (first | exact .frz rfl | fail)) (by repeat' (first | exact .nil | (refine MvSs.cons ?_ ?_) | (refine MvS.box ?_) | exact mvl_closed rfl | fail)) rfl rfl (by decide) rfl ?_)
        (refine ev_call rfl rfl rfl rfl rfl (equal_spec (sortS order) (sortS (files47 x))) rfl ?_)
        (refine ev_not tab_ok rfl rfl rfl ?_)
        (refine ev_pickF tab_ok rfl rfl rfl rfl rfl ?_)
        refine ev_nilD ?_ (by kernel_rfl)
        refine ⟨[0], ?_, keep0⟩
        all_goals (try refine le_of (by decide) ?_ ?_)
        repeat' (first | exact trivial | exact .nil | (refine CutL.cons rfl ?_ ?_) | (refine EnvLe.cons rfl ?_ ?_) | (refine MvS.box (mvl_closed rfl)) | exact .ptr rfl | exact .frz rfl | (refine Mv.bool ?_) | fail)
        all_goals (try simp only [wrap_addL, wrap_addR, wrap_subL, wrap_subR]); all_goals (try (rw [wrap_i64 (by omega) (by omega)]; omega))
        all_goals simp [placeBad, hz, hy]
      · refine awp_draw mixed ?_
        (refine ev_loadB tab_ok rfl rfl rfl rfl rfl rfl rfl ?_)
        refine ev_call rfl rfl rfl rfl rfl (validP_spec x (by omega)) rfl ?_
        try refine ev_as (show _ = PV.s (.bool _) by rw [hz]) ?_
        refine ev_not tab_ok rfl rfl rfl ?_
        refine ev_move tab_ok rfl rfl rfl ?_
        (refine ev_move tab_ok rfl rfl rfl ?_)
        (refine ev_ilss tab_ok rfl rfl rfl rfl ?_)
        try refine ev_is (congrArg Value.bool (hy)) ?_
        (refine ev_pickF tab_ok rfl rfl rfl rfl rfl ?_)
        refine ev_move tab_ok rfl rfl rfl ?_
        (refine ev_skip rfl rfl ?_)
        (refine ev_skip rfl rfl ?_)
        (refine ev_skip rfl rfl ?_)
        (refine ev_skip rfl rfl ?_)
        (refine ev_skip rfl rfl ?_)
        (refine ev_skip rfl rfl ?_)
        (refine ev_skip rfl rfl ?_)
        (refine ev_skip rfl rfl ?_)
        (refine ev_skip rfl rfl ?_)
        (refine ev_pickT tab_ok rfl rfl rfl rfl rfl ?_)
        refine ev_nilD ?_ (by kernel_rfl)
        refine ⟨[0], ?_, keep0⟩
        all_goals (try refine le_of (by decide) ?_ ?_)
        repeat' (first | exact trivial | exact .nil | (refine CutL.cons rfl ?_ ?_) | (refine EnvLe.cons rfl ?_ ?_) | (refine MvS.box (mvl_closed rfl)) | exact .ptr rfl | exact .frz rfl | (refine Mv.bool ?_) | fail)
        all_goals (try simp only [wrap_addL, wrap_addR, wrap_subL, wrap_subR]); all_goals (try (rw [wrap_i64 (by omega) (by omega)]; omega))
        all_goals simp [placeBad, hz, hy]
  refine awp_cond rfl (fun hc => ?_) (fun hc => ?_)
  · rw [if_pos hc] at hfin
    refine awp_seq ?_
    refine awp_reg ?_
    refine ev_assign tab_ok rfl rfl rfl ?_
    refine ev_assign tab_ok rfl rfl rfl ?_
    refine ev_nil ?_ rfl
    refine awp_ghost 6 3 69 rfl (by constructor) ?_
    refine awp_ret ?_
    refine ⟨_, [], rfl, ?_, cut_of (by decide) .nil, keep0⟩
    rw [hfin]
    exact .tupL (.cons (.rowL rfl) (.cons (.frz rfl) .nil))
  · rw [hc, if_neg (by decide)] at hfin
    simp only [placeBad, Bool.or_eq_false_iff, Bool.not_eq_false', decide_eq_false_iff_not] at hc
    obtain ⟨⟨hv, hs0⟩, hsame⟩ := hc
    have hperm := sortS_iff.1 (sameStrs_iff.1 hsame)
    have hp : ∀ p ∈ order, p.size ≤ x.bulk := fun p hpm => (files47_found (hperm.mem_iff.1 hpm)).2
    refine awp_skip ?_
    refine awp_seq ?_
    refine awp_reg ?_
    refine ev_assign tab_ok rfl rfl rfl ?_
    refine ev_nil ?_ rfl
    refine awp_ghost 8 3 69 rfl (by constructor) ?_
    refine awp_seq ?_
    refine awp_seq ?_
    refine awp_reg ?_
    refine ev_move tab_ok rfl rfl rfl ?_
    (refine ev_lenL tab_ok rfl rfl rfl rfl rfl rfl ?_)
    refine ev_move tab_ok rfl rfl rfl ?_
    refine ev_nil ?_ rfl
    refine awp_block ?_
    refine awp_loop (fun q : Nat × List File × Int => ⟨[(32, .s (.int .i64 q.1)), (31, .s (.int .i64 order.length)), (30, .list (strL order)), (2, .s (.int .i64 q.2.2)), (8, .row (filesC q.2.1) 1), (3, .ptr 0 0)], [.box (nodeC x) 25, .row q.2.1.length 3 69]⟩) (fun q => q.1 ≤ order.length ∧ q.2.1.length = q.1 ∧ 0 ≤ q.2.2 ∧ placeAux x order start = (placeAux x (order.drop q.1) q.2.2).map (q.2.1 ++ ·)) (fun q => order.length - q.1) (0, [], start) [0, 1] ?_ ⟨Nat.zero_le _, rfl, by show 0 ≤ start; omega, by simp⟩ keep0 (fun q hq => ?_)
    · all_goals (try refine le_of (by decide) ?_ ?_)
      repeat' (first | exact trivial | exact .nil | (refine CutL.cons rfl ?_ ?_) | (refine EnvLe.cons rfl ?_ ?_) | exact MvS.row | (refine MvS.box (mvl_closed rfl)) | exact .ptr rfl | exact .row rfl | exact .frz rfl | (refine Mv.int ?_) | fail)
      all_goals (try simp only [wrap_addL, wrap_addR, wrap_subL, wrap_subR]); all_goals (try (rw [wrap_i64 (by omega) (by omega)]; omega))
      all_goals simp [strL_length]
    obtain ⟨i, ac, a⟩ := q
    obtain ⟨h1, h2, h3, h4⟩ := hq
    simp only at h1 h2 h3 h4
    change AWp _ _ _ ⟨[(32, .s (.int .i64 i)), (31, .s (.int .i64 order.length)), (30, .list (strL order)), (2, .s (.int .i64 a)), (8, .row (filesC ac) 1), (3, .ptr 0 0)], [.box (nodeC x) 25, .row ac.length 3 69]⟩ _
    refine awp_seq ?_
    refine awp_reg ?_
    (refine ev_ilss tab_ok rfl rfl rfl rfl ?_)
    refine ev_nil ?_ rfl
    refine awp_seq ?_
    refine awp_cond rfl (fun hc => ?_) (fun hc => ?_)
    · refine awp_skip ?_
      have hlt : i < order.length := by simpa using hc
      have hx : order[i]? = some order[i] := List.getElem?_eq_getElem hlt
      have hpi := hp order[i] (List.getElem_mem hlt)
      rw [List.drop_eq_getElem_cons hlt, placeAux] at h4
      generalize order[i] = p at *
      have hd := dlen_le x p
      have hbl := blocks_le (n := dlen x p) hd.1 (by omega)
      have hgd : ((get18 x p).1.data.size : Int) = dlen x p := by rw [get18_fst hv]; rfl
      refine awp_seq ?_
      refine awp_block ?_
      refine awp_seq ?_
      refine awp_reg ?_
      (refine ev_iaL tab_ok rfl rfl rfl rfl rfl rfl rfl rfl rfl (by omega) (by rw [Int.toNat_natCast]; exact strL_get hx) rfl ?_)
      (refine ev_loadE tab_ok rfl rfl rfl rfl rfl rfl ?_)
      refine ev_assign tab_ok rfl rfl rfl ?_
      refine ev_nil ?_ rfl
      refine awp_seq ?_
      refine awp_reg ?_
      (refine ev_loadB tab_ok rfl rfl rfl rfl rfl rfl rfl ?_)
      refine ev_move tab_ok rfl rfl rfl ?_
      refine ev_call rfl rfl rfl rfl rfl (lengthP_spec x p (by omega) (by omega)) rfl ?_
      try refine ev_as (show _ = PV.s (.int .i64 (dlen x p)) by rw [hgd]) ?_
      refine ev_assign tab_ok rfl rfl rfl ?_
      refine ev_nil ?_ rfl
      refine awp_seq ?_
      refine awp_seq ?_
      refine awp_reg ?_
      refine ev_move tab_ok rfl rfl rfl ?_
      refine ev_move tab_ok rfl rfl rfl ?_
      refine ev_call rfl rfl rfl rfl rfl (blocks24_spec (dlen x p)) rfl ?_
      refine ev_isub tab_ok rfl rfl rfl rfl ?_
      try refine ev_as (show _ = PV.s (.int .i64 (4096 - blocks (dlen x p))) by rw [wrap_i64 (by omega) (by omega)]) ?_
      refine ev_igtr tab_ok rfl rfl rfl rfl ?_
      refine ev_nil ?_ rfl
      refine awp_cond rfl (fun hc => ?_) (fun hc => ?_)
      · have hc : 4096 - blocks (dlen x p) < a := by simpa using hc
        refine awp_seq ?_
        refine awp_reg ?_
        refine ev_assign tab_ok rfl rfl rfl ?_
        refine ev_assign tab_ok rfl rfl rfl ?_
        refine ev_nil ?_ rfl
        refine awp_ghost 6 3 69 rfl (by constructor) ?_
        refine awp_ret ?_
        refine ⟨_, [], rfl, ?_, cut_of (by decide) .nil, keep0⟩
        rw [hfin, placeR, h4, if_pos hc]
        exact .tupL (.cons (.rowL rfl) (.cons (.frz rfl) .nil))
      · have hc : ¬ 4096 - blocks (dlen x p) < a := by simpa using hc
        rw [if_neg hc] at h4
        refine awp_skip ?_
        refine awp_seq ?_
        refine awp_reg ?_
        refine ev_move tab_ok rfl rfl rfl ?_
        refine ev_move tab_ok rfl rfl rfl ?_
        refine ev_move tab_ok rfl rfl rfl ?_
        refine ev_move tab_ok rfl rfl rfl ?_
        refine ev_build tab_ok rfl rfl rfl rfl rfl rfl rfl rfl rfl rfl rfl rfl ?_
        refine ev_buildSlice tab_ok rfl rfl rfl rfl rfl rfl rfl rfl rfl rfl rfl rfl rfl rfl (by constructor) ?_
        (refine ev_append tab_ok rfl rfl rfl rfl rfl rfl rfl rfl rfl rfl rfl rfl rfl rfl (by repeat constructor) (by (simp [filesC_length, ordL_length]; done)) (by (intro y hy; rw [List.mem_singleton] at hy; subst hy; rfl)) (by exact filesC_len _) (by (simp only [filesC_length, ordL_length, List.length_append, List.length_cons, List.length_nil]; omega)) (by (simp only [filesC_length, ordL_length, List.length_append, List.length_cons, List.length_nil]; omega)) ?_)
        refine ev_assign tab_ok rfl rfl rfl ?_
        refine ev_nil ?_ rfl
        refine awp_reg ?_
        refine ev_move tab_ok rfl rfl rfl ?_
        refine ev_move tab_ok rfl rfl rfl ?_
        refine ev_call rfl rfl rfl rfl rfl (blocks24_spec (dlen x p)) rfl ?_
        (refine ev_iadd tab_ok rfl rfl rfl rfl ?_)
        try refine ev_as (show _ = PV.s (.int .i64 (a + blocks (dlen x p))) by rw [wrap_i64 (by omega) (by omega)]) ?_
        refine ev_assign tab_ok rfl rfl rfl ?_
        refine ev_nil ?_ rfl
        refine awp_reg ?_
        (refine ev_iadd tab_ok rfl rfl rfl rfl ?_)
        refine ev_move tab_ok rfl rfl rfl ?_
        refine ev_nil ?_ rfl
        refine ⟨(i + 1, ac ++ [(p, a, dlen x p)], a + blocks (dlen x p)), [0, 1], ?_, by show order.length - (i + 1) < order.length - i; omega, ⟨hlt, by simp [h2], by show 0 ≤ a + blocks (dlen x p); omega, ?_⟩, keep0⟩
        all_goals (try refine le_of (by decide) ?_ ?_)
        repeat' (first | exact trivial | exact .nil | (refine CutL.cons rfl ?_ ?_) | (refine EnvLe.cons rfl ?_ ?_) | (refine MvS.box (mvl_closed rfl)) | exact .ptr rfl | exact .frz rfl | (refine Mv.rowE rfl ?_) | (refine MvS.rowE ?_) | (refine Mv.int ?_) | fail)
        all_goals (try simp only [wrap_addL, wrap_addR, wrap_subL, wrap_subR]); all_goals (try (rw [wrap_i64 (by omega) (by omega)]; omega))
        all_goals (try simp [filesC, fileC, dlen])
        show _ = Option.map _ _
        rw [h4, Option.map_map]
        congr 1
    · refine awp_exit ?_
      have hge : i = order.length := by
        have : ¬ i < order.length := by simpa using hc
        omega
      subst hge
      rw [List.drop_length, placeAux] at h4
      refine awp_seq ?_
      refine awp_reg ?_
      refine ev_move tab_ok rfl rfl rfl ?_
      refine ev_assign tab_ok rfl rfl rfl ?_
      refine ev_assign tab_ok rfl rfl rfl ?_
      refine ev_nil ?_ rfl
      refine awp_ret ?_
      refine ⟨_, [], rfl, ?_, cut_of (by decide) .nil, keep0⟩
      rw [hfin, placeR, h4]
      exact .tupL (.cons (.rowL (by simp)) (.cons (.frz rfl) .nil))
end Go.Proofs.Pm
end
section
namespace Go.Proofs.Pm
open Go
def ids (n : Nat) : List Int := (List.range n).map fun (i : Nat) => (i : Int)
theorem ids_length (n : Nat) : (ids n).length = n := by simp [ids]
theorem ids_get {n i : Nat} (h : i < n) : (ids n)[i]? = some (i : Int) := by simp [ids, h]
theorem ids_mem {n : Nat} {i : Int} : i ∈ ids n ↔ 0 ≤ i ∧ i < n := by
  rw [ids, List.mem_map]
  constructor
  · rintro ⟨j, hj, rfl⟩
    rw [List.mem_range] at hj
    omega
  · rintro ⟨h1, h2⟩
    exact ⟨i.toNat, List.mem_range.2 (by omega), by omega⟩
def ordI (n : Nat) : Nat → List Int → List (List Int)
  | 0, first => [first]
  | k + 1, first => ((ids n).filter fun i => !hasI first i).flatMap fun i => ordI n k (first ++ [i])
theorem keep9 {r : List Nat} : ∀ i, i < 9 → (0 :: 1 :: 2 :: 3 :: 4 :: 5 :: 6 :: 7 :: 8 :: r)[i]? = some i := fun i h => by
  match i, h with
  | 0, _ => rfl
  | 1, _ => rfl
  | 2, _ => rfl
  | 3, _ => rfl
  | 4, _ => rfl
  | 5, _ => rfl
  | 6, _ => rfl
  | 7, _ => rfl
  | 8, _ => rfl
theorem keep7 {r : List Nat} : ∀ i, i < 7 → (0 :: 1 :: 2 :: 3 :: 4 :: 5 :: 6 :: r)[i]? = some i := fun i h => by
  match i, h with
  | 0, _ => rfl
  | 1, _ => rfl
  | 2, _ => rfl
  | 3, _ => rfl
  | 4, _ => rfl
  | 5, _ => rfl
  | 6, _ => rfl
def OrdOk (n : Nat) (q : List Int) : Prop := q.length ≤ n ∧ (∀ i ∈ q, 0 ≤ i ∧ i < n) ∧ q.Nodup
theorem hasI_iff {l : List Int} {i : Int} : hasI l i = true ↔ i ∈ l := by
  rw [hasI, List.any_eq_true]
  exact ⟨fun ⟨y, h1, h2⟩ => by rw [eq_of_beq h2]; exact h1, fun h => ⟨i, h, by simp⟩⟩
theorem OrdOk.snoc {n : Nat} {q : List Int} {i : Int} (h : OrdOk n q) (hl : q.length < n) (hi : 0 ≤ i ∧ i < n) (hn : hasI q i = false) : OrdOk n (q ++ [i]) := by
  refine ⟨by simp; omega, fun j hj => ?_, ?_⟩
  · rcases List.mem_append.1 hj with hj | hj
    · exact h.2.1 j hj
    · rw [List.mem_singleton] at hj; subst hj; exact hi
  · rw [List.nodup_append]
    refine ⟨h.2.2, by simp, fun a ha b hb e => ?_⟩
    rw [List.mem_singleton] at hb
    subst hb e
    rw [hasI_iff.2 ha] at hn
    cases hn
theorem ordI_fold {σ : Type} {n : Nat} {step : σ → List Int → σ} {ok : σ → Prop} (hok : ∀ s q, ok s → q.length = n → OrdOk n q → ok (step s q)) : ∀ (k : Nat) (first : List Int) (s : σ), first.length + k = n → OrdOk n first → ok s → ok ((ordI n k first).foldl step s)
  | 0, first, s, h, hf, hs => hok s first hs (by omega) hf
  | k + 1, first, s, h, hf, hs => by
    rw [ordI, List.foldl_flatMap]
    have : ∀ (l : List Int) (s : σ), (∀ i ∈ l, i ∈ ids n ∧ hasI first i = false) → ok s → ok (l.foldl (fun s i => (ordI n k (first ++ [i])).foldl step s) s) := by
      intro l
      induction l with
      | nil => intro s _ hs; exact hs
      | cons i r ih =>
        intro s hm hs
        refine ih _ (fun j hj => hm j (List.mem_cons_of_mem _ hj)) (ordI_fold hok k _ s (by simp; omega) (hf.snoc (by omega) (ids_mem.1 (hm i List.mem_cons_self).1) (hm i List.mem_cons_self).2) hs)
    exact this _ s (fun i hi => ⟨(List.mem_filter.1 hi).1, by simpa using (List.mem_filter.1 hi).2⟩) hs
theorem visit_spec {σ : Type} {bst : σ → List B} {lst : σ → Int} {step : σ → List Int → σ} {ok : σ → Prop} {N : Nat} {φ : List Value → Obj} {x : Node} {acc fs : List B} (n : Nat) (hn : n ≤ 6)
    (hok : ∀ s q, ok s → q.length = n → OrdOk n q → ok (step s q))
    (hy : ∀ s (q : List Int), ok s → q.length = n → OrdOk n q → YCall Tryz.prog [.yl 0, .list (intL q)] [.obj (slots N [(2, .ptr 1 0), (3, .ptr 2 0), (6, .ptr 3 0), (7, .ptr 4 0), (8, .ptr 5 0)]) φ, .box (nodeC x) 25, .box [.list (strL acc)] 26, .box [.list (strL fs)] 26, .box [.list (strL (bst s))] 26, .box [.s (.int .i64 (lst s))] 3] (.s (.bool true)) [.obj (slots N [(2, .ptr 1 0), (3, .ptr 2 0), (6, .ptr 3 0), (7, .ptr 4 0), (8, .ptr 5 0)]) φ, .box (nodeC x) 25, .box [.list (strL acc)] 26, .box [.list (strL fs)] 26, .box [.list (strL (bst (step s q)))] 26, .box [.s (.int .i64 (lst (step s q)))] 3]) :
    ∀ (k : Nat) (first : List Int) (s : σ), first.length + k = n → OrdOk n first → ok s → FCall Tryz.prog 87 [.list (intL first), .ptr 6 0, .ptr 7 0, .ptr 8 0] [.obj (slots N [(2, .ptr 1 0), (3, .ptr 2 0), (6, .ptr 3 0), (7, .ptr 4 0), (8, .ptr 5 0)]) φ, .box (nodeC x) 25, .box [.list (strL acc)] 26, .box [.list (strL fs)] 26, .box [.list (strL (bst s))] 26, .box [.s (.int .i64 (lst s))] 3, .box [.s (.int .i64 (n : Int))] 3, .box [.yl 0] 105, .box [.fn 87 [] [.ptr 6 0, .ptr 7 0, .ptr 8 0]] 105] (.s (.bool true)) [.obj (slots N [(2, .ptr 1 0), (3, .ptr 2 0), (6, .ptr 3 0), (7, .ptr 4 0), (8, .ptr 5 0)]) φ, .box (nodeC x) 25, .box [.list (strL acc)] 26, .box [.list (strL fs)] 26, .box [.list (strL (bst ((ordI n k first).foldl step s)))] 26, .box [.s (.int .i64 (lst ((ordI n k first).foldl step s)))] 3, .box [.s (.int .i64 (n : Int))] 3, .box [.yl 0] 105, .box [.fn 87 [] [.ptr 6 0, .ptr 7 0, .ptr 8 0]] 105] := by
  intro k
  induction k with
  | zero =>
    intro first s hk hf hs
    have hyc := hy s first hs (by omega) hf
    have hl1 : first.length ≤ 1099511627776 := by omega
    refine fcall_intro tab_ok Tryz.call87 Tryz.func87 rfl rfl rfl (fun G w ι => ?_)
    refine awp_seq ?_
    refine awp_reg ?_
    refine ev_assign tab_ok rfl rfl rfl ?_
    refine ev_nil ?_ rfl
    refine awp_seq ?_
    refine awp_seq ?_
    refine awp_reg ?_
    refine ev_move tab_ok rfl rfl rfl ?_
    (refine ev_lenL tab_ok rfl rfl rfl rfl rfl rfl ?_)
    (refine ev_loadB tab_ok rfl rfl rfl rfl rfl rfl rfl ?_)
    (refine ev_ieql tab_ok rfl rfl rfl rfl ?_)
    try refine ev_as (show _ = PV.s (.bool true) by rw [intL_length, show first.length = n by omega]; simp) ?_
    refine ev_nil ?_ rfl
    refine awp_cond rfl (fun hc => ?_) (fun hc => ?_)
    · refine awp_seq ?_
      refine awp_draw mixed ?_
      (refine ev_loadB tab_ok rfl rfl rfl rfl rfl rfl rfl ?_)
      refine ev_move tab_ok rfl rfl rfl ?_
      refine ev_callG (sg := []) (nu := [9]) (Sin := []) (Sout := [.row first.length 1 3]) (r' := .row (intL first) 9) rfl rfl rfl rfl (cloneI_spec first hl1) (by repeat' (first | exact .nil | (refine MvL.cons ?_ ?_) | exact .frz rfl | fail)) (by repeat' (first | exact trivial | (refine And.intro rfl ?_))) (by repeat' (first | exact .nil | fail)) (by repeat' (first | exact .row rfl | fail)) (by repeat' (first | exact .nil | (refine MvSs.cons ?_ ?_) | exact MvS.row | fail)) rfl rfl (by decide) rfl ?_
      refine ev_yield (sg := [0, 1, 2, 3, 4, 5]) (nu := []) (Sin := [_, _, _, _, _, _]) (Sout := [LS.obj (slots N [(2, .ptr 1 0), (3, .ptr 2 0), (6, .ptr 3 0), (7, .ptr 4 0), (8, .ptr 5 0)]) φ, .box (nodeC x) 25, .box [.list (strL acc)] 26, .box [.list (strL fs)] 26, .box [.list (strL (bst (step s first)))] 26, .box [.s (.int .i64 (lst (step s first)))] 3]) rfl rfl rfl rfl (hyc) (by repeat' (first | exact .nil | (refine MvL.cons ?_ ?_) | exact .yl rfl | exact .frz rfl | fail)) (by repeat' (first | exact trivial | (refine And.intro rfl ?_))) (by repeat' (first | exact .nil | (refine MvSs.cons ?_ ?_) | (refine MvS.box ?_) | (refine slots_R ?_) | (refine And.intro ⟨_, rfl, ?_⟩ ?_) | exact trivial | exact mvl_closed rfl | exact .ptr rfl | fail)) (by repeat' (first | exact .frz rfl | fail)) (by repeat' (first | exact .nil | (refine MvSs.cons ?_ ?_) | (refine MvS.box ?_) | (refine slots_R ?_) | (refine And.intro ⟨_, rfl, ?_⟩ ?_) | exact trivial | exact mvl_closed rfl | exact .ptr rfl | fail)) rfl rfl (by decide) rfl ?_
      refine ev_assign tab_ok rfl rfl rfl ?_
      refine ev_nilD ?_ (by kernel_rfl)
      refine awp_ret ?_
      exact ⟨_, [0, 1, 2, 3, 4, 5, 6, 7, 8], rfl, .frz rfl, cut_of (by decide) (.cons rfl (slots_R ⟨⟨_, rfl, .ptr rfl⟩, ⟨_, rfl, .ptr rfl⟩, ⟨_, rfl, .ptr rfl⟩, ⟨_, rfl, .ptr rfl⟩, ⟨_, rfl, .ptr rfl⟩, trivial⟩) (.cons rfl (.box (mvl_closed rfl)) (.cons rfl (.box (mvl_closed rfl)) (.cons rfl (.box (mvl_closed rfl)) (.cons rfl (.box (mvl_closed rfl)) (.cons rfl (.box (mvl_closed rfl)) (.cons rfl (.box (mvl_closed rfl)) (.cons rfl (.box (.cons (.yl rfl) .nil)) (.cons rfl (.box (.cons (.fnL .nil (.cons (.ptr rfl) (.cons (.ptr rfl) (.cons (.ptr rfl) .nil)))) .nil)) .nil))))))))), keep9⟩
    · exact absurd hc (by simp)
  | succ k ih =>
    intro first s0 hk hf hs
    have hl1 : first.length ≤ 1099511627776 := by omega
    refine fcall_intro tab_ok Tryz.call87 Tryz.func87 rfl rfl rfl (fun G w ι => ?_)
    refine awp_seq ?_
    refine awp_reg ?_
    refine ev_assign tab_ok rfl rfl rfl ?_
    refine ev_nil ?_ rfl
    refine awp_seq ?_
    refine awp_seq ?_
    refine awp_reg ?_
    refine ev_move tab_ok rfl rfl rfl ?_
    (refine ev_lenL tab_ok rfl rfl rfl rfl rfl rfl ?_)
    (refine ev_loadB tab_ok rfl rfl rfl rfl rfl rfl rfl ?_)
    (refine ev_ieql tab_ok rfl rfl rfl rfl ?_)
    try refine ev_as (show _ = PV.s (.bool false) by rw [intL_length]; simp; omega) ?_
    refine ev_nil ?_ rfl
    refine awp_cond rfl (fun hc => ?_) (fun hc => ?_)
    · exact absurd hc (by simp)
    · refine awp_skip ?_
      refine awp_seq ?_
      refine awp_seq ?_
      refine awp_reg ?_
      (refine ev_loadB tab_ok rfl rfl rfl rfl rfl rfl rfl ?_)
      refine ev_move tab_ok rfl rfl rfl ?_
      refine ev_nil ?_ rfl
      refine awp_block ?_
      refine awp_loop (fun q : Nat × σ => ⟨[(16, .s (.int .i64 q.1)), (15, .s (.int .i64 (n : Int))), (0, .list (intL first)), (1, .ptr 6 0), (2, .ptr 7 0), (3, .ptr 8 0)], [.obj (slots N [(2, .ptr 1 0), (3, .ptr 2 0), (6, .ptr 3 0), (7, .ptr 4 0), (8, .ptr 5 0)]) φ, .box (nodeC x) 25, .box [.list (strL acc)] 26, .box [.list (strL fs)] 26, .box [.list (strL (bst q.2))] 26, .box [.s (.int .i64 (lst q.2))] 3, .box [.s (.int .i64 (n : Int))] 3, .box [.yl 0] 105, .box [.fn 87 [] [.ptr 6 0, .ptr 7 0, .ptr 8 0]] 105]⟩) (fun q => q.1 ≤ n ∧ q.2 = ((((ids n).take q.1).filter fun i => !hasI first i).flatMap fun i => ordI n k (first ++ [i])).foldl step s0 ∧ ok q.2) (fun q => n - q.1) (0, s0) [0, 1, 2, 3, 4, 5, 6, 7, 8] ?_ ⟨Nat.zero_le _, rfl, hs⟩ keep9 (fun q hq => ?_)
      · all_goals (try refine le_of (by decide) ?_ ?_)
        repeat' (first | exact trivial | exact .nil | (refine CutL.cons rfl ?_ ?_) | (refine EnvLe.cons rfl ?_ ?_) | (refine MvS.box (mvl_closed rfl)) | (refine slots_R ?_) | (refine And.intro ⟨_, rfl, ?_⟩ ?_) | exact .ptr rfl | exact .frz rfl | fail)
        all_goals (try simp only [wrap_addL, wrap_addR, wrap_subL, wrap_subR]); all_goals (try (rw [wrap_i64 (by omega) (by omega)]; omega))
        all_goals first | exact .box (.cons (.yl rfl) .nil) | exact .box (.cons (.fnL .nil (.cons (.ptr rfl) (.cons (.ptr rfl) (.cons (.ptr rfl) .nil)))) .nil)
      obtain ⟨i, s⟩ := q
      obtain ⟨hi, hse, hso⟩ := hq
      simp only at hi hse hso
      change AWp _ _ _ ⟨[(16, .s (.int .i64 i)), (15, .s (.int .i64 (n : Int))), (0, .list (intL first)), (1, .ptr 6 0), (2, .ptr 7 0), (3, .ptr 8 0)], [.obj (slots N [(2, .ptr 1 0), (3, .ptr 2 0), (6, .ptr 3 0), (7, .ptr 4 0), (8, .ptr 5 0)]) φ, .box (nodeC x) 25, .box [.list (strL acc)] 26, .box [.list (strL fs)] 26, .box [.list (strL (bst s))] 26, .box [.s (.int .i64 (lst s))] 3, .box [.s (.int .i64 (n : Int))] 3, .box [.yl 0] 105, .box [.fn 87 [] [.ptr 6 0, .ptr 7 0, .ptr 8 0]] 105]⟩ _
      refine awp_seq ?_
      refine awp_reg ?_
      (refine ev_ilss tab_ok rfl rfl rfl rfl ?_)
      refine ev_nil ?_ rfl
      refine awp_seq ?_
      refine awp_cond rfl (fun hc => ?_) (fun hc => ?_)
      · refine awp_skip ?_
        have hlt : i < n := by simpa using hc
        have htk : (ids n).take (i + 1) = (ids n).take i ++ [(i : Int)] := by rw [List.take_add_one, ids_get hlt]; rfl
        refine awp_seq ?_
        refine awp_block ?_
        refine awp_seq ?_
        refine awp_reg ?_
        refine ev_move tab_ok rfl rfl rfl ?_
        refine ev_assign tab_ok rfl rfl rfl ?_
        refine ev_nil ?_ rfl
        cases hz : hasI first (i : Int) with
        | true =>
          have hst : ((((ids n).take (i + 1)).filter fun i => !hasI first i).flatMap fun i => ordI n k (first ++ [i])).foldl step s0 = s := by
            rw [hse, htk, List.filter_append]
            simp [hz]
          refine awp_seq ?_
          refine awp_draw mixed ?_
          refine ev_move tab_ok rfl rfl rfl ?_
          refine ev_move tab_ok rfl rfl rfl ?_
          refine ev_call rfl rfl rfl rfl rfl (containsI_spec first i) rfl ?_
          try refine ev_as (show _ = PV.s (.bool _) by rw [hz]) ?_
          refine ev_not tab_ok rfl rfl rfl ?_
          refine ev_move tab_ok rfl rfl rfl ?_
          (refine ev_skip rfl rfl ?_)
          (refine ev_skip rfl rfl ?_)
          (refine ev_skip rfl rfl ?_)
          (refine ev_skip rfl rfl ?_)
          (refine ev_skip rfl rfl ?_)
          (refine ev_skip rfl rfl ?_)
          (refine ev_skip rfl rfl ?_)
          (refine ev_skip rfl rfl ?_)
          (refine ev_pickF tab_ok rfl rfl rfl rfl rfl ?_)
          refine ev_nilD ?_ (by kernel_rfl)
          refine awp_cond rfl (fun hc => ?_) (fun hc => ?_)
          · exact absurd hc (by simp)
          · refine awp_skip ?_
            refine awp_reg ?_
            (refine ev_iadd tab_ok rfl rfl rfl rfl ?_)
            refine ev_move tab_ok rfl rfl rfl ?_
            refine ev_nil ?_ rfl
            refine ⟨(i + 1, s), [0, 1, 2, 3, 4, 5, 6, 7, 8], ?_, by show n - (i + 1) < n - i; omega, ⟨hlt, hst.symm, hso⟩, keep9⟩
            all_goals (try refine le_of (by decide) ?_ ?_)
            repeat' (first | exact trivial | exact .nil | (refine CutL.cons rfl ?_ ?_) | (refine EnvLe.cons rfl ?_ ?_) | (refine MvS.box (mvl_closed rfl)) | (refine slots_R ?_) | (refine And.intro ⟨_, rfl, ?_⟩ ?_) | exact .ptr rfl | exact .frz rfl | (refine Mv.int ?_) | fail)
            all_goals (try simp only [wrap_addL, wrap_addR, wrap_subL, wrap_subR]); all_goals (try (rw [wrap_i64 (by omega) (by omega)]; omega))
            all_goals first | exact .box (.cons (.yl rfl) .nil) | exact .box (.cons (.fnL .nil (.cons (.ptr rfl) (.cons (.ptr rfl) (.cons (.ptr rfl) .nil)))) .nil)
        | false =>
          have hf1 : OrdOk n (first ++ [(i : Int)]) := hf.snoc (by omega) (by omega) hz
          have hrec := ih (first ++ [(i : Int)]) s (by simp; omega) hf1 hso
          have hok1 := ordI_fold hok k (first ++ [(i : Int)]) s (by simp; omega) hf1 hso
          have hst : ((((ids n).take (i + 1)).filter fun i => !hasI first i).flatMap fun i => ordI n k (first ++ [i])).foldl step s0 = (ordI n k (first ++ [(i : Int)])).foldl step s := by
            rw [hse, htk, List.filter_append, List.flatMap_append, List.foldl_append]
            simp [hz]
          generalize (ordI n k (first ++ [(i : Int)])).foldl step s = s1 at *
          have hil : intL (first ++ [(i : Int)]) = intL first ++ [[.s (.int .i64 (i : Int))]] := by simp [intL]
          rw [hil] at hrec
          refine awp_seq ?_
          refine awp_draw mixed ?_
          refine ev_move tab_ok rfl rfl rfl ?_
          refine ev_move tab_ok rfl rfl rfl ?_
          refine ev_call rfl rfl rfl rfl rfl (containsI_spec first i) rfl ?_
          try refine ev_as (show _ = PV.s (.bool _) by rw [hz]) ?_
          refine ev_not tab_ok rfl rfl rfl ?_
          refine ev_move tab_ok rfl rfl rfl ?_
          (refine ev_loadB tab_ok rfl rfl rfl rfl rfl rfl rfl ?_)
          (refine ev_move tab_ok rfl rfl rfl ?_)
          (refine ev_callG (sg := []) (nu := [9]) (Sin := []) (Sout := [.row first.length 1 3]) (r' := .row (intL first) 9) rfl rfl rfl rfl (cloneI_spec first hl1) (by repeat' (first | exact .nil | (refine MvL.cons ?_ ?_) | exact .frz rfl | fail)) (by repeat' (first | exact trivial | (refine And.intro rfl ?_))) (by repeat' (first | exact .nil | fail)) (by repeat' (first | exact .row rfl | fail)) (by repeat' (first | exact .nil | (refine MvSs.cons ?_ ?_) | exact MvS.row | fail)) rfl rfl (by decide) rfl ?_)
          (refine ev_move tab_ok rfl rfl rfl ?_)
          (refine ev_buildSlice tab_ok rfl rfl rfl rfl rfl rfl rfl rfl rfl rfl rfl rfl rfl rfl (by constructor) ?_)
          (refine ev_append tab_ok rfl rfl rfl rfl rfl rfl rfl rfl rfl rfl rfl rfl rfl rfl (by repeat constructor) (by (simp [strL_length, intL_length]; done)) (by exact one_len _) (by exact intL_len _) (by (simp only [strL_length, intL_length, List.length_append, List.length_cons, List.length_nil]; omega)) (by (simp only [strL_length, intL_length, List.length_append, List.length_cons, List.length_nil]; omega)) ?_)
          (refine ev_callG (sg := [0, 1, 2, 3, 4, 5, 6, 7, 8]) (nu := []) (Sin := [_, _, _, _, _, _, _, _, _]) (Sout := [LS.obj (slots N [(2, .ptr 1 0), (3, .ptr 2 0), (6, .ptr 3 0), (7, .ptr 4 0), (8, .ptr 5 0)]) φ, .box (nodeC x) 25, .box [.list (strL acc)] 26, .box [.list (strL fs)] 26, .box [.list (strL (bst s1))] 26, .box [.s (.int .i64 (lst s1))] 3, .box [.s (.int .i64 (n : Int))] 3, .box [.yl 0] 105, .box [.fn 87 [] [.ptr 6 0, .ptr 7 0, .ptr 8 0]] 105]) rfl rfl rfl rfl (hrec) (by repeat' (first | exact .nil | (refine MvL.cons ?_ ?_) | exact .ptr rfl | exact .frz rfl | fail)) (by repeat' (first | exact trivial | (refine And.intro rfl ?_))) (by repeat' (first | exact .nil | (refine MvSs.cons ?_ ?_) | (refine MvS.box ?_) | (refine slots_R ?_) | (refine And.intro ⟨_, rfl, ?_⟩ ?_) | exact trivial | exact mvl_closed rfl | (refine MvL.cons ?_ ?_) | exact .ptr rfl | exact .yl rfl | (refine Mv.fnL ?_ ?_))) (by repeat' (first | exact .frz rfl | fail)) (by repeat' (first | exact .nil | (refine MvSs.cons ?_ ?_) | (refine MvS.box ?_) | (refine slots_R ?_) | (refine And.intro ⟨_, rfl, ?_⟩ ?_) | exact trivial | exact mvl_closed rfl | (refine MvL.cons ?_ ?_) | exact .ptr rfl | exact .yl rfl | (refine Mv.fnL ?_ ?_))) rfl rfl (by decide) rfl ?_)
          (refine ev_not tab_ok rfl rfl rfl ?_)
          (refine ev_pickT tab_ok rfl rfl rfl rfl rfl ?_)
          refine ev_nilD ?_ (by kernel_rfl)
          refine awp_cond rfl (fun hc => ?_) (fun hc => ?_)
          · exact absurd hc (by simp)
          · refine awp_skip ?_
            refine awp_reg ?_
            (refine ev_iadd tab_ok rfl rfl rfl rfl ?_)
            refine ev_move tab_ok rfl rfl rfl ?_
            refine ev_nil ?_ rfl
            refine ⟨(i + 1, s1), [0, 1, 2, 3, 4, 5, 6, 7, 8], ?_, by show n - (i + 1) < n - i; omega, ⟨hlt, hst.symm, hok1⟩, keep9⟩
            all_goals (try refine le_of (by decide) ?_ ?_)
            repeat' (first | exact trivial | exact .nil | (refine CutL.cons rfl ?_ ?_) | (refine EnvLe.cons rfl ?_ ?_) | (refine MvS.box (mvl_closed rfl)) | (refine slots_R ?_) | (refine And.intro ⟨_, rfl, ?_⟩ ?_) | exact .ptr rfl | exact .frz rfl | (refine Mv.int ?_) | fail)
            all_goals (try simp only [wrap_addL, wrap_addR, wrap_subL, wrap_subR]); all_goals (try (rw [wrap_i64 (by omega) (by omega)]; omega))
            all_goals first | exact .box (.cons (.yl rfl) .nil) | exact .box (.cons (.fnL .nil (.cons (.ptr rfl) (.cons (.ptr rfl) (.cons (.ptr rfl) .nil)))) .nil)
      · refine awp_exit ?_
        have hge : i = n := by
          have : ¬ i < n := by simpa using hc
          omega
        subst hge
        refine awp_seq ?_
        refine awp_reg ?_
        refine ev_assign tab_ok rfl rfl rfl ?_
        refine ev_nil ?_ rfl
        refine awp_ret ?_
        have hse2 : s = (ordI i (k + 1) first).foldl step s0 := by
          rw [hse, List.take_of_length_le (by rw [ids_length]; exact Nat.le_refl _), ordI]
        rw [← hse2]
        exact ⟨_, [0, 1, 2, 3, 4, 5, 6, 7, 8], rfl, .frz rfl, cut_of (by decide) (.cons rfl (slots_R ⟨⟨_, rfl, .ptr rfl⟩, ⟨_, rfl, .ptr rfl⟩, ⟨_, rfl, .ptr rfl⟩, ⟨_, rfl, .ptr rfl⟩, ⟨_, rfl, .ptr rfl⟩, trivial⟩) (.cons rfl (.box (mvl_closed rfl)) (.cons rfl (.box (mvl_closed rfl)) (.cons rfl (.box (mvl_closed rfl)) (.cons rfl (.box (mvl_closed rfl)) (.cons rfl (.box (mvl_closed rfl)) (.cons rfl (.box (mvl_closed rfl)) (.cons rfl (.box (.cons (.yl rfl) .nil)) (.cons rfl (.box (.cons (.fnL .nil (.cons (.ptr rfl) (.cons (.ptr rfl) (.cons (.ptr rfl) .nil)))) .nil)) .nil))))))))), keep9⟩
theorem ordersP_spec (n : Nat) : FCall Tryz.prog 62 [.s (.int .i64 (n : Int))] [] (.fn 86 [] [.ptr 0 0]) [.box [.s (.int .i64 (n : Int))] 3] := by
  refine fcall_intro tab_ok Tryz.call62 Tryz.func62 rfl rfl rfl (fun G w ι => ?_)
  refine awp_seq ?_
  refine awp_reg ?_
  refine ev_box rfl rfl rfl rfl (by constructor) ?_
  refine ev_assign tab_ok rfl rfl rfl ?_
  refine ev_nil ?_ rfl
  refine awp_seq ?_
  refine awp_reg ?_
  refine ev_mkFn tab_ok rfl rfl rfl rfl rfl ?_
  refine ev_assign tab_ok rfl rfl rfl ?_
  refine ev_nil ?_ rfl
  refine awp_ret ?_
  exact ⟨_, [0], rfl, Mv.fnL .nil (.cons (.ptr rfl) .nil), cut_of (by decide) (.cons rfl (.box (mvl_closed rfl)) .nil), keep0⟩
theorem ordersIter {σ : Type} {bst : σ → List B} {lst : σ → Int} {step : σ → List Int → σ} {ok : σ → Prop} {N : Nat} {φ : List Value → Obj} {x : Node} {acc fs : List B} (n : Nat) (hn : n ≤ 6)
    (hok : ∀ s q, ok s → q.length = n → OrdOk n q → ok (step s q))
    (hy : ∀ s (q : List Int), ok s → q.length = n → OrdOk n q → YCall Tryz.prog [.yl 0, .list (intL q)] [.obj (slots N [(2, .ptr 1 0), (3, .ptr 2 0), (6, .ptr 3 0), (7, .ptr 4 0), (8, .ptr 5 0)]) φ, .box (nodeC x) 25, .box [.list (strL acc)] 26, .box [.list (strL fs)] 26, .box [.list (strL (bst s))] 26, .box [.s (.int .i64 (lst s))] 3] (.s (.bool true)) [.obj (slots N [(2, .ptr 1 0), (3, .ptr 2 0), (6, .ptr 3 0), (7, .ptr 4 0), (8, .ptr 5 0)]) φ, .box (nodeC x) 25, .box [.list (strL acc)] 26, .box [.list (strL fs)] 26, .box [.list (strL (bst (step s q)))] 26, .box [.s (.int .i64 (lst (step s q)))] 3]) (s : σ) (hs : ok s) :
    FCall Tryz.prog 86 [.yl 0, .ptr 6 0] [.obj (slots N [(2, .ptr 1 0), (3, .ptr 2 0), (6, .ptr 3 0), (7, .ptr 4 0), (8, .ptr 5 0)]) φ, .box (nodeC x) 25, .box [.list (strL acc)] 26, .box [.list (strL fs)] 26, .box [.list (strL (bst s))] 26, .box [.s (.int .i64 (lst s))] 3, .box [.s (.int .i64 (n : Int))] 3] (.tup []) [.obj (slots N [(2, .ptr 1 0), (3, .ptr 2 0), (6, .ptr 3 0), (7, .ptr 4 0), (8, .ptr 5 0)]) φ, .box (nodeC x) 25, .box [.list (strL acc)] 26, .box [.list (strL fs)] 26, .box [.list (strL (bst ((ordI n n []).foldl step s)))] 26, .box [.s (.int .i64 (lst ((ordI n n []).foldl step s)))] 3, .box [.s (.int .i64 (n : Int))] 3] := by
  have hv := visit_spec n hn hok hy n [] s (by simp) ⟨by simp, fun i hi => (by cases hi), List.nodup_nil⟩ hs
  generalize (ordI n n []).foldl step s = s1 at *
  refine fcall_intro tab_ok Tryz.call86 Tryz.func86 rfl rfl rfl (fun G w ι => ?_)
  refine awp_seq ?_
  refine awp_reg ?_
  refine ev_box rfl rfl rfl rfl (by constructor) ?_
  refine ev_nil ?_ rfl
  refine awp_seq ?_
  refine awp_reg ?_
  refine ev_alloc tab_ok rfl rfl rfl rfl rfl rfl (by constructor) ?_
  refine ev_nil ?_ rfl
  refine awp_seq ?_
  refine awp_reg ?_
  refine ev_mkFn tab_ok rfl rfl rfl rfl rfl ?_
  refine ev_store tab_ok rfl rfl rfl rfl rfl rfl rfl rfl rfl (by repeat constructor) ?_
  refine ev_nil ?_ rfl
  refine awp_reg ?_
  (refine ev_loadB tab_ok rfl rfl rfl rfl rfl rfl rfl ?_)
  refine ev_callG (sg := [0, 1, 2, 3, 4, 5, 6, 7, 8]) (nu := []) (Sin := [_, _, _, _, _, _, _, _, _]) (Sout := [LS.obj (slots N [(2, .ptr 1 0), (3, .ptr 2 0), (6, .ptr 3 0), (7, .ptr 4 0), (8, .ptr 5 0)]) φ, .box (nodeC x) 25, .box [.list (strL acc)] 26, .box [.list (strL fs)] 26, .box [.list (strL (bst s1))] 26, .box [.s (.int .i64 (lst s1))] 3, .box [.s (.int .i64 (n : Int))] 3, .box [.yl 0] 105, .box [.fn 87 [] [.ptr 6 0, .ptr 7 0, .ptr 8 0]] 105]) rfl rfl rfl rfl (hv) (by repeat' (first | exact .nil | (refine MvL.cons ?_ ?_) | exact .nilL | exact .ptr rfl | fail)) (by repeat' (first | exact trivial | (refine And.intro rfl ?_))) (by repeat' (first | exact .nil | (refine MvSs.cons ?_ ?_) | (refine MvS.box ?_) | (refine slots_R ?_) | (refine And.intro ⟨_, rfl, ?_⟩ ?_) | exact trivial | exact mvl_closed rfl | (refine MvL.cons ?_ ?_) | exact .ptr rfl | exact .yl rfl | (refine Mv.fnL ?_ ?_))) (by repeat' (first | exact .frz rfl | fail)) (by repeat' (first | exact .nil | (refine MvSs.cons ?_ ?_) | (refine MvS.box ?_) | (refine slots_R ?_) | (refine And.intro ⟨_, rfl, ?_⟩ ?_) | exact trivial | exact mvl_closed rfl | (refine MvL.cons ?_ ?_) | exact .ptr rfl | exact .yl rfl | (refine Mv.fnL ?_ ?_))) rfl rfl (by decide) rfl ?_
  refine ev_nil ?_ rfl
  exact ⟨_, [0, 1, 2, 3, 4, 5, 6], rfl, .frz rfl, cut_of (by decide) (.cons rfl (slots_R ⟨⟨_, rfl, .ptr rfl⟩, ⟨_, rfl, .ptr rfl⟩, ⟨_, rfl, .ptr rfl⟩, ⟨_, rfl, .ptr rfl⟩, ⟨_, rfl, .ptr rfl⟩, trivial⟩) (.cons rfl (.box (mvl_closed rfl)) (.cons rfl (.box (mvl_closed rfl)) (.cons rfl (.box (mvl_closed rfl)) (.cons rfl (.box (mvl_closed rfl)) (.cons rfl (.box (mvl_closed rfl)) (.cons rfl (.box (mvl_closed rfl)) .nil))))))), keep7⟩
end Go.Proofs.Pm
end
section
namespace Go.Proofs.Pm
open Go
def pick1 (fs : List B) (i : Int) : B := fs.getD i.toNat ⟨#[]⟩
def pickO (fs : List B) (q : List Int) : List B := q.map (pick1 fs)
theorem pick1_get {fs : List B} {i : Int} (h0 : 0 ≤ i) (h : i < fs.length) : fs[i.toNat]? = some (pick1 fs i) := by
  have : i.toNat < fs.length := by omega
  simp [pick1, this]
theorem pick1_inj {fs : List B} (hn : fs.Nodup) {i j : Int} (hi : 0 ≤ i ∧ i < fs.length) (hj : 0 ≤ j ∧ j < fs.length) (h : pick1 fs i = pick1 fs j) : i = j := by
  have h1 := pick1_get hi.1 hi.2
  have h2 := pick1_get hj.1 hj.2
  rw [← h] at h2
  have := (List.getElem?_inj (by omega) hn).1 (h1.trans h2.symm)
  omega
theorem ids_pick (fs : List B) : (ids fs.length).map (pick1 fs) = fs := by
  apply List.ext_getElem?
  intro i
  rw [List.getElem?_map]
  by_cases h : i < fs.length
  · rw [ids_get h, Option.map_some, ← pick1_get (by omega) (by omega), Int.toNat_natCast]
  · rw [List.getElem?_eq_none (by rw [ids_length]; omega), List.getElem?_eq_none (by omega)]; rfl
theorem has_pick {fs : List B} (hn : fs.Nodup) {first : List Int} (hf : OrdOk fs.length first) {i : Int} (hi : 0 ≤ i ∧ i < fs.length) : has (pickO fs first) (pick1 fs i) = hasI first i := by
  have h1 : has (pickO fs first) (pick1 fs i) = true ↔ hasI first i = true := by
    rw [has_iff, pickO, List.mem_map, hasI, List.any_eq_true]
    constructor
    · rintro ⟨j, hj, he⟩
      exact ⟨j, hj, by rw [pick1_inj hn (hf.2.1 j hj) hi he]; simp⟩
    · rintro ⟨j, hj, he⟩
      exact ⟨j, hj, by rw [← eq_of_beq he]⟩
  cases h2 : hasI first i with
  | true => exact h1.2 h2
  | false =>
    rw [← Bool.not_eq_true, h1, h2]; decide
theorem ordI_map {fs : List B} (hn : fs.Nodup) : ∀ (k : Nat) (first : List Int), first.length + k = fs.length → OrdOk fs.length first → (ordI fs.length k first).map (pickO fs) = ordersR fs k (pickO fs first)
  | 0, first, _, _ => rfl
  | k + 1, first, hk, hf => by
    rw [ordI, ordersR, List.map_flatMap]
    have hfil : fs.filter (fun p => !has (pickO fs first) p) = ((ids fs.length).filter fun i => !hasI first i).map (pick1 fs) := by
      have h0 : fs.filter (fun p => !has (pickO fs first) p) = ((ids fs.length).map (pick1 fs)).filter (fun p => !has (pickO fs first) p) := by rw [ids_pick]
      rw [h0, List.filter_map]
      congr 1
      refine List.filter_congr (fun i hi => ?_)
      show (!has (pickO fs first) (pick1 fs i)) = _
      rw [has_pick hn hf (ids_mem.1 hi)]
    rw [hfil, List.flatMap_map]
    have : ∀ (l : List Int), (∀ i ∈ l, i ∈ ids fs.length ∧ hasI first i = false) → l.flatMap (fun i => (ordI fs.length k (first ++ [i])).map (pickO fs)) = l.flatMap (fun i => ordersR fs k (pickO fs first ++ [pick1 fs i])) := by
      intro l
      induction l with
      | nil => intro _; rfl
      | cons i r ih =>
        intro hm
        rw [List.flatMap_cons, List.flatMap_cons, ih (fun j hj => hm j (List.mem_cons_of_mem _ hj))]
        congr 1
        have hi := ids_mem.1 (hm i List.mem_cons_self).1
        rw [ordI_map hn k (first ++ [i]) (by simp; omega) (hf.snoc (by omega) hi (hm i List.mem_cons_self).2)]
        simp [pickO]
    exact this _ (fun i hi => ⟨(List.mem_filter.1 hi).1, by simpa using (List.mem_filter.1 hi).2⟩)
theorem pickO_perm {fs : List B} (hn : fs.Nodup) {q : List Int} (hq : OrdOk fs.length q) (hl : q.length = fs.length) : (pickO fs q).Perm fs := by
  refine perm_of ?_ (fun p hp => ?_) (by simpa [pickO] using hl)
  · have h : ∀ (r : List Int), (∀ i ∈ r, 0 ≤ i ∧ i < fs.length) → r.Nodup → (r.map (pick1 fs)).Nodup := by
      intro r
      induction r with
      | nil => intro _ _; exact List.nodup_nil
      | cons i r ih =>
        intro hr hnd
        rw [List.nodup_cons] at hnd
        rw [List.map_cons, List.nodup_cons]
        refine ⟨fun hm => ?_, ih (fun j hj => hr j (List.mem_cons_of_mem _ hj)) hnd.2⟩
        obtain ⟨j, hj, he⟩ := List.mem_map.1 hm
        exact hnd.1 (pick1_inj hn (hr j (List.mem_cons_of_mem _ hj)) (hr i List.mem_cons_self) he ▸ hj)
    exact h q hq.2.1 hq.2.2
  · obtain ⟨i, hi, rfl⟩ := List.mem_map.1 hp
    have := hq.2.1 i hi
    exact List.mem_of_getElem? (pick1_get this.1 this.2)
def goodF (f : File) : Prop := 0 ≤ f.2.1 ∧ f.2.1 ≤ 4096 ∧ 0 ≤ f.2.2 ∧ f.2.2 ≤ 1099511627776
theorem placeAux_good {x : Node} (hb : x.bulk ≤ 1048576) : ∀ (o : List B) (a : Int) (l : List File), 0 ≤ a → placeAux x o a = some l → ∀ f ∈ l, goodF f
  | [], a, l, _, h, f, hf => by
    simp only [placeAux, Option.some.injEq] at h
    subst h; cases hf
  | p :: r, a, l, ha, h, f, hf => by
    rw [placeAux] at h
    split at h
    · cases h
    · rename_i hc
      obtain ⟨l', hl', rfl⟩ := Option.map_eq_some_iff.1 h
      have hd := dlen_le x p
      have hbl := blocks_le (n := dlen x p) hd.1 (by omega)
      rcases List.mem_cons.1 hf with rfl | hf
      · exact ⟨ha, by show a ≤ 4096; omega, hd.1, by show dlen x p ≤ _; omega⟩
      · exact placeAux_good hb r _ l' (by omega) hl' f hf
theorem blocks_small {n : Int} (h0 : 0 ≤ n) (h : n ≤ 1048576) : 0 ≤ blocks n ∧ blocks n ≤ 513 := by
  obtain ⟨h1, _, h3⟩ := blocks_le h0 (by omega)
  refine ⟨h1, ?_⟩
  rw [h3]
  split <;> omega
theorem placeAux_some {x : Node} (hb : x.bulk ≤ 1048576) : ∀ (o : List B) (a : Int), 0 ≤ a → a + 513 * o.length ≤ 4096 → (placeAux x o a).isSome = true
  | [], a, _, _ => rfl
  | p :: r, a, ha, h => by
    have hd := dlen_le x p
    have hbl := blocks_small hd.1 (by omega)
    rw [List.length_cons] at h
    rw [placeAux, if_neg (by omega), Option.isSome_map]
    exact placeAux_some hb r _ (by omega) (by omega)
theorem stepF_good {a : B} {f : File} {s : CS} {M : Int} (hf : goodF f) (hs : 0 ≤ s.sum ∧ s.sum ≤ M) (hp : 0 ≤ s.pos ∧ s.pos ≤ 2199023255552) (hM : M ≤ 1152921504606846976) : (0 ≤ (stepF a s f).sum ∧ (stepF a s f).sum ≤ M + 2199023255552) ∧ 0 ≤ (stepF a s f).pos ∧ (stepF a s f).pos ≤ 2199023255552 := by
  obtain ⟨f1, f2, f3, f4⟩ := hf
  have hbl := blocks_le f3 f4
  unfold stepF
  split
  · split
    · simp only [wr]
      rw [wrap_i64 (n := s.pos - f.2.1) (by omega) (by omega), wrap_i64 (n := f.2.1 - s.pos) (by omega) (by omega), wrap_i64 (n := f.2.1 + blocks f.2.2) (by omega) (by omega)]
      have hm : 0 ≤ maxI (s.pos - f.2.1) (f.2.1 - s.pos) ∧ maxI (s.pos - f.2.1) (f.2.1 - s.pos) ≤ 2199023255552 := by
        unfold maxI; split <;> omega
      rw [wrap_i64 (by omega) (by omega)]
      omega
    · exact ⟨⟨hs.1, by show s.sum ≤ _; omega⟩, hp⟩
  · exact ⟨⟨hs.1, by omega⟩, hp⟩
theorem fold_good {a : B} : ∀ (l : List File) (s : CS) (M : Int), (∀ f ∈ l, goodF f) → 0 ≤ s.sum → s.sum ≤ M → 0 ≤ s.pos → s.pos ≤ 2199023255552 → M + 2199023255552 * l.length ≤ 1152921504606846976 → (0 ≤ (l.foldl (stepF a) s).sum ∧ (l.foldl (stepF a) s).sum ≤ M + 2199023255552 * l.length) ∧ 0 ≤ (l.foldl (stepF a) s).pos ∧ (l.foldl (stepF a) s).pos ≤ 2199023255552
  | [], s, M, _, h1, h2, h3, h4, _ => ⟨⟨h1, by simpa using h2⟩, h3, h4⟩
  | f :: r, s, M, hg, h1, h2, h3, h4, h5 => by
    rw [List.length_cons] at h5
    obtain ⟨⟨k1, k2⟩, k3, k4⟩ := stepF_good (a := a) (hg f List.mem_cons_self) ⟨h1, h2⟩ ⟨h3, h4⟩ (by omega)
    obtain ⟨⟨q1, q2⟩, q3, q4⟩ := fold_good (a := a) r _ (M + 2199023255552) (fun f hf => hg f (List.mem_cons_of_mem _ hf)) k1 k2 k3 k4 (by omega)
    rw [List.foldl_cons, List.length_cons]
    exact ⟨⟨q1, by omega⟩, q3, q4⟩
theorem costAcc_good {l : List File} (hg : ∀ f ∈ l, goodF f) (hl : l.length ≤ 40) : ∀ (acc : List B) (s p M : Int) (c : Int), 0 ≤ s → s ≤ M → 0 ≤ p → p ≤ 2199023255552 → M + 87960930222080 * acc.length ≤ 1152921504606846976 → costAcc l acc s p = some c → 0 ≤ c
  | [], s, p, M, c, h1, _, _, _, _, h => by
    simp only [costAcc, Option.some.injEq] at h
    omega
  | a :: r, s, p, M, c, h1, h2, h3, h4, h5, h => by
    rw [List.length_cons] at h5
    rw [costAcc] at h
    split at h
    · obtain ⟨⟨q1, q2⟩, q3, q4⟩ := fold_good (a := a) l ⟨s, p, false⟩ M hg h1 h2 h3 h4 (by omega)
      exact costAcc_good hg hl r _ _ (M + 87960930222080) c q1 (by omega) q3 q4 (by omega) h
    · cases h
theorem costR_nonneg {l : List File} (hg : ∀ f ∈ l, goodF f) (hl : l.length ≤ 40) (acc : List B) (ha : acc.length ≤ 1024) : 0 ≤ (costR l acc).1 := by
  unfold costR
  split
  · exact Int.le_refl _
  · split
    · exact Int.le_refl _
    · cases h : costAcc l acc 0 0 with
      | none => exact Int.le_refl _
      | some c => exact costAcc_good hg hl acc 0 0 0 c (by omega) (by omega) (by omega) (by omega) (by omega) h
theorem placeAux_length {x : Node} : ∀ (o : List B) (a : Int) (l : List File), placeAux x o a = some l → l.length = o.length
  | [], a, l, h => by simp only [placeAux, Option.some.injEq] at h; subst h; rfl
  | p :: r, a, l, h => by
    rw [placeAux] at h
    split at h
    · cases h
    · obtain ⟨l', hl', rfl⟩ := Option.map_eq_some_iff.1 h
      simp [placeAux_length r _ l' hl']
theorem placeCost_nonneg {x : Node} (hb : x.bulk ≤ 1048576) (o acc : List B) (ho : o.length ≤ 40) (ha : acc.length ≤ 1024) : 0 ≤ (costR (placeR x o 0).1 acc).1 := by
  unfold placeR
  cases h : placeAux x o 0 with
  | none => exact costR_nonneg (fun f hf => by cases hf) (by simp) acc ha
  | some l => exact costR_nonneg (placeAux_good hb o 0 l (by omega) h) (by rw [placeAux_length o 0 l h]; exact ho) acc ha
def leastO (s : Option (List B × Int)) : Int := match s with
  | some s => s.2
  | none => -1
def okO (s : Option (List B × Int)) : Prop := 0 ≤ leastO s ∨ s = none
theorem bestStep_ok {x : Node} (hb : x.bulk ≤ 1048576) {acc o : List B} (ho : o.length ≤ 40) (ha : acc.length ≤ 1024) {s : Option (List B × Int)} (hs : okO s) : okO (bestStep x acc s o) := by
  have hc := placeCost_nonneg hb o acc ho ha
  left
  unfold bestStep
  cases s with
  | none => exact hc
  | some s =>
    rcases hs with hs | hs
    · simp only
      split
      · exact hc
      · exact hs
    · cases hs
theorem bestStep_cond {x : Node} {acc o : List B} {s : Option (List B × Int)} (hs : okO s) : bestStep x acc s o = if decide (leastO s < 0) || decide ((costR (placeR x o 0).1 acc).1 < leastO s) then some (o, (costR (placeR x o 0).1 acc).1) else s := by
  unfold bestStep
  cases s with
  | none => simp [leastO]
  | some s =>
    rcases hs with hs | hs
    · have : ¬ leastO (some s) < 0 := by omega
      simp only [this, decide_false, Bool.false_or, decide_eq_true_eq]
      rfl
    · cases hs
theorem perm_place {x : Node} (hv : valid18 x = true) {o : List B} (hp : o.Perm (files47 x)) : PlaceR x o 0 = placeR x o 0 := by
  rw [PlaceR_eq, if_neg]
  simp only [placeBad, hv, sameStrs_iff.2 (sortS_iff.2 hp)]
  decide
theorem place_ok {x : Node} (hb : x.bulk ≤ 1048576) {o : List B} (ho : o.length ≤ 6) : (placeR x o 0).2 = 0 := by
  have := placeAux_some hb o 0 (by omega) (by omega)
  unfold placeR
  cases h : placeAux x o 0 with
  | none => rw [h] at this; cases this
  | some l => rfl
theorem ordersR_perm {fs : List B} (hn : fs.Nodup) : ∀ (k : Nat) (first : List B), first.Nodup → (∀ p ∈ first, p ∈ fs) → first.length + k = fs.length → ∀ o ∈ ordersR fs k first, o.Perm fs
  | 0, first, h1, h2, h3, o, ho => by
    rw [ordersR, List.mem_singleton] at ho
    subst ho
    exact perm_of h1 h2 (by omega)
  | k + 1, first, h1, h2, h3, o, ho => by
    rw [ordersR, List.mem_flatMap] at ho
    obtain ⟨p, hp, ho⟩ := ho
    rw [List.mem_filter] at hp
    have hnot : p ∉ first := has_not.1 (by simpa using hp.2)
    refine ordersR_perm hn k (first ++ [p]) ?_ ?_ (by simp; omega) o ho
    · rw [List.nodup_append]
      refine ⟨h1, by simp, fun a ha b hb e => ?_⟩
      rw [List.mem_singleton] at hb
      subst hb e
      exact hnot ha
    · intro q hq
      rcases List.mem_append.1 hq with hq | hq
      · exact h2 q hq
      · rw [List.mem_singleton] at hq; subst hq; exact hp.1
theorem bestR_eq {x : Node} (hb : x.bulk ≤ 1048576) (acc : List B) : bestR x acc = if valid18 x = false then ([], 1) else if decide (6 < (files47 x).length) || decide (64 < acc.length) then ([], 7) else if acc.any (fun a => !has (files47 x) a) then ([], 6) else ((bestO ((ordersR (files47 x) (files47 x).length []).foldl (bestStep x acc) none)).1, 0) := by
  unfold bestR
  by_cases hv : valid18 x = false
  · rw [if_pos hv, if_pos hv]
  rw [if_neg hv, if_neg hv]
  have hv : valid18 x = true := by simpa using hv
  cases hl : (decide (6 < (files47 x).length) || decide (64 < acc.length)) with
  | true => rfl
  | false =>
    simp only [Bool.false_eq_true, if_false]
    simp only [Bool.or_eq_false_iff, decide_eq_false_iff_not, Nat.not_lt] at hl
    split
    · rfl
    · rw [perm_place hv (List.Perm.refl _), place_ok hb hl.1]
      simp only [ne_eq, not_true, if_false]
      by_cases h0 : (files47 x).length = 0
      · rw [if_pos h0]
        have : files47 x = [] := List.eq_nil_of_length_eq_zero h0
        rw [this]
        rfl
      · rw [if_neg h0]
end Go.Proofs.Pm
end
section
namespace Go.Proofs.Pm
open Go
theorem keep6 {r : List Nat} : ∀ i, i < 6 → (0 :: 1 :: 2 :: 3 :: 4 :: 5 :: r)[i]? = some i := fun i h => by
  match i, h with
  | 0, _ => rfl
  | 1, _ => rfl
  | 2, _ => rfl
  | 3, _ => rfl
  | 4, _ => rfl
  | 5, _ => rfl
theorem bestBody {x : Node} {acc : List B} (hb : x.bulk ≤ 1048576) (hv : valid18 x = true) (hl : (files47 x).length ≤ 6) (ha : acc.length ≤ 64) (fn : FuncId) (D : Nat) (s : Option (List B × Int)) (q : List Int) (hs : okO s) (hq : q.length = (files47 x).length) (hqo : OrdOk (files47 x).length q) :
    YCall Tryz.prog [.yl 0, .list (intL q)] [.obj (slots Tryz.f29.ntmps [(2, .ptr 1 0), (3, .ptr 2 0), (6, .ptr 3 0), (7, .ptr 4 0), (8, .ptr 5 0)]) (recO #[36] (rfA Tryz.f29) (rfB Tryz.f29) none fn D), .box (nodeC x) 25, .box [.list (strL acc)] 26, .box [.list (strL (files47 x))] 26, .box [.list (strL ((bestO s).1))] 26, .box [.s (.int .i64 (leastO s))] 3] (.s (.bool true)) [.obj (slots Tryz.f29.ntmps [(2, .ptr 1 0), (3, .ptr 2 0), (6, .ptr 3 0), (7, .ptr 4 0), (8, .ptr 5 0)]) (recO #[36] (rfA Tryz.f29) (rfB Tryz.f29) none fn D), .box (nodeC x) 25, .box [.list (strL acc)] 26, .box [.list (strL (files47 x))] 26, .box [.list (strL ((bestO (bestStep x acc s (pickO (files47 x) q))).1))] 26, .box [.s (.int .i64 (leastO (bestStep x acc s (pickO (files47 x) q))))] 3] := by
  have hpm := pickO_perm (files47_nodup x) hqo hq
  have hstep := bestStep_cond (x := x) (acc := acc) (o := pickO (files47 x) q) hs
  have hpl := placeP_spec x (pickO (files47 x) q) 0 (by omega) (by simp [pickO]; omega)
  rw [perm_place hv hpm, place_ok hb (by simp [pickO]; omega)] at hpl
  generalize hfl : (placeR x (pickO (files47 x) q) 0).1 = fl at *
  have hcs := costP_spec fl acc
  generalize costR fl acc = cc at *
  refine ycall_intro (pend := none) rfl rfl (fun G w ι l => ?_)
  refine awp_reg ?_
  refine ev_assign tab_ok rfl rfl rfl ?_
  refine ev_nil ?_ rfl
  refine ⟨rfl, _, rfl, ?_⟩
  refine awp_block ?_
  refine awp_seq ?_
  refine awp_reg ?_
  refine ev_assign tab_ok rfl rfl rfl ?_
  refine ev_nil ?_ rfl
  refine awp_ghost 10 1 9 rfl (by constructor) ?_
  refine awp_seq ?_
  refine awp_seq ?_
  refine awp_reg ?_
  refine ev_move tab_ok rfl rfl rfl ?_
  (refine ev_lenL tab_ok rfl rfl rfl rfl rfl rfl ?_)
  refine ev_move tab_ok rfl rfl rfl ?_
  refine ev_nil ?_ rfl
  refine awp_block ?_
  refine awp_loop (fun i : Nat => ⟨[(39, .s (.int .i64 i)), (38, .s (.int .i64 q.length)), (37, .list (intL q)), (10, .row (strL (pickO (files47 x) (q.take i))) 6), (2, .ptr 1 0), (3, .ptr 2 0), (6, .ptr 3 0), (7, .ptr 4 0), (8, .ptr 5 0)], [.obj (slots Tryz.f29.ntmps [(2, .ptr 1 0), (3, .ptr 2 0), (6, .ptr 3 0), (7, .ptr 4 0), (8, .ptr 5 0)]) (recB #[36] (rfA Tryz.f29) (rfB Tryz.f29) none fn D), .box (nodeC x) 25, .box [.list (strL acc)] 26, .box [.list (strL (files47 x))] 26, .box [.list (strL ((bestO s).1))] 26, .box [.s (.int .i64 (leastO s))] 3, .row (pickO (files47 x) (q.take i)).length 1 9]⟩) (fun i => i ≤ q.length) (fun i => q.length - i) 0 [0, 1, 2, 3, 4, 5, 6] ?_ (Nat.zero_le _) keep6 (fun i hi => ?_)
  · all_goals (try refine le_of (by decide) ?_ ?_)
    repeat' (first | exact trivial | exact .nil | (refine CutL.cons rfl ?_ ?_) | (refine EnvLe.cons rfl ?_ ?_) | exact MvS.row | (refine MvS.box (mvl_closed rfl)) | (refine slots_R ?_) | (refine And.intro ⟨_, rfl, ?_⟩ ?_) | exact .ptr rfl | exact .row rfl | exact .frz rfl | (refine Mv.int ?_) | fail)
    all_goals (try simp only [wrap_addL, wrap_addR, wrap_subL, wrap_subR]); all_goals (try (rw [wrap_i64 (by omega) (by omega)]; omega))
    all_goals simp [intL_length]
  refine awp_seq ?_
  refine awp_reg ?_
  (refine ev_ilss tab_ok rfl rfl rfl rfl ?_)
  refine ev_nil ?_ rfl
  refine awp_seq ?_
  refine awp_cond rfl (fun hc => ?_) (fun hc => ?_)
  · refine awp_skip ?_
    have hlt : i < q.length := by simpa using hc
    have hx : q[i]? = some q[i] := List.getElem?_eq_getElem hlt
    have hqi := hqo.2.1 q[i] (List.getElem_mem hlt)
    have htk : q.take (i + 1) = q.take i ++ [q[i]] := by rw [List.take_add_one, hx]; rfl
    have hpk : pickO (files47 x) (q.take (i + 1)) = pickO (files47 x) (q.take i) ++ [pick1 (files47 x) q[i]] := by rw [htk, pickO, List.map_append]; rfl
    have hgt := pick1_get hqi.1 hqi.2
    have hln : (pickO (files47 x) (q.take i)).length ≤ 6 := by
      simp only [pickO, List.length_map, List.length_take]; omega
    have hxi : (intL q)[i]? = some [.s (.int .i64 q[i])] := by simp [intL, hx]
    generalize q[i] = qi at *
    generalize pickO (files47 x) (q.take i) = o at *
    refine awp_seq ?_
    refine awp_block ?_
    refine awp_seq ?_
    refine awp_reg ?_
    (refine ev_iaL tab_ok rfl rfl rfl rfl rfl rfl rfl rfl rfl (by omega) (by rw [Int.toNat_natCast]; exact hxi) rfl ?_)
    (refine ev_loadE tab_ok rfl rfl rfl rfl rfl rfl ?_)
    refine ev_assign tab_ok rfl rfl rfl ?_
    refine ev_nil ?_ rfl
    refine awp_reg ?_
    refine ev_move tab_ok rfl rfl rfl ?_
    (refine ev_loadB tab_ok rfl rfl rfl rfl rfl rfl rfl ?_)
    refine ev_move tab_ok rfl rfl rfl ?_
    (refine ev_iaL tab_ok rfl rfl rfl rfl rfl rfl rfl rfl rfl (by omega) (strL_get hgt) rfl ?_)
    (refine ev_loadE tab_ok rfl rfl rfl rfl rfl rfl ?_)
    refine ev_buildSlice tab_ok rfl rfl rfl rfl rfl rfl rfl rfl rfl rfl rfl rfl rfl rfl (by constructor) ?_
    (refine ev_append tab_ok rfl rfl rfl rfl rfl rfl rfl rfl rfl rfl rfl rfl rfl rfl (by repeat constructor) (by (simp [strL_length, intL_length]; done)) (by exact one_len _) (by exact strL_len _) (by (simp only [strL_length, intL_length, List.length_append, List.length_cons, List.length_nil]; omega)) (by (simp only [strL_length, intL_length, List.length_append, List.length_cons, List.length_nil]; omega)) ?_)
    refine ev_assign tab_ok rfl rfl rfl ?_
    refine ev_nil ?_ rfl
    refine awp_reg ?_
    (refine ev_iadd tab_ok rfl rfl rfl rfl ?_)
    refine ev_move tab_ok rfl rfl rfl ?_
    refine ev_nil ?_ rfl
    refine ⟨i + 1, [0, 1, 2, 3, 4, 5, 6], ?_, by omega, hlt, keep6⟩
    all_goals (try refine le_of (by decide) ?_ ?_)
    repeat' (first | exact trivial | exact .nil | (refine CutL.cons rfl ?_ ?_) | (refine EnvLe.cons rfl ?_ ?_) | (refine MvS.box (mvl_closed rfl)) | (refine slots_R ?_) | (refine And.intro ⟨_, rfl, ?_⟩ ?_) | exact .ptr rfl | exact .frz rfl | (refine Mv.rowE rfl ?_) | (refine MvS.rowE ?_) | (refine Mv.int ?_) | fail)
    all_goals (try simp only [wrap_addL, wrap_addR, wrap_subL, wrap_subR]); all_goals (try (rw [wrap_i64 (by omega) (by omega)]; omega))
    all_goals (rw [hpk]; simp [strL])
  · refine awp_exit ?_
    have hge : i = q.length := by
      have : ¬ i < q.length := by simpa using hc
      omega
    subst hge
    rw [List.take_length]
    generalize pickO (files47 x) q = o at *
    refine awp_seq ?_
    refine awp_reg ?_
    (refine ev_loadB tab_ok rfl rfl rfl rfl rfl rfl rfl ?_)
    refine ev_move tab_ok rfl rfl rfl ?_
    refine ev_call rfl rfl rfl rfl rfl (hpl) rfl ?_
    refine ev_move tab_ok rfl rfl rfl ?_
    refine ev_extract tab_ok rfl rfl rfl rfl ?_
    refine ev_extract tab_ok rfl rfl rfl rfl ?_
    refine ev_assign tab_ok rfl rfl rfl ?_
    refine ev_assign tab_ok rfl rfl rfl ?_
    refine ev_nil ?_ rfl
    refine awp_seq ?_
    refine awp_seq ?_
    refine awp_reg ?_
    refine ev_move tab_ok rfl rfl rfl ?_
    (refine ev_ineq tab_ok rfl rfl rfl rfl ?_)
    refine ev_nil ?_ rfl
    refine awp_cond rfl (fun hc => ?_) (fun hc => ?_)
    · exact absurd hc (by simp)
    refine awp_skip ?_
    refine awp_seq ?_
    refine awp_reg ?_
    refine ev_move tab_ok rfl rfl rfl ?_
    (refine ev_loadB tab_ok rfl rfl rfl rfl rfl rfl rfl ?_)
    refine ev_call rfl rfl rfl rfl rfl (hcs) rfl ?_
    refine ev_move tab_ok rfl rfl rfl ?_
    refine ev_extract tab_ok rfl rfl rfl rfl ?_
    refine ev_extract tab_ok rfl rfl rfl rfl ?_
    refine ev_assign tab_ok rfl rfl rfl ?_
    refine ev_assign tab_ok rfl rfl rfl ?_
    refine ev_nil ?_ rfl
    refine awp_seq_to ⟨[(72, .s (.bool (decide (leastO s < 0) || decide (cc.1 < leastO s)))), (10, .row (strL o) 6), (15, .s (.int .i64 cc.1)), (7, .ptr 4 0), (8, .ptr 5 0)], [.obj (slots Tryz.f29.ntmps [(2, .ptr 1 0), (3, .ptr 2 0), (6, .ptr 3 0), (7, .ptr 4 0), (8, .ptr 5 0)]) (recB #[36] (rfA Tryz.f29) (rfB Tryz.f29) none fn D), .box (nodeC x) 25, .box [.list (strL acc)] 26, .box [.list (strL (files47 x))] 26, .box [.list (strL ((bestO s).1))] 26, .box [.s (.int .i64 (leastO s))] 3, .row o.length 1 9]⟩ ?_ ?_
    · cases hy : decide (leastO s < 0)
      all_goals
        refine awp_reg ?_
        (refine ev_loadB tab_ok rfl rfl rfl rfl rfl rfl rfl ?_)
        (refine ev_ilss tab_ok rfl rfl rfl rfl ?_)
        try refine ev_is (congrArg Value.bool (hy)) ?_
        refine ev_move tab_ok rfl rfl rfl ?_
        (first | refine ev_skip rfl rfl ?_ | refine ev_move tab_ok rfl rfl rfl ?_)
        (first | refine ev_skip rfl rfl ?_ | refine ev_loadB tab_ok rfl rfl rfl rfl rfl rfl rfl ?_)
        (first | refine ev_skip rfl rfl ?_ | refine ev_ilss tab_ok rfl rfl rfl rfl ?_)
        (first | refine ev_pickT tab_ok rfl rfl rfl rfl rfl ?_ | refine ev_pickF tab_ok rfl rfl rfl rfl rfl ?_)
        refine ev_nil ?_ rfl
        refine ⟨[0, 1, 2, 3, 4, 5, 6], ?_, keep6⟩
        all_goals (try refine le_of (by decide) ?_ ?_)
        repeat' (first | exact trivial | exact .nil | (refine CutL.cons rfl ?_ ?_) | (refine EnvLe.cons rfl ?_ ?_) | exact MvS.row | (refine MvS.box (mvl_closed rfl)) | (refine slots_R ?_) | (refine And.intro ⟨_, rfl, ?_⟩ ?_) | exact .ptr rfl | exact .row rfl | exact .frz rfl | fail)
        all_goals (try simp only [wrap_addL, wrap_addR, wrap_subL, wrap_subR]); all_goals (try (rw [wrap_i64 (by omega) (by omega)]; omega))
        all_goals simp
    refine awp_cond rfl (fun hc => ?_) (fun hc => ?_)
    · rw [if_pos hc] at hstep
      refine awp_reg ?_
      refine ev_move tab_ok rfl rfl rfl ?_
      refine ev_move tab_ok rfl rfl rfl ?_
      refine ev_store tab_ok rfl rfl rfl rfl rfl rfl rfl rfl rfl (by repeat constructor) ?_
      refine ev_store tab_ok rfl rfl rfl rfl rfl rfl rfl rfl rfl (by repeat constructor) ?_
      refine ev_nil ?_ rfl
      refine ⟨[0, 1, 2, 3, 4, 5], rfl, ?_, keep6⟩
      rw [hstep]
      exact cut_of (by decide) (.cons rfl (slots_R ⟨⟨_, rfl, .ptr rfl⟩, ⟨_, rfl, .ptr rfl⟩, ⟨_, rfl, .ptr rfl⟩, ⟨_, rfl, .ptr rfl⟩, ⟨_, rfl, .ptr rfl⟩, trivial⟩) (.cons rfl (.box (mvl_closed rfl)) (.cons rfl (.box (mvl_closed rfl)) (.cons rfl (.box (mvl_closed rfl)) (.cons rfl (.box (.cons (.frz rfl) .nil)) (.cons rfl (.box (mvl_closed rfl)) .nil))))))
    · rw [if_neg (by rw [hc]; decide)] at hstep
      refine awp_skip ?_
      refine ⟨[0, 1, 2, 3, 4, 5], rfl, ?_, keep6⟩
      rw [hstep]
      exact cut_of (by decide) (.cons rfl (slots_R ⟨⟨_, rfl, .ptr rfl⟩, ⟨_, rfl, .ptr rfl⟩, ⟨_, rfl, .ptr rfl⟩, ⟨_, rfl, .ptr rfl⟩, ⟨_, rfl, .ptr rfl⟩, trivial⟩) (.cons rfl (.box (mvl_closed rfl)) (.cons rfl (.box (mvl_closed rfl)) (.cons rfl (.box (mvl_closed rfl)) (.cons rfl (.box (mvl_closed rfl)) (.cons rfl (.box (mvl_closed rfl)) .nil))))))
theorem bestP_spec (x : Node) (acc : List B) (hb : x.bulk ≤ 1048576) : FCall Tryz.prog 29 [.agg (nodeC x), .list (strL acc)] [] (.tup [.list (strL (bestR x acc).1), .s (.int .i64 (bestR x acc).2)]) [] := by
  have hfin := bestR_eq hb acc
  refine fcall_intro tab_ok Tryz.call29 Tryz.func29 rfl rfl rfl (fun G w ι => ?_)
  refine awp_seq ?_
  refine awp_reg ?_
  refine ev_box rfl rfl rfl rfl (by constructor) ?_
  refine ev_box rfl rfl rfl rfl (by constructor) ?_
  refine ev_alloc tab_ok rfl rfl rfl rfl rfl rfl (by constructor) ?_
  refine ev_alloc tab_ok rfl rfl rfl rfl rfl rfl (by constructor) ?_
  refine ev_nil ?_ rfl
  refine awp_seq ?_
  refine awp_seq ?_
  refine awp_reg ?_
  (refine ev_loadB tab_ok rfl rfl rfl rfl rfl rfl rfl ?_)
  refine ev_call rfl rfl rfl rfl rfl (validP_spec x (by omega)) rfl ?_
  refine ev_not tab_ok rfl rfl rfl ?_
  refine ev_nil ?_ rfl
  refine awp_cond rfl (fun hc => ?_) (fun hc => ?_)
  · have hv : valid18 x = false := by simpa using hc
    rw [if_pos hv] at hfin
    refine awp_seq ?_
    refine awp_reg ?_
    refine ev_store tab_ok rfl rfl rfl rfl rfl rfl rfl rfl rfl (by repeat constructor) ?_
    refine ev_store tab_ok rfl rfl rfl rfl rfl rfl rfl rfl rfl (by repeat constructor) ?_
    refine ev_nil ?_ rfl
    refine awp_ret ?_
    refine ⟨_, [], rfl, ?_, cut_of (by decide) .nil, keep0⟩
    rw [hfin]
    exact .tupL (.cons .nilL (.cons (.frz rfl) .nil))
  have hv : valid18 x = true := by simpa using hc
  rw [if_neg (by rw [hv]; decide)] at hfin
  refine awp_skip ?_
  refine awp_seq ?_
  refine awp_reg ?_
  (refine ev_loadB tab_ok rfl rfl rfl rfl rfl rfl rfl ?_)
  refine ev_call rfl rfl rfl rfl rfl (filesP_spec x (by omega)) rfl ?_
  refine ev_alloc tab_ok rfl rfl rfl rfl rfl rfl (by constructor) ?_
  refine ev_store tab_ok rfl rfl rfl rfl rfl rfl rfl rfl rfl (by repeat constructor) ?_
  refine ev_nil ?_ rfl
  have hnd := files47_nodup x
  refine awp_seq ?_
  refine awp_seq_to ⟨[(29, .s (.bool (decide (6 < (files47 x).length) || decide (64 < acc.length)))), (2, .ptr 0 0), (3, .ptr 1 0), (4, .ptr 2 0), (5, .ptr 3 0), (6, .ptr 4 0)], [.box (nodeC x) 25, .box [.list (strL acc)] 26, .box [.s (.slice none 0 0)] 26, .box [.s (.int .i64 0)] 29, .box [.list (strL (files47 x))] 26]⟩ ?_ ?_
  · cases hy : decide ((6 : Int) < ((files47 x).length : Int))
    all_goals
      have hy2 : decide (6 < (files47 x).length) = decide ((6 : Int) < ((files47 x).length : Int)) := by
        by_cases h : 6 < (files47 x).length
        · rw [decide_eq_true h, decide_eq_true (by omega)]
        · rw [decide_eq_false h, decide_eq_false (by omega)]
      refine awp_reg ?_
      (refine ev_loadB tab_ok rfl rfl rfl rfl rfl rfl rfl ?_)
      (refine ev_lenL tab_ok rfl rfl rfl rfl rfl rfl ?_)
      refine ev_igtr tab_ok rfl rfl rfl rfl ?_
      try refine ev_as (show _ = PV.s (.bool _) by rw [strL_length, hy]) ?_
      refine ev_move tab_ok rfl rfl rfl ?_
      (first | refine ev_skip rfl rfl ?_ | refine ev_loadB tab_ok rfl rfl rfl rfl rfl rfl rfl ?_)
      (first | refine ev_skip rfl rfl ?_ | refine ev_lenL tab_ok rfl rfl rfl rfl rfl rfl ?_)
      (first | refine ev_skip rfl rfl ?_ | refine ev_igtr tab_ok rfl rfl rfl rfl ?_)
      (first | refine ev_pickT tab_ok rfl rfl rfl rfl rfl ?_ | refine ev_pickF tab_ok rfl rfl rfl rfl rfl ?_)
      refine ev_nil ?_ rfl
      refine ⟨[0, 1, 2, 3, 4], ?_, keep0⟩
      all_goals (try refine le_of (by decide) ?_ ?_)
      repeat' (first | exact trivial | exact .nil | (refine CutL.cons rfl ?_ ?_) | (refine EnvLe.cons rfl ?_ ?_) | (refine MvS.box (mvl_closed rfl)) | exact .ptr rfl | (refine Mv.bool ?_) | fail)
      all_goals (try simp only [wrap_addL, wrap_addR, wrap_subL, wrap_subR]); all_goals (try (rw [wrap_i64 (by omega) (by omega)]; omega))
      all_goals (rw [hy2, hy]; simp [strL_length])
    all_goals omega
  refine awp_cond rfl (fun hc => ?_) (fun hc => ?_)
  · rw [if_pos hc] at hfin
    refine awp_seq ?_
    refine awp_reg ?_
    refine ev_store tab_ok rfl rfl rfl rfl rfl rfl rfl rfl rfl (by repeat constructor) ?_
    refine ev_store tab_ok rfl rfl rfl rfl rfl rfl rfl rfl rfl (by repeat constructor) ?_
    refine ev_nil ?_ rfl
    refine awp_ret ?_
    refine ⟨_, [], rfl, ?_, cut_of (by decide) .nil, keep0⟩
    rw [hfin]
    exact .tupL (.cons .nilL (.cons (.frz rfl) .nil))
  rw [if_neg (by rw [hc]; decide)] at hfin
  simp only [Bool.or_eq_false_iff, decide_eq_false_iff_not, Nat.not_lt] at hc
  obtain ⟨hl, ha⟩ := hc
  refine awp_skip ?_
  refine awp_seq ?_
  refine awp_seq ?_
  refine awp_reg ?_
  (refine ev_loadB tab_ok rfl rfl rfl rfl rfl rfl rfl ?_)
  refine ev_mkFn tab_ok rfl rfl rfl rfl rfl ?_
  refine ev_callG (sg := [4]) (nu := []) (Sin := [_]) (Sout := [.box [.list (strL (files47 x))] 26]) rfl rfl rfl rfl (anyFn_spec (files47 x) acc) (by repeat' (first | exact .nil | (refine MvL.cons ?_ ?_) | exact .ptr rfl | exact .frz rfl | (refine Mv.fnL ?_ ?_) | fail)) (by repeat' (first | exact trivial | (refine And.intro rfl ?_))) (by repeat' (first | exact .nil | (refine MvSs.cons ?_ ?_) | (refine MvS.box ?_) | exact mvl_closed rfl | fail)) (by repeat' (first | exact .frz rfl | fail)) (by repeat' (first | exact .nil | (refine MvSs.cons ?_ ?_) | (refine MvS.box ?_) | exact mvl_closed rfl | fail)) rfl rfl (by decide) rfl ?_
  refine ev_nil ?_ rfl
  refine awp_cond rfl (fun hc => ?_) (fun hc => ?_)
  · rw [if_pos hc] at hfin
    refine awp_seq ?_
    refine awp_reg ?_
    refine ev_store tab_ok rfl rfl rfl rfl rfl rfl rfl rfl rfl (by repeat constructor) ?_
    refine ev_store tab_ok rfl rfl rfl rfl rfl rfl rfl rfl rfl (by repeat constructor) ?_
    refine ev_nil ?_ rfl
    refine awp_ret ?_
    refine ⟨_, [], rfl, ?_, cut_of (by decide) .nil, keep0⟩
    rw [hfin]
    exact .tupL (.cons .nilL (.cons (.frz rfl) .nil))
  rw [if_neg (by rw [hc]; decide)] at hfin
  refine awp_skip ?_
  refine awp_seq ?_
  refine awp_reg ?_
  refine ev_alloc tab_ok rfl rfl rfl rfl rfl rfl (by constructor) ?_
  refine ev_nil ?_ rfl
  refine awp_seq ?_
  refine awp_reg ?_
  refine ev_alloc tab_ok rfl rfl rfl rfl rfl rfl (by constructor) ?_
  refine ev_store tab_ok rfl rfl rfl rfl rfl rfl rfl rfl rfl (by repeat constructor) ?_
  refine ev_nil ?_ rfl
  refine awp_seq ?_
  refine awp_seq ?_
  refine awp_reg ?_
  (refine ev_loadB tab_ok rfl rfl rfl rfl rfl rfl rfl ?_)
  (refine ev_lenL tab_ok rfl rfl rfl rfl rfl rfl ?_)
  try refine ev_as (show _ = PV.s (.int .i64 (((files47 x).length : Nat) : Int)) by rw [strL_length]) ?_
  refine ev_callG (sg := []) (nu := [7]) (Sin := []) (Sout := [.box [.s (.int .i64 (((files47 x).length : Nat) : Int))] 3]) (r' := .fn 86 [] [.ptr 7 0]) rfl rfl rfl rfl (ordersP_spec (files47 x).length) (by repeat' (first | exact .nil | (refine MvL.cons ?_ ?_) | exact .frz rfl | fail)) (by repeat' (first | exact trivial | (refine And.intro rfl ?_))) (by repeat' (first | exact .nil | fail)) (by repeat' (first | exact .nil | (refine MvL.cons ?_ ?_) | exact .ptr rfl | (refine Mv.fnL ?_ ?_) | fail)) (by repeat' (first | exact .nil | (refine MvSs.cons ?_ ?_) | (refine MvS.box ?_) | exact mvl_closed rfl | fail)) rfl rfl (by decide) rfl ?_
  refine ev_nil ?_ rfl
  have hfold : (ordersR (files47 x) (files47 x).length []).foldl (bestStep x acc) none = (ordI (files47 x).length (files47 x).length []).foldl (fun s q => bestStep x acc s (pickO (files47 x) q)) none := by
    have h1 := ordI_map hnd (files47 x).length [] (by simp) ⟨by simp, fun i hi => (by cases hi), List.nodup_nil⟩
    rw [show pickO (files47 x) [] = [] from rfl] at h1
    rw [← h1, List.foldl_map]
  rw [hfold] at hfin
  generalize hz : (ordI (files47 x).length (files47 x).length []).foldl (fun s q => bestStep x acc s (pickO (files47 x) q)) none = sN at *
  refine awp_block ?_
  refine awp_rangeFunc (envC := [(2, .ptr 0 0), (3, .ptr 1 0), (6, .ptr 4 0), (7, .ptr 5 0), (8, .ptr 6 0)]) (envC' := [(2, .ptr 0 0), (3, .ptr 1 0), (6, .ptr 4 0), (7, .ptr 5 0), (8, .ptr 6 0)]) (sg := [8, 0, 1, 4, 5, 6, 7]) (ρ := [0, 1, 2, 3, 4, 5, 6]) (pend := none)
    (st2 := ⟨[(4, .ptr 2 0), (5, .ptr 3 0), (7, .ptr 5 0)], [.box (nodeC x) 25, .box [.list (strL acc)] 26, .box [.s (.slice none 0 0)] 26, .box [.s (.int .i64 0)] 29, .box [.list (strL (files47 x))] 26, .box [.list (strL (bestO sN).1)] 26, .box [.s (.int .i64 (leastO sN))] 3]⟩) (args := [.yl 0, .ptr 6 0])
    (H' := [.box (nodeC x) 25, .box [.list (strL acc)] 26, .box [.s (.slice none 0 0)] 26, .box [.s (.int .i64 0)] 29, .box [.list (strL (files47 x))] 26, .box [.list (strL (bestO sN).1)] 26, .box [.s (.int .i64 (leastO sN))] 3, .box [.s (.int .i64 (((files47 x).length : Nat) : Int))] 3])
    (Sin := fun fn D => [_, _, _, _, _, _, _]) (Sout := fun fn D => [.obj (slots Tryz.f29.ntmps [(2, .ptr 0 0), (3, .ptr 1 0), (6, .ptr 4 0), (7, .ptr 5 0), (8, .ptr 6 0)]) (recO #[36] (rfA Tryz.f29) (rfB Tryz.f29) none fn D), .box (nodeC x) 25, .box [.list (strL acc)] 26, .box [.list (strL (files47 x))] 26, .box [.list (strL (bestO sN).1)] 26, .box [.s (.int .i64 (leastO sN))] 3, .box [.s (.int .i64 (((files47 x).length : Nat) : Int))] 3])
    rfl rfl ⟨rfl, rfl, rfl, rfl, rfl, trivial⟩ (fun fn D => hz ▸ ordersIter (bst := fun s => (bestO s).1) (lst := leastO) (step := fun s q => bestStep x acc s (pickO (files47 x) q)) (ok := okO) (N := Tryz.f29.ntmps) (φ := recO #[36] (rfA Tryz.f29) (rfB Tryz.f29) none fn D) (files47 x).length hl (fun s q h1 h2 h3 => bestStep_ok hb (by simp [pickO]; omega) (by omega) h1) (fun s q h1 h2 h3 => bestBody hb hv hl ha fn D s q h1 h2 h3) none (.inr rfl)) (.cons (.yl rfl) (.cons (.ptr rfl) .nil)) (fun fn D => ⟨rfl, rfl, rfl, rfl, rfl, rfl, rfl, trivial⟩)
    (fun fn D => ?_) (fun fn D => ?_) (fun _ _ => rfl) (fun _ _ => rfl) (by decide) rfl (fun _ _ => rfl) (fun fn D => ?_) (by show (8 : Nat) ∉ [0, 1, 2, 3, 4, 5, 6]; decide) keep0 ?_
  · exact .cons (slots_R ⟨⟨_, rfl, .ptr rfl⟩, ⟨_, rfl, .ptr rfl⟩, ⟨_, rfl, .ptr rfl⟩, ⟨_, rfl, .ptr rfl⟩, ⟨_, rfl, .ptr rfl⟩, trivial⟩) (.cons (.box (mvl_closed rfl)) (.cons (.box (mvl_closed rfl)) (.cons (.box (mvl_closed rfl)) (.cons (.box (.cons .nilL .nil)) (.cons (.box (mvl_closed rfl)) (.cons (.box (mvl_closed rfl)) .nil))))))
  · exact .cons (slots_R ⟨⟨_, rfl, .ptr rfl⟩, ⟨_, rfl, .ptr rfl⟩, ⟨_, rfl, .ptr rfl⟩, ⟨_, rfl, .ptr rfl⟩, ⟨_, rfl, .ptr rfl⟩, trivial⟩) (.cons (.box (mvl_closed rfl)) (.cons (.box (mvl_closed rfl)) (.cons (.box (mvl_closed rfl)) (.cons (.box (mvl_closed rfl)) (.cons (.box (mvl_closed rfl)) (.cons (.box (mvl_closed rfl)) .nil))))))
  · all_goals (try refine le_of (by decide) ?_ ?_)
    repeat' (first | exact trivial | exact .nil | (refine CutL.cons rfl ?_ ?_) | (refine EnvLe.cons rfl ?_ ?_) | (refine MvS.box (mvl_closed rfl)) | exact .ptr rfl | fail)
    all_goals (try simp only [wrap_addL, wrap_addR, wrap_subL, wrap_subR]); all_goals (try (rw [wrap_i64 (by omega) (by omega)]; omega))
  refine awp_seq ?_
  refine awp_reg ?_
  (refine ev_loadB tab_ok rfl rfl rfl rfl rfl rfl rfl ?_)
  refine ev_store tab_ok rfl rfl rfl rfl rfl rfl rfl rfl rfl (by repeat constructor) ?_
  refine ev_store tab_ok rfl rfl rfl rfl rfl rfl rfl rfl rfl (by repeat constructor) ?_
  refine ev_nil ?_ rfl
  refine awp_ret ?_
  refine ⟨_, [], rfl, Mv.val ?_ rfl, cut_of (by decide) .nil, keep0⟩
  rw [hfin]
end Go.Proofs.Pm
end
section
namespace Go.Proofs.Pm
open Go
def getS (l : List B) (j : Nat) : B := l.getD j ⟨#[]⟩
theorem getS_get {l : List B} {j : Nat} (h : j < l.length) : l[j]? = some (getS l j) := by simp [getS, h]
theorem strS_get {l : List B} {j : Nat} (h : j < l.length) : (strS l)[j]? = some (.s (.string (getS l j))) := by simp [strS, getS_get h]
theorem strS_load {ti : TI} {l : List B} {k : Nat} (ha : ti.agg = false) (h : k < l.length) : loadO ti k (strS l) = some (.s (.string (getS l k))) := by
  unfold loadO
  rw [ha]
  exact strS_get h
theorem strS_store {l : List B} {k : Nat} {s : B} (h : k < l.length) : storeO (strS l) k [.s (.string s)] = some (strS (l.set k s)) := by
  have hs : ∀ (l : List B) (k : Nat), k < l.length → spliceO (strS l) k [.s (.string s)] = some (strS (l.set k s)) := by
    intro l
    induction l with
    | nil => intro k hk; cases hk
    | cons x r ih =>
      intro k hk
      cases k with
      | zero => show overO _ _ = _; cases r <;> rfl
      | succ k =>
        have := ih k (by simpa using hk)
        simp only [strS, List.map_cons, spliceO, List.set_cons_succ] at this ⊢
        rw [this]
  unfold storeO
  cases hb : (Nat.beq k 0 && Nat.beq (strS l).length [PV.s (.string s)].length) with
  | false => exact hs l k h
  | true =>
    simp only [Bool.and_eq_true] at hb
    have h1 := Nat.eq_of_beq_eq_true hb.1
    have h2 := Nat.eq_of_beq_eq_true hb.2
    rw [strS_length] at h2
    match l, h2 with
    | [x], _ => subst h1; rfl
section
variable {P : Program} {T : List TI} {N : Nat} {ops : Array Oper} {draw : Bool} {acc : List (List Nat × List Nat)} {rest : List Oper} {K : St → Prop} {env : List (Nat × PV)} {H H' : List LS} {d : Nat} {ty : TypeId} {pos : String} {after : Array Edge} {gd : Option (Nat × Bool)}
theorem nstep_iaS {t e : TypeId} {x y : Operand} {i m : Nat} {k : IntKind} {n : Int} {ti te : TI} (hT : TOk P T) (ht : lkT T t = some ti) (hk : ti.ok = true) (hd : ti.k = .slice e) (hE : lkT T e = some te) (hke : te.ok = true) (hs : te.size = 1) (h0 : 0 ≤ n) (h1 : n < m) : NStep P (.indexAddr t x y) [.sl i m, .s (.int k n)] [] (.ptr i n.toNat) := by
  intro o G w ι H ρ ho hH hv _
  obtain ⟨e1, e2⟩ := VReps.two (v := ρ x) (u := ρ y) hv
  obtain ⟨b, c, cs, t', m', hve, hi, hb, hnm, hmm⟩ := sl_inv e1
  obtain ⟨inf, hinf, hsz, _⟩ := size_at hT hE hke
  refine ⟨.pointer (some ⟨b, n.toNat, none⟩), ?_, .ptr hi ⟨cs, t', hb⟩⟩
  have hs1 : inf.size = 1 := by rw [← hsz]; exact hs
  have hadd : ∀ k, (⟨b, 0, none⟩ : Addr).add k = ⟨b, k, none⟩ := fun k => add_at b k
  simp [execOp, ho, hve, s_inv e2, Instr.indexAt, run_underlying (kind_slice hT ht hk hd), asIntOf, h0, h1, run_size hinf, hs1, hadd]
theorem ev_iaS {t e : TypeId} {x y : Operand} {i m : Nat} {k : IntKind} {n : Int} {ti te : TI} (hT : TOk P T) (hg : gEval ops env gd = some true) (hd : Nat.blt d N = true) (e0 : evalO (look env) x = some (.sl i m)) (e1 : evalO (look env) y = some (.s (.int k n))) (h1 : lkT T t = some ti) (h2 : ti.ok = true) (h3 : ti.k = .slice e) (h4 : lkT T e = some te) (h5 : te.ok = true) (hs : te.size = 1 := by rfl) (h6 : 0 ≤ n) (h7 : n < m) (h : Ev P N ops draw (([], []) :: acc) rest ⟨(d, .ptr i n.toNat) :: env, H⟩ K) : Ev P N ops draw acc (⟨some d, .indexAddr t x y, ty, pos, after, gd⟩ :: rest) ⟨env, H⟩ K :=
  ev_core (pads := 0) rfl hg hd (ostep_n (nstep_iaS (k := k) hT h1 h2 h3 h4 h5 hs h6 h7) (by simp [Op.operands, evalL, e0, e1])) (fun q hq => by cases hq) (fun q hq => by cases hq) (by simp [setAll, pad]) h
theorem nstep_lenSl {t e u : TypeId} {x : Operand} {i n : Nat} {ti : TI} (hT : TOk P T) (ht : lkT T t = some ti) (hk : ti.ok = true) (hd : ti.k = .slice e) : NStep P (.call { callee := .builtin .len, args := #[x], argTypes := #[t] }) [.sl i n] [] (.s (.int .i64 (n : Int))) := by
  intro o G w ι H ρ ho hH hv _
  obtain ⟨b, c, cs, t', m', hve, hi, hb, hnm, hmm⟩ := sl_inv (VReps.one (v := ρ x) hv)
  exact ⟨_, by simp [execOp, ho, resolve, invoke, builtin, Builtin.len_, hve, run_underlying (kind_slice hT ht hk hd), goInt], .s _⟩
theorem ev_lenSl {x : Operand} {t e : TypeId} {i n : Nat} {ti : TI} (hT : TOk P T) (hg : gEval ops env gd = some true) (hd : Nat.blt d N = true) (e0 : evalO (look env) x = some (.sl i n)) (h1 : lkT T t = some ti) (h2 : ti.ok = true) (h3 : ti.k = .slice e) (h : Ev P N ops draw (([], []) :: acc) rest ⟨(d, .s (.int .i64 (n : Int))) :: env, H⟩ K) : Ev P N ops draw acc (⟨some d, .call { callee := .builtin .len, args := #[x], argTypes := #[t] }, ty, pos, after, gd⟩ :: rest) ⟨env, H⟩ K :=
  ev_core (pads := 0) rfl hg hd (ostep_n (nstep_lenSl (i := i) (n := n) (u := 0) hT h1 h2 h3) (by simp [Op.operands, Call.operands, evalL, e0])) (fun q hq => by cases hq) (fun q hq => by cases hq) (by simp [setAll, pad]) h
theorem os_callThaw {P : Program} {o : Oper} {f : Nat → Option PV} {x : Operand} {xs : Array Operand} {tys : Array TypeId} {g : FuncId} {as1 : List PV} {X : List (List PV)} {n : Nat} {et : TypeId} {l : Nat}
    (ho : o.op = .call { callee := .value x, args := xs, argTypes := tys }) (hx : evalO f x = some (.fn g [] [])) (ha : evalL f xs.toList = some as1) (hcl : closedLB as1 = true) (hc : FCall P g as1 [] (.row X 0) [.row n 1 et]) (hn : X.length = n) (h0 : 0 < n) (hX : ∀ y ∈ X, y.length = 1) (hs : X.all (fun y => y.all scalarB) = true) :
    OStep P o f [(l, .absent)] (.sl l n) [(l, .box X.flatten et)] := by
  intro G w ι H a hH hG hf hrd
  have hl := hrd (l, .absent) List.mem_cons_self
  have hll := (List.getElem?_eq_some_iff.1 hl).1
  have hln : ι l = none := hH.rel l _ hl
  have hfn := evalO_mem hf (x := x) (by rw [ho]; simp [Op.operands, Call.operands]) hx
  obtain ⟨fs, cs, hfe, hfirst, hcaps⟩ := fn_inv hfn
  have hfs : fs = #[] := by have := hfirst.length; simpa using this.symm
  have hcs : cs = #[] := by have := hcaps.length; simpa using this.symm
  subst hfs hcs
  have has := evalL_rep (a := a) (fun t p ht hp => hf t p (mem_tmps (by rw [ho]; simp only [Op.operands, Call.operands]; exact Array.mem_toList_iff.2 (Array.mem_append.2 (.inr (Array.mem_toList_iff.1 ht))))) hp) ha
  have hP : ∀ {b off : Nat}, Prot (Prot G ι H) (fun _ => none) [] b off ↔ Prot G ι H b off := fun {b off} => ⟨fun h => h.1, fun h => ⟨h, fun i c hi => by cases hi⟩⟩
  have hargs : VReps (VRep (Prot (Prot G ι H) (fun _ => none) []) w (fun _ => none) []) as1 (xs.toList.map a.eval) := by
    refine VReps.mk has.length (fun j p v hp hv => ?_)
    have hcp := closed_get hcl p (List.mem_of_getElem? hp)
    exact ((has.get j p v hp hv).closed hcp).keep (fun a v hp hc => ⟨hc, hP.2 hp⟩) (fun _ _ _ h => by simp at h) (fun _ _ _ _ h => by simp at h) (fun _ _ h => by simp at h) (fun _ _ _ h => by simp at h)
  have hcall := hc.2 (Prot G ι H) w (fun _ => none) _ ⟨fun i s hi => (by simp at hi), fun i j b c d hi => (by cases hi), fun i b c hi => (by cases hi), fun i b c hi => (by cases hi), hH.base.keep (fun a v hp hc => ⟨hc, hP.2 hp⟩)⟩ (fun b off hb => ⟨hG b off hb, fun i c hi e => by have := hH.lt i b c hi e; omega⟩) hargs
  unfold OpGoes
  have hrun : (execOp a.eval o).run P w = .ok (.enter g (xs.toList.map a.eval).toArray) w := by
    have he := hc.1 (Array.map a.eval xs) w
    have : (xs.toList.map a.eval).toArray = Array.map a.eval xs := by apply Array.ext'; simp
    rw [this]
    simp [execOp, ho, resolve, hfe, Deferred.ofValue, invoke, he]
  rw [hrun]
  refine Calls.mono hcall ?_
  rintro e w' ⟨v, ιo, rfl, hHo, hvo, hxo, hout⟩
  refine ⟨v, rfl, ?_⟩
  obtain ⟨hlist, _, hown⟩ := row_inv hvo
  have hown := hown 1 et (by rw [hn]; rfl)
  rcases hown with ⟨_, _, hz⟩ | ⟨b, cp, hb, rfl⟩
  · omega
  obtain ⟨A, cp2, sz2, vs, hve, hcap, hmax, hsz2, hA, hrep⟩ := list_inv hlist
  injection hve with hve1 hve2 hve3
  subst hve1 hve3
  obtain ⟨ad, had, hcells⟩ := hA (by omega)
  injection had with had
  subst had
  have hx0 : X[0]? = some (X[0]'(by omega)) := List.getElem?_eq_getElem _
  have hszz : sz2 = 1 := by
    have hm := List.mem_of_getElem? hx0
    rw [← hsz2 _ hm, hX _ hm]
  subst hszz
  rcases hHo.rel 0 _ rfl with ⟨e1, _⟩ | ⟨b', c', cur, e1, e2, e3, e4, e5⟩
  · rw [hb] at e1; cases e1
  rw [hb] at e1
  injection e1 with e1
  injection e1 with e1 e1'
  subst e1 e1'
  have hbnew : w.heap.size ≤ b := by
    rcases hout.new 0 b cp (by simp) hb with ⟨h1, _⟩ | h1
    · cases h1
    · exact h1
  have hbl : b < w'.heap.size := (Array.getElem?_eq_some_iff.1 e2).1
  have hcur : ∀ (k : Nat) (p : PV), X.flatten[k]? = some p → ∃ u, cur[k]? = some u ∧ p = .s u ∧ u.oneCell' = true := fun k p hkp => by
    obtain ⟨y, h1, h2, h3, h4⟩ := flatten_at hX hkp
    obtain ⟨q1, q2, q3⟩ := hcells _ _ _ h1 h4
    rw [add_at, h3, cell_of_row w' b k cur et (0, 0) e2] at q1
    have hsc := List.all_eq_true.1 (List.all_eq_true.1 hs y (List.mem_of_getElem? h1)) p (List.mem_of_getElem? h2)
    cases p with
    | s u =>
      have := s_inv (hrep _ _ _ _ h1 h2)
      exact ⟨_, q1, by rw [this], q2⟩
    | _ => simp [scalarB] at hsc
  have hblk : ∀ k, k < w.heap.size → w'.heap[k]? = w.heap[k]? := fun k hk => hout.block k hk (fun i c hi => by cases hi)
  have hset : setAll H [(l, LS.box X.flatten et)] = H.set l (.box X.flatten et) := rfl
  rw [hset]
  have hoth : ∀ {j : Nat} {s : LS}, H[j]? = some s → j ≠ l → (H.set l (.box X.flatten et))[j]? = some s := fun h hj => by rw [List.getElem?_set_ne (Ne.symm hj)]; exact h
  have hnl : ∀ {j : Nat} {s : LS}, H[j]? = some s → s ≠ .absent → j ≠ l := fun h hs e => by subst e; rw [hl] at h; injection h with h; exact hs h.symm
  have hext : Ext G w ι H w' (updI ι l (some (b, cp))) (H.set l (.box X.flatten et)) := by
    refine ⟨by simp, hout.size, fun ad v hp hcv => ?_, fun j cs t hj => ⟨updI_ne (hnl hj (by simp)), cs, hoth hj (hnl hj (by simp))⟩, fun j m sz t hj => ⟨m, hoth hj (hnl hj (by simp)), Nat.le_refl _, fun _ => updI_ne (hnl hj (by simp))⟩, fun j kvs hj => ⟨updI_ne (hnl hj (by simp)), kvs, hoth hj (hnl hj (by simp))⟩, fun j ys φ hj => ⟨updI_ne (hnl hj (by simp)), ys, φ, hoth hj (hnl hj (by simp))⟩⟩
    have hlt := World.block_lt_of_cell? w ad hcv
    refine ⟨by rw [World.cell?_of_block (hblk _ hlt)]; exact hcv, hp.1, fun j d hj e => ?_⟩
    simp only [List.length_set] at hj
    by_cases hjl : j = l
    · subst hjl
      rw [updI_self] at e
      injection e with e
      injection e with e _
      omega
    · rw [updI_ne hjl] at e
      obtain ⟨m, sz, t, k1, k2⟩ := hp.2 j d hj e
      exact ⟨m, sz, t, hoth k1 hjl, k2⟩
  refine ⟨updI ι l (some (b, cp)), hH.upd hll (fun j hj => updI_ne hj) hext (fun j b1 c1 hj hjl e => hblk b1 (hH.lt j b1 c1 hj e)) ⟨b, cp, cur, updI_self _ _ _, e2, ?_, fun k u hk hu => ?_, fun k p u hp hu => ?_⟩ (fun b1 c1 e j d hj hjl e2 => ?_) (fun b1 c1 e => ?_) (fun b1 c1 e off => ?_), ?_, hext, ⟨hout.os, hout.tape, hout.output, hout.size, fun k hk _ => hblk k hk, fun j b1 c1 hj e => ?_⟩⟩
  · rw [flatten_length hX, e3]; exact Nat.mul_le_mul_right _ (by omega)
  · obtain ⟨u', h1, _, h3⟩ := hcur k _ (List.getElem?_eq_getElem hk)
    rw [hu] at h1; injection h1 with h1; rw [h1]; exact h3
  · obtain ⟨u', h1, h2, _⟩ := hcur k p hp
    rw [hu] at h1; injection h1 with h1; rw [h2, h1]; exact .s _
  · rw [updI_self] at e
    injection e with e
    injection e with e _
    have := hH.lt j b1 d hj e2
    omega
  · rw [updI_self] at e
    injection e with e
    injection e with e _
    omega
  · rw [updI_self] at e
    injection e with e
    injection e with e _
    exact hG b1 off (by omega)
  · rw [← hn]
    exact .sl (updI_self _ _ _) ⟨X.flatten, et, List.getElem?_set_self hll⟩ (by omega) hmax
  · by_cases hjl : j = l
    · subst hjl
      rw [updI_self] at e
      injection e with e
      injection e with e _
      exact .inr (by omega)
    · rw [updI_ne hjl] at e
      exact .inl ⟨hj, e⟩
theorem ev_callThaw {x : Operand} {xs : Array Operand} {tys : Array TypeId} {g : FuncId} {as1 : List PV} {X : List (List PV)} {n : Nat} {et : TypeId} {l : Nat} (hg : gEval ops env gd = some true) (hd : Nat.blt d N = true) (e0 : evalO (look env) x = some (.fn g [] [])) (e1 : evalL (look env) xs.toList = some as1) (hcl : closedLB as1 = true) (hc : FCall P g as1 [] (.row X 0) [.row n 1 et]) (hn : X.length = n) (h0 : 0 < n) (hX : ∀ y ∈ X, y.length = 1) (hs : X.all (fun y => y.all scalarB) = true) (h2 : Snoc H (.box X.flatten et) l H')
    (h : Ev P N ops draw (([l], [l]) :: acc) rest ⟨(d, .sl l n) :: env, H'⟩ K) : Ev P N ops draw acc (⟨some d, .call { callee := .value x, args := xs, argTypes := tys }, ty, pos, after, gd⟩ :: rest) ⟨env, H⟩ K :=
  ev_core (pads := 1) rfl hg hd (os_callThaw rfl e0 e1 hcl hc hn h0 hX hs (l := l)) (fun q hq => by rw [List.mem_singleton] at hq; subst hq; exact (snoc_facts h2).1) (fun q hq => by rw [List.mem_singleton] at hq; subst hq; simp) (snoc_facts h2).2 h
end
abbrev WM := List (B × Int)
def kvW (m : WM) : KV := m.map fun e => (e.1, .s (.int .i64 e.2))
def wOf : WM → B → Int
  | [], _ => 0
  | e :: r, k => if k = e.1 then e.2 else wOf r k
theorem getW : ∀ (m : WM) (k : B), getM (kvW m) k = some (.s (.int .i64 (wOf m k))) ∨ getM (kvW m) k = none ∧ wOf m k = 0
  | [], k => .inr ⟨rfl, rfl⟩
  | e :: r, k => by
    rw [wOf]
    show getM ((e.1, _) :: kvW r) k = _ ∨ getM ((e.1, _) :: kvW r) k = _ ∧ _
    rw [getM]
    by_cases h : k = e.1
    · rw [if_pos h, if_pos h]; exact .inl rfl
    · rw [if_neg h, if_neg h]; exact getW r k
theorem kvW_mv {R : Nat → Nat → Prop} : ∀ (m : WM), MvKV R (mpOf (kvW m)) (mpOf (kvW m))
  | [] => .nil
  | e :: r => .cons rfl (.frz rfl) (kvW_mv r)
theorem cmpW_spec (m : WM) (a b : B) : FCall Tryz.prog 53 [.s (.string a), .s (.string b), .ptr 0 0] [.box [.mp 1] 76, .mp (mpOf (kvW m))] (.s (.int .i64 (cmpI (wOf m b) (wOf m a)))) [.box [.mp 1] 76, .mp (mpOf (kvW m))] := by
  refine fcall_intro tab_ok Tryz.call53 Tryz.func53 rfl rfl rfl (fun G w ι => ?_)
  refine awp_seq ?_
  refine awp_reg ?_
  refine ev_assign tab_ok rfl rfl rfl ?_
  refine ev_nil ?_ rfl
  refine awp_seq ?_
  rcases getW m a with ha | ⟨ha, ha0⟩ <;> rcases getW m b with hb | ⟨hb, hb0⟩
  all_goals (try rw [ha0]); (try rw [hb0])
  · refine awp_reg ?_
    (refine ev_loadB tab_ok rfl rfl rfl rfl rfl rfl rfl ?_)
    refine ev_move tab_ok rfl rfl rfl ?_
    (refine ev_lookup tab_ok rfl rfl rfl rfl rfl rfl rfl rfl rfl rfl rfl (hb) ?_)
    (refine ev_loadB tab_ok rfl rfl rfl rfl rfl rfl rfl ?_)
    refine ev_move tab_ok rfl rfl rfl ?_
    (refine ev_lookup tab_ok rfl rfl rfl rfl rfl rfl rfl rfl rfl rfl rfl (ha) ?_)
    refine ev_call rfl rfl rfl rfl rfl (cmpI_spec _ _) rfl ?_
    refine ev_assign tab_ok rfl rfl rfl ?_
    refine ev_nil ?_ rfl
    refine awp_ret ?_
    exact ⟨_, [0, 1], rfl, .frz rfl, cut_of (by decide) (.cons rfl (.box (.cons (.mp rfl) .nil)) (.cons rfl (.mp (kvW_mv m)) .nil)), keep2⟩
  · refine awp_reg ?_
    (refine ev_loadB tab_ok rfl rfl rfl rfl rfl rfl rfl ?_)
    refine ev_move tab_ok rfl rfl rfl ?_
    (refine ev_lookup0 tab_ok rfl rfl rfl rfl rfl rfl rfl rfl rfl rfl rfl rfl rfl rfl rfl (hb) ?_)
    (refine ev_loadB tab_ok rfl rfl rfl rfl rfl rfl rfl ?_)
    refine ev_move tab_ok rfl rfl rfl ?_
    (refine ev_lookup tab_ok rfl rfl rfl rfl rfl rfl rfl rfl rfl rfl rfl (ha) ?_)
    refine ev_call rfl rfl rfl rfl rfl (cmpI_spec _ _) rfl ?_
    refine ev_assign tab_ok rfl rfl rfl ?_
    refine ev_nil ?_ rfl
    refine awp_ret ?_
    exact ⟨_, [0, 1], rfl, .frz rfl, cut_of (by decide) (.cons rfl (.box (.cons (.mp rfl) .nil)) (.cons rfl (.mp (kvW_mv m)) .nil)), keep2⟩
  · refine awp_reg ?_
    (refine ev_loadB tab_ok rfl rfl rfl rfl rfl rfl rfl ?_)
    refine ev_move tab_ok rfl rfl rfl ?_
    (refine ev_lookup tab_ok rfl rfl rfl rfl rfl rfl rfl rfl rfl rfl rfl (hb) ?_)
    (refine ev_loadB tab_ok rfl rfl rfl rfl rfl rfl rfl ?_)
    refine ev_move tab_ok rfl rfl rfl ?_
    (refine ev_lookup0 tab_ok rfl rfl rfl rfl rfl rfl rfl rfl rfl rfl rfl rfl rfl rfl rfl (ha) ?_)
    refine ev_call rfl rfl rfl rfl rfl (cmpI_spec _ _) rfl ?_
    refine ev_assign tab_ok rfl rfl rfl ?_
    refine ev_nil ?_ rfl
    refine awp_ret ?_
    exact ⟨_, [0, 1], rfl, .frz rfl, cut_of (by decide) (.cons rfl (.box (.cons (.mp rfl) .nil)) (.cons rfl (.mp (kvW_mv m)) .nil)), keep2⟩
  · refine awp_reg ?_
    (refine ev_loadB tab_ok rfl rfl rfl rfl rfl rfl rfl ?_)
    refine ev_move tab_ok rfl rfl rfl ?_
    (refine ev_lookup0 tab_ok rfl rfl rfl rfl rfl rfl rfl rfl rfl rfl rfl rfl rfl rfl rfl (hb) ?_)
    (refine ev_loadB tab_ok rfl rfl rfl rfl rfl rfl rfl ?_)
    refine ev_move tab_ok rfl rfl rfl ?_
    (refine ev_lookup0 tab_ok rfl rfl rfl rfl rfl rfl rfl rfl rfl rfl rfl rfl rfl rfl rfl (ha) ?_)
    refine ev_call rfl rfl rfl rfl rfl (cmpI_spec _ _) rfl ?_
    refine ev_assign tab_ok rfl rfl rfl ?_
    refine ev_nil ?_ rfl
    refine awp_ret ?_
    exact ⟨_, [0, 1], rfl, .frz rfl, cut_of (by decide) (.cons rfl (.box (.cons (.mp rfl) .nil)) (.cons rfl (.mp (kvW_mv m)) .nil)), keep2⟩
end Go.Proofs.Pm
end
section
namespace Go.Proofs.Pm
open Go
def swapS (l : List B) (i j : Nat) : List B := (l.set i (getS l j)).set j (getS l i)
theorem swapS_length (l : List B) (i j : Nat) : (swapS l i j).length = l.length := by simp [swapS]
def ltW (m : WM) (x y : B) : Bool := decide (cmpI (wOf m y) (wOf m x) < 0)
def insIn (lt : B → B → Bool) (a : Nat) : Nat → List B → List B
  | 0, l => l
  | j + 1, l => if decide (a < j + 1) && lt (getS l (j + 1)) (getS l j) then insIn lt a j (swapS l (j + 1) j) else l
def insOut (lt : B → B → Bool) (a : Nat) : Nat → Nat → List B → List B
  | 0, _, l => l
  | k + 1, i, l => insOut lt a k (i + 1) (insIn lt a i l)
def insS (lt : B → B → Bool) (a b : Nat) (l : List B) : List B := insOut lt a (b - (a + 1)) (a + 1) l
theorem insIn_length (lt : B → B → Bool) (a : Nat) : ∀ (j : Nat) (l : List B), (insIn lt a j l).length = l.length
  | 0, l => rfl
  | j + 1, l => by
    rw [insIn]
    split
    · rw [insIn_length lt a j, swapS_length]
    · rfl
theorem insOut_length (lt : B → B → Bool) (a : Nat) : ∀ (k i : Nat) (l : List B), (insOut lt a k i l).length = l.length
  | 0, _, l => rfl
  | k + 1, i, l => by rw [insOut, insOut_length lt a k, insIn_length]
theorem insS_length (lt : B → B → Bool) (a b : Nat) (l : List B) : (insS lt a b l).length = l.length := insOut_length _ _ _ _ _
theorem insertP_spec (m : WM) (l0 : List B) (a b : Nat) (hb : b ≤ l0.length) (hn : l0.length ≤ 1099511627776) (hab : a ≤ l0.length) : FCall Tryz.prog 115 [.sl 0 l0.length, .s (.int .i64 (a : Int)), .s (.int .i64 (b : Int)), .fn 53 [] [.ptr 1 0]] [.box (strS l0) 9, .box [.mp 2] 76, .mp (mpOf (kvW m))] (.tup []) [.box (strS (insS (ltW m) a b l0)) 9, .box [.mp 2] 76, .mp (mpOf (kvW m))] := by
  refine fcall_intro tab_ok Tryz.call115 Tryz.func115 rfl rfl rfl (fun G w ι => ?_)
  refine awp_seq ?_
  refine awp_reg ?_
  refine ev_move tab_ok rfl rfl rfl ?_
  (refine ev_iadd tab_ok rfl rfl rfl rfl ?_)
  try refine ev_as (show _ = PV.s (.int .i64 ((a + 1 : Nat) : Int)) by rw [wrap_i64 (by omega) (by omega)]; rfl) ?_
  refine ev_assign tab_ok rfl rfl rfl ?_
  refine ev_nil ?_ rfl
  refine awp_block ?_
  refine awp_loop (fun q : Nat × List B => ⟨[(8, .s (.int .i64 (q.1 : Int))), (0, .sl 0 l0.length), (1, .s (.int .i64 (a : Int))), (2, .s (.int .i64 (b : Int))), (3, .fn 53 [] [.ptr 1 0])], [.box (strS q.2) 9, .box [.mp 2] 76, .mp (mpOf (kvW m))]⟩) (fun q => a + 1 ≤ q.1 ∧ q.2.length = l0.length ∧ insS (ltW m) a b l0 = insOut (ltW m) a (b - q.1) q.1 q.2) (fun q => b - q.1) (a + 1, l0) [0, 1, 2] ?_ ⟨Nat.le_refl _, rfl, rfl⟩ keep3 (fun q hq => ?_)
  · all_goals (try refine le_of (by decide) ?_ ?_)
    repeat' (first | exact trivial | exact .nil | (refine CutL.cons rfl ?_ ?_) | (refine EnvLe.cons rfl ?_ ?_) | exact MvS.box (strS_mv _) | exact .sl rfl | exact .frz rfl | fail)
    all_goals (try simp only [wrap_addL, wrap_addR, wrap_subL, wrap_subR]); all_goals (try (rw [wrap_i64 (by omega) (by omega)]; omega))
    all_goals first | exact .box (.cons (.mp rfl) .nil) | exact .mp (kvW_mv m) | exact Mv.fnL .nil (.cons (.ptr rfl) .nil)
  obtain ⟨i, l⟩ := q
  obtain ⟨hi, hl, hq⟩ := hq
  simp only at hi hl hq
  change AWp _ _ _ ⟨[(8, .s (.int .i64 (i : Int))), (0, .sl 0 l0.length), (1, .s (.int .i64 (a : Int))), (2, .s (.int .i64 (b : Int))), (3, .fn 53 [] [.ptr 1 0])], [.box (strS l) 9, .box [.mp 2] 76, .mp (mpOf (kvW m))]⟩ _
  refine awp_seq ?_
  refine awp_seq ?_
  refine awp_reg ?_
  refine ev_move tab_ok rfl rfl rfl ?_
  refine ev_move tab_ok rfl rfl rfl ?_
  (refine ev_ilss tab_ok rfl rfl rfl rfl ?_)
  refine ev_nil ?_ rfl
  refine awp_cond rfl (fun hc => ?_) (fun hc => ?_)
  · refine awp_skip ?_
    have hlt : i < b := by simpa using hc
    rw [show b - i = (b - (i + 1)) + 1 by omega, insOut] at hq
    refine awp_seq ?_
    refine awp_block ?_
    refine awp_seq ?_
    refine awp_reg ?_
    refine ev_move tab_ok rfl rfl rfl ?_
    refine ev_assign tab_ok rfl rfl rfl ?_
    refine ev_nil ?_ rfl
    refine awp_block ?_
    refine awp_loop (fun q : Nat × List B => ⟨[(9, .s (.int .i64 (q.1 : Int))), (8, .s (.int .i64 (i : Int))), (0, .sl 0 l0.length), (1, .s (.int .i64 (a : Int))), (2, .s (.int .i64 (b : Int))), (3, .fn 53 [] [.ptr 1 0])], [.box (strS q.2) 9, .box [.mp 2] 76, .mp (mpOf (kvW m))]⟩) (fun q => q.1 ≤ i ∧ q.2.length = l0.length ∧ insIn (ltW m) a i l = insIn (ltW m) a q.1 q.2) (fun q => q.1) (i, l) [0, 1, 2] ?_ ⟨Nat.le_refl _, hl, rfl⟩ keep3 (fun q hq => ?_)
    · all_goals (try refine le_of (by decide) ?_ ?_)
      repeat' (first | exact trivial | exact .nil | (refine CutL.cons rfl ?_ ?_) | (refine EnvLe.cons rfl ?_ ?_) | exact MvS.box (strS_mv _) | exact .sl rfl | exact .frz rfl | fail)
      all_goals (try simp only [wrap_addL, wrap_addR, wrap_subL, wrap_subR]); all_goals (try (rw [wrap_i64 (by omega) (by omega)]; omega))
      all_goals first | exact .box (.cons (.mp rfl) .nil) | exact .mp (kvW_mv m) | exact Mv.fnL .nil (.cons (.ptr rfl) .nil)
    obtain ⟨j, l1⟩ := q
    obtain ⟨hj, hl1, hq1⟩ := hq
    simp only at hj hl1 hq1
    change AWp _ _ _ ⟨[(9, .s (.int .i64 (j : Int))), (8, .s (.int .i64 (i : Int))), (0, .sl 0 l0.length), (1, .s (.int .i64 (a : Int))), (2, .s (.int .i64 (b : Int))), (3, .fn 53 [] [.ptr 1 0])], [.box (strS l1) 9, .box [.mp 2] 76, .mp (mpOf (kvW m))]⟩ _
    refine awp_seq ?_
    refine awp_seq_to ⟨[(34, .s (.bool (decide (a < j) && ltW m (getS l1 j) (getS l1 (j - 1))))), (9, .s (.int .i64 (j : Int))), (8, .s (.int .i64 (i : Int))), (0, .sl 0 l0.length), (1, .s (.int .i64 (a : Int))), (2, .s (.int .i64 (b : Int))), (3, .fn 53 [] [.ptr 1 0])], [.box (strS l1) 9, .box [.mp 2] 76, .mp (mpOf (kvW m))]⟩ ?_ ?_
    · have hy2 : decide ((a : Int) < (j : Int)) = decide (a < j) := by
        by_cases h : a < j
        · rw [decide_eq_true h, decide_eq_true (by omega)]
        · rw [decide_eq_false h, decide_eq_false (by omega)]
      cases hy : decide (a < j) with
      | false =>
        refine awp_draw mixed ?_
        refine ev_move tab_ok rfl rfl rfl ?_
        refine ev_move tab_ok rfl rfl rfl ?_
        refine ev_igtr tab_ok rfl rfl rfl rfl ?_
        try refine ev_as (show _ = PV.s (.bool false) by rw [← hy, ← hy2]) ?_
        refine ev_move tab_ok rfl rfl rfl ?_
        (refine ev_skip rfl rfl ?_)
        (refine ev_skip rfl rfl ?_)
        (refine ev_skip rfl rfl ?_)
        (refine ev_skip rfl rfl ?_)
        (refine ev_skip rfl rfl ?_)
        (refine ev_skip rfl rfl ?_)
        (refine ev_skip rfl rfl ?_)
        (refine ev_skip rfl rfl ?_)
        (refine ev_skip rfl rfl ?_)
        (refine ev_skip rfl rfl ?_)
        (refine ev_skip rfl rfl ?_)
        (refine ev_skip rfl rfl ?_)
        (refine ev_pickF tab_ok rfl rfl rfl rfl rfl ?_)
        refine ev_nilD ?_ (by kernel_rfl)
        refine ⟨[0, 1, 2], ?_, keep3⟩
        all_goals (try refine le_of (by decide) ?_ ?_)
        repeat' (first | exact trivial | exact .nil | (refine CutL.cons rfl ?_ ?_) | (refine EnvLe.cons rfl ?_ ?_) | exact MvS.box (strS_mv _) | exact .sl rfl | exact .frz rfl | fail)
        all_goals (try simp only [wrap_addL, wrap_addR, wrap_subL, wrap_subR]); all_goals (try (rw [wrap_i64 (by omega) (by omega)]; omega))
        all_goals first | exact .box (.cons (.mp rfl) .nil) | exact .mp (kvW_mv m) | exact Mv.fnL .nil (.cons (.ptr rfl) .nil)
      | true =>
        have hja : a < j := of_decide_eq_true hy
        refine awp_draw mixed ?_
        refine ev_move tab_ok rfl rfl rfl ?_
        refine ev_move tab_ok rfl rfl rfl ?_
        refine ev_igtr tab_ok rfl rfl rfl rfl ?_
        try refine ev_as (show _ = PV.s (.bool true) by rw [← hy, ← hy2]) ?_
        refine ev_move tab_ok rfl rfl rfl ?_
        (refine ev_move tab_ok rfl rfl rfl ?_)
        (refine ev_move tab_ok rfl rfl rfl ?_)
        (refine ev_move tab_ok rfl rfl rfl ?_)
        (refine ev_iaS tab_ok rfl rfl rfl rfl rfl rfl rfl rfl rfl rfl (by omega) (by omega) ?_)
        try refine ev_as (show _ = PV.ptr 0 j by rw [Int.toNat_natCast]) ?_
        (refine ev_loadB tab_ok rfl rfl rfl rfl rfl rfl (strS_load rfl (by omega)) ?_)
        (refine ev_move tab_ok rfl rfl rfl ?_)
        (refine ev_move tab_ok rfl rfl rfl ?_)
        (refine ev_isub tab_ok rfl rfl rfl rfl ?_)
        try refine ev_as (show _ = PV.s (.int .i64 ((j - 1 : Nat) : Int)) by rw [wrap_i64 (by omega) (by omega)]; congr 2; omega) ?_
        (refine ev_iaS tab_ok rfl rfl rfl rfl rfl rfl rfl rfl rfl rfl (by omega) (by omega) ?_)
        try refine ev_as (show _ = PV.ptr 0 (j - 1) by rw [Int.toNat_natCast]) ?_
        (refine ev_loadB tab_ok rfl rfl rfl rfl rfl rfl (strS_load rfl (by omega)) ?_)
        (refine ev_callG (sg := [1, 2]) (nu := []) (Sin := [_, _]) (Sout := [.box [.mp 2] 76, .mp (mpOf (kvW m))]) rfl rfl rfl rfl (cmpW_spec m (getS l1 j) (getS l1 (j - 1))) (by repeat' (first | exact .nil | (refine MvL.cons ?_ ?_) | exact .ptr rfl | exact .frz rfl | fail)) (by repeat' (first | exact trivial | (refine And.intro rfl ?_))) (by repeat' (first | exact .nil | (refine MvSs.cons ?_ ?_) | (refine MvS.box ?_) | (refine MvS.mp ?_) | exact kvW_mv _ | (refine MvL.cons ?_ ?_) | exact .mp rfl | fail)) (by repeat' (first | exact .frz rfl | fail)) (by repeat' (first | exact .nil | (refine MvSs.cons ?_ ?_) | (refine MvS.box ?_) | (refine MvS.mp ?_) | exact kvW_mv _ | (refine MvL.cons ?_ ?_) | exact .mp rfl | fail)) rfl rfl (by decide) rfl ?_)
        (refine ev_ilss tab_ok rfl rfl rfl rfl ?_)
        (refine ev_pickT tab_ok rfl rfl rfl rfl rfl ?_)
        refine ev_nilD ?_ (by kernel_rfl)
        refine ⟨[0, 1, 2], ?_, keep3⟩
        all_goals (try refine le_of (by decide) ?_ ?_)
        repeat' (first | exact trivial | exact .nil | (refine CutL.cons rfl ?_ ?_) | (refine EnvLe.cons rfl ?_ ?_) | exact MvS.box (strS_mv _) | exact .sl rfl | exact .frz rfl | fail)
        all_goals (try simp only [wrap_addL, wrap_addR, wrap_subL, wrap_subR]); all_goals (try (rw [wrap_i64 (by omega) (by omega)]; omega))
        all_goals first | exact .box (.cons (.mp rfl) .nil) | exact .mp (kvW_mv m) | exact Mv.fnL .nil (.cons (.ptr rfl) .nil)
    refine awp_cond rfl (fun hc => ?_) (fun hc => ?_)
    · refine awp_skip ?_
      simp only [Bool.and_eq_true, decide_eq_true_eq] at hc
      obtain ⟨hja, hlt2⟩ := hc
      have hq2 : insIn (ltW m) a i l = insIn (ltW m) a (j - 1) (swapS l1 j (j - 1)) := by
        rw [hq1]
        obtain ⟨k, rfl⟩ : ∃ k, j = k + 1 := ⟨j - 1, by omega⟩
        rw [insIn, if_pos]
        · rfl
        · rw [Bool.and_eq_true]; exact ⟨by simpa using hja, hlt2⟩
      refine awp_seq ?_
      refine awp_block ?_
      refine awp_draw mixed ?_
      refine ev_move tab_ok rfl rfl rfl ?_
      refine ev_move tab_ok rfl rfl rfl ?_
      refine ev_move tab_ok rfl rfl rfl ?_
      refine ev_move tab_ok rfl rfl rfl ?_
      refine ev_isub tab_ok rfl rfl rfl rfl ?_
      try refine ev_as (show _ = PV.s (.int .i64 ((j - 1 : Nat) : Int)) by rw [wrap_i64 (by omega) (by omega)]; congr 2; omega) ?_
      refine ev_move tab_ok rfl rfl rfl ?_
      refine ev_move tab_ok rfl rfl rfl ?_
      refine ev_isub tab_ok rfl rfl rfl rfl ?_
      try refine ev_as (show _ = PV.s (.int .i64 ((j - 1 : Nat) : Int)) by rw [wrap_i64 (by omega) (by omega)]; congr 2; omega) ?_
      (refine ev_iaS tab_ok rfl rfl rfl rfl rfl rfl rfl rfl rfl rfl (by omega) (by omega) ?_)
      try refine ev_as (show _ = PV.ptr 0 (j - 1) by rw [Int.toNat_natCast]) ?_
      (refine ev_loadB tab_ok rfl rfl rfl rfl rfl rfl (strS_load rfl (by omega)) ?_)
      refine ev_move tab_ok rfl rfl rfl ?_
      refine ev_move tab_ok rfl rfl rfl ?_
      (refine ev_iaS tab_ok rfl rfl rfl rfl rfl rfl rfl rfl rfl rfl (by omega) (by omega) ?_)
      try refine ev_as (show _ = PV.ptr 0 j by rw [Int.toNat_natCast]) ?_
      (refine ev_loadB tab_ok rfl rfl rfl rfl rfl rfl (strS_load rfl (by omega)) ?_)
      (refine ev_iaS tab_ok rfl rfl rfl rfl rfl rfl rfl rfl rfl rfl (by omega) (by omega) ?_)
      try refine ev_as (show _ = PV.ptr 0 j by rw [Int.toNat_natCast]) ?_
      (refine ev_store tab_ok rfl rfl rfl rfl rfl rfl rfl rfl (strS_store (by omega)) (by repeat constructor) ?_)
      (refine ev_iaS tab_ok rfl rfl rfl rfl rfl rfl rfl rfl rfl rfl (by omega) (by omega) ?_)
      try refine ev_as (show _ = PV.ptr 0 (j - 1) by rw [Int.toNat_natCast]) ?_
      (refine ev_store tab_ok rfl rfl rfl rfl rfl rfl rfl rfl (strS_store (by (simp only [List.length_set]; omega))) (by repeat constructor) ?_)
      refine ev_nilD ?_ (by kernel_rfl)
      refine awp_reg ?_
      refine ev_move tab_ok rfl rfl rfl ?_
      refine ev_isub tab_ok rfl rfl rfl rfl ?_
      try refine ev_as (show _ = PV.s (.int .i64 ((j - 1 : Nat) : Int)) by rw [wrap_i64 (by omega) (by omega)]; congr 2; omega) ?_
      refine ev_assign tab_ok rfl rfl rfl ?_
      refine ev_nil ?_ rfl
      refine ⟨(j - 1, swapS l1 j (j - 1)), [0, 1, 2], ?_, by show j - 1 < j; omega, ⟨by show j - 1 ≤ i; omega, by rw [swapS_length]; exact hl1, hq2⟩, keep3⟩
      all_goals (try refine le_of (by decide) ?_ ?_)
      repeat' (first | exact trivial | exact .nil | (refine CutL.cons rfl ?_ ?_) | (refine EnvLe.cons rfl ?_ ?_) | exact MvS.box (strS_mv _) | exact .sl rfl | exact .frz rfl | fail)
      all_goals (try simp only [wrap_addL, wrap_addR, wrap_subL, wrap_subR]); all_goals (try (rw [wrap_i64 (by omega) (by omega)]; omega))
      all_goals first | exact .box (.cons (.mp rfl) .nil) | exact .mp (kvW_mv m) | exact Mv.fnL .nil (.cons (.ptr rfl) .nil)
    · have hq2 : insIn (ltW m) a j l1 = l1 := by
        cases j with
        | zero => rfl
        | succ k =>
          rw [insIn, if_neg]
          rw [Bool.not_eq_true]; exact hc
      rw [hq2] at hq1
      refine awp_exit ?_
      refine awp_reg ?_
      refine ev_move tab_ok rfl rfl rfl ?_
      (refine ev_iadd tab_ok rfl rfl rfl rfl ?_)
      try refine ev_as (show _ = PV.s (.int .i64 ((i + 1 : Nat) : Int)) by rw [wrap_i64 (by omega) (by omega)]; rfl) ?_
      refine ev_assign tab_ok rfl rfl rfl ?_
      refine ev_nil ?_ rfl
      refine ⟨(i + 1, l1), [0, 1, 2], ?_, by show b - (i + 1) < b - i; omega, ⟨by show a + 1 ≤ i + 1; omega, hl1, by rw [hq, hq1]⟩, keep3⟩
      all_goals (try refine le_of (by decide) ?_ ?_)
      repeat' (first | exact trivial | exact .nil | (refine CutL.cons rfl ?_ ?_) | (refine EnvLe.cons rfl ?_ ?_) | exact MvS.box (strS_mv _) | exact .sl rfl | exact .frz rfl | fail)
      all_goals (try simp only [wrap_addL, wrap_addR, wrap_subL, wrap_subR]); all_goals (try (rw [wrap_i64 (by omega) (by omega)]; omega))
      all_goals first | exact .box (.cons (.mp rfl) .nil) | exact .mp (kvW_mv m) | exact Mv.fnL .nil (.cons (.ptr rfl) .nil)
  · refine awp_exit ?_
    have hge : b - i = 0 := by
      have : ¬ i < b := by simpa using hc
      omega
    rw [hge, insOut] at hq
    refine ⟨_, [0, 1, 2], rfl, .frz rfl, ?_, keep3⟩
    rw [hq]
    exact cut_of (by decide) (.cons rfl (.box (strS_mv _)) (.cons rfl (.box (.cons (.mp rfl) .nil)) (.cons rfl (.mp (kvW_mv m)) .nil)))
end Go.Proofs.Pm
end
section
namespace Go.Proofs.Pm
open Go
theorem insertNil_spec (m : WM) : FCall Tryz.prog 115 [.list [], .s (.int .i64 0), .s (.int .i64 0), .fn 53 [] [.ptr 0 0]] [.box [.mp 1] 76, .mp (mpOf (kvW m))] (.tup []) [.box [.mp 1] 76, .mp (mpOf (kvW m))] := by
  refine fcall_intro tab_ok Tryz.call115 Tryz.func115 rfl rfl rfl (fun G w ι => ?_)
  refine awp_seq ?_
  refine awp_reg ?_
  refine ev_move tab_ok rfl rfl rfl ?_
  (refine ev_iadd tab_ok rfl rfl rfl rfl ?_)
  refine ev_assign tab_ok rfl rfl rfl ?_
  refine ev_nil ?_ rfl
  refine awp_block ?_
  refine awp_loop (fun q : Unit => ⟨[(8, .s (.int .i64 1)), (2, .s (.int .i64 0))], [.box [.mp 1] 76, .mp (mpOf (kvW m))]⟩) (fun q => True) (fun q => 0) () [0, 1] ?_ trivial keep2 (fun q hq => ?_)
  · all_goals (try refine le_of (by decide) ?_ ?_)
    repeat' (first | exact trivial | exact .nil | (refine CutL.cons rfl ?_ ?_) | (refine EnvLe.cons rfl ?_ ?_) | exact .frz rfl | fail)
    all_goals (try simp only [wrap_addL, wrap_addR, wrap_subL, wrap_subR]); all_goals (try (rw [wrap_i64 (by omega) (by omega)]; omega))
    all_goals first | exact .box (.cons (.mp rfl) .nil) | exact .mp (kvW_mv _)
  refine awp_seq ?_
  refine awp_seq ?_
  refine awp_reg ?_
  refine ev_move tab_ok rfl rfl rfl ?_
  refine ev_move tab_ok rfl rfl rfl ?_
  (refine ev_ilss tab_ok rfl rfl rfl rfl ?_)
  refine ev_nil ?_ rfl
  refine awp_cond rfl (fun hc => ?_) (fun hc => ?_)
  · exact absurd hc (by decide)
  · refine awp_exit ?_
    exact ⟨_, [0, 1], rfl, .frz rfl, cut_of (by decide) (.cons rfl (.box (.cons (.mp rfl) .nil)) (.cons rfl (.mp (kvW_mv m)) .nil)), keep2⟩
theorem stableNil_spec (m : WM) : FCall Tryz.prog 82 [.list [], .s (.int .i64 0), .fn 53 [] [.ptr 0 0]] [.box [.mp 1] 76, .mp (mpOf (kvW m))] (.tup []) [.box [.mp 1] 76, .mp (mpOf (kvW m))] := by
  refine fcall_intro tab_ok Tryz.call82 Tryz.func82 rfl rfl rfl (fun G w ι => ?_)
  refine awp_seq ?_
  refine awp_reg ?_
  refine ev_assign tab_ok rfl rfl rfl ?_
  refine ev_nil ?_ rfl
  refine awp_seq ?_
  refine awp_reg ?_
  refine ev_move tab_ok rfl rfl rfl ?_
  refine ev_assign tab_ok rfl rfl rfl ?_
  refine ev_assign tab_ok rfl rfl rfl ?_
  refine ev_nil ?_ rfl
  refine awp_seq ?_
  refine awp_block ?_
  refine awp_loop (fun q : Unit => ⟨[(6, .s (.int .i64 20)), (7, .s (.int .i64 0)), (8, .s (.int .i64 20)), (0, .list []), (1, .s (.int .i64 0)), (2, .fn 53 [] [.ptr 0 0])], [.box [.mp 1] 76, .mp (mpOf (kvW m))]⟩) (fun q => True) (fun q => 0) () [0, 1] ?_ trivial keep2 (fun q hq => ?_)
  · all_goals (try refine le_of (by decide) ?_ ?_)
    repeat' (first | exact trivial | exact .nil | (refine CutL.cons rfl ?_ ?_) | (refine EnvLe.cons rfl ?_ ?_) | exact .frz rfl | fail)
    all_goals (try simp only [wrap_addL, wrap_addR, wrap_subL, wrap_subR]); all_goals (try (rw [wrap_i64 (by omega) (by omega)]; omega))
    all_goals first | exact .box (.cons (.mp rfl) .nil) | exact .mp (kvW_mv _) | exact Mv.fnL .nil (.cons (.ptr rfl) .nil)
  refine awp_seq ?_
  refine awp_seq ?_
  refine awp_reg ?_
  refine ev_move tab_ok rfl rfl rfl ?_
  refine ev_move tab_ok rfl rfl rfl ?_
  refine ev_ileq tab_ok rfl rfl rfl rfl ?_
  refine ev_nil ?_ rfl
  refine awp_cond rfl (fun hc => ?_) (fun hc => ?_)
  · exact absurd hc (by decide)
  refine awp_exit ?_
  refine awp_seq ?_
  refine awp_reg ?_
  refine ev_move tab_ok rfl rfl rfl ?_
  refine ev_move tab_ok rfl rfl rfl ?_
  refine ev_move tab_ok rfl rfl rfl ?_
  refine ev_move tab_ok rfl rfl rfl ?_
  refine ev_callG (sg := [0, 1]) (nu := []) (Sin := [_, _]) (Sout := [.box [.mp 1] 76, .mp (mpOf (kvW m))]) rfl rfl rfl rfl (insertNil_spec m) (by repeat' (first | exact .nil | (refine MvL.cons ?_ ?_) | exact .ptr rfl | exact .frz rfl | (refine Mv.fnL ?_ ?_) | fail)) (by repeat' (first | exact trivial | (refine And.intro rfl ?_))) (by repeat' (first | exact .nil | (refine MvSs.cons ?_ ?_) | (refine MvS.box ?_) | (refine MvS.mp ?_) | exact kvW_mv _ | (refine MvL.cons ?_ ?_) | exact .mp rfl | fail)) (by repeat' (first | exact .frz rfl | fail)) (by repeat' (first | exact .nil | (refine MvSs.cons ?_ ?_) | (refine MvS.box ?_) | (refine MvS.mp ?_) | exact kvW_mv _ | (refine MvL.cons ?_ ?_) | exact .mp rfl | fail)) rfl rfl (by decide) rfl ?_
  refine ev_nil ?_ rfl
  refine awp_block ?_
  refine awp_loop (fun q : Unit => ⟨[(6, .s (.int .i64 20)), (1, .s (.int .i64 0))], [.box [.mp 1] 76, .mp (mpOf (kvW m))]⟩) (fun q => True) (fun q => 0) () [0, 1] ?_ trivial keep2 (fun q hq => ?_)
  · all_goals (try refine le_of (by decide) ?_ ?_)
    repeat' (first | exact trivial | exact .nil | (refine CutL.cons rfl ?_ ?_) | (refine EnvLe.cons rfl ?_ ?_) | exact .frz rfl | fail)
    all_goals (try simp only [wrap_addL, wrap_addR, wrap_subL, wrap_subR]); all_goals (try (rw [wrap_i64 (by omega) (by omega)]; omega))
    all_goals first | exact .box (.cons (.mp rfl) .nil) | exact .mp (kvW_mv _)
  refine awp_seq ?_
  refine awp_seq ?_
  refine awp_reg ?_
  refine ev_move tab_ok rfl rfl rfl ?_
  refine ev_move tab_ok rfl rfl rfl ?_
  (refine ev_ilss tab_ok rfl rfl rfl rfl ?_)
  refine ev_nil ?_ rfl
  refine awp_cond rfl (fun hc => ?_) (fun hc => ?_)
  · exact absurd hc (by decide)
  · refine awp_exit ?_
    exact ⟨_, [0, 1], rfl, .frz rfl, cut_of (by decide) (.cons rfl (.box (.cons (.mp rfl) .nil)) (.cons rfl (.mp (kvW_mv m)) .nil)), keep2⟩
theorem sortNilF_spec (m : WM) : FCall Tryz.prog 52 [.list [], .fn 53 [] [.ptr 0 0]] [.box [.mp 1] 76, .mp (mpOf (kvW m))] (.tup []) [.box [.mp 1] 76, .mp (mpOf (kvW m))] := by
  refine fcall_intro tab_ok Tryz.call52 Tryz.func52 rfl rfl rfl (fun G w ι => ?_)
  refine awp_reg ?_
  refine ev_move tab_ok rfl rfl rfl ?_
  refine ev_move tab_ok rfl rfl rfl ?_
  (refine ev_lenL tab_ok rfl rfl rfl rfl rfl rfl ?_)
  refine ev_move tab_ok rfl rfl rfl ?_
  refine ev_callG (sg := [0, 1]) (nu := []) (Sin := [_, _]) (Sout := [.box [.mp 1] 76, .mp (mpOf (kvW m))]) rfl rfl rfl rfl (stableNil_spec m) (by repeat' (first | exact .nil | (refine MvL.cons ?_ ?_) | exact .ptr rfl | exact .frz rfl | (refine Mv.fnL ?_ ?_) | fail)) (by repeat' (first | exact trivial | (refine And.intro rfl ?_))) (by repeat' (first | exact .nil | (refine MvSs.cons ?_ ?_) | (refine MvS.box ?_) | (refine MvS.mp ?_) | exact kvW_mv _ | (refine MvL.cons ?_ ?_) | exact .mp rfl | fail)) (by repeat' (first | exact .frz rfl | fail)) (by repeat' (first | exact .nil | (refine MvSs.cons ?_ ?_) | (refine MvS.box ?_) | (refine MvS.mp ?_) | exact kvW_mv _ | (refine MvL.cons ?_ ?_) | exact .mp rfl | fail)) rfl rfl (by decide) rfl ?_
  refine ev_nil ?_ rfl
  exact ⟨_, [0, 1], rfl, .frz rfl, cut_of (by decide) (.cons rfl (.box (.cons (.mp rfl) .nil)) (.cons rfl (.mp (kvW_mv m)) .nil)), keep2⟩
theorem stableSmall_spec (m : WM) (l0 : List B) (hn : l0.length < 20) : FCall Tryz.prog 82 [.sl 0 l0.length, .s (.int .i64 (l0.length : Int)), .fn 53 [] [.ptr 1 0]] [.box (strS l0) 9, .box [.mp 2] 76, .mp (mpOf (kvW m))] (.tup []) [.box (strS (insS (ltW m) 0 l0.length l0)) 9, .box [.mp 2] 76, .mp (mpOf (kvW m))] := by
  refine fcall_intro tab_ok Tryz.call82 Tryz.func82 rfl rfl rfl (fun G w ι => ?_)
  refine awp_seq ?_
  refine awp_reg ?_
  refine ev_assign tab_ok rfl rfl rfl ?_
  refine ev_nil ?_ rfl
  refine awp_seq ?_
  refine awp_reg ?_
  refine ev_move tab_ok rfl rfl rfl ?_
  refine ev_assign tab_ok rfl rfl rfl ?_
  refine ev_assign tab_ok rfl rfl rfl ?_
  refine ev_nil ?_ rfl
  refine awp_seq ?_
  refine awp_block ?_
  refine awp_loop (fun q : Unit => ⟨[(6, .s (.int .i64 20)), (7, .s (.int .i64 0)), (8, .s (.int .i64 20)), (0, .sl 0 l0.length), (1, .s (.int .i64 (l0.length : Int))), (2, .fn 53 [] [.ptr 1 0])], [.box (strS l0) 9, .box [.mp 2] 76, .mp (mpOf (kvW m))]⟩) (fun q => True) (fun q => 0) () [0, 1, 2] ?_ trivial keep3 (fun q hq => ?_)
  · all_goals (try refine le_of (by decide) ?_ ?_)
    repeat' (first | exact trivial | exact .nil | (refine CutL.cons rfl ?_ ?_) | (refine EnvLe.cons rfl ?_ ?_) | exact MvS.box (strS_mv _) | exact .sl rfl | exact .frz rfl | fail)
    all_goals (try simp only [wrap_addL, wrap_addR, wrap_subL, wrap_subR]); all_goals (try (rw [wrap_i64 (by omega) (by omega)]; omega))
    all_goals first | exact .box (.cons (.mp rfl) .nil) | exact .mp (kvW_mv _) | exact Mv.fnL .nil (.cons (.ptr rfl) .nil)
  refine awp_seq ?_
  refine awp_seq ?_
  refine awp_reg ?_
  refine ev_move tab_ok rfl rfl rfl ?_
  refine ev_move tab_ok rfl rfl rfl ?_
  refine ev_ileq tab_ok rfl rfl rfl rfl ?_
  refine ev_nil ?_ rfl
  refine awp_cond rfl (fun hc => ?_) (fun hc => ?_)
  · have : (20 : Int) ≤ (l0.length : Int) := of_decide_eq_true hc
    omega
  refine awp_exit ?_
  refine awp_seq ?_
  refine awp_reg ?_
  refine ev_move tab_ok rfl rfl rfl ?_
  refine ev_move tab_ok rfl rfl rfl ?_
  refine ev_move tab_ok rfl rfl rfl ?_
  refine ev_move tab_ok rfl rfl rfl ?_
  refine ev_callG (sg := [0, 1, 2]) (nu := []) (Sin := [_, _, _]) (Sout := [.box (strS (insS (ltW m) 0 l0.length l0)) 9, .box [.mp 2] 76, .mp (mpOf (kvW m))]) rfl rfl rfl rfl (insertP_spec m l0 0 l0.length (Nat.le_refl _) (by omega) (Nat.zero_le _)) (by repeat' (first | exact .nil | (refine MvL.cons ?_ ?_) | exact .ptr rfl | exact .sl rfl | exact .frz rfl | (refine Mv.fnL ?_ ?_) | fail)) (by repeat' (first | exact trivial | (refine And.intro rfl ?_))) (by repeat' (first | exact .nil | (refine MvSs.cons ?_ ?_) | (refine MvS.box ?_) | (refine MvS.mp ?_) | exact kvW_mv _ | exact strS_mv _ | (refine MvL.cons ?_ ?_) | exact .mp rfl | fail)) (by repeat' (first | exact .frz rfl | fail)) (by repeat' (first | exact .nil | (refine MvSs.cons ?_ ?_) | (refine MvS.box ?_) | (refine MvS.mp ?_) | exact kvW_mv _ | exact strS_mv _ | (refine MvL.cons ?_ ?_) | exact .mp rfl | fail)) rfl rfl (by decide) rfl ?_
  refine ev_nil ?_ rfl
  refine awp_block ?_
  refine awp_loop (fun q : Unit => ⟨[(6, .s (.int .i64 20)), (1, .s (.int .i64 (l0.length : Int)))], [.box (strS (insS (ltW m) 0 l0.length l0)) 9, .box [.mp 2] 76, .mp (mpOf (kvW m))]⟩) (fun q => True) (fun q => 0) () [0, 1, 2] ?_ trivial keep3 (fun q hq => ?_)
  · all_goals (try refine le_of (by decide) ?_ ?_)
    repeat' (first | exact trivial | exact .nil | (refine CutL.cons rfl ?_ ?_) | (refine EnvLe.cons rfl ?_ ?_) | exact MvS.box (strS_mv _) | exact .frz rfl | fail)
    all_goals (try simp only [wrap_addL, wrap_addR, wrap_subL, wrap_subR]); all_goals (try (rw [wrap_i64 (by omega) (by omega)]; omega))
    all_goals first | exact .box (.cons (.mp rfl) .nil) | exact .mp (kvW_mv _)
  refine awp_seq ?_
  refine awp_seq ?_
  refine awp_reg ?_
  refine ev_move tab_ok rfl rfl rfl ?_
  refine ev_move tab_ok rfl rfl rfl ?_
  (refine ev_ilss tab_ok rfl rfl rfl rfl ?_)
  refine ev_nil ?_ rfl
  refine awp_cond rfl (fun hc => ?_) (fun hc => ?_)
  · have : (20 : Int) < (l0.length : Int) := of_decide_eq_true hc
    omega
  · refine awp_exit ?_
    exact ⟨_, [0, 1, 2], rfl, .frz rfl, cut_of (by decide) (.cons rfl (.box (strS_mv _)) (.cons rfl (.box (.cons (.mp rfl) .nil)) (.cons rfl (.mp (kvW_mv m)) .nil))), keep3⟩
theorem sortF_of (m : WM) (l0 l1 : List B) (h : FCall Tryz.prog 82 [.sl 0 l0.length, .s (.int .i64 (l0.length : Int)), .fn 53 [] [.ptr 1 0]] [.box (strS l0) 9, .box [.mp 2] 76, .mp (mpOf (kvW m))] (.tup []) [.box (strS l1) 9, .box [.mp 2] 76, .mp (mpOf (kvW m))]) : FCall Tryz.prog 52 [.sl 0 l0.length, .fn 53 [] [.ptr 1 0]] [.box (strS l0) 9, .box [.mp 2] 76, .mp (mpOf (kvW m))] (.tup []) [.box (strS l1) 9, .box [.mp 2] 76, .mp (mpOf (kvW m))] := by
  refine fcall_intro tab_ok Tryz.call52 Tryz.func52 rfl rfl rfl (fun G w ι => ?_)
  refine awp_reg ?_
  refine ev_move tab_ok rfl rfl rfl ?_
  refine ev_move tab_ok rfl rfl rfl ?_
  (refine ev_lenSl tab_ok rfl rfl rfl rfl rfl rfl ?_)
  refine ev_move tab_ok rfl rfl rfl ?_
  refine ev_callG (sg := [0, 1, 2]) (nu := []) (Sin := [_, _, _]) (Sout := [.box (strS l1) 9, .box [.mp 2] 76, .mp (mpOf (kvW m))]) rfl rfl rfl rfl (h) (by repeat' (first | exact .nil | (refine MvL.cons ?_ ?_) | exact .ptr rfl | exact .sl rfl | exact .frz rfl | (refine Mv.fnL ?_ ?_) | fail)) (by repeat' (first | exact trivial | (refine And.intro rfl ?_))) (by repeat' (first | exact .nil | (refine MvSs.cons ?_ ?_) | (refine MvS.box ?_) | (refine MvS.mp ?_) | exact kvW_mv _ | exact strS_mv _ | (refine MvL.cons ?_ ?_) | exact .mp rfl | fail)) (by repeat' (first | exact .frz rfl | fail)) (by repeat' (first | exact .nil | (refine MvSs.cons ?_ ?_) | (refine MvS.box ?_) | (refine MvS.mp ?_) | exact kvW_mv _ | exact strS_mv _ | (refine MvL.cons ?_ ?_) | exact .mp rfl | fail)) rfl rfl (by decide) rfl ?_
  refine ev_nil ?_ rfl
  exact ⟨_, [0, 1, 2], rfl, .frz rfl, cut_of (by decide) (.cons rfl (.box (strS_mv _)) (.cons rfl (.box (.cons (.mp rfl) .nil)) (.cons rfl (.mp (kvW_mv m)) .nil))), keep3⟩
theorem filesRow_spec (x : Node) (hb : x.bulk ≤ 4294967280) : FCall Tryz.prog 16 [.agg (nodeC x)] [] (.row (strL (files47 x)) 0) [.row (files47 x).length 1 9] := by
  have hpl := paths18_length x
  have hval : paths18 x ≠ [] → valid18 x = true := by
    intro h
    unfold paths18 at h
    split at h
    · assumption
    · exact absurd rfl h
  refine fcall_intro tab_ok Tryz.call16 Tryz.func16 rfl rfl rfl (fun G w ι => ?_)
  refine awp_seq ?_
  refine awp_reg ?_
  refine ev_box rfl rfl rfl rfl (by constructor) ?_
  refine ev_assign tab_ok rfl rfl rfl ?_
  refine ev_nil ?_ rfl
  refine awp_seq ?_
  refine awp_reg ?_
  refine ev_assign tab_ok rfl rfl rfl ?_
  refine ev_nil ?_ rfl
  refine awp_ghost 3 1 9 rfl (by constructor) ?_
  refine awp_seq ?_
  refine awp_seq ?_
  refine awp_reg ?_
  (refine ev_loadB tab_ok rfl rfl rfl rfl rfl rfl rfl ?_)
  refine ev_call rfl rfl rfl rfl rfl (pathsP_spec x (by omega)) rfl ?_
  (refine ev_lenL tab_ok rfl rfl rfl rfl rfl rfl ?_)
  refine ev_move tab_ok rfl rfl rfl ?_
  refine ev_nil ?_ rfl
  refine awp_block ?_
  refine awp_loop (fun i : Nat => ⟨[(11, .s (.int .i64 i)), (10, .s (.int .i64 (paths18 x).length)), (9, .list (strL (paths18 x))), (3, .row (strL (((paths18 x).take i).filter (isFile x))) 1), (1, .ptr 0 0)], [.box (nodeC x) 25, .row (((paths18 x).take i).filter (isFile x)).length 1 9]⟩) (fun i => i ≤ (paths18 x).length) (fun i => (paths18 x).length - i) 0 [0, 1] ?_ (Nat.zero_le _) keep0 (fun i hi => ?_)
  · all_goals (try refine le_of (by decide) ?_ ?_)
    repeat' (first | exact trivial | exact .nil | (refine CutL.cons rfl ?_ ?_) | (refine EnvLe.cons rfl ?_ ?_) | exact MvS.row | (refine MvS.box (mvl_closed rfl)) | exact .ptr rfl | exact .row rfl | exact .frz rfl | (refine Mv.int ?_) | fail)
    all_goals (try simp only [wrap_addL, wrap_addR, wrap_subL, wrap_subR]); all_goals (try (rw [wrap_i64 (by omega) (by omega)]; omega))
    all_goals simp [strL_length]
  refine awp_seq ?_
  refine awp_reg ?_
  (refine ev_ilss tab_ok rfl rfl rfl rfl ?_)
  refine ev_nil ?_ rfl
  refine awp_seq ?_
  refine awp_cond rfl (fun hc => ?_) (fun hc => ?_)
  · refine awp_skip ?_
    have hlt : i < (paths18 x).length := by simpa using hc
    have hv := hval (fun e => by rw [e] at hlt; simp at hlt)
    have hx : (paths18 x)[i]? = some (paths18 x)[i] := List.getElem?_eq_getElem hlt
    have hs := paths18_size (List.getElem_mem hlt)
    have hfl := filter_take_le (p := isFile x) (paths18 x) i
    have h4 := filter_take_succ (p := isFile x) hx
    generalize (paths18 x)[i] = p at *
    refine awp_seq ?_
    refine awp_block ?_
    refine awp_seq ?_
    refine awp_reg ?_
    (refine ev_iaL tab_ok rfl rfl rfl rfl rfl rfl rfl rfl rfl (by omega) (by rw [Int.toNat_natCast]; exact strL_get hx) rfl ?_)
    (refine ev_loadE tab_ok rfl rfl rfl rfl rfl rfl ?_)
    refine ev_assign tab_ok rfl rfl rfl ?_
    refine ev_nil ?_ rfl
    refine awp_seq ?_
    refine awp_reg ?_
    (refine ev_loadB tab_ok rfl rfl rfl rfl rfl rfl rfl ?_)
    refine ev_move tab_ok rfl rfl rfl ?_
    refine ev_call rfl rfl rfl rfl rfl (get48_spec x p (by omega) (by omega)) rfl ?_
    refine ev_move tab_ok rfl rfl rfl ?_
    refine ev_extract tab_ok rfl rfl rfl rfl ?_
    refine ev_extract tab_ok rfl rfl rfl rfl ?_
    refine ev_alloc tab_ok rfl rfl rfl rfl rfl rfl (by constructor) ?_
    (refine ev_store tab_ok rfl rfl rfl rfl rfl rfl rfl rfl rfl (by repeat constructor) ?_)
    refine ev_assign tab_ok rfl rfl rfl ?_
    refine ev_nil ?_ rfl
    rw [← isFileG_eq hv] at h4
    generalize get18 x p = g at *
    refine awp_seq_to ⟨[(32, .s (.bool (isFileG g))), (5, .s (.string p)), (11, .s (.int .i64 i)), (10, .s (.int .i64 (paths18 x).length)), (9, .list (strL (paths18 x))), (3, .row (strL (((paths18 x).take i).filter (isFile x))) 1), (1, .ptr 0 0)], [.box (nodeC x) 25, .row (((paths18 x).take i).filter (isFile x)).length 1 9]⟩ ?_ ?_
    · cases hz : (g.2 == 0) <;> cases hy : (g.1.kind == 1)
      all_goals
        refine awp_reg ?_
        refine ev_move tab_ok rfl rfl rfl ?_
        (refine ev_ieql tab_ok rfl rfl rfl rfl ?_)
        try refine ev_is (congrArg Value.bool (hz)) ?_
        refine ev_move tab_ok rfl rfl rfl ?_
        (first | refine ev_skip rfl rfl ?_ | refine ev_faB tab_ok rfl rfl rfl rfl rfl rfl rfl ?_)
        (first | refine ev_skip rfl rfl ?_ | refine ev_loadB tab_ok rfl rfl rfl rfl rfl rfl rfl ?_)
        (first | refine ev_skip rfl rfl ?_ | refine ev_ieql tab_ok rfl rfl rfl rfl ?_)
        try refine ev_is (congrArg Value.bool (hy)) ?_
        (first | refine ev_pickT tab_ok rfl rfl rfl rfl rfl ?_ | refine ev_pickF tab_ok rfl rfl rfl rfl rfl ?_)
        refine ev_move tab_ok rfl rfl rfl ?_
        (first | refine ev_skip rfl rfl ?_ | refine ev_faB tab_ok rfl rfl rfl rfl rfl rfl rfl ?_)
        (first | refine ev_skip rfl rfl ?_ | refine ev_loadB tab_ok rfl rfl rfl rfl rfl rfl rfl ?_)
        (first | refine ev_skip rfl rfl ?_ | refine ev_sneq tab_ok rfl rfl rfl rfl ?_)
        (first | refine ev_pickT tab_ok rfl rfl rfl rfl rfl ?_ | refine ev_pickF tab_ok rfl rfl rfl rfl rfl ?_)
        refine ev_nil ?_ rfl
        refine ⟨[0, 1], ?_, keep0⟩
        all_goals (try refine le_of (by decide) ?_ ?_)
        repeat' (first | exact trivial | exact .nil | (refine CutL.cons rfl ?_ ?_) | (refine EnvLe.cons rfl ?_ ?_) | exact MvS.row | (refine MvS.box (mvl_closed rfl)) | exact .ptr rfl | exact .row rfl | exact .frz rfl | (refine Mv.bool ?_) | fail)
        all_goals (try simp only [wrap_addL, wrap_addR, wrap_subL, wrap_subR]); all_goals (try (rw [wrap_i64 (by omega) (by omega)]; omega))
        all_goals (unfold isFileG emptyB; rw [hz, hy]; simp)
    refine awp_cond rfl (fun hc => ?_) (fun hc => ?_)
    · refine awp_reg ?_
      refine ev_move tab_ok rfl rfl rfl ?_
      refine ev_move tab_ok rfl rfl rfl ?_
      refine ev_buildSlice tab_ok rfl rfl rfl rfl rfl rfl rfl rfl rfl rfl rfl rfl rfl rfl (by constructor) ?_
      (refine ev_append tab_ok rfl rfl rfl rfl rfl rfl rfl rfl rfl rfl rfl rfl rfl rfl (by repeat constructor) (by (simp [strL_length, intL_length]; done)) (by exact one_len _) (by exact strL_len _) (by (simp only [strL_length, intL_length, List.length_append, List.length_cons, List.length_nil]; omega)) (by (simp only [strL_length, intL_length, List.length_append, List.length_cons, List.length_nil]; omega)) ?_)
      refine ev_assign tab_ok rfl rfl rfl ?_
      refine ev_nil ?_ rfl
      refine awp_reg ?_
      (refine ev_iadd tab_ok rfl rfl rfl rfl ?_)
      refine ev_move tab_ok rfl rfl rfl ?_
      refine ev_nil ?_ rfl
      rw [hc, if_pos rfl] at h4
      refine ⟨i + 1, [0, 1], ?_, by omega, hlt, keep0⟩
      all_goals (try refine le_of (by decide) ?_ ?_)
      repeat' (first | exact trivial | exact .nil | (refine CutL.cons rfl ?_ ?_) | (refine EnvLe.cons rfl ?_ ?_) | (refine MvS.box (mvl_closed rfl)) | exact .ptr rfl | exact .frz rfl | (refine Mv.rowE rfl ?_) | (refine MvS.rowE ?_) | (refine Mv.int ?_) | fail)
      all_goals (try simp only [wrap_addL, wrap_addR, wrap_subL, wrap_subR]); all_goals (try (rw [wrap_i64 (by omega) (by omega)]; omega))
      · rw [h4]; simp
      · rw [h4]; simp [strL_append, strL]
    · refine awp_skip ?_
      refine awp_reg ?_
      (refine ev_iadd tab_ok rfl rfl rfl rfl ?_)
      refine ev_move tab_ok rfl rfl rfl ?_
      refine ev_nil ?_ rfl
      rw [hc, if_neg (by decide), List.append_nil] at h4
      refine ⟨i + 1, [0, 1], ?_, by omega, hlt, keep0⟩
      all_goals (try refine le_of (by decide) ?_ ?_)
      repeat' (first | exact trivial | exact .nil | (refine CutL.cons rfl ?_ ?_) | (refine EnvLe.cons rfl ?_ ?_) | (refine MvS.box (mvl_closed rfl)) | exact .ptr rfl | exact .frz rfl | (refine Mv.rowE rfl ?_) | (refine MvS.rowE ?_) | (refine Mv.int ?_) | fail)
      all_goals (try simp only [wrap_addL, wrap_addR, wrap_subL, wrap_subR]); all_goals (try (rw [wrap_i64 (by omega) (by omega)]; omega))
      · rw [h4]
      · rw [h4]
  · refine awp_exit ?_
    have hge : i = (paths18 x).length := by
      have : ¬ i < (paths18 x).length := by simpa using hc
      omega
    subst hge
    refine awp_seq ?_
    refine awp_reg ?_
    refine ev_move tab_ok rfl rfl rfl ?_
    refine ev_assign tab_ok rfl rfl rfl ?_
    refine ev_nil ?_ rfl
    refine awp_ret ?_
    rw [List.take_length]
    exact ⟨_, [1], rfl, Mv.rowE rfl (by rw [files47]), cut_of (by decide) (.cons rfl (MvS.rowE (by rw [files47])) .nil), keep0⟩
def wmOf (x : Node) (l : List B) : WM := l.map fun p => (p, (weightR x p).1)
theorem wm_set (x : Node) : ∀ (l : List B) (p : B), p ∉ l → setM (kvW (wmOf x l)) p (.s (.int .i64 (weightR x p).1)) = kvW (wmOf x (l ++ [p]))
  | [], p, _ => rfl
  | q :: r, p, h => by
    simp only [List.mem_cons, not_or] at h
    show setM ((q, _) :: kvW (wmOf x r)) p _ = (q, _) :: kvW (wmOf x (r ++ [p]))
    rw [setM, if_neg h.1, wm_set x r p h.2]
theorem byWeightP_of (x : Node) (l1 : List B) (hb : x.bulk ≤ 4294967280) (hlen : l1.length = (files47 x).length) (hsort : FCall Tryz.prog 52 [.sl 0 (files47 x).length, .fn 53 [] [.ptr 1 0]] [.box (strS (files47 x)) 9, .box [.mp 2] 76, .mp (mpOf (kvW (wmOf x (files47 x))))] (.tup []) [.box (strS l1) 9, .box [.mp 2] 76, .mp (mpOf (kvW (wmOf x (files47 x))))]) :
    FCall Tryz.prog 18 [.agg (nodeC x)] [] (.list (strL l1)) [] := by
  have hpl := files47_length x
  have hnd := files47_nodup x
  have hsz : ∀ p ∈ files47 x, p.size ≤ x.bulk := fun p hp => (files47_found hp).2
  refine fcall_intro tab_ok Tryz.call18 Tryz.func18 rfl rfl rfl (fun G w ι => ?_)
  refine awp_seq ?_
  refine awp_reg ?_
  refine ev_box rfl rfl rfl rfl (by constructor) ?_
  refine ev_assign tab_ok rfl rfl rfl ?_
  refine ev_nil ?_ rfl
  refine awp_seq ?_
  rcases Nat.eq_zero_or_pos (files47 x).length with h0 | h0
  · have hl0 : files47 x = [] := List.eq_nil_of_length_eq_zero h0
    have hl1 : l1 = [] := List.eq_nil_of_length_eq_zero (by omega)
    refine awp_reg ?_
    (refine ev_loadB tab_ok rfl rfl rfl rfl rfl rfl rfl ?_)
    refine ev_call rfl rfl rfl rfl rfl (filesP_spec x hb) rfl ?_
    refine ev_assign tab_ok rfl rfl rfl ?_
    refine ev_nil ?_ rfl
    rw [hl0]
    refine awp_seq ?_
    refine awp_reg ?_
    refine ev_makeMap rfl rfl (by constructor) ?_
    refine ev_alloc tab_ok rfl rfl rfl rfl rfl rfl (by constructor) ?_
    (refine ev_store tab_ok rfl rfl rfl rfl rfl rfl rfl rfl rfl (by repeat constructor) ?_)
    refine ev_nil ?_ rfl
    refine awp_seq ?_
    refine awp_seq ?_
    refine awp_reg ?_
    refine ev_move tab_ok rfl rfl rfl ?_
    (refine ev_lenL tab_ok rfl rfl rfl rfl rfl rfl ?_)
    refine ev_move tab_ok rfl rfl rfl ?_
    refine ev_nil ?_ rfl
    refine awp_block ?_
    refine awp_loop (fun q : Unit => ⟨[(12, .s (.int .i64 0)), (11, .s (.int .i64 0)), (3, .list []), (4, .ptr 1 0)], [.mp (mpOf (kvW [])), .box [.mp 0] 76]⟩) (fun q => True) (fun q => 0) () [1, 2] ?_ trivial keep0 (fun q hq => ?_)
    · all_goals (try refine le_of (by decide) ?_ ?_)
      repeat' (first | exact trivial | exact .nil | (refine CutL.cons rfl ?_ ?_) | (refine EnvLe.cons rfl ?_ ?_) | exact .ptr rfl | exact .frz rfl | fail)
      all_goals (try simp only [wrap_addL, wrap_addR, wrap_subL, wrap_subR]); all_goals (try (rw [wrap_i64 (by omega) (by omega)]; omega))
      all_goals first | exact .box (.cons (.mp rfl) .nil) | exact .mp (kvW_mv [])
    refine awp_seq ?_
    refine awp_reg ?_
    (refine ev_ilss tab_ok rfl rfl rfl rfl ?_)
    refine ev_nil ?_ rfl
    refine awp_seq ?_
    refine awp_cond rfl (fun hc => ?_) (fun hc => ?_)
    · exact absurd hc (by decide)
    refine awp_exit ?_
    refine awp_seq ?_
    refine awp_reg ?_
    refine ev_move tab_ok rfl rfl rfl ?_
    refine ev_mkFn tab_ok rfl rfl rfl rfl rfl ?_
    refine ev_callG (sg := [1, 0]) (nu := []) (Sin := [_, _]) (Sout := [.box [.mp 0] 76, .mp (mpOf (kvW []))]) rfl rfl rfl rfl (sortNilF_spec []) (by repeat' (first | exact .nil | (refine MvL.cons ?_ ?_) | exact .ptr rfl | exact .frz rfl | (refine Mv.fnL ?_ ?_) | fail)) (by repeat' (first | exact trivial | (refine And.intro rfl ?_))) (by repeat' (first | exact .nil | (refine MvSs.cons ?_ ?_) | (refine MvS.box ?_) | (refine MvS.mp ?_) | (refine MvL.cons ?_ ?_) | exact .mp rfl | fail)) (by repeat' (first | exact .frz rfl | fail)) (by repeat' (first | exact .nil | (refine MvSs.cons ?_ ?_) | (refine MvS.box ?_) | (refine MvS.mp ?_) | (refine MvL.cons ?_ ?_) | exact .mp rfl | fail)) rfl rfl (by decide) rfl ?_
    refine ev_nil ?_ rfl
    refine awp_seq ?_
    refine awp_reg ?_
    refine ev_move tab_ok rfl rfl rfl ?_
    refine ev_assign tab_ok rfl rfl rfl ?_
    refine ev_nil ?_ rfl
    refine awp_ret ?_
    exact ⟨_, [], rfl, Mv.val (by rw [hl1]; rfl) rfl, cut_of (by decide) .nil, keep0⟩
  · refine awp_reg ?_
    refine ev_loadB tab_ok rfl rfl rfl rfl rfl rfl rfl ?_
    refine ev_callThaw (X := strL (files47 x)) (n := (files47 x).length) (et := 9) rfl rfl rfl rfl rfl (filesRow_spec x hb) (strL_length _) h0 (strL_len _) (by simp [strL, scalarB]) (by constructor) ?_
    refine ev_assign tab_ok rfl rfl rfl ?_
    refine ev_nil ?_ rfl
    rw [strS_flatten]
    generalize files47 x = l at *
    refine awp_seq ?_
    refine awp_reg ?_
    refine ev_makeMap rfl rfl (by constructor) ?_
    refine ev_alloc tab_ok rfl rfl rfl rfl rfl rfl (by constructor) ?_
    (refine ev_store tab_ok rfl rfl rfl rfl rfl rfl rfl rfl rfl (by repeat constructor) ?_)
    refine ev_nil ?_ rfl
    refine awp_seq ?_
    refine awp_seq ?_
    refine awp_reg ?_
    refine ev_move tab_ok rfl rfl rfl ?_
    (refine ev_lenSl tab_ok rfl rfl rfl rfl rfl rfl ?_)
    refine ev_move tab_ok rfl rfl rfl ?_
    refine ev_nil ?_ rfl
    refine awp_block ?_
    refine awp_loop (fun i : Nat => ⟨[(12, .s (.int .i64 (i : Int))), (11, .s (.int .i64 (l.length : Int))), (10, .sl 1 l.length), (3, .sl 1 l.length), (4, .ptr 3 0), (1, .ptr 0 0)], [.box (nodeC x) 25, .box (strS l) 9, .mp (mpOf (kvW (wmOf x (l.take i)))), .box [.mp 2] 76]⟩) (fun i => i ≤ l.length) (fun i => l.length - i) 0 [0, 1, 2, 3] ?_ (Nat.zero_le _) keep0 (fun i hi => ?_)
    · all_goals (try refine le_of (by decide) ?_ ?_)
      repeat' (first | exact trivial | exact .nil | (refine CutL.cons rfl ?_ ?_) | (refine EnvLe.cons rfl ?_ ?_) | exact MvS.box (strS_mv _) | (refine MvS.box (mvl_closed rfl)) | exact .ptr rfl | exact .sl rfl | exact .frz rfl | fail)
      all_goals (try simp only [wrap_addL, wrap_addR, wrap_subL, wrap_subR]); all_goals (try (rw [wrap_i64 (by omega) (by omega)]; omega))
      all_goals first | exact .box (.cons (.mp rfl) .nil) | exact .mp (kvW_mv [])
    refine awp_seq ?_
    refine awp_reg ?_
    (refine ev_ilss tab_ok rfl rfl rfl rfl ?_)
    refine ev_nil ?_ rfl
    refine awp_seq ?_
    refine awp_cond rfl (fun hc => ?_) (fun hc => ?_)
    · refine awp_skip ?_
      have hlt : i < l.length := by simpa using hc
      have hgi := getS_get hlt
      have hpm : getS l i ∈ l := List.mem_of_getElem? hgi
      have hps := hsz _ hpm
      have htk : l.take (i + 1) = l.take i ++ [getS l i] := by rw [List.take_add_one, hgi]; rfl
      have hnot : getS l i ∉ l.take i := fun hm => by
        obtain ⟨j, hj, he⟩ := List.getElem_of_mem hm
        rw [List.length_take] at hj
        have h1 : l[j]? = some (getS l i) := by
          rw [← he, List.getElem_take]
          exact List.getElem?_eq_getElem (by omega)
        have := (List.getElem?_inj (by omega) hnd).1 (h1.trans hgi.symm)
        omega
      have hset := wm_set x (l.take i) (getS l i) hnot
      rw [← htk] at hset
      refine awp_seq ?_
      refine awp_block ?_
      refine awp_seq ?_
      refine awp_reg ?_
      (refine ev_iaS tab_ok rfl rfl rfl rfl rfl rfl rfl rfl rfl rfl (by omega) (by omega) ?_)
      try refine ev_as (show _ = PV.ptr 1 i by rw [Int.toNat_natCast]) ?_
      (refine ev_loadB tab_ok rfl rfl rfl rfl rfl rfl (strS_load rfl (by omega)) ?_)
      refine ev_assign tab_ok rfl rfl rfl ?_
      refine ev_nil ?_ rfl
      generalize getS l i = p at *
      refine awp_draw mixed ?_
      (refine ev_loadB tab_ok rfl rfl rfl rfl rfl rfl rfl ?_)
      refine ev_move tab_ok rfl rfl rfl ?_
      (refine ev_loadB tab_ok rfl rfl rfl rfl rfl rfl rfl ?_)
      refine ev_move tab_ok rfl rfl rfl ?_
      refine ev_call rfl rfl rfl rfl rfl (weightP_spec x p (by omega) (by omega)) rfl ?_
      refine ev_move tab_ok rfl rfl rfl ?_
      refine ev_extract tab_ok rfl rfl rfl rfl ?_
      refine ev_extract tab_ok rfl rfl rfl rfl ?_
      refine ev_mapUpdate tab_ok rfl rfl rfl rfl rfl rfl rfl rfl rfl rfl rfl (by repeat constructor) ?_
      refine ev_nilD ?_ (by kernel_rfl)
      refine awp_reg ?_
      (refine ev_iadd tab_ok rfl rfl rfl rfl ?_)
      refine ev_move tab_ok rfl rfl rfl ?_
      refine ev_nil ?_ rfl
      refine ⟨i + 1, [0, 1, 2, 3], ?_, by omega, hlt, keep0⟩
      all_goals (try refine le_of (by decide) ?_ ?_)
      repeat' (first | exact trivial | exact .nil | (refine CutL.cons rfl ?_ ?_) | (refine EnvLe.cons rfl ?_ ?_) | exact MvS.box (strS_mv _) | (refine MvS.box (mvl_closed rfl)) | exact .ptr rfl | exact .sl rfl | exact .frz rfl | (refine Mv.int ?_) | fail)
      all_goals (try simp only [wrap_addL, wrap_addR, wrap_subL, wrap_subR]); all_goals (try (rw [wrap_i64 (by omega) (by omega)]; omega))
      all_goals first | exact .box (.cons (.mp rfl) .nil) | (rw [hset]; exact .mp (kvW_mv _))
    · refine awp_exit ?_
      have hge : i = l.length := by
        have : ¬ i < l.length := by simpa using hc
        omega
      subst hge
      rw [List.take_length]
      refine awp_seq ?_
      refine awp_reg ?_
      refine ev_move tab_ok rfl rfl rfl ?_
      refine ev_mkFn tab_ok rfl rfl rfl rfl rfl ?_
      refine ev_callG (sg := [1, 3, 2]) (nu := []) (Sin := [_, _, _]) (Sout := [.box (strS l1) 9, .box [.mp 2] 76, .mp (mpOf (kvW (wmOf x l)))]) rfl rfl rfl rfl (hsort) (by repeat' (first | exact .nil | (refine MvL.cons ?_ ?_) | exact .ptr rfl | exact .sl rfl | (refine Mv.fnL ?_ ?_) | fail)) (by repeat' (first | exact trivial | (refine And.intro rfl ?_))) (by repeat' (first | exact .nil | (refine MvSs.cons ?_ ?_) | (refine MvS.box ?_) | (refine MvS.mp ?_) | exact kvW_mv _ | exact strS_mv _ | (refine MvL.cons ?_ ?_) | exact .mp rfl | fail)) (by repeat' (first | exact .frz rfl | fail)) (by repeat' (first | exact .nil | (refine MvSs.cons ?_ ?_) | (refine MvS.box ?_) | (refine MvS.mp ?_) | exact kvW_mv _ | exact strS_mv _ | (refine MvL.cons ?_ ?_) | exact .mp rfl | fail)) rfl rfl (by decide) rfl ?_
      refine ev_nil ?_ rfl
      refine awp_seal 3 1 (xs := strL l1) (n := l.length) (sz := 1) (ρ := []) (env2 := []) (H2 := []) rfl rfl (strS_flatten _) (by rw [strL_length, hlen]) (strL_len _) (by simp [strL, closedLB, closedB]) ⟨trivial, cut_of (by decide) .nil⟩ (by simp) keep0 ?_
      refine awp_seq ?_
      refine awp_reg ?_
      refine ev_move tab_ok rfl rfl rfl ?_
      refine ev_assign tab_ok rfl rfl rfl ?_
      refine ev_nil ?_ rfl
      refine awp_ret ?_
      exact ⟨_, [], rfl, .frz rfl, cut_of (by decide) .nil, keep0⟩
end Go.Proofs.Pm
end
section
namespace Go.Proofs.Pm
open Go
section
variable (key : B → Int) (idx : B → Nat)
end
theorem set_mid {α : Type} {A C : List α} {x y : α} {n : Nat} (h : A.length = n) : (A ++ x :: C).set n y = A ++ y :: C := by
  subst h; simp
theorem getS_mid {A C : List B} {x : B} {n : Nat} (h : A.length = n) : getS (A ++ x :: C) n = x := by
  subst h; simp [getS]
section
variable {key : B → Int} {idx : B → Nat}
end
end Go.Proofs.Pm
end
section
namespace Go.Proofs.Pm
open Go
def ixL : List B → B → Nat
  | [], _ => 0
  | q :: r, p => if p = q then 0 else ixL r p + 1
theorem ixL_get : ∀ {l : List B} {i : Nat} {p : B}, l.Nodup → l[i]? = some p → ixL l p = i
  | [], i, p, _, h => by simp at h
  | q :: r, 0, p, _, h => by simp at h; subst h; simp [ixL]
  | q :: r, i + 1, p, hn, h => by
    rw [List.nodup_cons] at hn
    simp only [List.getElem?_cons_succ] at h
    have hne : p ≠ q := by
      intro e; subst e
      exact hn.1 (List.mem_of_getElem? h)
    rw [ixL, if_neg hne, ixL_get hn.2 h]
end Go.Proofs.Pm
end

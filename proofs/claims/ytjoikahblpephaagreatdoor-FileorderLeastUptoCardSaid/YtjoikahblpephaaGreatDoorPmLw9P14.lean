/- A part of the proof of one law: the machine on pure values and the walks of functions. -/
import Derived.Test.YtjoikahblpephaaGreatDoorPmLw9P8
import Derived.Test.YtjoikahblpephaaGreatDoorPmLw9P12
import Derived.Test.YtjoikahblpephaaGreatDoorPmLw9P13
import Derived.Test.YtjoikahblpephaaGreatDoorRows
import Derived.ProofKit
import Derived.OpenShut
import Derived.Carry
import Derived.Deep.DeepHandedRow
import Derived.Deep.DeepWitnessRowRef
import Derived.Lib.LaidIn
import Derived.Lib.LaidU8T
set_option linter.all false
section
namespace Go.Proofs.Pm
open Go Go.ChangeShapes Go.WideShapes Go.ChangeAt Go.RowKit
open YtjoikahblpephaaGreatDoor
open YtjoikahblpephaaGreatDoor.Rows (uptoBulk uptoBulkAll)
abbrev N0 : Intp := fun _ => none
def CR (G : Good) (w : World) (xs : List PV) (cs : List Value) : Prop :=
  xs.length = cs.length ∧ ∀ (j : Nat) (x : PV) (v : Value), xs[j]? = some x → cs[j]? = some v → VRep G w N0 [] x v ∧ v.oneCell' = true
theorem CR.nil {G : Good} {w : World} : CR G w [] [] := ⟨rfl, fun j x v h => by simp at h⟩
theorem CR.cons {G : Good} {w : World} {x : PV} {v : Value} {xs : List PV} {cs : List Value} (h : VRep G w N0 [] x v) (h1 : v.oneCell' = true) (hr : CR G w xs cs) : CR G w (x :: xs) (v :: cs) := by
  refine ⟨by simp [hr.1], fun j y u hy hu => ?_⟩
  cases j with
  | zero =>
    simp only [List.getElem?_cons_zero, Option.some.injEq] at hy hu
    subst hy hu
    exact ⟨h, h1⟩
  | succ j =>
    simp only [List.getElem?_cons_succ] at hy hu
    exact hr.2 j y u hy hu
theorem pick_all {α : Type} {Q : Nat → α → Prop} : ∀ n : Nat, (∀ i, i < n → ∃ a, Q i a) → ∃ zs : List α, zs.length = n ∧ ∀ i a, zs[i]? = some a → Q i a
  | 0, _ => ⟨[], rfl, fun i a h => by simp at h⟩
  | n + 1, h => by
    obtain ⟨zs, hl, hq⟩ := pick_all n (fun i hi => h i (by omega))
    obtain ⟨a, ha⟩ := h n (by omega)
    refine ⟨zs ++ [a], by simp [hl], fun i b hb => ?_⟩
    by_cases hi : i < zs.length
    · rw [List.getElem?_append_left hi] at hb
      exact hq i b hb
    · rw [List.getElem?_append_right (by omega)] at hb
      have h0 : i - zs.length = 0 := by
        cases hk : i - zs.length with
        | zero => rfl
        | succ k => rw [hk] at hb; simp at hb
      rw [h0] at hb
      simp only [List.getElem?_cons_zero, Option.some.injEq] at hb
      subst hb
      have : i = n := by omega
      subst this
      exact ha
theorem mapM_at' {α β : Type} {f : α → Option β} {l : List α} {r : List β} (h : l.mapM f = some r) : r.length = l.length ∧ ∀ (i : Nat) (a : α), l[i]? = some a → ∃ b, r[i]? = some b ∧ f a = some b :=
  ⟨by simpa using (Lib.mapM_length h), Lib.mapM_at h⟩
theorem cells?_get {w : World} {a : Addr} {n : Nat} {cs : List Value} (h : w.cells? 0 a n = some cs) : cs.length = n ∧ ∀ j v, cs[j]? = some v → w.cell? (a.add j) = some v := by
  unfold World.cells? at h
  rw [if_pos (Nat.zero_le _)] at h
  obtain ⟨h1, h2⟩ := mapM_at' h
  simp only [List.length_range] at h1
  refine ⟨h1, fun j v hj => ?_⟩
  have hl : j < n := by rw [← h1]; exact (List.getElem?_eq_some_iff.1 hj).1
  obtain ⟨b, hb, hc⟩ := h2 j j (by simp [hl])
  rw [hj] at hb
  cases hb
  exact hc
theorem bulkAll_ge {H : Type} {α : Type} {bl : α → Nat} : ∀ {ds : List (DataW H)} {zs : List α}, zs.length = ds.length → (∀ (i : Nat) (a : α) (d : DataW H), zs[i]? = some a → ds[i]? = some d → bl a ≤ uptoBulk d) → (zs.map bl).sum ≤ uptoBulkAll ds
  | [], [], _, _ => by simp
  | d :: ds, a :: zs, hl, h => by
    simp only [List.map_cons, List.sum_cons, uptoBulkAll]
    have h0 := h 0 a d rfl rfl
    have h1 := bulkAll_ge (ds := ds) (zs := zs) (by simpa using hl) (fun i x y hx hy => h (i + 1) x y (by simpa using hx) (by simpa using hy))
    omega
  | [], a :: zs, hl, _ => by simp at hl
  | d :: ds, [], hl, _ => by simp at hl
theorem addr_add (a : Addr) (i j : Nat) : (a.add i).add j = a.add (i + j) := by
  by_cases hi : i = 0
  · subst hi
    simp [Addr.add]
  · by_cases hj : j = 0
    · subst hj
      simp [Addr.add]
    · simp [Addr.add, hi, hj, Nat.add_assoc]
theorem list2 {α : Type} {l : List α} (h : l.length = 2) : ∃ a b, l = [a, b] := by
  match l, h with
  | [a, b], _ => exact ⟨a, b, rfl⟩
theorem list12 {α : Type} {l : List α} (h : l.length = 12) : ∃ a b c d e f g i j k m n, l = [a, b, c, d, e, f, g, i, j, k, m, n] := by
  match l, h with
  | [a, b, c, d, e, f, g, i, j, k, m, n], _ => exact ⟨a, b, c, d, e, f, g, i, j, k, m, n, rfl⟩
section
variable {H : Type} {enc : TypeId × Value → H} {w : World} {G : Good}
theorem open_sl (hG : ∀ b o, G b o) {sp : Nat → Bool} {held : Bool} {α : Type} {en : α → List PV} {bl : α → Nat} {sz : Nat} {e t : TypeId} {fuel : Nat} {cs : List Value} {x : DataW H × List MemPlace} (ht : Tryz.prog.underlying t = some (.slice e)) (hs : Tryz.prog.cellsOf e = sz) (hl : ∀ a, (en a).length = sz)
    (ho : ∀ (n : Nat) (cs : List Value) (y : DataW H × List MemPlace), n < fuel → DataW.trod enc Tryz.prog w 0 sp held n e cs = some y → ∃ a, CR G w (en a) cs ∧ bl a ≤ uptoBulk y.1)
    (h : DataW.trod enc Tryz.prog w 0 sp held fuel t cs = some x) :
    ∃ (zs : List α) (v : Value), cs = [v] ∧ (∀ (ι : Intp) (Hs : List LS), VRep G w ι Hs (.list (zs.map en)) v) ∧ v.oneCell' = true ∧ (zs.map bl).sum + 1 ≤ uptoBulk x.1 := by
  rcases DataW.trod_slice ht h with ⟨rfl, rfl⟩ | ⟨a, len, cap, elems, rest, n, rfl, rfl, rfl, hb, hlc, hcm, hel, hat, _, _⟩
  · exact ⟨[], _, rfl, fun ι Hs => .list sz (fun _ _ => .nilIface) rfl (Nat.le_refl _) (Nat.zero_le _) (fun y hy => by simp at hy) (fun h0 => absurd h0 (Nat.lt_irrefl 0)) (fun i j y p hy => by simp at hy), rfl, by simp [uptoBulk]⟩
  · have hq : ∀ i, i < len → ∃ q : α × List Value × (DataW H × List MemPlace), CR G w (en q.1) q.2.1 ∧ (∀ j v, q.2.1[j]? = some v → w.cell? (a.add (i * sz + j)) = some v) ∧ elems[i]? = some q.2.2 ∧ bl q.1 ≤ uptoBulk q.2.2.1 := fun i hi => by
      have hi' := hat i hi
      have hz : elems[i]? = some elems[i] := List.getElem?_eq_getElem (by omega)
      rw [hz] at hi'
      obtain ⟨ds, h1, h2⟩ := Option.bind_eq_some_iff.1 hi'
      obtain ⟨q, hq1, hq2⟩ := ho n ds _ (Nat.lt_succ_self n) h2
      obtain ⟨h3, h4⟩ := cells?_get h1
      refine ⟨(q, ds, elems[i]), hq1, fun j v hj => ?_, hz, hq2⟩
      have := h4 j v hj
      rwa [addr_add, hs] at this
    obtain ⟨qs, hql, hqq⟩ := pick_all len hq
    have hmap : ∀ (i : Nat) (y : List PV), (qs.map fun q => en q.1)[i]? = some y → ∃ q, qs[i]? = some q ∧ en q.1 = y := fun i y hy => by
      rw [List.getElem?_map] at hy
      obtain ⟨q, h1, h2⟩ := Option.map_eq_some_iff.1 hy
      exact ⟨q, h1, h2⟩
    have hval : ∀ (i j : Nat) (q : α × List Value × (DataW H × List MemPlace)), qs[i]? = some q → j < sz → ∃ v, q.2.1[j]? = some v ∧ ((qs[i]?.bind fun q => q.2.1[j]?).getD .nilIface) = v := fun i j q hq hj => by
      have h1 := (hqq i q hq).1.1
      rw [hl] at h1
      have h2 : q.2.1[j]? = some q.2.1[j] := List.getElem?_eq_getElem (by omega)
      exact ⟨_, h2, by rw [hq]; simp [h2]⟩
    refine ⟨qs.map (·.1), _, rfl, fun ι Hs => ?_, rfl, ?_⟩
    · rw [List.map_map]
      refine .list sz (fun i j => (qs[i]?.bind fun q => q.2.1[j]?).getD .nilIface) (by simp [hql]) hlc hcm (fun y hy => ?_) (fun h0 => ⟨a, rfl, fun i j y hy hj => ?_⟩) (fun i j y p hy hp => ?_)
      · obtain ⟨q, _, rfl⟩ := List.mem_map.1 hy
        exact hl _
      · obtain ⟨q, h1, h2⟩ := hmap i y hy
        obtain ⟨v, h3, h4⟩ := hval i j q h1 hj
        obtain ⟨k1, k2, _, _⟩ := hqq i q h1
        obtain ⟨p5, h5⟩ : ∃ p, (en q.1)[j]? = some p := ⟨_, List.getElem?_eq_getElem (by rw [hl]; exact hj)⟩
        rw [h4]
        exact ⟨k2 j v h3, (k1.2 j _ v h5 h3).2, hG _ _⟩
      · obtain ⟨q, h1, h2⟩ := hmap i y hy
        obtain ⟨k1, k2, _, _⟩ := hqq i q h1
        have hj : j < sz := by
          rw [← hl q.1, h2]
          exact (List.getElem?_eq_some_iff.1 hp).1
        obtain ⟨v, h3, h4⟩ := hval i j q h1 hj
        rw [h4]
        exact (k1.2 j p v (by rw [h2]; exact hp) h3).1
    · rw [List.map_map]
      have h5 : (qs.map (bl ∘ (·.1))).sum ≤ uptoBulkAll (elems.map (·.1)) := by
        refine bulkAll_ge (by simp [hql, hel]) (fun i q d hq hd => ?_)
        obtain ⟨_, _, h3, h4⟩ := hqq i q hq
        rw [List.getElem?_map, h3] at hd
        simp only [Option.map_some, Option.some.injEq] at hd
        subst hd
        exact h4
      simp only [uptoBulk]
      omega
theorem struct_get {sp : Nat → Bool} {held : Bool} {t : TypeId} {l : List (TypeId × Nat)} {fuel : Nat} {cs : List Value} {x : DataW H × List MemPlace}
    (ht : (Tryz.prog.underlying t).map (fun d => match d with | .struct fs => fs.toList.map (fun f => (f.type, f.offset)) | _ => []) = some l) (hne : l ≠ [])
    (h : DataW.trod enc Tryz.prog w 0 sp held fuel t cs = some x) :
    ∃ (xs : List (DataW H × List MemPlace)) (n : Nat), fuel = n + 1 ∧ x.1 = .agg (xs.map (·.1)) ∧ cs.length = Tryz.prog.cellsOf t ∧ xs.length = l.length ∧
      ∀ (i : Nat) (a : TypeId) (o : Nat), l[i]? = some (a, o) → Tryz.prog.cellsOf a = 1 → o < cs.length → ∃ (c : Value) (z : DataW H × List MemPlace), cs[o]? = some c ∧ xs[i]? = some z ∧ DataW.trod enc Tryz.prog w 0 sp held n a [c] = some z := by
  obtain ⟨d, hd, hl⟩ := Option.map_eq_some_iff.1 ht
  cases d with
  | struct fs =>
    simp only at hl
    obtain ⟨xs, n, h1, h2, h3, h4, h5⟩ := DataW.trod_struct hd h
    have hll : fs.size = l.length := by rw [← hl]; simp
    refine ⟨xs, n, h1, by rw [h2], h3, h4.trans hll, fun i a o hi hc ho => ?_⟩
    rw [← hl, List.getElem?_map] at hi
    obtain ⟨f, hf, he⟩ := Option.map_eq_some_iff.1 hi
    simp only [Prod.mk.injEq] at he
    obtain ⟨rfl, rfl⟩ := he
    have h6 := h5 i f (by simpa using hf)
    have h7 : (cs.drop f.offset).take (Tryz.prog.cellsOf f.type) = [cs[f.offset]] := by
      rw [hc, List.drop_eq_getElem_cons ho]
      rfl
    rw [h7] at h6
    have h8 : i < xs.length := by
      rw [h4]
      simpa using (List.getElem?_eq_some_iff.1 hf).1
    exact ⟨_, _, List.getElem?_eq_getElem ho, List.getElem?_eq_getElem h8, by rw [h6]; exact List.getElem?_eq_getElem h8⟩
  | _ => simp only at hl; exact absurd hl.symm hne
theorem u9 : Tryz.prog.underlying 9 = some .string := by kernel_rfl
theorem u3 : Tryz.prog.underlying 3 = some (.int .i64) := by kernel_rfl
theorem u4 : Tryz.prog.underlying 4 = some .bool := by kernel_rfl
theorem u5 : Tryz.prog.underlying 5 = some (.int .u8) := by kernel_rfl
theorem u22 : Tryz.prog.underlying 22 = some (.slice 25) := by kernel_rfl
theorem u23 : Tryz.prog.underlying 23 = some (.slice 136) := by kernel_rfl
theorem u26 : Tryz.prog.underlying 26 = some (.slice 9) := by kernel_rfl
theorem u55 : Tryz.prog.underlying 55 = some (.slice 5) := by kernel_rfl
theorem c9 : Tryz.prog.cellsOf 9 = 1 := by kernel_rfl
theorem c3 : Tryz.prog.cellsOf 3 = 1 := by kernel_rfl
theorem c5 : Tryz.prog.cellsOf 5 = 1 := by kernel_rfl
theorem c22 : Tryz.prog.cellsOf 22 = 1 := by kernel_rfl
theorem c23 : Tryz.prog.cellsOf 23 = 1 := by kernel_rfl
theorem c25 : Tryz.prog.cellsOf 25 = 12 := by kernel_rfl
theorem c136 : Tryz.prog.cellsOf 136 = 2 := by kernel_rfl
theorem s136 : (Tryz.prog.underlying 136).map (fun d => match d with | .struct fs => fs.toList.map (fun f => (f.type, f.offset)) | _ => []) = some [(9, 0), (9, 1)] := by kernel_rfl
theorem s25 : (Tryz.prog.underlying 25).map (fun d => match d with | .struct fs => fs.toList.map (fun f => (f.type, f.offset)) | _ => []) = some [(9, 0), (3, 1), (9, 2), (9, 3), (3, 4), (3, 5), (3, 6), (3, 7), (3, 8), (3, 9), (22, 10), (23, 11)] := by kernel_rfl
theorem toList_len (s : ByteArray) : s.data.toList.length = s.size := by rw [Array.length_toList]; rfl
theorem open_str1 {sp : Nat → Bool} {held : Bool} {n : Nat} {c : Value} {z : DataW H × List MemPlace} (h : DataW.trod enc Tryz.prog w 0 sp held n 9 [c] = some z) : ∃ s : ByteArray, c = .string s ∧ z.1 = .lit (.string s.data.toList) := by
  obtain ⟨s, h1, h2, _⟩ := DataW.trod_string u9 h
  exact ⟨s, by simpa using h1, by rw [h2]⟩
theorem open_int1 {sp : Nat → Bool} {held : Bool} {n : Nat} {c : Value} {z : DataW H × List MemPlace} (h : DataW.trod enc Tryz.prog w 0 sp held n 3 [c] = some z) : ∃ k : Int, c = .int .i64 k ∧ z.1 = .lit (.int .i64 k) := by
  obtain ⟨s, h1, h2, _⟩ := DataW.trod_int u3 h
  exact ⟨s, by simpa using h1, by rw [h2]⟩
theorem open_strE {sp : Nat → Bool} {held : Bool} (n : Nat) (cs : List Value) (y : DataW H × List MemPlace) (h : DataW.trod enc Tryz.prog w 0 sp held n 9 cs = some y) : ∃ s : ByteArray, CR G w [.s (.string s)] cs ∧ 1 + s.size ≤ uptoBulk y.1 := by
  obtain ⟨s, rfl, rfl, _⟩ := DataW.trod_string u9 h
  exact ⟨s, .cons (.s _) rfl .nil, by simp only [uptoBulk, toList_len]; omega⟩
theorem open_u8E {sp : Nat → Bool} {held : Bool} (n : Nat) (cs : List Value) (y : DataW H × List MemPlace) (h : DataW.trod enc Tryz.prog w 0 sp held n 5 cs = some y) : ∃ k : {k : Int // 0 ≤ k ∧ k ≤ 255}, CR G w [.s (.int .u8 k.1)] cs ∧ 1 ≤ uptoBulk y.1 := by
  obtain ⟨s, rfl, rfl, hb⟩ := DataW.trod_int u5 h
  exact ⟨⟨s, bounds_u8 hb⟩, .cons (.s _) rfl .nil, by simp only [uptoBulk]; omega⟩
theorem open_strmE {sp : Nat → Bool} {held : Bool} (n : Nat) (cs : List Value) (y : DataW H × List MemPlace) (h : DataW.trod enc Tryz.prog w 0 sp held n 136 cs = some y) : ∃ s : ByteArray × ByteArray, CR G w (strC s) cs ∧ 1 + s.1.size + s.2.size ≤ uptoBulk y.1 := by
  obtain ⟨xs, m, rfl, hx, hl, hxl, hf⟩ := struct_get s136 (by simp) h
  rw [c136] at hl
  obtain ⟨a0, z0, e0, f0, t0⟩ := hf 0 9 0 rfl c9 (by omega)
  obtain ⟨a1, z1, e1, f1, t1⟩ := hf 1 9 1 rfl c9 (by omega)
  obtain ⟨b0, b1, rfl⟩ := list2 hl
  obtain ⟨y0, y1, rfl⟩ := list2 hxl
  · simp only [List.getElem?_cons_zero, List.getElem?_cons_succ, Option.some.injEq] at e0 e1 f0 f1
    subst e0 e1 f0 f1
    obtain ⟨s0, rfl, d0⟩ := open_str1 t0
    obtain ⟨s1, rfl, d1⟩ := open_str1 t1
    refine ⟨(s0, s1), .cons (.s _) rfl (.cons (.s _) rfl .nil), ?_⟩
    rw [hx]
    simp only [List.map_cons, List.map_nil, d0, d1, uptoBulk, uptoBulkAll, toList_len]
    omega
theorem open_nodeE (hG : ∀ b o, G b o) {sp : Nat → Bool} {held : Bool} : ∀ (n : Nat) (cs : List Value) (y : DataW H × List MemPlace), DataW.trod enc Tryz.prog w 0 sp held n 25 cs = some y → ∃ x : Node, CR G w (nodeC x) cs ∧ x.bulk ≤ uptoBulk y.1 := by
  intro n
  induction n using Nat.strongRecOn with
  | ind n ih =>
    intro cs y h
    obtain ⟨xs, m, rfl, hx, hl, hxl, hf⟩ := struct_get s25 (by simp) h
    rw [c25] at hl
    obtain ⟨a0, z0, e0, f0, t0⟩ := hf 0 9 0 rfl c9 (by omega)
    obtain ⟨a1, z1, e1, f1, t1⟩ := hf 1 3 1 rfl c3 (by omega)
    obtain ⟨a2, z2, e2, f2, t2⟩ := hf 2 9 2 rfl c9 (by omega)
    obtain ⟨a3, z3, e3, f3, t3⟩ := hf 3 9 3 rfl c9 (by omega)
    obtain ⟨a4, z4, e4, f4, t4⟩ := hf 4 3 4 rfl c3 (by omega)
    obtain ⟨a5, z5, e5, f5, t5⟩ := hf 5 3 5 rfl c3 (by omega)
    obtain ⟨a6, z6, e6, f6, t6⟩ := hf 6 3 6 rfl c3 (by omega)
    obtain ⟨a7, z7, e7, f7, t7⟩ := hf 7 3 7 rfl c3 (by omega)
    obtain ⟨a8, z8, e8, f8, t8⟩ := hf 8 3 8 rfl c3 (by omega)
    obtain ⟨a9, z9, e9, f9, t9⟩ := hf 9 3 9 rfl c3 (by omega)
    obtain ⟨a10, z10, e10, f10, t10⟩ := hf 10 22 10 rfl c22 (by omega)
    obtain ⟨a11, z11, e11, f11, t11⟩ := hf 11 23 11 rfl c23 (by omega)
    obtain ⟨b0, b1, b2, b3, b4, b5, b6, b7, b8, b9, b10, b11, rfl⟩ := list12 hl
    obtain ⟨y0, y1, y2, y3, y4, y5, y6, y7, y8, y9, y10, y11, rfl⟩ := list12 hxl
    · simp only [List.getElem?_cons_zero, List.getElem?_cons_succ, Option.some.injEq] at e0 e1 e2 e3 e4 e5 e6 e7 e8 e9 e10 e11 f0 f1 f2 f3 f4 f5 f6 f7 f8 f9 f10 f11
      subst e0 e1 e2 e3 e4 e5 e6 e7 e8 e9 e10 e11 f0 f1 f2 f3 f4 f5 f6 f7 f8 f9 f10 f11
      obtain ⟨s0, rfl, d0⟩ := open_str1 t0
      obtain ⟨s1, rfl, d1⟩ := open_int1 t1
      obtain ⟨s2, rfl, d2⟩ := open_str1 t2
      obtain ⟨s3, rfl, d3⟩ := open_str1 t3
      obtain ⟨s4, rfl, d4⟩ := open_int1 t4
      obtain ⟨s5, rfl, d5⟩ := open_int1 t5
      obtain ⟨s6, rfl, d6⟩ := open_int1 t6
      obtain ⟨s7, rfl, d7⟩ := open_int1 t7
      obtain ⟨s8, rfl, d8⟩ := open_int1 t8
      obtain ⟨s9, rfl, d9⟩ := open_int1 t9
      obtain ⟨ks, v10, h10, r10, o10, d10⟩ := open_sl hG (en := nodeC) (bl := Node.bulk) u22 c25 (fun a => rfl) (fun k cs y hk hy => ih k (by omega) cs y hy) t10
      obtain ⟨ss, v11, h11, r11, o11, d11⟩ := open_sl hG (en := strC) (bl := fun s : ByteArray × ByteArray => 1 + s.1.size + s.2.size) u23 c136 (fun a => rfl) (fun k cs y _ hy => open_strmE k cs y hy) t11
      cases h10
      cases h11
      refine ⟨⟨s0, s1, s2, s3, s4, s5, s6, s7, s8, s9, ks, ss⟩, ?_, ?_⟩
      · refine .cons (.s _) rfl (.cons (.s _) rfl (.cons (.s _) rfl (.cons (.s _) rfl (.cons (.s _) rfl (.cons (.s _) rfl (.cons (.s _) rfl (.cons (.s _) rfl (.cons (.s _) rfl (.cons (.s _) rfl (.cons ?_ o10 (.cons (r11 _ _) o11 .nil)))))))))))
        have := r10 N0 []
        rwa [← kidsC_eq] at this
      · rw [bulk_eq, hx]
        simp only [List.map_cons, List.map_nil, d0, d1, d2, d3, d4, d5, d6, d7, d8, d9, uptoBulk, uptoBulkAll, toList_len]
        omega
end
end Go.Proofs.Pm
end

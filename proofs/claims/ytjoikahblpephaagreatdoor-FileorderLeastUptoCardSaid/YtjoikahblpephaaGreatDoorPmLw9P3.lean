/- A part of the proof of one law: the machine on pure values and the walks of functions. -/
import Derived.Test.YtjoikahblpephaaGreatDoorPmLw9P2
import Derived.Laws.Small
set_option linter.all false
section
namespace Go.Proofs.Pm
open Go
section
variable {P : Program} {T : List TI} {G : Good} {w : World} {ι : Intp} {H : List LS}
theorem run_isAgg {t : TypeId} {d : TypeDesc} (h : P.underlying t = some d) (w : World) : (isAgg t).run P w = .ok (aggOf d) w := by
  cases d <;> simp [isAgg, run_underlying h, aggOf]
theorem run_size {t : TypeId} {i : TypeInfo} (h : P.info? t = some i) (w : World) : (sizeOf t).run P w = .ok i.size w := by
  simp [sizeOf, typeInfo, h]
theorem load_rep {t : TypeId} {ti : TI} {off : Nat} {cs : List PV} {r : PV} {ad : Addr} {vs : Nat → Value} (hT : TOk P T) (ht : lkT T t = some ti) (hk : ti.ok = true) (hr : loadO ti off cs = some r)
    (hc : ∀ (j : Nat) (p : PV), cs[j]? = some p → w.cell? (ad.add j) = some (vs j) ∧ (vs j).oneCell' = true) (hp : ∀ (j : Nat) (p : PV), cs[j]? = some p → VRep G w ι H p (vs j)) :
    ∃ v, (loadVar t (ad.add off)).run P w = .ok v w ∧ VRep G w ι H r v := by
  obtain ⟨i, d, z, h1, h2, h3, h4, h5, h6, h7, h8, h9, h10, h11⟩ := tiOf_ok (hT.at_ ht) hk
  unfold loadO at hr
  cases ha : ti.agg with
  | true =>
    rw [ha] at hr
    simp only at hr
    split at hr
    · rename_i ds hds
      injection hr with hr
      subst hr
      obtain ⟨hl, hd⟩ := takeO_spec hds
      have hcells : (loadCells (ad.add off) i.size).run P w = .ok ((List.range i.size).map fun j => vs (off + j)).toArray w := by
        have := run_loadCells_list (P := P) (w := w) (ad.add off) ((List.range i.size).map fun j => vs (off + j)) (fun j v hv => by
          rw [List.getElem?_map] at hv
          have hj : j < i.size := by
            by_cases hj : j < i.size
            · exact hj
            · rw [List.getElem?_eq_none (by simp; omega)] at hv; simp at hv
          rw [List.getElem?_range hj] at hv
          simp only [Option.map_some, Option.some.injEq] at hv
          subst hv
          rw [add_add]
          have hjl : j < ds.length := by rw [hl, h6]; exact hj
          exact (hc (off + j) ds[j] (hd j _ (List.getElem?_eq_getElem hjl))).1)
        simpa using this
      refine ⟨.agg ((List.range i.size).map fun j => vs (off + j)).toArray, ?_, .agg (by simp [hl, h6]) (fun v hv => ?_) (fun j x v hx hv => ?_)⟩
      · simp [loadVar, run_isAgg h2, ← h5, ha, run_size h1, hcells]
      · simp only [List.mem_toArray, List.mem_map, List.mem_range] at hv
        obtain ⟨j, hj, rfl⟩ := hv
        have hjl : j < ds.length := by rw [hl, h6]; exact hj
        exact (hc (off + j) ds[j] (hd j _ (List.getElem?_eq_getElem hjl))).2
      · have hj : j < i.size := by
          have := (List.getElem?_eq_some_iff.1 hx).1
          omega
        simp [List.getElem?_range hj] at hv
        obtain ⟨_, rfl⟩ := hv
        exact hp _ _ (hd j x hx)
    · cases hr
  | false =>
    rw [ha] at hr
    simp only at hr
    refine ⟨vs off, ?_, hp _ _ hr⟩
    have hcell := (hc off r hr).1
    simp [loadVar, run_isAgg h2, ← h5, ha, load, Sem.run, hcell]
theorem field_at {t : TypeId} {ti : TI} {j off sz tf : Nat} (hT : TOk P T) (ht : lkT T t = some ti) (hk : ti.ok = true) (hf : fieldO ti j = some (off, sz, tf)) :
    ∃ fs f, P.underlying t = some (.struct fs) ∧ fs[j]? = some f ∧ f.offset = off ∧ P.cellsOf f.type = sz ∧ f.type = tf := by
  obtain ⟨i, d, z, h1, h2, h3, h4, h5⟩ := tiOf_ok (hT.at_ ht) hk
  unfold fieldO at hf
  rw [h4] at hf
  cases d <;> simp only [tkOf] at hf <;> try cases hf
  rename_i fs
  simp only [List.getElem?_map, Array.getElem?_toList, Option.map_eq_some_iff] at hf
  obtain ⟨f, hf, he⟩ := hf
  simp only [Prod.mk.injEq] at he
  exact ⟨fs, f, h2, hf, he⟩
theorem cellsOf_pos {t : TypeId} {n : Nat} (h : P.cellsOf t = n) (h0 : Nat.beq n 0 = false) : ∃ i, P.info? t = some i ∧ i.size ≠ 0 := by
  unfold Program.cellsOf at h
  cases hi : P.info? t with
  | none => rw [hi] at h; simp at h; subst h; simp at h0
  | some i =>
    refine ⟨i, rfl, fun e => ?_⟩
    rw [hi] at h
    simp only [Option.map_some, Option.getD_some, e] at h
    subst h
    simp at h0
theorem run_fieldPlace {f : Field} {i : TypeInfo} (hi : P.info? f.type = some i) (h0 : i.size ≠ 0) (a : Addr) (w : World) : (fieldPlace a f).run P w = .ok (a.add f.offset) w := by
  simp [fieldPlace, run_size hi, h0]
theorem kind_at {t : TypeId} {ti : TI} (hT : TOk P T) (ht : lkT T t = some ti) (hk : ti.ok = true) : ∃ d, P.underlying t = some d ∧ ti.k = tkOf P d := by
  obtain ⟨i, d, z, h1, h2, h3, h4, h5⟩ := tiOf_ok (hT.at_ ht) hk
  exact ⟨d, h2, h4⟩
theorem kind_int {t : TypeId} {ti : TI} {k : IntKind} (hT : TOk P T) (ht : lkT T t = some ti) (hk : ti.ok = true) (hd : ti.k = .int k) : P.underlying t = some (.int k) := by
  obtain ⟨d, h1, h2⟩ := kind_at hT ht hk
  rw [hd] at h2
  cases d <;> simp [tkOf] at h2
  rw [h1, h2]
theorem kind_str {t : TypeId} {ti : TI} (hT : TOk P T) (ht : lkT T t = some ti) (hk : ti.ok = true) (hd : ti.k = .str) : P.underlying t = some .string := by
  obtain ⟨d, h1, h2⟩ := kind_at hT ht hk
  rw [hd] at h2
  cases d <;> simp [tkOf] at h2
  rw [h1]
theorem kind_bool {t : TypeId} {ti : TI} (hT : TOk P T) (ht : lkT T t = some ti) (hk : ti.ok = true) (hd : ti.k = .bool) : P.underlying t = some .bool := by
  obtain ⟨d, h1, h2⟩ := kind_at hT ht hk
  rw [hd] at h2
  cases d <;> simp [tkOf] at h2
  rw [h1]
theorem kind_slice {t e : TypeId} {ti : TI} (hT : TOk P T) (ht : lkT T t = some ti) (hk : ti.ok = true) (hd : ti.k = .slice e) : P.underlying t = some (.slice e) := by
  obtain ⟨d, h1, h2⟩ := kind_at hT ht hk
  rw [hd] at h2
  cases d <;> simp [tkOf] at h2
  rw [h1, h2]
theorem size_at {t : TypeId} {ti : TI} (hT : TOk P T) (ht : lkT T t = some ti) (hk : ti.ok = true) : ∃ i, P.info? t = some i ∧ ti.size = i.size ∧ ti.bytes = i.bytes := by
  obtain ⟨i, d, z, h1, h2, h3, h4, h5, h6, h7⟩ := tiOf_ok (hT.at_ ht) hk
  exact ⟨i, h1, h6, h7.1⟩
theorem index_rep {t e : TypeId} {ti te : TI} {xs : List (List PV)} {c : List PV} {k : IntKind} {n : Int} {u : Value} (hT : TOk P T) (ht : lkT T t = some ti) (hk : ti.ok = true) (hd : ti.k = .slice e) (hE : lkT T e = some te) (hke : te.ok = true)
    (h0 : 0 ≤ n) (hx : xs[n.toNat]? = some c) (hl : Nat.beq c.length te.size = true) (hu : VRep G w ι H (.list xs) u) : ∃ v, (Instr.indexAt t u (.int k n)).run P w = .ok v w ∧ VRep G w ι H (.eptr c) v := by
  obtain ⟨A, cp, sz, vs, rfl, hcap, hmax, hsz, hA, hr⟩ := list_inv hu
  have hlt := (List.getElem?_eq_some_iff.1 hx).1
  obtain ⟨ad, rfl, hcells⟩ := hA (by omega)
  obtain ⟨i, hi, hs, _⟩ := size_at hT hE hke
  have hcl : c.length = sz := hsz c (List.mem_of_getElem? hx)
  have hsize : i.size = sz := by rw [← hs, ← hcl]; exact (Nat.eq_of_beq_eq_true hl).symm
  refine ⟨.pointer (some (ad.add (n.toNat * i.size))), ?_, .eptr _ (fun j => vs n.toNat j) (fun j p hp => ?_) (fun j p hp => hr _ _ _ _ hx hp)⟩
  · have : (n : Int) < (xs.length : Int) := by omega
    simp [Instr.indexAt, run_underlying (kind_slice hT ht hk hd), asIntOf, h0, this, run_size hi]
  · have hj : j < sz := by rw [← hcl]; exact (List.getElem?_eq_some_iff.1 hp).1
    obtain ⟨k1, k2, k3⟩ := hcells _ j c hx hj
    rw [hsize, add_add, add_block, add_off]
    exact ⟨k1, k2, by rwa [Nat.add_assoc]⟩
theorem run_eqGuard_plain {op : BinOp} {t : TypeId} {x y : Operand} {a b : Value} (h1 : ∀ cs, a ≠ .agg cs) (h2 : a ≠ .nilIface) (w : World) : (eqGuard op t x y a b).run P w = .ok () w := by
  unfold eqGuard
  cases op <;> cases a <;> first
    | exact absurd rfl h2
    | exact absurd rfl (h1 _)
    | simp
end
theorem run_eq_bool {P : Program} {t : TypeId} (h : P.underlying t = some .bool) (a b : Bool) (w : World) : (binOp .eql t (.bool a) (.bool b)).run P w = .ok (.bool (a == b)) w := by
  have h1 : ∀ d : Nat, (Op.equalIn (d + 1) t (.bool a) (.bool b)).run P w = .ok (a == b) w := fun d => by
    simp [Op.equalIn, run_underlying h]
  simp only [binOp]
  simp [Op.equal, Op.maxDepth, h1 9999]
theorem VReps.one {R : PV → Value → Prop} {p : PV} {v : Value} (h : VReps R [p] [v]) : R p v := by cases h; assumption
theorem VReps.two {R : PV → Value → Prop} {p q : PV} {v u : Value} (h : VReps R [p, q] [v, u]) : R p v ∧ R q u := by
  cases h with
  | cons h1 h2 => exact ⟨h1, h2.one⟩
theorem VReps.three {R : PV → Value → Prop} {p q r : PV} {v u x : Value} (h : VReps R [p, q, r] [v, u, x]) : R p v ∧ R q u ∧ R r x := by
  cases h with
  | cons h1 h2 => exact ⟨h1, h2.two⟩
section
variable {P : Program} {T : List TI}
theorem nstep_bin {op : BinOp} {t u : TypeId} {x y : Operand} {a b r : Value} (h1 : ∀ cs, a ≠ .agg cs) (h2 : a ≠ .nilIface) (h : ∀ w, (binOp op t a b).run P w = .ok r w) : NStep P (.binOp op t x y u) [.s a, .s b] [] (.s r) := by
  intro o G w ι H ρ ho hH hv _
  have hv : VReps (VRep (Prot G ι H) w ι H) [.s a, .s b] [ρ x, ρ y] := hv
  obtain ⟨e1, e2⟩ := hv.two
  have e1 := s_inv e1
  have e2 := s_inv e2
  refine ⟨r, ?_, .s r⟩
  simp [execOp, ho, e1, e2, run_eqGuard_plain h1 h2, h]
theorem OpN.sound (hT : TOk P T) {op : Op} {pvs : List PV} {reads : List (Nat × LS)} {r : PV} (h : OpN T op pvs reads r) : NStep P op pvs reads r := by
  cases h with
  | @move x p => intro o G w ι H ρ ho hH hv _; exact ⟨ρ x, by simp [execOp, ho], VReps.one (v := ρ x) hv⟩
  | @assign x p => intro o G w ι H ρ ho hH hv _; exact ⟨ρ x, by simp [execOp, ho], VReps.one (v := ρ x) hv⟩
  | @pickT c a b p q =>
    intro o G w ι H ρ ho hH hv _
    obtain ⟨e1, e2, e3⟩ := VReps.three (v := ρ c) (u := ρ a) (x := ρ b) hv
    exact ⟨ρ a, by simp [execOp, ho, s_inv e1, asBool], e2⟩
  | @pickF c a b p q =>
    intro o G w ι H ρ ho hH hv _
    obtain ⟨e1, e2, e3⟩ := VReps.three (v := ρ c) (u := ρ a) (x := ρ b) hv
    exact ⟨ρ b, by simp [execOp, ho, s_inv e1, asBool], e3⟩
  | @loadE t x cs ti r ht hk hr =>
    intro o G w ι H ρ ho hH hv _
    obtain ⟨ad, vs, e, hc, hp⟩ := eptr_inv (VReps.one (v := ρ x) hv)
    obtain ⟨v, hrun, hrep⟩ := load_rep (ι := ι) (H := H) (off := 0) hT ht hk hr (fun j p hj => ⟨(hc j p hj).1, (hc j p hj).2.1⟩) (fun j p hj => closed_rep (hp j p hj))
    refine ⟨v, ?_, hrep⟩
    have h0 : ad.add 0 = ad := by simp [Addr.add]
    rw [h0] at hrun
    simp [execOp, ho, e, Instr.loadAt, Instr.sureAddr, hrun]
  | @loadB t x i off cs bt ti r ht hk hr =>
    intro o G w ι H ρ ho hH hv hrd
    obtain ⟨b, c, cs', t', e, hi, hb⟩ := ptr_inv (VReps.one (v := ρ x) hv)
    have hbox := hrd (i, .box cs bt) List.mem_cons_self
    obtain ⟨b', c', vs, hi', hblk, hl, h1, hrep⟩ := hH.rel i _ hbox
    rw [hi] at hi'
    injection hi' with hi'
    injection hi' with hb1 hc1
    subst hb1
    have hcell : ∀ (j : Nat) (p : PV), cs[j]? = some p → w.cell? ((⟨b, 0, none⟩ : Addr).add j) = some (vs.getD j undef) ∧ (vs.getD j undef).oneCell' = true := by
      intro j p hj
      have hlt : j < vs.size := Nat.lt_of_lt_of_le (List.getElem?_eq_some_iff.1 hj).1 hl
      have hadd : (⟨b, 0, none⟩ : Addr).add j = ⟨b, j, none⟩ := by unfold Addr.add; split <;> simp_all
      rw [hadd]
      have hg : vs[j]? = some (vs.getD j undef) := by simp [hlt]
      have hcl : w.cell? ⟨b, j, none⟩ = vs[j]? := by simp [World.cell?, hblk]
      refine ⟨hcl.trans hg, ?_⟩
      have : vs.getD j undef = vs[j] := by simp [hlt]
      rw [this]; exact h1 j _ (List.getElem?_eq_some_iff.1 hj).1 (Array.getElem?_eq_getElem hlt)
    obtain ⟨v, hrun, hrp⟩ := load_rep (G := Prot G ι H) (ι := ι) (H := H) (off := off) hT ht hk hr hcell (fun j p hj => hrep j p _ hj (by
      have hlt : j < vs.size := Nat.lt_of_lt_of_le (List.getElem?_eq_some_iff.1 hj).1 hl
      simp [hlt]))
    refine ⟨v, ?_, hrp⟩
    have hadd : (⟨b, 0, none⟩ : Addr).add off = ⟨b, off, none⟩ := by unfold Addr.add; split <;> simp_all
    rw [hadd] at hrun
    simp [execOp, ho, e, Instr.loadAt, Instr.sureAddr, hrun]
  | @faE t x j cs ti off sz tf ds ht hk hf hz hd =>
    intro o G w ι H ρ ho hH hv _
    obtain ⟨ad, vs, e, hc, hp⟩ := eptr_inv (VReps.one (v := ρ x) hv)
    obtain ⟨fs, f, h1, h2, h3, h4, h5⟩ := field_at hT ht hk hf
    obtain ⟨i, hi, h0⟩ := cellsOf_pos h4 hz
    have hds := dropO_spec hd
    subst hds
    refine ⟨.pointer (some (ad.add off)), ?_, .eptr (ad.add off) (fun k => vs (off + k)) (fun k p hk => ?_) (fun k p hk => hp _ _ (by rwa [List.getElem?_drop] at hk))⟩
    · simp [execOp, ho, e, Instr.fieldAt, run_underlying h1, h2, Instr.sureAddr, run_fieldPlace hi h0, h3]
    · rw [List.getElem?_drop] at hk
      rw [add_add, add_block, add_off, Nat.add_assoc]
      exact hc _ _ hk
  | @faB t x j i off ti fo sz tf ht hk hf hz =>
    intro o G w ι H ρ ho hH hv _
    obtain ⟨b, c, cs', t', e, hi, hb⟩ := ptr_inv (VReps.one (v := ρ x) hv)
    obtain ⟨fs, f, h1, h2, h3, h4, h5⟩ := field_at hT ht hk hf
    obtain ⟨i', hi', h0⟩ := cellsOf_pos h4 hz
    refine ⟨.pointer (some ⟨b, off + fo, none⟩), ?_, .ptr hi ⟨cs', t', hb⟩⟩
    have hadd : (⟨b, off, none⟩ : Addr).add fo = ⟨b, off + fo, none⟩ := by unfold Addr.add; split <;> simp_all
    simp [execOp, ho, e, Instr.fieldAt, run_underlying h1, h2, Instr.sureAddr, run_fieldPlace hi' h0, h3, hadd]
  | @nilE x cs =>
    intro o G w ι H ρ ho hH hv _
    have hv := VReps.one (v := ρ x) hv
    obtain ⟨ad, vs, e, hc, hp⟩ := eptr_inv hv
    exact ⟨ρ x, by simp [execOp, ho, e], hv⟩
  | @nilB x i off =>
    intro o G w ι H ρ ho hH hv _
    have hv := VReps.one (v := ρ x) hv
    obtain ⟨b, c, cs', t', e, hi, hb⟩ := ptr_inv hv
    exact ⟨ρ x, by simp [execOp, ho, e], hv⟩
  | @nilF x f a b =>
    intro o G w ι H ρ ho hH hv _
    have hv := VReps.one (v := ρ x) hv
    obtain ⟨fs, cs, e, _⟩ := fn_inv hv
    exact ⟨ρ x, by simp [execOp, ho, e], hv⟩
  | @extract x i xs r hr =>
    intro o G w ι H ρ ho hH hv _
    obtain ⟨vs, e, hl, hrep⟩ := tup_inv (VReps.one (v := ρ x) hv)
    have hlt : i < vs.size := by rw [← hl]; exact (List.getElem?_eq_some_iff.1 hr).1
    exact ⟨vs[i], by simp [execOp, ho, e, Instr.extract, hlt], hrep i r _ hr (by simp [hlt])⟩
  | @fieldV t x j cs ti off sz tf tj r ht hk hf hF hj hr =>
    intro o G w ι H ρ ho hH hv _
    obtain ⟨vs, e, hl, h1, hrep⟩ := agg_inv (VReps.one (v := ρ x) hv)
    obtain ⟨fs, f, hu, hfj, h3, h4, h5⟩ := field_at hT ht hk hf
    obtain ⟨i, d, z, g1, g2, g3, g4, g5, g6, g7, g8, g9, g10, g11⟩ := tiOf_ok (hT.at_ hF) hj
    subst h5
    unfold loadO at hr
    cases ha : tj.agg with
    | true =>
      rw [ha] at hr
      simp only at hr
      split at hr
      · rename_i ds hds
        injection hr with hr
        subst hr
        obtain ⟨hl2, hd⟩ := takeO_spec hds
        have hbound : ∀ k, k < tj.size → off + k < vs.size := fun k hk => by
          have := hd k _ (List.getElem?_eq_getElem (by rw [hl2]; exact hk))
          rw [← hl]; exact (List.getElem?_eq_some_iff.1 this).1
        refine ⟨.agg (vs.extract off (off + i.size)), ?_, .agg (by
            simp only [Array.size_extract]
            rw [hl2, g6]
            rcases Nat.eq_zero_or_pos i.size with h0 | h0
            · omega
            · have := hbound (i.size - 1) (by omega); omega) (fun v hv => h1 v (by
            obtain ⟨q, hq⟩ := Array.mem_iff_getElem?.1 hv
            rw [Array.getElem?_extract] at hq
            split at hq
            · exact Array.mem_of_getElem? hq
            · cases hq)) (fun k y v hy hv => hrep _ _ _ (hd k y hy) (by
            rw [Array.getElem?_extract] at hv
            split at hv
            · exact hv
            · cases hv))⟩
        simp [execOp, ho, e, Instr.field, run_underlying hu, hfj, asAgg, part, run_isAgg g2, ← g5, ha, run_size g1, h3]
      · cases hr
    | false =>
      rw [ha] at hr
      simp only at hr
      have hlt : off < vs.size := by rw [← hl]; exact (List.getElem?_eq_some_iff.1 hr).1
      refine ⟨vs[off], ?_, hrep off r _ hr (by simp [hlt])⟩
      simp [execOp, ho, e, Instr.field, run_underlying hu, hfj, asAgg, part, run_isAgg g2, ← g5, ha, h3, hlt]
  | @mkFn f first caps ps as bs h1 h2 =>
    intro o G w ι H ρ ho hH hv _
    subst h1 h2
    have hl := hv.length
    have hops : (Op.makeFunc (.func f) first caps).operands.toList.map ρ = first.toList.map ρ ++ caps.toList.map ρ := by simp [Op.operands]
    rw [hops] at hv hl
    simp at hl
    refine ⟨.func (.func f) (first.map ρ) (caps.map ρ), by simp [execOp, ho, Instr.makeFunc], .fn (by simp; omega) (by simp; omega) (fun j x v hx hv' => ?_) (fun j x v hx hv' => ?_)⟩
    · rw [List.getElem?_take] at hx
      split at hx
      · rename_i hj
        refine hv.get j x v hx ?_
        rw [List.getElem?_append_left (by simpa using hj)]
        simpa using hv'
      · cases hx
    · rw [List.getElem?_drop] at hx
      refine hv.get _ x v hx ?_
      rw [List.getElem?_append_right (by simp)]
      simpa using hv'
  | @iadd t u x y k a b => exact nstep_bin (by simp) (by simp) (fun w => by simp [binOp, Op.intArith])
  | @isub t u x y k a b => exact nstep_bin (by simp) (by simp) (fun w => by simp [binOp, Op.intArith])
  | @imul t u x y k a b => exact nstep_bin (by simp) (by simp) (fun w => by simp [binOp, Op.intArith])
  | @iquo t u x y k a b h0 => exact nstep_bin (by simp) (by simp) (fun w => by simp [binOp, Op.intDiv, h0])
  | @irem t u x y k a b h0 => exact nstep_bin (by simp) (by simp) (fun w => by simp [binOp, Op.intDiv, h0])
  | @ieql t u x y k a b => exact nstep_bin (by simp) (by simp) (fun w => by simp [binOp, Op.intCmp])
  | @ineq t u x y k a b => exact nstep_bin (by simp) (by simp) (fun w => by simp [binOp, Op.intCmp])
  | @ilss t u x y k a b => exact nstep_bin (by simp) (by simp) (fun w => by simp [binOp, Op.intCmp])
  | @ileq t u x y k a b => exact nstep_bin (by simp) (by simp) (fun w => by simp [binOp, Op.intCmp])
  | @igtr t u x y k a b => exact nstep_bin (by simp) (by simp) (fun w => by simp [binOp, Op.intCmp])
  | @igeq t u x y k a b => exact nstep_bin (by simp) (by simp) (fun w => by simp [binOp, Op.intCmp])
  | @ishl t u x y k k' a b h0 => exact nstep_bin (by simp) (by simp) (fun w => by
      have : ¬ b < 0 := by omega
      simp [binOp, Op.shift, this])
  | @ishr t u x y k k' a b h0 => exact nstep_bin (by simp) (by simp) (fun w => by
      have : ¬ b < 0 := by omega
      simp [binOp, Op.shift, this])
  | @iand t u x y k a b => exact nstep_bin (by simp) (by simp) (fun w => by simp [binOp, intBits_and])
  | @ior t u x y k a b => exact nstep_bin (by simp) (by simp) (fun w => by simp [binOp, intBits_or])
  | @ixor t u x y k a b => exact nstep_bin (by simp) (by simp) (fun w => by simp [binOp, intBits_xor])
  | @sadd t u x y a b h0 => exact nstep_bin (by simp) (by simp) (fun w => by
      have : ¬ (((a.size + b.size : Nat) : Int) > IntKind.i64.max) := by
        have : IntKind.i64.max = 9223372036854775807 := by decide
        omega
      simp only [binOp, Op.stringOp]
      rw [if_neg this]
      simp)
  | @seql t u x y a b => exact nstep_bin (by simp) (by simp) (fun w => by simp [binOp, Op.stringOp])
  | @sneq t u x y a b => exact nstep_bin (by simp) (by simp) (fun w => by simp [binOp, Op.stringOp])
  | @slss t u x y a b => exact nstep_bin (by simp) (by simp) (fun w => by simp [binOp, Op.stringOp])
  | @beql t u x y a b ti ht hk hb => exact nstep_bin (by simp) (by simp) (fun w => run_eq_bool (kind_bool hT ht hk hb) a b w)
  | @not t x b =>
    intro o G w ι H ρ ho hH hv _
    exact ⟨_, by simp [execOp, ho, s_inv (VReps.one (v := ρ x) hv), Op.unary], .s _⟩
  | @neg t x k n =>
    intro o G w ι H ρ ho hH hv _
    exact ⟨_, by simp [execOp, ho, s_inv (VReps.one (v := ρ x) hv), Op.unary, Op.intArith], .s _⟩
  | @conv s d x k n ti tj k' ht hk hd hS hj =>
    intro o G w ι H ρ ho hH hv _
    obtain ⟨dd, h1, _⟩ := kind_at hT hS hj
    exact ⟨_, by simp [execOp, ho, s_inv (VReps.one (v := ρ x) hv), convert, run_underlying (kind_int hT ht hk hd), run_underlying h1, Conv.intToInt], .s _⟩
  | @convS s d x b ti tj ht hk hd hS hj =>
    intro o G w ι H ρ ho hH hv _
    obtain ⟨dd, h1, _⟩ := kind_at hT hS hj
    exact ⟨_, by simp [execOp, ho, s_inv (VReps.one (v := ρ x) hv), convert, run_underlying (kind_str hT ht hk hd), run_underlying h1], .s _⟩
  | @idxStr t x i s k n b ti ht hk hd h0 hb =>
    intro o G w ι H ρ ho hH hv _
    obtain ⟨e1, e2⟩ := VReps.two (v := ρ x) (u := ρ i) hv
    refine ⟨.int .u8 b.toNat, ?_, .s _⟩
    simp [execOp, ho, s_inv e1, s_inv e2, Instr.index, asIntOf, run_underlying (kind_str hT ht hk hd), h0, hb]
  | @imax x y t1 t2 k a b =>
    intro o G w ι H ρ ho hH hv _
    obtain ⟨e1, e2⟩ := VReps.two (v := ρ x) (u := ρ y) hv
    exact ⟨_, by simp [execOp, ho, resolve, invoke, builtin, s_inv e1, s_inv e2, run_max_int2], .s _⟩
  | @imin x y t1 t2 k a b =>
    intro o G w ι H ρ ho hH hv _
    obtain ⟨e1, e2⟩ := VReps.two (v := ρ x) (u := ρ y) hv
    exact ⟨_, by simp [execOp, ho, resolve, invoke, builtin, s_inv e1, s_inv e2, run_min_int2], .s _⟩
  | @lenS x t s ti ht hk hd =>
    intro o G w ι H ρ ho hH hv _
    exact ⟨_, by simp [execOp, ho, resolve, invoke, builtin, Builtin.len_, s_inv (VReps.one (v := ρ x) hv), run_underlying (kind_str hT ht hk hd), goInt], .s _⟩
  | @lenL x t xs ti e ht hk hd =>
    intro o G w ι H ρ ho hH hv _
    obtain ⟨A, cp, sz, vs, e, _⟩ := list_inv (VReps.one (v := ρ x) hv)
    exact ⟨_, by simp [execOp, ho, resolve, invoke, builtin, Builtin.len_, e, run_underlying (kind_slice hT ht hk hd), goInt], .s _⟩
  | @lenR x t xs i ti e ht hk hd =>
    intro o G w ι H ρ ho hH hv _
    obtain ⟨A, cp, sz, vs, e, _⟩ := list_inv (row_inv (VReps.one (v := ρ x) hv)).1
    exact ⟨_, by simp [execOp, ho, resolve, invoke, builtin, Builtin.len_, e, run_underlying (kind_slice hT ht hk hd), goInt], .s _⟩
  | @lenNil x t c n ti e ht hk hd =>
    intro o G w ι H ρ ho hH hv _
    exact ⟨_, by simp [execOp, ho, resolve, invoke, builtin, Builtin.len_, s_inv (VReps.one (v := ρ x) hv), run_underlying (kind_slice hT ht hk hd), goInt], .s _⟩
  | @iaL t x y xs k n ti e te c ht hk hd hE hke h0 hx hl =>
    intro o G w ι H ρ ho hH hv _
    obtain ⟨e1, e2⟩ := VReps.two (v := ρ x) (u := ρ y) hv
    obtain ⟨v, hrun, hrep⟩ := index_rep (k := k) hT ht hk hd hE hke h0 hx hl e1
    exact ⟨v, by simp [execOp, ho, s_inv e2, hrun], hrep⟩
  | @iaR t x y xs i k n ti e te c ht hk hd hE hke h0 hx hl =>
    intro o G w ι H ρ ho hH hv _
    obtain ⟨e1, e2⟩ := VReps.two (v := ρ x) (u := ρ y) hv
    obtain ⟨v, hrun, hrep⟩ := index_rep (k := k) hT ht hk hd hE hke h0 hx hl (row_inv e1).1
    exact ⟨v, by simp [execOp, ho, s_inv e2, hrun], hrep⟩
  | @slS0 t x s lo k n ti ht hk hd h0 h1 =>
    intro o G w ι H ρ ho hH hv _
    obtain ⟨e1, e2⟩ := VReps.two (v := ρ x) (u := ρ lo) hv
    refine ⟨_, ?_, .s _⟩
    have : Instr.sliceAt t (.string s) (some (.int k n)) none none = Instr.sliceAt t (.string s) (some (.int k n)) none none := rfl
    simp [execOp, ho, s_inv e1, s_inv e2, Instr.sliceAt, Instr.slice, run_underlying (kind_str hT ht hk hd), Instr.sliceBounds, Instr.sliceBound, asIntOf, h0, h1]
  | @slS1 t x s hi k n ti ht hk hd h0 h1 =>
    intro o G w ι H ρ ho hH hv _
    obtain ⟨e1, e2⟩ := VReps.two (v := ρ x) (u := ρ hi) hv
    refine ⟨_, ?_, .s _⟩
    simp [execOp, ho, s_inv e1, s_inv e2, Instr.sliceAt, Instr.slice, run_underlying (kind_str hT ht hk hd), Instr.sliceBounds, Instr.sliceBound, asIntOf, h0, h1]
  | @slS2 t x s lo hi k k' m n ti ht hk hd h0 h1 h2 =>
    intro o G w ι H ρ ho hH hv _
    obtain ⟨e1, e2, e3⟩ := VReps.three (v := ρ x) (u := ρ lo) (x := ρ hi) hv
    refine ⟨_, ?_, .s _⟩
    have h3 : 0 ≤ n := by omega
    have h4 : m ≤ (n.toNat : Int) := by omega
    simp [execOp, ho, s_inv e1, s_inv e2, s_inv e3, Instr.sliceAt, Instr.slice, run_underlying (kind_str hT ht hk hd), Instr.sliceBounds, Instr.sliceBound, asIntOf, h0, h1, h2, h3, h4]
    intro h
    exact absurd h (by omega)
end
end Go.Proofs.Pm
end

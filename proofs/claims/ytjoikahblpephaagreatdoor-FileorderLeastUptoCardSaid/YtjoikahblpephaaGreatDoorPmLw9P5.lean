/- A part of the proof of one law: the machine on pure values and the walks of functions. -/
import Derived.Test.YtjoikahblpephaaGreatDoorPmLw9P4
import Derived.Great.BuildSlice
set_option linter.all false
section
namespace Go.Proofs.Pm
open Go
section
variable {P : Program} {T : List TI} {o : Oper} {f : Nat → Option PV}
theorem mem_tmps {op : Op} {t : Nat} (h : .tmp t ∈ op.operands.toList) : t ∈ tmpsOf op := List.mem_filterMap.2 ⟨.tmp t, h, rfl⟩
theorem ostep_n {pvs : List PV} {reads : List (Nat × LS)} {r : PV} (h : NStep P o.op pvs reads r) (he : evalL f o.op.operands.toList = some pvs) : OStep P o f reads r [] := by
  intro G w ι H a hH hG hf hr
  obtain ⟨v, hrun, hrep⟩ := h o G w ι H a.eval rfl hH (evalL_rep (fun t p ht hp => hf t p (mem_tmps ht) hp) he) hr
  unfold OpGoes
  rw [hrun]
  exact ⟨ι, hH, hrep, Ext.refl _ _ _ _, Out.refl _ _ _⟩
theorem evalO_mem {G : Good} {w : World} {ι : Intp} {H : List LS} {a : Act} {op : Op} {x : Operand} {p : PV} (hf : ∀ t p, t ∈ tmpsOf op → f t = some p → VRep G w ι H p (a.tmps.getD t undef)) (hx : x ∈ op.operands.toList) (he : evalO f x = some p) : VRep G w ι H p (a.eval x) :=
  evalO_rep (fun t q ht hq => hf t q (mem_tmps (by rw [← ht]; exact hx)) hq) he
theorem array_forall_of_list {vs : Array Value} {q : Value → Prop} (h : ∀ v ∈ vs.toList, q v) : ∀ v ∈ vs, q v := fun v hv => h v (Array.mem_toList_iff.2 hv)
theorem os_box {t : TypeId} {x : Operand} {p : PV} {cs : List PV} {l : Nat} (ho : o.op = .box t x) (he : evalO f x = some p) (hc : cellsPV p = some cs) : OStep P o f [(l, .absent)] (.ptr l 0) [(l, .box cs t)] := by
  intro G w ι H a hH hG hf hr
  have hl := hr (l, .absent) List.mem_cons_self
  have hll := (List.getElem?_eq_some_iff.1 hl).1
  have hv := evalO_mem hf (x := x) (by rw [ho]; simp [Op.operands]) he
  obtain ⟨h1, h2, h3⟩ := cells_rep hv hc
  unfold OpGoes
  have hrun : (execOp a.eval o).run P w = .ok (.value (.pointer (some ⟨w.heap.size, 0, none⟩))) (w.alloc (.cells (a.eval x).cells t)) := by
    simp [execOp, ho, Instr.box, newVar, newRow]
  rw [hrun]
  refine ⟨updI ι l (some (w.heap.size, 0)), rel_new hH hG hl ⟨w.heap.size, 0, (a.eval x).cells, updI_self _ _ _, heap_alloc_new w _, Nat.le_of_eq h1, fun j u _ hu => h2 u (Array.mem_of_getElem? hu), fun j q u hq hu => (h3 j q u hq hu).ext (ext_new hl)⟩, .ptr (updI_self _ _ _) ⟨cs, t, by simp [setAll, hll]⟩, ext_new hl, out_new hll⟩
theorem os_alloc {t : TypeId} {ti : TI} {cs : List PV} {l : Nat} (hT : TOk P T) (ho : o.op = .alloc t) (ht : lkT T t = some ti) (hk : ti.ok = true) (h1 : ti.zero.all (·.oneCell') = true) (hc : ti.zero.map .s = cs) : OStep P o f [(l, .absent)] (.ptr l 0) [(l, .box cs t)] := by
  intro G w ι H a hH hG hf hr
  have hl := hr (l, .absent) List.mem_cons_self
  have hll := (List.getElem?_eq_some_iff.1 hl).1
  obtain ⟨i, d, z, g1, g2, g3, g4, g5, g6, g7, g8, g9, g10, g11⟩ := tiOf_ok (hT.at_ ht) hk
  unfold OpGoes
  have hrun : (execOp a.eval o).run P w = .ok (.value (.pointer (some ⟨w.heap.size, 0, none⟩))) (w.alloc (.cells z.cells t)) := by
    simp [execOp, ho, Instr.alloc, zeroValue, typeInfo, g1, g3, newVar, newRow]
  rw [hrun]
  subst hc
  refine ⟨updI ι l (some (w.heap.size, 0)), rel_new hH hG hl ⟨w.heap.size, 0, z.cells, updI_self _ _ _, heap_alloc_new w _, by simp [g8], fun j v _ hv => array_forall_of_list (fun v hv => by rw [← g8] at hv; exact List.all_eq_true.1 h1 v hv) v (Array.mem_of_getElem? hv), fun j q u hq hu => ?_⟩, .ptr (updI_self _ _ _) ⟨_, t, by simp [setAll, hll]; rfl⟩, ext_new hl, out_new hll⟩
  rw [g8, List.getElem?_map, Array.getElem?_toList, hu] at hq
  simp only [Option.map_some, Option.some.injEq] at hq
  subst hq
  exact .s u
def overO : List PV → List PV → Option (List PV)
  | bs, [] => some bs
  | [], _ :: _ => none
  | _ :: bs, c :: cs => match overO bs cs with
    | some r => some (c :: r)
    | none => none
def spliceO : List PV → Nat → List PV → Option (List PV)
  | bs, 0, cs => overO bs cs
  | [], _ + 1, _ => none
  | b :: bs, n + 1, cs => match spliceO bs n cs with
    | some r => some (b :: r)
    | none => none
def storeO (bs : List PV) (off : Nat) (cs : List PV) : Option (List PV) :=
  bif Nat.beq off 0 && Nat.beq bs.length cs.length then some cs else spliceO bs off cs
theorem overO_spec : ∀ {bs cs r : List PV}, overO bs cs = some r → cs.length ≤ bs.length ∧ r = cs ++ bs.drop cs.length
  | bs, [], r, h => by cases bs <;> simp_all [overO]
  | [], _ :: _, r, h => by simp [overO] at h
  | b :: bs, c :: cs, r, h => by
    simp only [overO] at h
    split at h
    · rename_i r' hr
      simp only [Option.some.injEq] at h
      subst h
      obtain ⟨h1, h2⟩ := overO_spec hr
      exact ⟨by simpa using h1, by simp [h2]⟩
    · cases h
theorem spliceO_spec : ∀ {bs : List PV} {n : Nat} {cs r : List PV}, spliceO bs n cs = some r → n + cs.length ≤ bs.length ∧ r = bs.take n ++ cs ++ bs.drop (n + cs.length)
  | bs, 0, cs, r, h => by
    obtain ⟨h1, h2⟩ := overO_spec (by cases bs <;> exact h : overO bs cs = some r)
    exact ⟨by omega, by simp [h2]⟩
  | [], n + 1, cs, r, h => by simp [spliceO] at h
  | b :: bs, n + 1, cs, r, h => by
    simp only [spliceO] at h
    split at h
    · rename_i r' hr
      simp only [Option.some.injEq] at h
      subst h
      obtain ⟨h1, h2⟩ := spliceO_spec hr
      refine ⟨by simp; omega, ?_⟩
      rw [h2]
      simp [show n + 1 + cs.length = (n + cs.length) + 1 by omega]
    · cases h
theorem storeO_spec {bs : List PV} {n : Nat} {cs r : List PV} (h : storeO bs n cs = some r) : n + cs.length ≤ bs.length ∧ r = bs.take n ++ cs ++ bs.drop (n + cs.length) := by
  unfold storeO at h
  cases hb : (Nat.beq n 0 && Nat.beq bs.length cs.length) with
  | true =>
    rw [hb] at h
    simp only [cond_true, Option.some.injEq] at h
    subst h
    simp only [Bool.and_eq_true] at hb
    have h1 := Nat.eq_of_beq_eq_true hb.1
    have h2 := Nat.eq_of_beq_eq_true hb.2
    subst h1
    exact ⟨by omega, by simp [h2 ▸ List.drop_length]⟩
  | false =>
    rw [hb] at h
    exact spliceO_spec h
theorem ext_box {G : Good} {w : World} {ι : Intp} {H : List LS} {i b c : Nat} {bs bs' : List PV} {t : TypeId} {vs : Array Value} (hi : ι i = some (b, c)) (hb : H[i]? = some (.box bs t)) : Ext G w ι H (w.setRow b vs) ι (H.set i (.box bs' t)) := by
  have hll := (List.getElem?_eq_some_iff.1 hb).1
  refine ⟨by simp, by simp, fun a v hp hc => ?_, fun j cs t' hj => ?_, fun j n sz t' hj => ?_, fun j kvs hj => ?_, fun j xs φ hj => ?_⟩
  · have hne : a.block ≠ b := fun e => by
      obtain ⟨n, sz, t', h1, h2⟩ := hp.2 i c hll (by rw [e]; exact hi)
      rw [hb] at h1; injection h1 with h1; cases h1
    refine ⟨by rw [cell_setRow_other w b vs a hne]; exact hc, hp.1, fun j d hj e => ?_⟩
    simp only [List.length_set] at hj
    by_cases hji : j = i
    · subst hji
      rw [hi] at e; injection e with e; injection e with e _; exact absurd e.symm hne
    · rw [List.getElem?_set_ne (Ne.symm hji)]
      exact hp.2 j d hj e
  · refine ⟨rfl, ?_⟩
    by_cases hji : j = i
    · subst hji
      rw [hb] at hj; injection hj with hj; injection hj with hj1 hj2; subst hj2
      exact ⟨bs', by simp [hll]⟩
    · exact ⟨cs, by rw [List.getElem?_set_ne (Ne.symm hji)]; exact hj⟩
  · have hji : j ≠ i := fun e => by subst e; rw [hb] at hj; injection hj with hj; cases hj
    exact ⟨n, by rw [List.getElem?_set_ne (Ne.symm hji)]; exact hj, Nat.le_refl _, fun _ => rfl⟩
  · have hji : j ≠ i := fun e => by subst e; rw [hb] at hj; injection hj with hj; cases hj
    exact ⟨rfl, kvs, by rw [List.getElem?_set_ne (Ne.symm hji)]; exact hj⟩
  · have hji : j ≠ i := fun e => by subst e; rw [hb] at hj; injection hj with hj; cases hj
    exact ⟨rfl, xs, φ, by rw [List.getElem?_set_ne (Ne.symm hji)]; exact hj⟩
theorem os_store {t bt : TypeId} {x y : Operand} {i off : Nat} {p : PV} {bs bs' cs : List PV} {ti : TI} (hT : TOk P T) (ho : o.op = .store t x y) (hx : evalO f x = some (.ptr i off)) (hy : evalO f y = some p) (hc : cellsPV p = some cs)
    (ht : lkT T t = some ti) (hk : ti.ok = true) (hz : Nat.beq cs.length ti.size = true) (hs : storeO bs off cs = some bs') : OStep P o f [(i, .box bs bt)] (.s undef) [(i, .box bs' bt)] := by
  intro G w ι H a hH hG hf hr
  have hb := hr (i, .box bs bt) List.mem_cons_self
  have hll := (List.getElem?_eq_some_iff.1 hb).1
  have hv := evalO_mem hf (x := y) (by rw [ho]; simp [Op.operands]) hy
  obtain ⟨b, c, bs2, t2, hxe, hi, _⟩ := ptr_inv (evalO_mem hf (x := x) (by rw [ho]; simp [Op.operands]) hx)
  obtain ⟨h1, h2, h3⟩ := cells_rep hv hc
  obtain ⟨b', c', vs, hi', hblk, hl, hone, hrep⟩ := hH.rel i _ hb
  rw [hi] at hi'
  injection hi' with hi'
  injection hi' with e1 e2
  subst e1 e2
  obtain ⟨inf, hinf, hsz, _⟩ := size_at hT ht hk
  obtain ⟨hle, hbs'⟩ := storeO_spec hs
  have hcsz : (a.eval y).cells.size = inf.size := by rw [← h1, Nat.eq_of_beq_eq_true hz, hsz]
  have hst := run_storeCells_at P b off bt (a.eval y).cells.toList 0 vs w hblk (by simp; omega) (fun v hv => h2 v (Array.mem_toList_iff.1 hv))
  simp only [Nat.add_zero, Array.length_toList] at hst
  unfold OpGoes
  have hrun : (execOp a.eval o).run P w = .ok .skip (w.setRow b (vs.toList.take off ++ (a.eval y).cells.toList ++ vs.toList.drop (off + (a.eval y).cells.size)).toArray) := by
    simp [execOp, ho, hxe, Instr.storeAt, Instr.sureAddr, storeVar, run_size hinf, hcsz, hst]
  rw [hrun]
  have he := ext_box (G := G) (w := w) (vs := (vs.toList.take off ++ (a.eval y).cells.toList ++ vs.toList.drop (off + (a.eval y).cells.size)).toArray) (bs' := bs') hi hb
  refine ⟨ι, hH.upd hll (fun _ _ => rfl) he (fun j b2 c2 hj hji e => setRow_other w b b2 _ (fun e2 => hji (hH.inj j i b2 c2 c hj hll e (by rw [hi, e2])))) ⟨b, c, _, hi, setRow_heap w b vs _ bt (0, 0) hblk, ?_, ?_, ?_⟩ (fun b2 c2 e j d hj hji e2 => ?_) (fun b2 c2 e => ?_) (fun b2 c2 e off => hH.good i b2 c2 hll e off), .s _, he, ⟨rfl, rfl, rfl, by simp, fun k hk hn => setRow_other w b k _ (fun e => hn i c hll (by rw [hi, e])), fun j b2 c2 hj e => .inl ⟨hj, e⟩⟩⟩
  · subst hbs'
    simp; omega
  · intro j u hjb hu
    subst hbs'
    simp only [List.length_append, List.length_take, List.length_drop] at hjb
    have hjb : j < bs.length := by omega
    simp only [List.getElem?_toArray] at hu
    rw [List.append_assoc] at hu
    have hoff : off ≤ bs.length := by omega
    have hoff2 : off ≤ vs.size := by omega
    by_cases hj : j < off
    · rw [List.getElem?_append_left (by simp; omega)] at hu
      rw [List.getElem?_take, if_pos hj] at hu
      exact hone j u (by omega) (by simpa using hu)
    · rw [List.getElem?_append_right (by simp; omega)] at hu
      simp only [List.length_take, Array.length_toList, Nat.min_eq_left hoff2] at hu
      by_cases hj2 : j - off < cs.length
      · rw [List.getElem?_append_left (by simp; omega)] at hu
        exact h2 u (Array.mem_of_getElem? (show (a.eval y).cells[j - off]? = some u by simpa using hu))
      · rw [List.getElem?_append_right (by simp; omega)] at hu
        rw [List.getElem?_drop] at hu
        simp only [Array.length_toList, ← h1] at hu
        have hjb2 : off + cs.length + (j - off - cs.length) < bs.length := by omega
        exact hone _ u hjb2 (by simpa using hu)
  · intro j q u hq hu
    refine VRep.ext he ?_
    subst hbs'
    simp only [List.getElem?_toArray] at hu
    rw [List.append_assoc] at hq hu
    have hoff : off ≤ bs.length := by omega
    have hoff2 : off ≤ vs.size := by omega
    by_cases hj : j < off
    · rw [List.getElem?_append_left (by simp; omega)] at hq
      rw [List.getElem?_append_left (by simp; omega)] at hu
      rw [List.getElem?_take, if_pos hj] at hq hu
      exact hrep j q u hq (by simpa using hu)
    · rw [List.getElem?_append_right (by simp; omega)] at hq
      rw [List.getElem?_append_right (by simp; omega)] at hu
      simp only [List.length_take, Array.length_toList, Nat.min_eq_left hoff] at hq
      simp only [List.length_take, Array.length_toList, Nat.min_eq_left hoff2] at hu
      by_cases hj2 : j - off < cs.length
      · rw [List.getElem?_append_left hj2] at hq
        rw [List.getElem?_append_left (by simp; omega)] at hu
        exact h3 _ q u hq (by simpa using hu)
      · rw [List.getElem?_append_right (by omega)] at hq
        rw [List.getElem?_append_right (by simp; omega)] at hu
        rw [List.getElem?_drop] at hq hu
        simp only [Array.length_toList, ← h1] at hu
        exact hrep _ q u hq (by simpa using hu)
  · rw [hi] at e
    injection e with e
    injection e with e3 e4
    subst e3
    exact hji (hH.inj j i b d c hj hll e2 hi)
  · simp only [setRow_size]
    exact hH.lt i b2 c2 hll e
end
end Go.Proofs.Pm
end
section
namespace Go.Proofs.Pm
open Go
def elemsO (sz : Nat) : List PV → Option (List (List PV))
  | [] => some []
  | p :: r => match frz p with
    | some q => match cellsPV q with
      | some cs => bif Nat.beq cs.length sz then match elemsO sz r with
        | some rs => some (cs :: rs)
        | none => none else none
      | none => none
    | none => none
theorem elemsO_spec {G : Good} {w : World} {ι : Intp} {H : List LS} {sz : Nat} : ∀ {ps : List PV} {vs : List Value} {css : List (List PV)}, VReps (VRep G w ι H) ps vs → elemsO sz ps = some css →
    css.length = vs.length ∧ (∀ c ∈ css, c.length = sz) ∧ (∀ v ∈ vs, v.cells.size = sz) ∧ (∀ v ∈ vs, ∀ u ∈ v.cells, u.oneCell' = true) ∧ ∀ (i j : Nat) (c : List PV) (p : PV) (v u : Value), css[i]? = some c → c[j]? = some p → vs[i]? = some v → v.cells[j]? = some u → VRep G w (fun _ => none) [] p u
  | [], vs, css, h, he => by
    cases h
    simp only [elemsO, Option.some.injEq] at he
    subst he
    exact ⟨rfl, (by intro c hc; cases hc), (by intro c hc; cases hc), (by intro c hc; cases hc), (by intro i j c p v u hc; simp at hc)⟩
  | p :: r, vs, css, h, he => by
    cases h with
    | @cons _ _ v vs hp hr =>
      simp only [elemsO] at he
      split at he
      · rename_i q hq
        split at he
        · rename_i cs hcs
          cases hb : Nat.beq cs.length sz with
          | false => rw [hb] at he; simp at he
          | true =>
            rw [hb] at he
            simp only [cond_true] at he
            split at he
            · rename_i rs hrs
              simp only [Option.some.injEq] at he
              subst he
              obtain ⟨g1, g2, g3⟩ := cells_rep (hp.frz hq) hcs
              obtain ⟨i1, i2, i3, i4, i5⟩ := elemsO_spec hr hrs
              have hb := Nat.eq_of_beq_eq_true hb
              refine ⟨by simp [i1], fun c hc => ?_, fun u hu => ?_, fun u hu => ?_, fun i j c x y u hc hx hy hu => ?_⟩
              · rcases List.mem_cons.1 hc with rfl | hc
                · exact hb
                · exact i2 c hc
              · rcases List.mem_cons.1 hu with rfl | hu
                · rw [← g1, hb]
                · exact i3 u hu
              · rcases List.mem_cons.1 hu with rfl | hu
                · exact g2
                · exact i4 u hu
              · cases i with
                | zero => simp at hc hy; subst hc hy; exact g3 j x u hx hu
                | succ i => exact i5 i j c x y u (by simpa using hc) hx (by simpa using hy) hu
            · cases he
        · cases he
      · cases he
section
variable {P : Program} {T : List TI} {o : Oper} {f : Nat → Option PV}
theorem cell_alloc_new (w : World) (cells : Array Value) (t : TypeId) (k : Nat) : (w.alloc (.cells cells t)).cell? ((⟨w.heap.size, 0, none⟩ : Addr).add k) = cells[k]? := by
  have hadd : (⟨w.heap.size, 0, none⟩ : Addr).add k = ⟨w.heap.size, k, none⟩ := by unfold Addr.add; split <;> simp_all
  rw [hadd, World.cell?_alloc_new]
theorem os_buildSlice {t e : TypeId} {n : Nat} {parts : Array (Nat × Operand)} {xs : List Operand} {ps : List PV} {css : List (List PV)} {ti te : TI} {l : Nat} (hT : TOk P T) (ho : o.op = .buildSlice t n parts)
    (hxs : parts.toList.map (·.2) = xs) (hp : parts.toList = (xs.zipIdx 0).map fun x => (x.2, x.1)) (he : evalL f xs = some ps) (ht : lkT T t = some ti) (hk : ti.ok = true) (hd : ti.k = .slice e) (hE : lkT T e = some te) (hke : te.ok = true) (hn : Nat.beq xs.length n = true)
    (hc : elemsO te.size ps = some css) (hpos : Nat.blt 0 (n * te.size) = true) (hsm : Nat.ble (n * te.size) 16777216 = true) : OStep P o f [(l, .absent)] (.row css l) [(l, .row n te.size e)] := by
  intro G w ι H a hH hG hf hr
  have hl := hr (l, .absent) List.mem_cons_self
  have hll := (List.getElem?_eq_some_iff.1 hl).1
  obtain ⟨i, d, z, g1, g2, g3, g4, g5, g6, g7, g8, g9, g10, g11⟩ := tiOf_ok (hT.at_ hE) hke
  have hops : o.op.operands.toList = xs := by rw [ho, ← hxs]; simp [Op.operands]
  have hreps := evalL_rep (fun t p ht hp => hf t p (mem_tmps (by rw [hops]; exact ht)) hp) he
  obtain ⟨h1, h2, h3, h4, h5⟩ := elemsO_spec hreps hc
  have hn := Nat.eq_of_beq_eq_true hn
  simp only [Nat.blt_eq] at hpos
  have hsm := Nat.le_of_ble_eq_true hsm
  have hvl : (xs.map a.eval).length = n := by simpa using hn
  have hs : 0 < i.size := by rw [← g6]; exact Nat.pos_of_mul_pos_left hpos
  have hcsz : ((Array.range (n * i.size)).map (z.cells[· % z.cells.size]!)).size = n * i.size := by simp
  have hfill := Great.fill_whole hs (xs.map a.eval) ((Array.range (n * i.size)).map (z.cells[· % z.cells.size]!)) (fun v hv => by rw [h3 v hv, g6]) (by rw [hvl, hcsz])
  have hparts : (parts.map fun (i, x) => (i, a.eval x)).toList = (((xs.map a.eval).zipIdx 0).map fun x => (x.2, x.1)) := by
    rw [Array.toList_map, hp, List.map_map, List.zipIdx_map, List.map_map]
    rfl
  have hrun2 := run_buildSlice w t e n (parts.map fun (i, x) => (i, a.eval x)) _ i z (kind_slice hT ht hk hd) g1 g3 (by rw [← g6]; omega) (by rw [← g6]; omega) (by rw [hparts]; exact hfill)
  unfold OpGoes
  have hrun : (execOp a.eval o).run P w = .ok (.value (.slice (some ⟨w.heap.size, 0, none⟩) n n)) (w.alloc (.cells ((xs.map a.eval).flatMap fun v => v.cells.toList).toArray e)) := by
    simp only [execOp, ho, Sem.run_bind, hrun2, Result.andThen_ok]
    rfl
  rw [hrun]
  have hsz : (((xs.map a.eval).flatMap fun v => v.cells.toList).toArray).size = n * i.size := by
    have : ∀ vs : List Value, (∀ v ∈ vs, v.cells.size = te.size) → (vs.flatMap fun v => v.cells.toList).length = vs.length * te.size := by
      intro vs
      induction vs with
      | nil => intro _; simp
      | cons v vs ih => intro h; rw [List.flatMap_cons, List.length_append, ih (fun u hu => h u (List.mem_cons_of_mem _ hu)), Array.length_toList, h v List.mem_cons_self, List.length_cons, Nat.succ_mul]; omega
    simp only [List.size_toArray]
    rw [this _ h3, hvl, g6]
  have hmax : n ≤ maxLen := by
    have : n ≤ n * te.size := Nat.le_mul_of_pos_right _ (by rw [g6]; exact hs)
    simp only [maxLen]; omega
  refine ⟨updI ι l (some (w.heap.size, n)), rel_new hH hG hl (.inr ⟨w.heap.size, n, _, updI_self _ _ _, heap_alloc_new w _, by rw [hsz, g6], Nat.le_refl _, hmax⟩), ?_, ext_new hl, out_new hll⟩
  have hset : (setAll H [(l, .row n te.size e)])[l]? = some (.row n te.size e) := by simp [setAll, hll]
  have hcl : css.length = n := by rw [h1, hvl]
  refine .row (.list te.size (fun i j => ((xs.map a.eval).getD i undef).cells.getD j undef) hcl.symm (Nat.le_refl _) hmax h2 (fun _ => ⟨⟨w.heap.size, 0, none⟩, rfl, fun k j c hk hj => ?_⟩) (fun k j c p hk hp => ?_)) ⟨n, te.size, e, hset, by omega⟩ (fun sz t2 _ => .inr ⟨w.heap.size, n, updI_self _ _ _, by rw [hcl]⟩)
  · have hkn : k < n := by rw [← hcl]; exact (List.getElem?_eq_some_iff.1 hk).1
    have hkv : k < (xs.map a.eval).length := by rw [hvl]; exact hkn
    have hcs := h3 _ (List.getElem_mem hkv)
    have hlt : k * te.size + j < n * te.size := by
      have : (k + 1) * te.size ≤ n * te.size := Nat.mul_le_mul_right _ hkn
      rw [Nat.succ_mul] at this; omega
    have e1 : (xs.map a.eval).getD k undef = (xs.map a.eval)[k] := by rw [List.getD_eq_getElem?_getD, List.getElem?_eq_getElem hkv]; rfl
    have e2 : ((xs.map a.eval)[k]).cells.getD j undef = ((xs.map a.eval)[k]).cells[j]'(by rw [hcs]; exact hj) := by
      rw [Array.getD_eq_getD_getElem?, Array.getElem?_eq_getElem (by rw [hcs]; exact hj)]; rfl
    refine ⟨?_, ?_, hG _ _ (Nat.le_refl _), fun i2 c2 hi2 hc2 => ?_⟩
    · rw [cell_alloc_new]
      have := Great.flat_get (by rw [g6]; exact hs : 0 < te.size) (xs.map a.eval) h3 (k * te.size + j)
      simp only [List.getElem?_toArray]
      rw [this]
      have hdiv : (k * te.size + j) / te.size = k := by
        rw [Nat.mul_comm, Nat.mul_add_div (by omega), Nat.div_eq_of_lt hj, Nat.add_zero]
      have hmod : (k * te.size + j) % te.size = j := by
        rw [Nat.mul_comm, Nat.mul_add_mod, Nat.mod_eq_of_lt hj]
      rw [hdiv, hmod, List.getElem?_eq_getElem hkv, Option.bind_some, e1, e2, Array.getElem?_eq_getElem]
    · rw [e1, e2]
      exact h4 _ (List.getElem_mem hkv) _ (Array.getElem_mem _)
    · by_cases hil : i2 = l
      · subst hil
        exact ⟨n, te.size, e, hset, by simpa using hlt⟩
      · exfalso
        rw [updI_ne hil] at hc2
        rw [setAll_length] at hi2
        exact Nat.lt_irrefl _ (hH.lt i2 _ _ hi2 hc2)
  · have hkn : k < n := by rw [← hcl]; exact (List.getElem?_eq_some_iff.1 hk).1
    have hkv : k < (xs.map a.eval).length := by rw [hvl]; exact hkn
    have hcs := h3 _ (List.getElem_mem hkv)
    have hj : j < te.size := by rw [← h2 c (List.mem_of_getElem? hk)]; exact (List.getElem?_eq_some_iff.1 hp).1
    have e1 : (xs.map a.eval).getD k undef = (xs.map a.eval)[k] := by rw [List.getD_eq_getElem?_getD, List.getElem?_eq_getElem hkv]; rfl
    have e2 : ((xs.map a.eval)[k]).cells[j]? = some (((xs.map a.eval)[k]).cells.getD j undef) := by
      rw [Array.getD_eq_getD_getElem?, Array.getElem?_eq_getElem (by rw [hcs]; exact hj)]; rfl
    rw [e1]
    exact (h5 k j c p _ _ hk hp (List.getElem?_eq_getElem hkv) e2).keep (fun a v => (ext_new (s := .row n te.size e) (c := n) hl).prot a v) (fun _ _ _ h => by simp at h) (fun _ _ _ _ h => by simp at h) (fun _ _ h => by simp at h) (fun _ _ _ h => by simp at h)
theorem append_run {w : World} {t ty e : TypeId} {i : TypeInfo} {z : Value} (ht : P.underlying t = some (.slice e)) (hi : P.info? e = some i) (hz : i.zero = some z) (hzs : z.cells.size = i.size) (hsz : 0 < i.size)
    {F : Prop} {u : Value} {n : Nat} {olds : List Value} (hu : (F ∧ (∃ A, u = .slice A 0 0) ∧ n = 0 ∧ olds = []) ∨ ¬F ∧ ∃ b c, ∃ cur : Array Value, u = .slice (some ⟨b, 0, none⟩) n c ∧ w.heap[b]? = some (.cells cur e (0, 0)) ∧ cur.size = c * i.size ∧ n ≤ c ∧ c ≤ maxLen ∧ olds = cur.toList.take (n * i.size))
    {A : Option Addr} {m c : Nat} {news : List Value} (hA : (A = none ∧ m = 0 ∧ news = []) ∨ ∃ ad, A = some ad ∧ ∀ (j : Nat) (v : Value), news[j]? = some v → w.cell? (ad.add j) = some v) (hl : news.length = m * i.size) (h1 : ∀ v ∈ news, v.oneCell' = true)
    (h63 : n + m ≤ maxLen) (hbytes : (n + m) * i.bytes ≤ 140737488355328) :
    ∃ u' w', (Builtin.append_ #[t, t] ty #[u, .slice A m c]).run P w = .ok u' w' ∧ w'.os = w.os ∧ w'.tape = w.tape ∧ w'.output = w.output ∧ w.heap.size ≤ w'.heap.size ∧
      ((u' = u ∧ F ∧ n + m = 0 ∧ w' = w ∧ olds ++ news = []) ∨
        ∃ b' c', ∃ cur' : Array Value, u' = .slice (some ⟨b', 0, none⟩) (n + m) c' ∧ w'.heap[b']? = some (.cells cur' e (0, 0)) ∧ cur'.size = c' * i.size ∧ n + m ≤ c' ∧ c' ≤ maxLen ∧ cur'.toList.take ((n + m) * i.size) = olds ++ news ∧
          ((¬F ∧ u = .slice (some ⟨b', 0, none⟩) n c' ∧ ∀ k, k ≠ b' → w'.heap[k]? = w.heap[k]?) ∨ (0 < m ∧ b' = w.heap.size ∧ ∀ k, k < w.heap.size → w'.heap[k]? = w.heap[k]?))) := by
  have hsmall : n + m ≤ 9223372036854775807 := by simp only [maxLen] at h63; omega
  have grown : ∀ (old : Nat), 0 < m → old < n + m → olds.length = n * i.size → ∃ b' c', ∃ cur' : Array Value,
      Value.slice (some ⟨w.heap.size, 0, none⟩) (n + m) (grownCap w (n + m) old e) = .slice (some ⟨b', 0, none⟩) (n + m) c' ∧
      (w.drew.alloc (.cells (olds.toArray ++ news.toArray ++ Builtin.zeroCells z.cells (grownCap w (n + m) old e - (n + m))) e)).heap[b']? = some (.cells cur' e (0, 0)) ∧ cur'.size = c' * i.size ∧ n + m ≤ c' ∧ c' ≤ maxLen ∧ cur'.toList.take ((n + m) * i.size) = olds ++ news ∧
      ((¬F ∧ u = .slice (some ⟨b', 0, none⟩) n c' ∧ ∀ k, k ≠ b' → (w.drew.alloc (.cells (olds.toArray ++ news.toArray ++ Builtin.zeroCells z.cells (grownCap w (n + m) old e - (n + m))) e)).heap[k]? = w.heap[k]?) ∨ (0 < m ∧ b' = w.heap.size ∧ ∀ k, k < w.heap.size → (w.drew.alloc (.cells (olds.toArray ++ news.toArray ++ Builtin.zeroCells z.cells (grownCap w (n + m) old e - (n + m))) e)).heap[k]? = w.heap[k]?)) := by
    intro old hm0 ho hol
    have hge := grownCap_ge w (n + m) old e
    have hcm : grownCap w (n + m) old e ≤ maxLen := grownCap_le_maxLen w (n + m) old e h63
    have hlen : (olds ++ news).length = (n + m) * i.size := by rw [List.length_append, hol, hl, Nat.add_mul]
    refine ⟨w.heap.size, _, _, rfl, heap_alloc_new w.drew _, ?_, hge, hcm, ?_, .inr ⟨hm0, rfl, fun k hk => Go.RowKit.Below.heap_alloc w.drew _ k hk⟩⟩
    · simp only [Array.size_append, List.size_toArray, size_zeroCells, hzs, hol, hl, ← Nat.add_mul]
      congr 1
      omega
    · simp only [Array.toList_append, List.append_assoc]
      rw [← List.append_assoc, ← hlen]
      exact List.take_left
  rcases hu with ⟨hF, ⟨A0, rfl⟩, rfl, rfl⟩ | ⟨hF, b, cp, cur, rfl, hg, hcs, hnc, hcm, hol⟩
  · rcases hA with ⟨rfl, rfl, rfl⟩ | ⟨ad, rfl, hnews⟩
    · refine ⟨.slice A0 0 0, w, ?_, rfl, rfl, rfl, Nat.le_refl _, .inl ⟨rfl, hF, rfl, rfl, rfl⟩⟩
      cases A0 <;> simp [Builtin.append_, run_underlying ht, sizeOf, typeInfo, hi, Builtin.lenOf, Builtin.firstCells, storeCells]
    · by_cases hm : m = 0
      · subst hm
        have hn : news = [] := List.eq_nil_of_length_eq_zero (by simpa using hl)
        subst hn
        refine ⟨.slice A0 0 0, w, ?_, rfl, rfl, rfl, Nat.le_refl _, .inl ⟨rfl, hF, rfl, rfl, rfl⟩⟩
        cases A0 <;> simp [Builtin.append_, run_underlying ht, sizeOf, typeInfo, hi, Builtin.lenOf, Builtin.firstCells, loadCells, loadCellsFrom, storeCells]
      · have hgr := grown 0 (by omega) (by omega) (by simp)
        simp only [Nat.zero_add, List.nil_append, Array.empty_append] at hgr ⊢
        cases A0 with
        | none =>
          have hr := run_append_nil (P := P) w t ty e i z ht hi hz ad m c news hl hnews (by omega) (by omega) (by have hb := hbytes; simp only [Nat.zero_add] at hb; omega)
          exact ⟨_, _, hr, rfl, rfl, rfl, by simp, .inr hgr⟩
        | some a0 =>
          have hr := run_append_grow (P := P) w t ty e i z ht hi hz a0 0 0 [] (by simp) (fun j v hv => by simp at hv) ad m c news hl hnews (by omega) (by omega) (growslice_fits (by omega) hbytes)
          simp only [Nat.zero_add, List.nil_append, Array.empty_append] at hr
          exact ⟨_, _, hr, rfl, rfl, rfl, by simp, .inr hgr⟩
  · have holl : olds.length = n * i.size := by
      rw [hol, List.length_take, Array.length_toList, hcs]; exact Nat.min_eq_left (Nat.mul_le_mul_right _ hnc)
    rcases hA with ⟨rfl, rfl, rfl⟩ | ⟨ad, rfl, hnews⟩
    · refine ⟨.slice (some ⟨b, 0, none⟩) n cp, w, ?_, rfl, rfl, rfl, Nat.le_refl _, .inr ⟨b, cp, cur, rfl, hg, hcs, hnc, hcm, by rw [hol]; simp, .inl ⟨hF, rfl, fun _ _ => rfl⟩⟩⟩
      simp [Builtin.append_, run_underlying ht, sizeOf, typeInfo, hi, Builtin.lenOf, Builtin.firstCells, hnc, storeCells]
    · by_cases hroom : n + m ≤ cp
      · have hfit : n * i.size + news.length ≤ cur.size := by rw [hl, hcs, ← Nat.add_mul]; exact Nat.mul_le_mul_right _ hroom
        have hr := run_append_room (P := P) w t ty e i ht hi b n cp cur hg ad m c news hl hnews h1 hroom hfit
        refine ⟨_, _, hr, rfl, rfl, rfl, by simp, .inr ⟨b, cp, _, rfl, setRow_heap w b cur _ e _ hg, ?_, hroom, hcm, ?_, .inl ⟨hF, rfl, fun k hk => setRow_other w b k _ hk⟩⟩⟩
        · simp only [List.size_toArray, List.length_append, List.length_take, List.length_drop, Array.length_toList]
          omega
        · have hlen : (olds ++ news).length = (n + m) * i.size := by rw [List.length_append, holl, hl, Nat.add_mul]
          rw [← hol, ← hlen]
          exact List.take_left
      · have holds : ∀ j v, olds[j]? = some v → w.cell? ((⟨b, 0, none⟩ : Addr).add j) = some v := by
          intro j v hv
          have hadd : (⟨b, 0, none⟩ : Addr).add j = ⟨b, j, none⟩ := by unfold Addr.add; split <;> simp_all
          rw [hadd, cell_of_row w b j cur e (0, 0) hg]
          rw [hol, List.getElem?_take] at hv
          split at hv
          · simpa using hv
          · cases hv
        have hr := run_append_grow (P := P) w t ty e i z ht hi hz ⟨b, 0, none⟩ n cp olds holl holds ad m c news hl hnews (by omega) (by omega) (growslice_fits (by omega) hbytes)
        exact ⟨_, _, hr, rfl, rfl, rfl, by simp, .inr (grown cp (by omega) (by omega) holl)⟩
end
end Go.Proofs.Pm
end
section
namespace Go.Proofs.Pm
open Go
def elemsOf : PV → Option (List (List PV))
  | .list xs => some xs
  | .row xs _ => some xs
  | .s (.slice none 0 0) => some []
  | _ => none
theorem elemsOf_rep {G : Good} {w : World} {ι : Intp} {H : List LS} {p : PV} {v : Value} {xs : List (List PV)} (h : VRep G w ι H p v) (he : elemsOf p = some xs) : VRep G w ι H (.list xs) v := by
  unfold elemsOf at he
  split at he
  · simp only [Option.some.injEq] at he; subst he; exact h
  · simp only [Option.some.injEq] at he; subst he; exact (row_inv h).1
  · simp only [Option.some.injEq] at he
    subst he
    have := s_inv h
    subst this
    exact .list 0 (fun _ _ => undef) rfl (Nat.le_refl _) (by simp only [maxLen]; omega) (fun x hx => by cases hx) (fun h => absurd h (by decide)) (fun i j x p hx => by simp at hx)
  · cases he
section
variable {P : Program} {T : List TI} {o : Oper} {f : Nat → Option PV}
theorem flatten_get {xs : List (List PV)} {sz : Nat} (hs : ∀ x ∈ xs, x.length = sz) {i j : Nat} {x : List PV} {p : PV} (hi : xs[i]? = some x) (hj : x[j]? = some p) : xs.flatten[i * sz + j]? = some p := by
  induction xs generalizing i with
  | nil => simp at hi
  | cons y r ih =>
    have hy := hs y List.mem_cons_self
    cases i with
    | zero =>
      simp at hi
      subst hi
      rw [List.flatten_cons, Nat.zero_mul, Nat.zero_add, List.getElem?_append_left (List.getElem?_eq_some_iff.1 hj).1]
      exact hj
    | succ i =>
      rw [List.flatten_cons, List.getElem?_append_right (by rw [hy, Nat.succ_mul]; omega), hy, Nat.succ_mul, show i * sz + sz + j - sz = i * sz + j by omega]
      exact ih (fun x hx => hs x (List.mem_cons_of_mem _ hx)) (by simpa using hi)
theorem flatten_length {xs : List (List PV)} {sz : Nat} (hs : ∀ x ∈ xs, x.length = sz) : xs.flatten.length = xs.length * sz := by
  induction xs with
  | nil => simp
  | cons y r ih => rw [List.flatten_cons, List.length_append, ih (fun x hx => hs x (List.mem_cons_of_mem _ hx)), hs y List.mem_cons_self, List.length_cons, Nat.succ_mul]; omega
theorem place_of {n sz k : Nat} (h : k < n * sz) : k / sz < n ∧ k % sz < sz ∧ k / sz * sz + k % sz = k := by
  have h0 : 0 < sz := by
    rcases Nat.eq_zero_or_pos sz with e | e
    · subst e; omega
    · exact e
  refine ⟨(Nat.div_lt_iff_lt_mul h0).2 h, Nat.mod_lt _ h0, ?_⟩
  rw [Nat.mul_comm]; exact Nat.div_add_mod k sz
set_option maxHeartbeats 1000000 in
theorem os_append {t e : TypeId} {x y : Operand} {i n sz : Nat} {et : TypeId} {xs ys : List (List PV)} {q : PV} {ti te : TI} (hT : TOk P T) (ho : o.op = .call { callee := .builtin .append, args := #[x, y], argTypes := #[t, t] })
    (hx : evalO f x = some (.row xs i)) (hy : evalO f y = some q) (hq : elemsOf q = some ys) (ht : lkT T t = some ti) (hk : ti.ok = true) (hd : ti.k = .slice e) (hE : lkT T e = some te) (hke : te.ok = true) (hn : xs.length = n) (hsz : te.size = sz) (het : e = et)
    (hpos : Nat.blt 0 sz = true) (hys : ∀ y ∈ ys, y.length = sz) (hxs : ∀ y ∈ xs, y.length = sz) (hb : (xs.length + ys.length) * te.bytes ≤ 140737488355328) (hm : xs.length + ys.length ≤ 9223372036854775807) :
    OStep P o f [(i, .row n sz et)] (.row (xs ++ ys) i) [(i, .row (n + ys.length) sz et)] := by
  subst hn hsz het
  intro G w ι H a hH hG hf hr
  have hrow := hr (i, .row xs.length te.size e) List.mem_cons_self
  have hll := (List.getElem?_eq_some_iff.1 hrow).1
  obtain ⟨inf, d, z, g1, g2, g3, g4, g5, g6, g7, g8, g9, g10, g11⟩ := tiOf_ok (hT.at_ hE) hke
  have hxv := evalO_mem hf (x := x) (by rw [ho]; simp [Op.operands, Call.operands]) hx
  have hyv := elemsOf_rep (evalO_mem hf (x := y) (by rw [ho]; simp [Op.operands, Call.operands]) hy) hq
  obtain ⟨hxl, _, hown⟩ := row_inv hxv
  have hown := hown _ _ hrow
  obtain ⟨A, c, sz2, vs, hxe, hcap, hmax, hsz2, hAx, hrx⟩ := list_inv hxl
  obtain ⟨B, c2, sz3, us, hye, hcap2, hmax2, hsz3, hAy, hry⟩ := list_inv hyv
  have hspos : 0 < te.size := by simpa using hpos
  have hmaxl : xs.length + ys.length ≤ maxLen := by simp only [maxLen]; omega
  -- the new cells
  have hus : ∀ {k j : Nat} {yy : List PV}, ys[k]? = some yy → j < te.size → sz3 = te.size := fun hk _ => by rw [← hsz3 _ (List.mem_of_getElem? hk), hys _ (List.mem_of_getElem? hk)]
  let news : List Value := (List.range (ys.length * te.size)).map fun k => us (k / te.size) (k % te.size)
  have hnews_get : ∀ k, k < ys.length * te.size → news[k]? = some (us (k / te.size) (k % te.size)) := fun k hk => by simp [news, hk]
  have hnl : news.length = ys.length * inf.size := by simp [news, g6]
  have hA2 : (B = none ∧ ys.length = 0 ∧ news = []) ∨ ∃ ad, B = some ad ∧ ∀ (j : Nat) (v : Value), news[j]? = some v → w.cell? (ad.add j) = some v := by
    rcases Nat.eq_zero_or_pos ys.length with h0 | h0
    · have hnil : news = [] := by simp [news, h0]
      cases B with
      | none => exact .inl ⟨rfl, h0, hnil⟩
      | some ad => exact .inr ⟨ad, rfl, fun j v hv => by rw [hnil] at hv; simp at hv⟩
    · obtain ⟨ad, hB, hcells⟩ := hAy h0
      refine .inr ⟨ad, hB, fun j v hv => ?_⟩
      have hj : j < ys.length * te.size := by
        have := (List.getElem?_eq_some_iff.1 hv).1
        rwa [hnl, ← g6] at this
      rw [hnews_get j hj] at hv
      injection hv with hv
      subst hv
      obtain ⟨p1, p2, p3⟩ := place_of hj
      have hyk : ys[j / te.size]? = some (ys[j / te.size]'p1) := List.getElem?_eq_getElem p1
      have e3 := hus hyk p2
      have := (hcells _ _ _ hyk (by rw [e3]; exact p2)).1
      rwa [e3, p3] at this
  have hnone : ∀ v ∈ news, v.oneCell' = true := by
    intro v hv
    obtain ⟨k, hk, rfl⟩ := List.mem_map.1 hv
    rw [List.mem_range] at hk
    obtain ⟨p1, p2, p3⟩ := place_of hk
    obtain ⟨ad, hB, hcells⟩ := hAy (Nat.lt_of_le_of_lt (Nat.zero_le _) p1)
    have hyk : ys[k / te.size]? = some (ys[k / te.size]'p1) := List.getElem?_eq_getElem p1
    exact (hcells _ _ _ hyk (by rw [hus hyk p2]; exact p2)).2.1
  -- the row as it stands
  have hrel := hH.rel i _ hrow
  have hu : ∃ olds : List Value, ((ι i = none ∧ (∃ A, a.eval x = .slice A 0 0) ∧ xs.length = 0 ∧ olds = []) ∨ ¬ (ι i = none) ∧ ∃ b c, ∃ cur : Array Value, a.eval x = .slice (some ⟨b, 0, none⟩) xs.length c ∧ w.heap[b]? = some (.cells cur e (0, 0)) ∧ cur.size = c * inf.size ∧ xs.length ≤ c ∧ c ≤ maxLen ∧ olds = cur.toList.take (xs.length * inf.size)) := by
    rcases hown with ⟨h1, h2, h3⟩ | ⟨b, c, h1, h2⟩
    · exact ⟨[], .inl ⟨h1, h2, h3, rfl⟩⟩
    · rcases hrel with ⟨k1, _⟩ | ⟨b', c', cur, k1, k2, k3, k4, k5⟩
      · rw [h1] at k1; cases k1
      · rw [h1] at k1
        injection k1 with k1
        injection k1 with e1 e2
        subst e1 e2
        exact ⟨_, .inr ⟨by rw [h1]; simp, b, c, cur, h2, k2, by rw [k3, g6], k4, k5, rfl⟩⟩
  obtain ⟨olds, hu⟩ := hu
  obtain ⟨u', w', hrun, hos, htape, hout, hsize, hcase⟩ := append_run (P := P) (ty := o.type) (c := c2) (kind_slice hT ht hk hd) g1 g3 g9 (by rw [← g6]; exact hspos) hu hA2 hnl hnone hmaxl (by rw [← g7]; exact hb)
  unfold OpGoes
  have hrun2 : (execOp a.eval o).run P w = .ok (.value u') w' := by
    simp [execOp, ho, resolve, invoke, builtin, hye, hrun]
  rw [hrun2]
  show ∃ ι', _
  -- the olds are the elements' cells
  have holds : ∀ k j p, (∃ xx, xs[k]? = some xx ∧ xx[j]? = some p) → ∃ v, olds[k * te.size + j]? = some v ∧ v.oneCell' = true ∧ VRep (Prot G ι H) w (fun _ => none) [] p v := by
    rintro k j p ⟨xx, hk1, hk2⟩
    have hkn := (List.getElem?_eq_some_iff.1 hk1).1
    have hjn : j < te.size := by rw [← hxs xx (List.mem_of_getElem? hk1)]; exact (List.getElem?_eq_some_iff.1 hk2).1
    have e2 : sz2 = te.size := by rw [← hsz2 _ (List.mem_of_getElem? hk1), hxs _ (List.mem_of_getElem? hk1)]
    obtain ⟨ad, hAd, hcells⟩ := hAx (by omega)
    obtain ⟨q1, q2, q3⟩ := hcells k j xx hk1 (by rw [e2]; exact hjn)
    refine ⟨vs k j, ?_, q2, hrx k j xx p hk1 hk2⟩
    rcases hu with ⟨_, h1, h2, _⟩ | ⟨_, b, cc, cur, h1, h2, h3, h4, h5, h6⟩
    · omega
    · rw [hxe] at h1
      injection h1 with h1 _ _
      rw [hAd] at h1
      injection h1 with h1
      subst h1
      have hadd : (⟨b, 0, none⟩ : Addr).add (k * sz2 + j) = ⟨b, k * sz2 + j, none⟩ := by unfold Addr.add; split <;> simp_all
      rw [hadd, cell_of_row w b _ cur e (0, 0) h2, e2] at q1
      have hlt : k * te.size + j < xs.length * te.size := by
        have : (k + 1) * te.size ≤ xs.length * te.size := Nat.mul_le_mul_right _ hkn
        rw [Nat.succ_mul] at this; omega
      rw [h6, List.getElem?_take, ← g6, if_pos hlt]
      simpa using q1
  have holl : olds.length = xs.length * te.size := by
    rcases hu with ⟨_, _, h2, h3⟩ | ⟨_, b, cc, cur, h1, h2, h3, h4, h5, h6⟩
    · rw [h3, h2]; simp
    · rw [h6, List.length_take, Array.length_toList (xs := cur), h3, g6]; exact Nat.min_eq_left (Nat.mul_le_mul_right _ h4)
  have hH' : setAll H [(i, LS.row (xs.length + ys.length) te.size e)] = H.set i (.row (xs.length + ys.length) te.size e) := rfl
  rw [hH']
  have hget : (H.set i (LS.row (xs.length + ys.length) te.size e))[i]? = some (.row (xs.length + ys.length) te.size e) := by simp [hll]
  rcases hcase with ⟨k1, k2, k3, rfl, k5⟩ | ⟨b', c', cur', k1, k2, k3, k4, k5, k6, k7⟩
  · -- nothing at all
    have hx0 : xs = [] := List.eq_nil_of_length_eq_zero (by omega)
    have hy0 : ys = [] := List.eq_nil_of_length_eq_zero (by omega)
    subst hx0 hy0
    have hsame : H.set i (LS.row 0 te.size e) = H := by
      apply List.ext_getElem?
      intro j
      by_cases hj : j = i
      · subst hj; rw [List.getElem?_set_self hll]; exact hrow.symm
      · rw [List.getElem?_set_ne (Ne.symm hj)]
    simp only [List.length_nil, Nat.add_zero, List.append_nil]
    rw [hsame]
    exact ⟨ι, hH, by rw [k1]; exact hxv, Ext.refl _ _ _ _, Out.refl _ _ _⟩
  · -- the block b' has it all
    have hιx : ι i = none ∨ ∃ b c, ι i = some (b, c) ∧ a.eval x = .slice (some ⟨b, 0, none⟩) xs.length c := by
      rcases hown with ⟨h1, _⟩ | ⟨b, c, h1, h2⟩
      · exact .inl h1
      · exact .inr ⟨b, c, h1, h2⟩
    -- which blocks have turned
    have hturn : ∀ b, b < w.heap.size → (∀ c, ι i ≠ some (b, c)) → w'.heap[b]? = w.heap[b]? := by
      intro b hb hne
      rcases k7 with ⟨hF, h1, h2⟩ | ⟨_, h1, h2⟩
      · refine h2 b (fun e => ?_)
        subst e
        rcases hown with ⟨h4, _, _⟩ | ⟨b2, c2, h3, h4⟩
        · exact absurd h4 hF
        · rw [h4] at h1
          injection h1 with h1 _ _
          injection h1 with h1
          injection h1 with h1
          subst h1
          exact hne _ h3
      · exact h2 b hb
    have hwhere : (∃ c, ι i = some (b', c) ∧ c = c') ∨ b' = w.heap.size := by
      rcases k7 with ⟨hF, h1, h2⟩ | ⟨_, h1, h2⟩
      · left
        rcases hown with ⟨h4, _, _⟩ | ⟨b2, c2, h3, h4⟩
        · exact absurd h4 hF
        · rw [h4] at h1
          injection h1 with h1 _ h5
          injection h1 with h1
          injection h1 with h1
          subst h1
          exact ⟨c2, h3, h5⟩
      · exact .inr h1
    have hold : ∀ k j, k < xs.length → j < te.size → cur'[k * te.size + j]? = olds[k * te.size + j]? := by
      intro k j hk hj
      have hlt : k * te.size + j < xs.length * te.size := by
        have : (k + 1) * te.size ≤ xs.length * te.size := Nat.mul_le_mul_right _ hk
        rw [Nat.succ_mul] at this; omega
      have : (cur'.toList.take ((xs.length + ys.length) * inf.size))[k * te.size + j]? = (olds ++ news)[k * te.size + j]? := by rw [k6]
      rw [List.getElem?_append_left (by rw [holl]; exact hlt), List.getElem?_take, ← g6, if_pos (by rw [Nat.add_mul]; omega)] at this
      simpa using this
    have hnewc : ∀ k, k < ys.length * te.size → cur'[xs.length * te.size + k]? = news[k]? := by
      intro k hk
      have : (cur'.toList.take ((xs.length + ys.length) * inf.size))[xs.length * te.size + k]? = (olds ++ news)[xs.length * te.size + k]? := by rw [k6]
      rw [List.getElem?_append_right (by rw [holl]; omega), holl, Nat.add_sub_cancel_left, List.getElem?_take, ← g6, if_pos (by rw [Nat.add_mul]; omega)] at this
      simpa using this
    -- the step
    have hext : Ext G w ι H w' (updI ι i (some (b', c'))) (H.set i (.row (xs.length + ys.length) te.size e)) := by
      refine ⟨by simp, hsize, fun ad v hp hc => ?_, fun j cs t' hj => ?_, fun j m s t' hj => ?_, fun j kvs hj => ?_, fun j xs φ hj => ?_⟩
      · have hblt := World.block_lt_of_cell? w ad hc
        -- was it in the row's old block?
        by_cases hin : ∃ c, ι i = some (ad.block, c)
        · obtain ⟨c0, hc0⟩ := hin
          obtain ⟨m, s, t', h1, h2⟩ := hp.2 i c0 hll hc0
          rw [hrow] at h1
          injection h1 with h1
          injection h1 with h1 h3 h4
          subst h1 h3
          rcases k7 with ⟨hF, k8, k9⟩ | ⟨hm0, k8, k9⟩
          · -- in place
            have hbb : ad.block = b' := by
              rcases hwhere with ⟨c1, h5, _⟩ | h5
              · rw [hc0] at h5; injection h5 with h5; injection h5
              · rcases hown with ⟨h6, _, _⟩ | ⟨b2, c2, h6, h7⟩
                · exact absurd h6 hF
                · rw [h7] at k8; injection k8 with k8 _ _; injection k8 with k8; injection k8 with k8; rw [hc0] at h6; injection h6 with h6; injection h6 with h6; rw [h6, k8]
            obtain ⟨p1, p2, p3⟩ := place_of h2
            have hspot : ad.spot = none := by
              unfold World.cell? at hc
              split at hc
              · split at hc
                · cases hc
                · rename_i h; cases hs : ad.spot with
                  | none => rfl
                  | some _ => rw [hs] at h; simp at h
              · cases hc
            have hcell' : w'.cell? ad = cur'[ad.off]? := by
              have had : ad = ⟨b', ad.off, none⟩ := by cases ad; simp_all
              rw [had]; exact cell_of_row w' b' ad.off cur' e (0, 0) k2
            have hcell0 : w.cell? ad = olds[ad.off]? := by
              rcases hu with ⟨h5, _⟩ | ⟨_, b2, c2, cur, h5, h6, h7, h8, h9, h10⟩
              · exact absurd h5 hF
              · rw [h5] at k8; injection k8 with k8 _ _; injection k8 with k8; injection k8 with k8
                have had : ad = ⟨b2, ad.off, none⟩ := by cases ad; simp_all
                rw [had, cell_of_row w b2 ad.off cur e (0, 0) h6, h10, List.getElem?_take, ← g6, if_pos h2]
                simp
            refine ⟨?_, hp.1, fun j d hj hd => ?_⟩
            · rw [hcell', ← p3, hold _ _ p1 p2, p3, ← hcell0]; exact hc
            · simp only [List.length_set] at hj
              by_cases hji : j = i
              · subst hji
                exact ⟨_, _, _, hget, by rw [Nat.add_mul]; omega⟩
              · rw [updI_ne hji] at hd
                rw [List.getElem?_set_ne (Ne.symm hji)]
                exact hp.2 j d hj hd
          · refine ⟨by rw [World.cell?_of_block (k9 ad.block hblt)]; exact hc, hp.1, fun j d hj hd => ?_⟩
            simp only [List.length_set] at hj
            by_cases hji : j = i
            · subst hji
              rw [updI_self] at hd; injection hd with hd; injection hd with hd _; omega
            · rw [updI_ne hji] at hd
              rw [List.getElem?_set_ne (Ne.symm hji)]
              exact hp.2 j d hj hd
        · refine ⟨by rw [World.cell?_of_block (hturn ad.block hblt (fun c e => hin ⟨c, e⟩))]; exact hc, hp.1, fun j d hj hd => ?_⟩
          simp only [List.length_set] at hj
          by_cases hji : j = i
          · subst hji
            rw [updI_self] at hd; injection hd with hd; injection hd with hd _
            rcases hwhere with ⟨c1, h5, _⟩ | h5
            · exact absurd ⟨c1, by rw [h5, hd]⟩ hin
            · omega
          · rw [updI_ne hji] at hd
            rw [List.getElem?_set_ne (Ne.symm hji)]
            exact hp.2 j d hj hd
      · have hji : j ≠ i := fun e => by subst e; rw [hrow] at hj; injection hj with hj; cases hj
        exact ⟨updI_ne hji, cs, by rw [List.getElem?_set_ne (Ne.symm hji)]; exact hj⟩
      · by_cases hji : j = i
        · subst hji
          rw [hrow] at hj; injection hj with hj; injection hj with h1 h2 h3; subst h1 h2 h3
          refine ⟨_, hget, by omega, fun h0 => ?_⟩
          rw [updI_self]
          have hy0 : ys.length = 0 := by omega
          -- nothing came: the row is where it was
          rcases k7 with ⟨hF, k8, k9⟩ | ⟨hm0, k8, k9⟩
          · rcases hown with ⟨h6, _, _⟩ | ⟨b2, c2, h6, h7⟩
            · exact absurd h6 hF
            · rw [h7] at k8; injection k8 with k8 _ k10; injection k8 with k8; injection k8 with k8; rw [h6, k8, k10]
          · omega
        · exact ⟨m, by rw [List.getElem?_set_ne (Ne.symm hji)]; exact hj, Nat.le_refl _, fun _ => updI_ne hji⟩
      · have hji : j ≠ i := fun e => by subst e; rw [hrow] at hj; injection hj with hj; cases hj
        exact ⟨updI_ne hji, kvs, by rw [List.getElem?_set_ne (Ne.symm hji)]; exact hj⟩
      · have hji : j ≠ i := fun e => by subst e; rw [hrow] at hj; injection hj with hj; cases hj
        exact ⟨updI_ne hji, xs, φ, by rw [List.getElem?_set_ne (Ne.symm hji)]; exact hj⟩
    have hother : ∀ j b c, j < H.length → j ≠ i → ι j = some (b, c) → w'.heap[b]? = w.heap[b]? := fun j b c hj hji e => hturn b (hH.lt j b c hj e) (fun c2 e2 => hji (hH.inj j i b c c2 hj hll e e2))
    refine ⟨updI ι i (some (b', c')), hH.upd hll (fun j hj => updI_ne hj) hext hother (.inr ⟨b', c', cur', updI_self _ _ _, k2, by rw [k3, g6], k4, k5⟩) (fun b c e j d hj hji e2 => ?_) (fun b c e => ?_) (fun b c e off => ?_), ?_, hext, ⟨hos, htape, hout, hsize, fun b hb hn => hturn b hb (fun c => hn i c hll), fun j b c hj e => ?_⟩⟩
    · rw [updI_self] at e; injection e with e; injection e with e _; subst e
      rcases hwhere with ⟨c1, h5, _⟩ | h5
      · exact hji (hH.inj j i b' d c1 hj hll e2 h5)
      · have := hH.lt j _ _ hj e2; omega
    · rw [updI_self] at e; injection e with e; injection e with e _; subst e
      exact (Array.getElem?_eq_some_iff.1 k2).1
    · rw [updI_self] at e; injection e with e; injection e with e _; subst e
      rcases hwhere with ⟨c1, h5, _⟩ | h5
      · exact hH.good i _ _ hll h5 off
      · exact hG _ _ (Nat.le_of_eq h5.symm)
    · rw [k1]
      have hcat : (xs ++ ys).length = xs.length + ys.length := List.length_append
      refine .row (.list te.size (fun k j => (cur'[k * te.size + j]?).getD undef) hcat.symm k4 k5 (fun y hy => ?_) (fun _ => ⟨⟨b', 0, none⟩, rfl, fun k j yy hk hj => ?_⟩) (fun k j yy p hk hp => ?_)) ⟨_, _, _, hget, by omega⟩ (fun _ _ _ => .inr ⟨b', c', updI_self _ _ _, by rw [hcat]⟩)
      · rcases List.mem_append.1 hy with hy | hy
        · exact hxs y hy
        · exact hys y hy
      · have hkn : k < xs.length + ys.length := by rw [← hcat]; exact (List.getElem?_eq_some_iff.1 hk).1
        have hlt : k * te.size + j < (xs.length + ys.length) * te.size := by
          have : (k + 1) * te.size ≤ (xs.length + ys.length) * te.size := Nat.mul_le_mul_right _ hkn
          rw [Nat.succ_mul] at this; omega
        have hlt2 : k * te.size + j < cur'.size := by
          have : (xs.length + ys.length) * te.size ≤ c' * te.size := Nat.mul_le_mul_right _ k4
          rw [k3, ← g6]; omega
        have hadd : (⟨b', 0, none⟩ : Addr).add (k * te.size + j) = ⟨b', k * te.size + j, none⟩ := by unfold Addr.add; split <;> simp_all
        refine ⟨?_, ?_, ?_, fun j2 d hj2 hd => ?_⟩
        · rw [hadd, cell_of_row w' b' _ cur' e (0, 0) k2, Array.getElem?_eq_getElem hlt2]; rfl
        · by_cases hkx : k < xs.length
          · have hxk : xs[k]? = some xs[k] := List.getElem?_eq_getElem hkx
            have hjx : xs[k][j]? = some (xs[k][j]'(by rw [hxs _ (List.getElem_mem hkx)]; exact hj)) := List.getElem?_eq_getElem _
            obtain ⟨v, hv1, hv2, _⟩ := holds k j _ ⟨_, hxk, hjx⟩
            rw [hold k j hkx hj, hv1]; exact hv2
          · have e1 : k * te.size + j = xs.length * te.size + ((k - xs.length) * te.size + j) := by
              have : k = xs.length + (k - xs.length) := by omega
              conv => lhs; rw [this, Nat.add_mul]
              omega
            have hlt3 : (k - xs.length) * te.size + j < ys.length * te.size := by rw [Nat.add_mul] at hlt; omega
            rw [e1, hnewc _ hlt3, hnews_get _ hlt3]
            exact hnone _ (List.mem_of_getElem? (hnews_get _ hlt3))
        · rcases hwhere with ⟨c1, h5, _⟩ | h5
          · exact hH.good i _ _ hll h5 _
          · exact hG _ _ (Nat.le_of_eq h5.symm)
        · simp only [List.length_set] at hj2
          by_cases hji : j2 = i
          · subst hji; exact ⟨_, _, _, hget, by simpa using hlt⟩
          · exfalso
            rw [updI_ne hji] at hd
            rcases hwhere with ⟨c1, h5, _⟩ | h5
            · exact hji (hH.inj j2 i _ _ _ hj2 hll hd h5)
            · have := hH.lt j2 _ _ hj2 hd
              simp only at this
              omega
      · have hkn : k < xs.length + ys.length := by rw [← hcat]; exact (List.getElem?_eq_some_iff.1 hk).1
        have hyl : yy.length = te.size := by
          rcases List.mem_append.1 (List.mem_of_getElem? hk) with hy | hy
          · exact hxs _ hy
          · exact hys _ hy
        have hj : j < te.size := by rw [← hyl]; exact (List.getElem?_eq_some_iff.1 hp).1
        have hkeep : ∀ {q : PV} {v : Value}, VRep (Prot G ι H) w (fun _ => none) [] q v → VRep (Prot G (updI ι i (some (b', c'))) (H.set i (LS.row (xs.length + ys.length) te.size e))) w' (fun _ => none) [] q v :=
          fun h => h.keep (fun a v => hext.prot a v) (fun _ _ _ h => by simp at h) (fun _ _ _ _ h => by simp at h) (fun _ _ h => by simp at h) (fun _ _ _ h => by simp at h)
        by_cases hkx : k < xs.length
        · rw [List.getElem?_append_left hkx] at hk
          obtain ⟨v, hv1, _, hv3⟩ := holds k j p ⟨yy, hk, hp⟩
          rw [hold k j hkx hj, hv1]
          exact hkeep hv3
        · rw [List.getElem?_append_right (by omega)] at hk
          have e1 : k * te.size + j = xs.length * te.size + ((k - xs.length) * te.size + j) := by
            have : k = xs.length + (k - xs.length) := by omega
            conv => lhs; rw [this, Nat.add_mul]
            omega
          have hlt3 : (k - xs.length) * te.size + j < ys.length * te.size := by
            have : (k - xs.length + 1) * te.size ≤ ys.length * te.size := Nat.mul_le_mul_right _ (by omega)
            rw [Nat.succ_mul] at this; omega
          have hdiv : ((k - xs.length) * te.size + j) / te.size = k - xs.length := by
            rw [Nat.mul_comm, Nat.mul_add_div (by omega), Nat.div_eq_of_lt hj, Nat.add_zero]
          have hmod : ((k - xs.length) * te.size + j) % te.size = j := by
            rw [Nat.mul_comm, Nat.mul_add_mod, Nat.mod_eq_of_lt hj]
          rw [e1, hnewc _ hlt3, hnews_get _ hlt3, hdiv, hmod]
          exact hkeep (hry _ _ _ _ hk hp)
    · by_cases hji : j = i
      · subst hji
        rw [updI_self] at e; injection e with e; injection e with e1 e2; subst e1 e2
        rcases hwhere with ⟨c1, h5, h6⟩ | h5
        · exact .inl ⟨hj, by rw [h5, h6]⟩
        · exact .inr (by omega)
      · rw [updI_ne hji] at e
        exact .inl ⟨hj, e⟩
end
end Go.Proofs.Pm
end
section
namespace Go.Proofs.Pm
open Go
inductive Mv (R : Nat → Nat → Prop) : PV → PV → Prop
  | frz {p q} (h : Pm.frz p = some q) : Mv R p q
  | nilL : Mv R (.s (.slice none 0 0)) (.list [])
  | ptr {i j off} (h : R i j) : Mv R (.ptr i off) (.ptr j off)
  | row {xs i j} (h : R i j) : Mv R (.row xs i) (.row xs j)
  | mp {i j} (h : R i j) : Mv R (.mp i) (.mp j)
  | yl {i j} (h : R i j) : Mv R (.yl i) (.yl j)
  | sl {i j n} (h : R i j) : Mv R (.sl i n) (.sl j n)
  | agg {xs ys} (hl : xs.length = ys.length) (h : ∀ (j : Nat) (x y : PV), xs[j]? = some x → ys[j]? = some y → Mv R x y) : Mv R (.agg xs) (.agg ys)
  | tup {xs ys} (hl : xs.length = ys.length) (h : ∀ (j : Nat) (x y : PV), xs[j]? = some x → ys[j]? = some y → Mv R x y) : Mv R (.tup xs) (.tup ys)
  | fn {f a b a' b'} (hl : a.length = a'.length) (hm : b.length = b'.length) (h : ∀ (j : Nat) (x y : PV), a[j]? = some x → a'[j]? = some y → Mv R x y) (k : ∀ (j : Nat) (x y : PV), b[j]? = some x → b'[j]? = some y → Mv R x y) : Mv R (.fn f a b) (.fn f a' b')
inductive MvL (R : Nat → Nat → Prop) : List PV → List PV → Prop
  | nil : MvL R [] []
  | cons {p q ps qs} (h : Mv R p q) (hr : MvL R ps qs) : MvL R (p :: ps) (q :: qs)
theorem MvL.length {R : Nat → Nat → Prop} {ps qs : List PV} (h : MvL R ps qs) : ps.length = qs.length := by
  induction h with
  | nil => rfl
  | cons _ _ ih => simp [ih]
theorem MvL.get {R : Nat → Nat → Prop} {ps qs : List PV} (h : MvL R ps qs) : ∀ (j : Nat) (x y : PV), ps[j]? = some x → qs[j]? = some y → Mv R x y := by
  induction h with
  | nil => intro j x y hx; simp at hx
  | cons h _ ih =>
    intro j x y hx hy
    cases j with
    | zero => simp at hx hy; subst hx hy; exact h
    | succ j => exact ih j x y (by simpa using hx) (by simpa using hy)
theorem Mv.aggL {R : Nat → Nat → Prop} {xs ys : List PV} (h : MvL R xs ys) : Mv R (.agg xs) (.agg ys) := .agg h.length h.get
theorem Mv.tupL {R : Nat → Nat → Prop} {xs ys : List PV} (h : MvL R xs ys) : Mv R (.tup xs) (.tup ys) := .tup h.length h.get
theorem Mv.fnL {R : Nat → Nat → Prop} {f : FuncId} {a b a' b' : List PV} (h : MvL R a a') (k : MvL R b b') : Mv R (.fn f a b) (.fn f a' b') := .fn h.length k.length h.get k.get
structure Alike (R : Nat → Nat → Prop) (ι : Intp) (H : List LS) (ι' : Intp) (H' : List LS) : Prop where
  at_ : ∀ i j, R i j → ι' j = ι i
  box : ∀ i j cs t, R i j → H[i]? = some (.box cs t) → ∃ cs', H'[j]? = some (.box cs' t)
  row : ∀ i j n sz t, R i j → H[i]? = some (.row n sz t) → H'[j]? = some (.row n sz t)
  mp : ∀ i j kvs, R i j → H[i]? = some (.mp kvs) → ∃ kvs', H'[j]? = some (.mp kvs')
  obj : ∀ i j xs φ, R i j → H[i]? = some (.obj xs φ) → ∃ xs' φ', H'[j]? = some (.obj xs' φ')
theorem VRep.mv {R : Nat → Nat → Prop} {G G' : Good} {w : World} (hg : ∀ a v, G a.block a.off → w.cell? a = some v → G' a.block a.off) {ι : Intp} {H : List LS} {p : PV} {v : Value} (h : VRep G w ι H p v) :
    ∀ {ι' : Intp} {H' : List LS} {q : PV}, Alike R ι H ι' H' → Mv R p q → VRep G' w ι' H' q v := by
  have keep0 : ∀ {ι : Intp} {H : List LS} {p : PV} {v : Value} {ι' : Intp} {H' : List LS} {q : PV}, VRep G w ι H p v → Pm.frz p = some q → VRep G' w ι' H' q v := by
    intro ι H p v ι' H' q h hq
    exact closed_rep ((h.frz hq).keep (fun a v hp hc => ⟨hc, hg a v hp hc⟩) (fun _ _ _ h => by simp at h) (fun _ _ _ _ h => by simp at h) (fun _ _ h => by simp at h) (fun _ _ _ h => by simp at h))
  induction h with
  | @s ι H v => intro ι' H' q ha hm; cases hm with
    | frz hq => exact keep0 (ι := ι) (H := H) (.s v) hq
    | nilL => exact .list 0 (fun _ _ => undef) rfl (Nat.le_refl _) (Nat.zero_le _) (fun x hx => by cases hx) (fun h0 => by omega) (fun i j x p hx => by simp at hx)
  | @junk ι H v => intro ι' H' q ha hm; cases hm with
    | frz hq => exact keep0 (ι := ι) (H := H) (.junk v) hq
  | @agg ι H xs vs hl h1 hr ih =>
    intro ι' H' q ha hm
    cases hm with
    | frz hq => exact keep0 (.agg hl h1 hr) hq
    | agg hl2 hm =>
      refine .agg (by omega) h1 (fun j y v hy hv => ?_)
      have hj : j < xs.length := by rw [hl2]; exact (List.getElem?_eq_some_iff.1 hy).1
      exact ih j _ v (List.getElem?_eq_getElem hj) hv ha (hm j _ y (List.getElem?_eq_getElem hj) hy)
  | @tup ι H xs vs hl hr ih =>
    intro ι' H' q ha hm
    cases hm with
    | frz hq => exact keep0 (.tup hl hr) hq
    | tup hl2 hm =>
      refine .tup (by omega) (fun j y v hy hv => ?_)
      have hj : j < xs.length := by rw [hl2]; exact (List.getElem?_eq_some_iff.1 hy).1
      exact ih j _ v (List.getElem?_eq_getElem hj) hv ha (hm j _ y (List.getElem?_eq_getElem hj) hy)
  | @list ι H xs A n c sz vs hn hc hm hsz hA hr ih =>
    intro ι' H' q ha hmv
    cases hmv with
    | frz hq => exact keep0 (ι := ι) (H := H) (.list sz vs hn hc hm hsz hA hr) hq
  | @row ι H xs i v h hi ho ih =>
    intro ι' H' q ha hm
    cases hm with
    | frz hq => exact keep0 (.row h hi ho) hq
    | @row _ _ j hij =>
      obtain ⟨n, sz, t, h1, h2⟩ := hi
      have h3 := ha.row i j n sz t hij h1
      refine .row (ih ha (.frz rfl)) ⟨n, sz, t, h3, h2⟩ (fun sz2 t2 he => ?_)
      rw [h3] at he
      injection he with he
      injection he with e1 e2 e3
      subst e1 e2 e3
      have := ho _ _ h1
      unfold Own at this ⊢
      rwa [ha.at_ i j hij]
  | @ptr ι H i off b c hi hb =>
    intro ι' H' q ha hm
    cases hm with
    | frz hq => simp [Pm.frz] at hq
    | @ptr _ j _ hij =>
      obtain ⟨cs, t, hb⟩ := hb
      obtain ⟨cs', hb'⟩ := ha.box i j cs t hij hb
      exact .ptr ((ha.at_ i j hij).trans hi) ⟨cs', t, hb'⟩
  | @eptr ι H cs ad vs hc hr ih =>
    intro ι' H' q ha hm
    cases hm with
    | frz hq => exact keep0 (ι := ι) (H := H) (.eptr ad vs hc hr) hq
  | @fn ι H f a b fs cs hf hc h1 h2 ih1 ih2 =>
    intro ι' H' q ha hm
    cases hm with
    | frz hq => exact keep0 (.fn hf hc h1 h2) hq
    | fn hl hl2 hm1 hm2 =>
      refine .fn (by omega) (by omega) (fun j y v hy hv => ?_) (fun j y v hy hv => ?_)
      · have hj : j < a.length := by rw [hl]; exact (List.getElem?_eq_some_iff.1 hy).1
        exact ih1 j _ v (List.getElem?_eq_getElem hj) hv ha (hm1 j _ y (List.getElem?_eq_getElem hj) hy)
      · have hj : j < b.length := by rw [hl2]; exact (List.getElem?_eq_some_iff.1 hy).1
        exact ih2 j _ v (List.getElem?_eq_getElem hj) hv ha (hm2 j _ y (List.getElem?_eq_getElem hj) hy)
  | @mp ι H i b c hi hb =>
    intro ι' H' q ha hm
    cases hm with
    | frz hq => simp [Pm.frz] at hq
    | @mp _ j hij =>
      obtain ⟨kvs, hb⟩ := hb
      obtain ⟨kvs', hb'⟩ := ha.mp i j kvs hij hb
      exact .mp ((ha.at_ i j hij).trans hi) ⟨kvs', hb'⟩
  | @yl ι H i b c hi hb =>
    intro ι' H' q ha hm
    cases hm with
    | frz hq => simp [Pm.frz] at hq
    | @yl _ j hij =>
      obtain ⟨xs, φ, hb⟩ := hb
      obtain ⟨xs', φ', hb'⟩ := ha.obj i j xs φ hij hb
      exact .yl ((ha.at_ i j hij).trans hi) ⟨xs', φ', hb'⟩
  | @sl ι H i n b c m hi hb hn hm0 =>
    intro ι' H' q ha hm
    cases hm with
    | frz hq => simp [Pm.frz] at hq
    | @sl _ j _ hij =>
      obtain ⟨cs, t, hb⟩ := hb
      obtain ⟨cs', hb'⟩ := ha.box i j cs t hij hb
      exact .sl ((ha.at_ i j hij).trans hi) ⟨cs', t, hb'⟩ hn hm0
inductive MvKV (R : Nat → Nat → Prop) : List (PV × PV) → List (PV × PV) → Prop
  | nil : MvKV R [] []
  | cons {k p q ps qs} (hk : closedB k = true) (h : Mv R p q) (hr : MvKV R ps qs) : MvKV R ((k, p) :: ps) ((k, q) :: qs)
theorem MvKV.length {R : Nat → Nat → Prop} {ps qs : List (PV × PV)} (h : MvKV R ps qs) : ps.length = qs.length := by
  induction h with
  | nil => rfl
  | cons _ _ _ ih => simp [ih]
theorem MvKV.get {R : Nat → Nat → Prop} {ps qs : List (PV × PV)} (h : MvKV R ps qs) : ∀ (j : Nat) (x y : PV × PV), ps[j]? = some x → qs[j]? = some y → x.1 = y.1 ∧ closedB x.1 = true ∧ Mv R x.2 y.2 := by
  induction h with
  | nil => intro j x y hx; simp at hx
  | cons hk h _ ih =>
    intro j x y hx hy
    cases j with
    | zero => simp at hx hy; subst hx hy; exact ⟨rfl, hk, h⟩
    | succ j => exact ih j x y (by simpa using hx) (by simpa using hy)
inductive MvS (R : Nat → Nat → Prop) : LS → LS → Prop
  | box {cs cs' t} (h : MvL R cs cs') : MvS R (.box cs t) (.box cs' t)
  | row {n sz t} : MvS R (.row n sz t) (.row n sz t)
  | arr {xs sz t} (h : xs.all closedLB = true) : MvS R (.arr xs sz t) (.arr xs sz t)
  | mp {kvs kvs'} (h : MvKV R kvs kvs') : MvS R (.mp kvs) (.mp kvs')
  | obj {xs ys φ} (hl : xs.length = ys.length) (h : ∀ (j : Nat) (x y : PV), xs[j]? = some x → ys[j]? = some y → Mv R x y ∨ y = .junk) : MvS R (.obj xs φ) (.obj ys φ)
  | absent : MvS R .absent .absent
inductive MvSs (R : Nat → Nat → Prop) : List LS → List LS → Prop
  | nil : MvSs R [] []
  | cons {s s' r r'} (h : MvS R s s') (hr : MvSs R r r') : MvSs R (s :: r) (s' :: r')
theorem MvSs.length {R : Nat → Nat → Prop} {ps qs : List LS} (h : MvSs R ps qs) : ps.length = qs.length := by
  induction h with
  | nil => rfl
  | cons _ _ ih => simp [ih]
theorem MvSs.get {R : Nat → Nat → Prop} {ps qs : List LS} (h : MvSs R ps qs) : ∀ (j : Nat) (x y : LS), ps[j]? = some x → qs[j]? = some y → MvS R x y := by
  induction h with
  | nil => intro j x y hx; simp at hx
  | cons h _ ih =>
    intro j x y hx hy
    cases j with
    | zero => simp at hx hy; subst hx hy; exact h
    | succ j => exact ih j x y (by simpa using hx) (by simpa using hy)
theorem LRel.mv {R : Nat → Nat → Prop} {G G' : Good} {w : World} {ι ι' : Intp} {H H' : List LS} {i j : Nat} {s s' : LS} (hg : ∀ a v, G a.block a.off → w.cell? a = some v → G' a.block a.off) (ha : Alike R ι H ι' H') (hij : ι' j = ι i) (hs : MvS R s s') (h : LRel G w ι H i s) : LRel G' w ι' H' j s' := by
  have keep0 : ∀ {p : PV} {v : Value}, closedB p = true → VRep G w ι H p v → VRep G' w ι' H' p v := fun hc h =>
    closed_rep ((h.closed hc).keep (fun a v hp hc => ⟨hc, hg a v hp hc⟩) (fun _ _ _ h => by simp at h) (fun _ _ _ _ h => by simp at h) (fun _ _ h => by simp at h) (fun _ _ _ h => by simp at h))
  cases hs with
  | @box cs cs' t hm =>
    obtain ⟨b, c, vs, e1, e2, e3, e4, e5⟩ := h
    refine ⟨b, c, vs, hij.trans e1, e2, by rw [← hm.length]; exact e3, by rw [← hm.length]; exact e4, fun k x v hx hv => ?_⟩
    have hk : k < cs.length := by rw [hm.length]; exact (List.getElem?_eq_some_iff.1 hx).1
    exact (e5 k _ v (List.getElem?_eq_getElem hk) hv).mv hg ha (hm.get k _ x (List.getElem?_eq_getElem hk) hx)
  | row =>
    rcases h with ⟨e1, e2⟩ | ⟨b, c, cur, e1, e2⟩
    · exact .inl ⟨hij.trans e1, e2⟩
    · exact .inr ⟨b, c, cur, hij.trans e1, e2⟩
  | @arr xs sz t hc =>
    obtain ⟨b, c, vs, e1, e2, e3, e4, e5, e6⟩ := h
    exact ⟨b, c, vs, hij.trans e1, e2, e3, e4, e5, fun k j x p v hx hp hv => keep0 (closed_get (List.all_eq_true.1 hc x (List.mem_of_getElem? hx)) p (List.mem_of_getElem? hp)) (e6 k j x p v hx hp hv)⟩
  | @mp kvs kvs' hc =>
    obtain ⟨b, c, es, clock, e1, e2, e3, e4⟩ := h
    refine ⟨b, c, es, clock, hij.trans e1, e2, by rw [← hc.length]; exact e3, fun k q e hq he => ?_⟩
    have hk : k < kvs.length := by rw [hc.length]; exact (List.getElem?_eq_some_iff.1 hq).1
    obtain ⟨k1, k2, k3⟩ := hc.get k _ q (List.getElem?_eq_getElem hk) hq
    obtain ⟨m1, m2⟩ := e4 k _ e (List.getElem?_eq_getElem hk) he
    exact ⟨k1 ▸ m1.keep (fun a v hp hc => ⟨hc, hg a v hp hc⟩) (fun _ _ _ h => by simp at h) (fun _ _ _ _ h => by simp at h) (fun _ _ h => by simp at h) (fun _ _ _ h => by simp at h), m2.mv hg ha k3⟩
  | @obj xs ys φ hl hm =>
    obtain ⟨b, c, vs, e1, e2, e3, e4, e5⟩ := h
    refine ⟨b, c, vs, hij.trans e1, e2, e3, hl.symm.trans e4, fun k y v hy hv => ?_⟩
    have hk : k < xs.length := by rw [hl]; exact (List.getElem?_eq_some_iff.1 hy).1
    rcases hm k _ y (List.getElem?_eq_getElem hk) hy with h1 | h1
    · exact (e5 k _ v (List.getElem?_eq_getElem hk) hv).mv hg ha h1
    · rw [h1]; exact .junk _
  | absent => exact hij.trans h
end Go.Proofs.Pm
end
section
namespace Go.Proofs.Pm
open Go
def Enters (P : Program) (f : FuncId) : Prop := ∀ (args : Array Value) (w : World), (callFunc f args).run P w = .ok (.enter f args) w
def FCall (P : Program) (f : FuncId) (args : List PV) (Hin : List LS) (r : PV) (Hout : List LS) : Prop :=
  Enters P f ∧ ∀ (G : Good) (w : World) (ι : Intp) (av : List Value), HRel G w ι Hin → (∀ b off, w.heap.size ≤ b → G b off) → VReps (VRep (Prot G ι Hin) w ι Hin) args av →
    Calls P f av.toArray w fun e w' => ∃ v ι', e = .returned v ∧ HRel G w' ι' Hout ∧ VRep (Prot G ι' Hout) w' ι' Hout r v ∧ Ext G w ι Hin w' ι' Hout ∧ Out w ι Hin.length w' ι' Hout.length
def relab : List Nat → Nat → Intp → Intp → Intp
  | [], _, _, b => b
  | x :: r, k, a, b => fun i => if i = x then a k else relab r (k + 1) a b i
theorem relab_not {a b : Intp} {i : Nat} : ∀ {t : List Nat} {k : Nat}, i ∉ t → relab t k a b i = b i
  | [], _, _ => rfl
  | x :: r, k, h => by
    simp only [List.mem_cons, not_or] at h
    simp only [relab, if_neg h.1]
    exact relab_not h.2
theorem relab_in {a b : Intp} {i : Nat} : ∀ {t : List Nat} {k j : Nat}, t.Nodup → t[j]? = some i → relab t k a b i = a (k + j)
  | [], _, _, _, h => by simp at h
  | x :: r, k, j, hn, h => by
    rw [List.nodup_cons] at hn
    cases j with
    | zero => simp at h; subst h; simp [relab]
    | succ j =>
      have h : r[j]? = some i := by simpa using h
      have hne : i ≠ x := fun e => hn.1 (e ▸ List.mem_of_getElem? h)
      simp only [relab, if_neg hne]
      rw [relab_in hn.2 h]
      congr 1; omega
theorem setAll_zip_in : ∀ {t : List Nat} {ss : List LS} {H : List LS} {i j : Nat}, t.Nodup → t.length = ss.length → t[j]? = some i → i < H.length → (setAll H (t.zip ss))[i]? = ss[j]?
  | [], ss, H, i, j, _, _, h, _ => by simp at h
  | x :: r, [], H, i, j, _, hl, _, _ => by simp at hl
  | x :: r, s :: ss, H, i, j, hn, hl, h, hi => by
    rw [List.nodup_cons] at hn
    simp only [List.zip_cons_cons, setAll]
    cases j with
    | zero =>
      simp at h; subst h
      rw [setAll_get_not _ (fun hm => hn.1 (by
        obtain ⟨q, hq, rfl⟩ := List.mem_map.1 hm
        exact (List.of_mem_zip hq).1))]
      simp [hi]
    | succ j =>
      rw [setAll_zip_in hn.2 (by simpa using hl) (by simpa using h) (by simpa using hi)]
      simp
theorem zip_keys {t : List Nat} {ss : List LS} (hl : t.length = ss.length) : (t.zip ss).map (·.1) = t := by
  rw [List.map_fst_zip]; omega
section
variable {P : Program} {o : Oper} {f : Nat → Option PV}
def XCall (X : List Value → World → (Value → World → Prop) → Prop) (args : List PV) (Hin : List LS) (r : PV) (Hout : List LS) : Prop :=
  ∀ (G : Good) (w : World) (ι : Intp) (av : List Value), HRel G w ι Hin → (∀ b off, w.heap.size ≤ b → G b off) → VReps (VRep (Prot G ι Hin) w ι Hin) args av →
    X av w fun v w' => ∃ ι', HRel G w' ι' Hout ∧ VRep (Prot G ι' Hout) w' ι' Hout r v ∧ Ext G w ι Hin w' ι' Hout ∧ Out w ι Hin.length w' ι' Hout.length
set_option maxHeartbeats 1000000 in
theorem call_core {X : List Value → World → (Value → World → Prop) → Prop} (hX : ∀ av w K K', X av w K → (∀ v w', K v w' → K' v w') → X av w K') {as args : List PV} {Hin Hout Sin Sout : List LS} {r r' : PV} {sg nu : List Nat} (hc : XCall X args Hin r Hout)
    (hin : MvL (fun i j => sg[j]? = some i) as args) (hS : MvSs (fun i j => sg[j]? = some i) Sin Hin) (hr : Mv (fun j i => (sg ++ nu)[j]? = some i) r r') (hO : MvSs (fun j i => (sg ++ nu)[j]? = some i) Hout Sout)
    (hlen : sg.length = Hin.length) (hlen2 : (sg ++ nu).length = Hout.length) (hnd : (sg ++ nu).Nodup) : ∀ (G : Good) (w : World) (ι : Intp) (H : List LS) (avs : List Value), HRel G w ι H → (∀ b off, w.heap.size ≤ b → G b off) → VReps (VRep (Prot G ι H) w ι H) as avs →
      (∀ q ∈ (sg.zip Sin ++ nu.map fun i => (i, LS.absent)), H[q.1]? = some q.2) → X avs w fun v w' => ∃ ι', HRel G w' ι' (setAll H ((sg ++ nu).zip Sout)) ∧ VRep (Prot G ι' (setAll H ((sg ++ nu).zip Sout))) w' ι' (setAll H ((sg ++ nu).zip Sout)) r' v ∧ Ext G w ι H w' ι' (setAll H ((sg ++ nu).zip Sout)) ∧ Out w ι H.length w' ι' H.length := by
  intro G w ι H avs hH hG hall hrd
  have hSl := hS.length
  have hOl := hO.length
  have hsg : ∀ (j i : Nat), sg[j]? = some i → ∃ s s' : LS, H[i]? = some s ∧ Sin[j]? = some s ∧ Hin[j]? = some s' ∧ MvS (fun i j => sg[j]? = some i) s s' := by
    intro j i hj
    have hjl := (List.getElem?_eq_some_iff.1 hj).1
    have h1 : Sin[j]? = some (Sin[j]'(by omega)) := List.getElem?_eq_getElem _
    have h2 : Hin[j]? = some (Hin[j]'(by omega)) := List.getElem?_eq_getElem _
    refine ⟨_, _, ?_, h1, h2, hS.get j _ _ h1 h2⟩
    refine hrd (i, _) (List.mem_append_left _ ?_)
    have : (sg.zip Sin)[j]? = some (i, Sin[j]'(by omega)) := by
      rw [List.getElem?_zip_eq_some]; exact ⟨hj, h1⟩
    exact List.mem_of_getElem? this
  have hnu : ∀ i ∈ nu, H[i]? = some .absent := fun i hi => hrd (i, .absent) (List.mem_append_right _ (List.mem_map.2 ⟨i, hi, rfl⟩))
  have hndS : sg.Nodup := (List.nodup_append.1 hnd).1
  let ιc : Intp := fun j => (sg[j]?).bind ι
  let Gc : Good := fun b off => G b off ∧ ∀ i c, i < H.length → i ∉ sg → ι i = some (b, c) → ∃ n sz t, H[i]? = some (.row n sz t) ∧ off < n * sz
  have hιc : ∀ (j i : Nat), sg[j]? = some i → ιc j = ι i := fun j i h => by simp [ιc, h]
  have hlt : ∀ (j i : Nat), sg[j]? = some i → i < H.length := fun j i h => by obtain ⟨s, _, h1, _⟩ := hsg j i h; exact (List.getElem?_eq_some_iff.1 h1).1
  have hιc' : ∀ j b c, ιc j = some (b, c) → ∃ i, sg[j]? = some i ∧ ι i = some (b, c) := by
    intro j b c h
    simp only [ιc] at h
    cases hj : sg[j]? with
    | none => rw [hj] at h; cases h
    | some i => rw [hj] at h; exact ⟨i, rfl, h⟩
  -- safe places
  have hP1 : ∀ b off, Prot G ι H b off → Prot Gc ιc Hin b off := by
    rintro b off ⟨h1, h2⟩
    refine ⟨⟨h1, fun i c hi _ e => h2 i c hi e⟩, fun j c hj e => ?_⟩
    obtain ⟨i, hi, e2⟩ := hιc' j b c e
    obtain ⟨s, s', k1, k2, k3, k4⟩ := hsg j i hi
    obtain ⟨n, sz, t, k5, k6⟩ := h2 i c (hlt j i hi) e2
    rw [k1] at k5
    injection k5 with k5
    subst k5
    cases k4
    exact ⟨n, sz, t, k3, k6⟩
  have hAlike : Alike (fun i j => sg[j]? = some i) ι H ιc Hin := by
    refine ⟨fun i j h => hιc j i h, fun i j cs t h hb => ?_, fun i j n sz t h hb => ?_, fun i j kvs h hb => ?_, fun i j xs φ h hb => ?_⟩
    · obtain ⟨s, s', k1, k2, k3, k4⟩ := hsg j i h
      rw [k1] at hb; injection hb with hb; subst hb
      cases k4
      exact ⟨_, k3⟩
    · obtain ⟨s, s', k1, k2, k3, k4⟩ := hsg j i h
      rw [k1] at hb; injection hb with hb; subst hb
      cases k4
      exact k3
    · obtain ⟨s, s', k1, k2, k3, k4⟩ := hsg j i h
      rw [k1] at hb; injection hb with hb; subst hb
      cases k4
      exact ⟨_, k3⟩
    · obtain ⟨s, s', k1, k2, k3, k4⟩ := hsg j i h
      rw [k1] at hb; injection hb with hb; subst hb
      cases k4
      exact ⟨_, _, k3⟩
  have hHc : HRel Gc w ιc Hin := by
    refine ⟨fun j s' hj => ?_, fun j j' b c d hj hj' e e' => ?_, fun j b c hj e => ?_, fun j b c hj e off => ?_, hH.base.keep (fun a v hp hc => ⟨hc, hP1 _ _ hp⟩)⟩
    · have hjl : j < sg.length := by rw [hlen]; exact (List.getElem?_eq_some_iff.1 hj).1
      have hi : sg[j]? = some sg[j] := List.getElem?_eq_getElem hjl
      obtain ⟨s, s2, k1, k2, k3, k4⟩ := hsg j _ hi
      rw [hj] at k3; injection k3 with k3; subst k3
      exact (hH.rel _ s k1).mv (fun a v hp _ => hP1 _ _ hp) hAlike (hιc j _ hi) k4
    · obtain ⟨i, hi, e2⟩ := hιc' j b c e
      obtain ⟨i', hi', e2'⟩ := hιc' j' b d e'
      have := hH.inj i i' b c d (hlt j i hi) (hlt j' i' hi') e2 e2'
      subst this
      exact (List.getElem?_inj (List.getElem?_eq_some_iff.1 hi).1 hndS).1 (hi.trans hi'.symm)
    · obtain ⟨i, hi, e2⟩ := hιc' j b c e
      exact hH.lt i b c (hlt j i hi) e2
    · obtain ⟨i, hi, e2⟩ := hιc' j b c e
      refine ⟨hH.good i b c (hlt j i hi) e2 off, fun i2 c2 hi2 hn e3 => ?_⟩
      exact absurd (hH.inj i2 i b c2 c hi2 (hlt j i hi) e3 e2 ▸ List.mem_of_getElem? hi) hn
  have hGc : ∀ b off, w.heap.size ≤ b → Gc b off := fun b off hb => ⟨hG b off hb, fun i c hi _ e => by have := hH.lt i b c hi e; omega⟩
  have hargs : VReps (VRep (Prot Gc ιc Hin) w ιc Hin) args avs := by
    refine VReps.mk (by rw [← hin.length, hall.length]) (fun j p v hp hv => ?_)
    have hj : j < as.length := by rw [hin.length]; exact (List.getElem?_eq_some_iff.1 hp).1
    exact (hall.get j _ v (List.getElem?_eq_getElem hj) hv).mv (fun a v hp _ => hP1 _ _ hp) hAlike (hin.get j _ p (List.getElem?_eq_getElem hj) hp)
  have hcall := hc Gc w ιc _ hHc hGc hargs
  refine hX _ _ _ _ hcall (fun v w' he => ?_)
  obtain ⟨ιo, hHo, hvo, hxo, hout⟩ := he
  refine ⟨relab (sg ++ nu) 0 ιo ι, ?_⟩
  have hL : (setAll H ((sg ++ nu).zip Sout)).length = H.length := setAll_length _ _
  have hzl : (sg ++ nu).length = Sout.length := by omega
  have hltT : ∀ (j i : Nat), (sg ++ nu)[j]? = some i → i < H.length := by
    intro j i h
    rcases List.mem_append.1 (List.mem_of_getElem? h) with h1 | h1
    · obtain ⟨j', hj'⟩ := List.mem_iff_getElem?.1 h1
      exact hlt j' i hj'
    · exact (List.getElem?_eq_some_iff.1 (hnu i h1)).1
  have hιT : ∀ (j i : Nat), (sg ++ nu)[j]? = some i → relab (sg ++ nu) 0 ιo ι i = ιo j := fun j i h => by rw [relab_in hnd h, Nat.zero_add]
  have hιN : ∀ i, i ∉ sg ++ nu → relab (sg ++ nu) 0 ιo ι i = ι i := fun i h => relab_not h
  have hHT : ∀ (j i : Nat), (sg ++ nu)[j]? = some i → ∃ s s' : LS, Hout[j]? = some s ∧ (setAll H ((sg ++ nu).zip Sout))[i]? = some s' ∧ MvS (fun j i => (sg ++ nu)[j]? = some i) s s' := by
    intro j i h
    have hjl := (List.getElem?_eq_some_iff.1 h).1
    have h1 : Hout[j]? = some (Hout[j]'(by omega)) := List.getElem?_eq_getElem _
    have h2 : Sout[j]? = some (Sout[j]'(by omega)) := List.getElem?_eq_getElem _
    exact ⟨_, _, h1, (setAll_zip_in hnd hzl h (hltT j i h)).trans h2, hO.get j _ _ h1 h2⟩
  have hHN : ∀ i, i ∉ sg ++ nu → (setAll H ((sg ++ nu).zip Sout))[i]? = H[i]? := fun i h => setAll_get_not _ (by rw [zip_keys hzl]; exact h)
  have hin_or : ∀ i, i ∈ sg ++ nu → ∃ j : Nat, (sg ++ nu)[j]? = some i := fun i h => List.mem_iff_getElem?.1 h
  have hsgT : ∀ (j i : Nat), sg[j]? = some i → (sg ++ nu)[j]? = some i := fun j i h => by rw [List.getElem?_append_left (List.getElem?_eq_some_iff.1 h).1]; exact h
  have hP2 : ∀ b off, Prot Gc ιo Hout b off → Prot G (relab (sg ++ nu) 0 ιo ι) (setAll H ((sg ++ nu).zip Sout)) b off := by
    rintro b off ⟨⟨h1, h2⟩, h3⟩
    refine ⟨h1, fun i c hi e => ?_⟩
    rw [hL] at hi
    by_cases hm : i ∈ sg ++ nu
    · obtain ⟨j, hj⟩ := hin_or i hm
      rw [hιT j i hj] at e
      obtain ⟨n, sz, t, k1, k2⟩ := h3 j c (by rw [← hlen2]; exact (List.getElem?_eq_some_iff.1 hj).1) e
      obtain ⟨s, s', k3, k4, k5⟩ := hHT j i hj
      rw [k1] at k3; injection k3 with k3; subst k3
      cases k5
      exact ⟨n, sz, t, k4, k2⟩
    · rw [hιN i hm] at e
      rw [hHN i hm]
      exact h2 i c hi (fun h => hm (List.mem_append_left _ h)) e
  have hExt : Ext G w ι H w' (relab (sg ++ nu) 0 ιo ι) (setAll H ((sg ++ nu).zip Sout)) := by
    have hcase : ∀ (i : Nat) (s : LS), H[i]? = some s → s ≠ .absent → (∃ j : Nat, sg[j]? = some i) ∨ i ∉ sg ++ nu := by
      intro i s hi hs
      by_cases hm : i ∈ sg ++ nu
      · rcases List.mem_append.1 hm with h | h
        · exact .inl (List.mem_iff_getElem?.1 h)
        · rw [hnu i h] at hi; injection hi with hi; exact absurd hi.symm hs
      · exact .inr hm
    refine ⟨Nat.le_of_eq hL.symm, hxo.heap, fun a v hp hc => ?_, fun i cs t hi => ?_, fun i n sz t hi => ?_, fun i kvs hi => ?_, fun i xs φ hi => ?_⟩
    · obtain ⟨k1, k2⟩ := hxo.prot a v (hP1 _ _ hp) hc
      exact ⟨k1, hP2 _ _ k2⟩
    · rcases hcase i _ hi (by simp) with ⟨j, hj⟩ | hn
      · obtain ⟨s, s', k1, k2, k3, k4⟩ := hsg j i hj
        rw [hi] at k1; injection k1 with k1; subst k1
        cases k4
        obtain ⟨k5, cs2, k6⟩ := hxo.box j _ t k3
        obtain ⟨s, s', k7, k8, k9⟩ := hHT j i (hsgT j i hj)
        rw [k6] at k7; injection k7 with k7; subst k7
        cases k9
        exact ⟨by rw [hιT j i (hsgT j i hj), k5, hιc j i hj], _, k8⟩
      · exact ⟨hιN i hn, cs, by rw [hHN i hn]; exact hi⟩
    · rcases hcase i _ hi (by simp) with ⟨j, hj⟩ | hn
      · obtain ⟨s, s', k1, k2, k3, k4⟩ := hsg j i hj
        rw [hi] at k1; injection k1 with k1; subst k1
        cases k4
        obtain ⟨n', k5, k6, k6b⟩ := hxo.row j _ _ _ k3
        obtain ⟨s, s', k7, k8, k9⟩ := hHT j i (hsgT j i hj)
        rw [k5] at k7; injection k7 with k7; subst k7
        cases k9
        exact ⟨n', k8, k6, fun e => by rw [hιT j i (hsgT j i hj), k6b e, hιc j i hj]⟩
      · exact ⟨n, by rw [hHN i hn]; exact hi, Nat.le_refl _, fun _ => hιN i hn⟩
    · rcases hcase i _ hi (by simp) with ⟨j, hj⟩ | hn
      · obtain ⟨s, s', k1, k2, k3, k4⟩ := hsg j i hj
        rw [hi] at k1; injection k1 with k1; subst k1
        cases k4
        obtain ⟨k5, cs2, k6⟩ := hxo.mp j _ k3
        obtain ⟨s, s', k7, k8, k9⟩ := hHT j i (hsgT j i hj)
        rw [k6] at k7; injection k7 with k7; subst k7
        cases k9
        exact ⟨by rw [hιT j i (hsgT j i hj), k5, hιc j i hj], _, k8⟩
      · exact ⟨hιN i hn, kvs, by rw [hHN i hn]; exact hi⟩
    · rcases hcase i _ hi (by simp) with ⟨j, hj⟩ | hn
      · obtain ⟨s, s', k1, k2, k3, k4⟩ := hsg j i hj
        rw [hi] at k1; injection k1 with k1; subst k1
        cases k4
        obtain ⟨k5, xs2, φ2, k6⟩ := hxo.obj j _ _ k3
        obtain ⟨s, s', k7, k8, k9⟩ := hHT j i (hsgT j i hj)
        rw [k6] at k7; injection k7 with k7; subst k7
        cases k9
        exact ⟨by rw [hιT j i (hsgT j i hj), k5, hιc j i hj], _, _, k8⟩
      · exact ⟨hιN i hn, xs, φ, by rw [hHN i hn]; exact hi⟩
  have hAlike2 : Alike (fun j i => (sg ++ nu)[j]? = some i) ιo Hout (relab (sg ++ nu) 0 ιo ι) (setAll H ((sg ++ nu).zip Sout)) := by
    refine ⟨fun j i h => hιT j i h, fun j i cs t h hb => ?_, fun j i n sz t h hb => ?_, fun j i kvs h hb => ?_, fun j i xs φ h hb => ?_⟩
    · obtain ⟨s, s', k7, k8, k9⟩ := hHT j i h
      rw [hb] at k7; injection k7 with k7; subst k7
      cases k9
      exact ⟨_, k8⟩
    · obtain ⟨s, s', k7, k8, k9⟩ := hHT j i h
      rw [hb] at k7; injection k7 with k7; subst k7
      cases k9
      exact k8
    · obtain ⟨s, s', k7, k8, k9⟩ := hHT j i h
      rw [hb] at k7; injection k7 with k7; subst k7
      cases k9
      exact ⟨_, k8⟩
    · obtain ⟨s, s', k7, k8, k9⟩ := hHT j i h
      rw [hb] at k7; injection k7 with k7; subst k7
      cases k9
      exact ⟨_, _, k8⟩
  have hoth : ∀ i b c, i < H.length → i ∉ sg ++ nu → ι i = some (b, c) → w'.heap[b]? = w.heap[b]? := by
    intro i b c hi hn e
    refine hout.block b (hH.lt i b c hi e) (fun j d hj ej => ?_)
    obtain ⟨i2, hi2, e2⟩ := hιc' j b d ej
    exact hn (List.mem_append_left _ (hH.inj i i2 b c d hi (hlt j i2 hi2) e e2 ▸ List.mem_of_getElem? hi2))
  refine ⟨⟨fun i s hi => ?_, fun i i' b c d hi hi' e e' => ?_, fun i b c hi e => ?_, fun i b c hi e off => ?_, hH.base.keep (fun a v => hExt.prot a v)⟩, hvo.mv (fun a v hp _ => hP2 _ _ hp) hAlike2 hr, hExt, ⟨hout.os, hout.tape, hout.output, hout.size, fun b hb hn => hout.block b hb (fun j d hj ej => ?_), fun i b c hi e => ?_⟩⟩
  · by_cases hm : i ∈ sg ++ nu
    · obtain ⟨j, hj⟩ := hin_or i hm
      obtain ⟨s0, s', k7, k8, k9⟩ := hHT j i hj
      rw [hi] at k8; injection k8 with k8; subst k8
      exact (hHo.rel j s0 k7).mv (fun a v hp _ => hP2 _ _ hp) hAlike2 (hιT j i hj) k9
    · rw [hHN i hm] at hi
      exact LRel.ext hExt (hιN i hm) (fun b c e => hoth i b c (List.getElem?_eq_some_iff.1 hi).1 hm e) (hH.rel i s hi)
  · rw [hL] at hi hi'
    have mixed : ∀ i i' b c d, i < H.length → i ∈ sg ++ nu → i' < H.length → i' ∉ sg ++ nu → relab (sg ++ nu) 0 ιo ι i = some (b, c) → relab (sg ++ nu) 0 ιo ι i' = some (b, d) → False := by
      intro i i' b c d hi hm hi' hm' e e'
      obtain ⟨j, hj⟩ := hin_or i hm
      rw [hιT j i hj] at e
      rw [hιN i' hm'] at e'
      rcases hout.new j b c (by rw [← hlen2]; exact (List.getElem?_eq_some_iff.1 hj).1) e with ⟨h1, h2⟩ | h1
      · obtain ⟨i2, hi2, e2⟩ := hιc' j b c h2
        exact hm' (List.mem_append_left _ (hH.inj i' i2 b d c hi' (hlt j i2 hi2) e' e2 ▸ List.mem_of_getElem? hi2))
      · have := hH.lt i' b d hi' e'; omega
    by_cases hm : i ∈ sg ++ nu <;> by_cases hm' : i' ∈ sg ++ nu
    · obtain ⟨j, hj⟩ := hin_or i hm
      obtain ⟨j', hj'⟩ := hin_or i' hm'
      rw [hιT j i hj] at e
      rw [hιT j' i' hj'] at e'
      have := hHo.inj j j' b c d (by rw [← hlen2]; exact (List.getElem?_eq_some_iff.1 hj).1) (by rw [← hlen2]; exact (List.getElem?_eq_some_iff.1 hj').1) e e'
      subst this
      rw [hj] at hj'; injection hj'
    · exact (mixed i i' b c d hi hm hi' hm' e e').elim
    · exact (mixed i' i b d c hi' hm' hi hm e' e).elim
    · rw [hιN i hm] at e
      rw [hιN i' hm'] at e'
      exact hH.inj i i' b c d hi hi' e e'
  · rw [hL] at hi
    by_cases hm : i ∈ sg ++ nu
    · obtain ⟨j, hj⟩ := hin_or i hm
      rw [hιT j i hj] at e
      exact hHo.lt j b c (by rw [← hlen2]; exact (List.getElem?_eq_some_iff.1 hj).1) e
    · rw [hιN i hm] at e
      exact Nat.lt_of_lt_of_le (hH.lt i b c hi e) hout.size
  · rw [hL] at hi
    by_cases hm : i ∈ sg ++ nu
    · obtain ⟨j, hj⟩ := hin_or i hm
      rw [hιT j i hj] at e
      exact (hHo.good j b c (by rw [← hlen2]; exact (List.getElem?_eq_some_iff.1 hj).1) e off).1
    · rw [hιN i hm] at e
      exact hH.good i b c hi e off
  · obtain ⟨i2, hi2, e2⟩ := hιc' j b d ej
    exact hn i2 d (hlt j i2 hi2) e2
  · by_cases hm : i ∈ sg ++ nu
    · obtain ⟨j, hj⟩ := hin_or i hm
      rw [hιT j i hj] at e
      rcases hout.new j b c (by rw [← hlen2]; exact (List.getElem?_eq_some_iff.1 hj).1) e with ⟨h1, h2⟩ | h1
      · obtain ⟨i2, hi2, e2⟩ := hιc' j b c h2
        have := hsgT j i2 hi2
        rw [hj] at this; injection this with this
        subst this
        exact .inl ⟨hlt j _ hi2, e2⟩
      · exact .inr h1
    · rw [hιN i hm] at e
      exact .inl ⟨hi, e⟩
set_option maxHeartbeats 1000000 in
theorem os_call {x : Operand} {xs : Array Operand} {tys : Array TypeId} {g : FuncId} {first caps as args : List PV} {Hin Hout Sin Sout : List LS} {r r' : PV} {sg nu : List Nat}
    (ho : o.op = .call { callee := .value x, args := xs, argTypes := tys }) (hx : evalO f x = some (.fn g first caps)) (ha : evalL f xs.toList = some as) (hc : FCall P g args Hin r Hout)
    (hin : MvL (fun i j => sg[j]? = some i) (first ++ (as ++ caps)) args) (hS : MvSs (fun i j => sg[j]? = some i) Sin Hin) (hr : Mv (fun j i => (sg ++ nu)[j]? = some i) r r') (hO : MvSs (fun j i => (sg ++ nu)[j]? = some i) Hout Sout)
    (hlen : sg.length = Hin.length) (hlen2 : (sg ++ nu).length = Hout.length) (hnd : (sg ++ nu).Nodup) : OStep P o f (sg.zip Sin ++ nu.map fun i => (i, .absent)) r' ((sg ++ nu).zip Sout) := by
  intro G w ι H a hH hG hf hrd
  -- the operands
  have hfn := evalO_mem hf (x := x) (by rw [ho]; simp [Op.operands, Call.operands]) hx
  obtain ⟨fs, cs, hfe, hfirst, hcaps⟩ := fn_inv hfn
  have has := evalL_rep (a := a) (fun t p ht hp => hf t p (mem_tmps (by rw [ho]; simp only [Op.operands, Call.operands]; exact Array.mem_toList_iff.2 (Array.mem_append.2 (.inr (Array.mem_toList_iff.1 ht))))) hp) ha
  have happ : ∀ {R : PV → Value → Prop} {ps qs : List PV} {vs us : List Value}, VReps R ps vs → VReps R qs us → VReps R (ps ++ qs) (vs ++ us) := by
    intro R ps qs vs us h k
    induction h with
    | nil => exact k
    | cons h _ ih => exact .cons h ih
  have hall := happ hfirst (happ has hcaps)
  have hcore := call_core (X := fun av w K => Calls P g av.toArray w fun e w' => ∃ v, e = .returned v ∧ K v w') (fun av w K K' h hk => Calls.mono h (fun e w' ⟨v, he, hv⟩ => ⟨v, he, hk v w' hv⟩)) (fun G w ι av h1 h2 h3 => Calls.mono (hc.2 G w ι av h1 h2 h3) (fun e w' ⟨v, ι', he, hv⟩ => ⟨v, he, ι', hv⟩)) hin hS hr hO hlen hlen2 hnd G w ι H _ hH hG hall hrd
  unfold OpGoes
  have hrun : (execOp a.eval o).run P w = .ok (.enter g (fs.toList ++ (xs.toList.map a.eval ++ cs.toList)).toArray) w := by
    have he := hc.1 (fs ++ (Array.map a.eval xs ++ cs)) w
    have : (fs.toList ++ (xs.toList.map a.eval ++ cs.toList)).toArray = fs ++ (Array.map a.eval xs ++ cs) := by
      apply Array.ext'; simp
    rw [this]
    simp [execOp, ho, resolve, hfe, Deferred.ofValue, invoke, he]
  rw [hrun]
  exact hcore
end
end Go.Proofs.Pm
end

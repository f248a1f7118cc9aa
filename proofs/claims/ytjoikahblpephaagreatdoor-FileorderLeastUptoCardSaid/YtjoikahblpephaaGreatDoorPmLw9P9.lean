/- A part of the proof of one law: the machine on pure values and the walks of functions. -/
import Derived.Test.YtjoikahblpephaaGreatDoorPmLw9P6
import Derived.Laws.Tables
import Derived.Laws.MakeOwn
import Derived.Great.FillDense
set_option linter.all false
section
namespace Go.Proofs.Pm
open Go
section
variable {P : Program} {T : List TI} {o : Oper} {f : Nat → Option PV}
theorem os_fresh {l c sz : Nat} {e : TypeId} (hc : c ≤ maxLen)
    (hrun : ∀ (a : Act) (w : World) (R : PV → Value → Prop), (∀ v u, R (.s v) u → u = v) → (∀ t p, t ∈ tmpsOf o.op → f t = some p → R p (a.tmps.getD t undef)) → ∃ cells : Array Value, (execOp a.eval o).run P w = .ok (.value (.slice (some ⟨w.heap.size, 0, none⟩) 0 c)) (w.alloc (.cells cells e)) ∧ cells.size = c * sz) :
    OStep P o f [(l, .absent)] (.row [] l) [(l, .row 0 sz e)] := by
  intro G w ι H a hH hG hf hr
  have hl := hr (l, .absent) List.mem_cons_self
  have hll := (List.getElem?_eq_some_iff.1 hl).1
  obtain ⟨cells, hr2, hcs⟩ := hrun a w (VRep (Prot G ι H) w ι H) (fun v u h => s_inv h) hf
  unfold OpGoes
  rw [hr2]
  refine ⟨updI ι l (some (w.heap.size, c)), rel_new hH hG hl (.inr ⟨w.heap.size, c, _, updI_self _ _ _, heap_alloc_new w _, hcs, Nat.zero_le _, hc⟩), ?_, ext_new hl, out_new hll⟩
  have hset : (setAll H [(l, .row 0 sz e)])[l]? = some (.row 0 sz e) := by simp [setAll, hll]
  exact .row (.list sz (fun _ _ => undef) rfl (Nat.zero_le _) hc (fun x hx => by cases hx) (fun h0 => by omega) (fun i j x p hx => by simp at hx)) ⟨0, sz, e, hset, Nat.le_refl _⟩ (fun _ _ _ => .inr ⟨w.heap.size, c, updI_self _ _ _, rfl⟩)
theorem os_buildSlice0 {t e : TypeId} {ti te : TI} {l : Nat} (hT : TOk P T) (ho : o.op = .buildSlice t 0 #[]) (ht : lkT T t = some ti) (hk : ti.ok = true) (hd : ti.k = .slice e) (hE : lkT T e = some te) (hke : te.ok = true) :
    OStep P o f [(l, .absent)] (.row [] l) [(l, .row 0 te.size e)] := by
  refine os_fresh (c := 0) (Nat.zero_le _) (fun a w R _ _ => ?_)
  obtain ⟨i, d, z, g1, g2, g3, g4, g5, g6, g7, g8, g9, g10, g11⟩ := tiOf_ok (hT.at_ hE) hke
  refine ⟨Array.map (fun x => default) (Array.range 0), ?_, by simp⟩
  simp [execOp, ho, Instr.buildSlice, run_underlying (kind_slice hT ht hk hd), sizeOf, typeInfo, g1, Instr.fill, newRow]
theorem os_makeSlice {t e : TypeId} {x y : Operand} {ti te : TI} {l c : Nat} {k1 k2 : IntKind} (hT : TOk P T) (ho : o.op = .makeSlice t x y) (ex : evalO f x = some (.s (.int k1 0))) (ey : evalO f y = some (.s (.int k2 c))) (ht : lkT T t = some ti) (hk : ti.ok = true) (hd : ti.k = .slice e) (hE : lkT T e = some te) (hke : te.ok = true)
    (hb : te.bytes * c ≤ 281474976710656) (hc : c ≤ 9223372036854775807) : OStep P o f [(l, .absent)] (.row [] l) [(l, .row 0 te.size e)] := by
  refine os_fresh (c := c) (by simpa [maxLen] using hc) (fun a w R hs hf => ?_)
  obtain ⟨i, d, z, g1, g2, g3, g4, g5, g6, g7, g8, g9, g10, g11⟩ := tiOf_ok (hT.at_ hE) hke
  have ex' : a.eval x = .int k1 0 := by
    cases x with
    | tmp t => exact hs _ _ (hf t _ (mem_tmps (by rw [ho]; simp [Op.operands])) ex)
    | const v => simp only [evalO, Option.some.injEq, PV.s.injEq] at ex; exact ex
    | func g => simp [evalO] at ex
    | global g => simp [evalO] at ex
  have ey' : a.eval y = .int k2 c := by
    cases y with
    | tmp t => exact hs _ _ (hf t _ (mem_tmps (by rw [ho]; simp [Op.operands])) ey)
    | const v => simp only [evalO, Option.some.injEq, PV.s.injEq] at ey; exact ey
    | func g => simp [evalO] at ey
    | global g => simp [evalO] at ey
  have hb2 : (i.bytes : Int) * (c : Int) ≤ 281474976710656 := by
    have h : ((i.bytes * c : Nat) : Int) ≤ 281474976710656 := by rw [← g7]; omega
    rwa [Int.natCast_mul] at h
  have hr := run_make (P := P) w t e i z (kind_slice hT ht hk hd) g1 g3 k1 k2 0 (c : Int) (Int.le_refl _) (by omega) hb2 (by omega)
  rw [g6]
  refine ⟨madeCells z.cells (((c : Int)).toNat * i.size), ?_, by rw [size_madeCells, Int.toNat_natCast]⟩
  simp only [execOp, ho, ex', ey', Sem.run_bind, hr, Result.andThen_ok]
  rfl
def buildO (fs : List (Nat × Nat × Nat)) : List PV → List Nat → List PV → Option (List PV)
  | bs, [], [] => some bs
  | bs, i :: is, p :: ps => match fs[i]? with
    | some (off, sz, _) => match cellsPV p with
      | some cs => bif Nat.beq cs.length sz then match spliceO bs off cs with
        | some r => buildO fs r is ps
        | none => none else none
      | none => none
    | none => none
  | _, _, _ => none
theorem buildO_sim {G : Good} {w : World} {ι : Intp} {H : List LS} {fs : List (Nat × Nat × Nat)} {place : Nat → Option (Nat × Nat)} (hpl : ∀ i off sz tf, fs[i]? = some (off, sz, tf) → place i = some (off, sz)) :
    ∀ {is : List Nat} {ps : List PV} {us : List Value} {bs r : List PV} {cur : Array Value}, VReps (VRep G w ι H) ps us → buildO fs bs is ps = some r → bs.length = cur.size → (∀ u ∈ cur, u.oneCell' = true) → (∀ (j : Nat) (x : PV) (u : Value), bs[j]? = some x → cur[j]? = some u → VRep G w ι H x u) →
      ∃ cells, Instr.fill place cur (is.zip us) = some cells ∧ r.length = cells.size ∧ (∀ u ∈ cells, u.oneCell' = true) ∧ ∀ (j : Nat) (x : PV) (u : Value), r[j]? = some x → cells[j]? = some u → VRep G w ι H x u
  | [], ps, us, bs, r, cur, hv, hb, h1, h2, h3 => by
    cases hv with
    | nil => simp only [buildO, Option.some.injEq] at hb; subst hb; exact ⟨cur, by simp [Instr.fill], h1, h2, h3⟩
    | cons h hr => simp [buildO] at hb
  | i :: is, ps, us, bs, r, cur, hv, hb, h1, h2, h3 => by
    cases hv with
    | nil => simp [buildO] at hb
    | @cons p ps u us hp hr =>
      simp only [buildO] at hb
      split at hb <;> try cases hb
      rename_i off sz tf hf
      split at hb <;> try cases hb
      rename_i cs hc
      cases hz : Nat.beq cs.length sz with
      | false => rw [hz] at hb; cases hb
      | true =>
        rw [hz] at hb
        simp only [cond_true] at hb
        split at hb <;> try cases hb
        rename_i bs' hs
        have hz := Nat.eq_of_beq_eq_true hz
        obtain ⟨k1, k2, k3⟩ := cells_rep hp hc
        obtain ⟨q1, q2⟩ := spliceO_spec hs
        obtain ⟨f1, f2⟩ := Great.foldl_set off u.cells.toList 0 cur
        have hcur : ∀ k, ((u.cells.zipIdx).foldl (fun cs (x : Value × Nat) => cs.setIfInBounds (off + x.2) x.1) cur)[k]? = if off ≤ k ∧ k < off + cs.length then u.cells[k - off]? else cur[k]? := by
          intro k
          have := f2 k
          simp only [Nat.add_zero, Array.length_toList] at this
          rw [← Array.foldl_toList, Array.toList_zipIdx, this]
          by_cases hk : off ≤ k ∧ k < off + cs.length
          · rw [if_pos hk, if_pos ⟨hk.1, by omega, by omega⟩]
            simp
          · rw [if_neg hk, if_neg (by omega)]
        have hsz : ((u.cells.zipIdx).foldl (fun cs (x : Value × Nat) => cs.setIfInBounds (off + x.2) x.1) cur).size = cur.size := by
          rw [← Array.foldl_toList, Array.toList_zipIdx, f1]
        obtain ⟨cells, m1, m2, m3, m4⟩ := buildO_sim hpl (cur := (u.cells.zipIdx).foldl (fun cs (x : Value × Nat) => cs.setIfInBounds (off + x.2) x.1) cur) hr hb (by rw [hsz, ← h1, q2]; simp; omega) (fun v hv => by
            obtain ⟨k, hk, rfl⟩ := Array.getElem_of_mem hv
            have e := hcur k
            rw [Array.getElem?_eq_getElem hk] at e
            by_cases hin : off ≤ k ∧ k < off + cs.length
            · rw [if_pos hin] at e; exact k2 _ (Array.mem_of_getElem? e.symm)
            · rw [if_neg hin] at e; exact h2 _ (Array.mem_of_getElem? e.symm)) (fun j x v hx hv => by
            rw [hcur j] at hv
            rw [q2] at hx
            have htl : (bs.take off).length = off := by rw [List.length_take]; omega
            by_cases hin : off ≤ j ∧ j < off + cs.length
            · rw [if_pos hin] at hv
              rw [List.append_assoc, List.getElem?_append_right (by omega), htl, List.getElem?_append_left (by omega)] at hx
              exact k3 _ x v hx hv
            · rw [if_neg hin] at hv
              refine h3 j x v ?_ hv
              by_cases hlt : j < off
              · rw [List.append_assoc, List.getElem?_append_left (by omega), List.getElem?_take, if_pos hlt] at hx; exact hx
              · rw [List.getElem?_append_right (by simp; omega), List.getElem?_drop] at hx
                rw [← hx]; congr 1; simp; omega)
        refine ⟨cells, ?_, m2, m3, m4⟩
        simp only [List.zip_cons_cons, Instr.fill, hpl i off sz tf hf]
        have hn : ¬ ((decide (u.cells.size ≠ sz) || decide (off + u.cells.size > cur.size)) = true) := by simp; omega
        rw [if_neg hn]
        exact m1
theorem os_build {t : TypeId} {parts : Array (Nat × Operand)} {is : List Nat} {xs : List Operand} {ps r bs : List PV} {ti : TI} {fs : List (Nat × Nat × Nat)} (hT : TOk P T) (ho : o.op = .build t parts) (h1 : parts.toList.map (·.1) = is) (h2 : parts.toList.map (·.2) = xs) (he : evalL f xs = some ps)
    (ht : lkT T t = some ti) (hk : ti.ok = true) (hd : ti.k = .struct fs) (hz : fs.all (fun x => !Nat.beq x.2.1 0) = true) (h3 : ti.zero.all (·.oneCell') = true) (h4 : ti.zero.map .s = bs) (hb : buildO fs bs is ps = some r) : OStep P o f [] (.agg r) [] := by
  intro G w ι H a hH hG hf hr
  obtain ⟨i, d, z, g1, g2, g3, g4, g5, g6, g7, g8, g9, g10, g11⟩ := tiOf_ok (hT.at_ ht) hk
  have hops : o.op.operands.toList = xs := by rw [ho, ← h2]; simp [Op.operands]
  have hreps := evalL_rep (fun t p ht hp => hf t p (mem_tmps (by rw [hops]; exact ht)) hp) he
  obtain ⟨fields, rfl, hfs⟩ : ∃ fields, d = .struct fields ∧ fs = fields.toList.map fun f => (f.offset, P.cellsOf f.type, f.type) := by
    rw [hd] at g4
    cases d <;> simp only [tkOf] at g4 <;> try cases g4
    exact ⟨_, rfl, rfl⟩
  have hpl0 : ∀ (l : List Field), (∀ x ∈ l, !Nat.beq (P.cellsOf x.type) 0) → l.mapM (fun f => (P.info? f.type).map fun i => (f.offset, i.size)) = some (l.map fun f => (f.offset, P.cellsOf f.type)) := by
    intro l
    induction l with
    | nil => intro _; rfl
    | cons x r ih =>
      intro h
      obtain ⟨ix, k1, k2⟩ := cellsOf_pos (P := P) rfl (by simpa using h x List.mem_cons_self)
      rw [List.mapM_cons, ih (fun y hy => h y (List.mem_cons_of_mem _ hy))]
      simp [k1, Program.cellsOf]
  have hpl := hpl0 fields.toList (fun x hx => by
    rw [List.all_eq_true] at hz
    have := hz (x.offset, P.cellsOf x.type, x.type) (by rw [hfs]; exact List.mem_map.2 ⟨x, hx, rfl⟩)
    simpa using this)
  obtain ⟨cells, m1, m2, m3, m4⟩ := buildO_sim (G := Prot G ι H) (w := w) (ι := ι) (H := H) (fs := fs) (place := ((fields.toList.map fun f => (f.offset, P.cellsOf f.type)).toArray[·]?)) (fun i off sz tf hi => by
      rw [hfs] at hi
      simp only [List.getElem?_map, Option.map_eq_some_iff] at hi
      obtain ⟨x, hx, e⟩ := hi
      simp only [Prod.mk.injEq] at e
      simp only [List.getElem?_toArray, List.getElem?_map, hx, Option.map_some, e.1, e.2.1]) (cur := z.cells) hreps hb (by rw [← h4, List.length_map, g8]; simp) (fun u hu => by
      rw [List.all_eq_true] at h3
      exact h3 u (by rw [g8]; exact Array.mem_toList_iff.2 hu)) (fun j x u hx hu => by
      rw [← h4, List.getElem?_map, g8] at hx
      simp only [Array.getElem?_toList, hu, Option.map_some, Option.some.injEq] at hx
      subst hx
      exact .s u)
  have hrun : (execOp a.eval o).run P w = .ok (.value (.agg cells)) w := by
    have hbt : P.built t ((parts.map fun (i, x) => (i, a.eval x)).toList) = some cells := by
      unfold Program.built
      simp only [g1, g2, g3, hpl]
      rw [← m1, Array.toList_map]
      congr 1
      rw [← h1, ← h2, List.map_map]
      generalize parts.toList = l
      induction l with
      | nil => rfl
      | cons y r ih => simp [ih]
    have := run_build (P := P) w t (parts.map fun (i, x) => (i, a.eval x)) cells hbt
    simp only [execOp, ho, Sem.run_bind, this, Result.andThen_ok]
    rfl
  unfold OpGoes
  rw [hrun]
  exact ⟨ι, hH, .agg m2 m3 m4, Ext.refl _ _ _ _, Out.refl _ _ _⟩
end
section
variable {P : Program} {T : List TI} {N : Nat} {ops : Array Oper} {draw : Bool} {acc : List (List Nat × List Nat)} {rest : List Oper} {K : St → Prop} {env : List (Nat × PV)} {H H' : List LS} {d : Nat} {ty : TypeId} {pos : String} {after : Array Edge} {gd : Option (Nat × Bool)}
theorem ev_build {t : TypeId} {parts : Array (Nat × Operand)} {is : List Nat} {xs : List Operand} {ps r bs : List PV} {ti : TI} {fs : List (Nat × Nat × Nat)} (hT : TOk P T) (hg : gEval ops env gd = some true) (hd : Nat.blt d N = true) (h1 : parts.toList.map (·.1) = is) (h2 : parts.toList.map (·.2) = xs) (e0 : evalL (look env) xs = some ps)
    (h3 : lkT T t = some ti) (h4 : ti.ok = true) (h5 : ti.k = .struct fs) (h6 : fs.all (fun x => !Nat.beq x.2.1 0) = true) (h7 : ti.zero.all (·.oneCell') = true) (h8 : ti.zero.map .s = bs) (h9 : buildO fs bs is ps = some r) (h : Ev P N ops draw (([], []) :: acc) rest ⟨(d, .agg r) :: env, H⟩ K) : Ev P N ops draw acc (⟨some d, .build t parts, ty, pos, after, gd⟩ :: rest) ⟨env, H⟩ K :=
  ev_core (pads := 0) rfl hg hd (os_build hT rfl h1 h2 e0 h3 h4 h5 h6 h7 h8 h9) (fun q hq => by cases hq) (fun q hq => by cases hq) (by simp [setAll, pad]) h
theorem ev_bs0 {t e : TypeId} {ti te : TI} {l : Nat} (hT : TOk P T) (hg : gEval ops env gd = some true) (hd : Nat.blt d N = true) (h1 : lkT T t = some ti) (h2 : ti.ok = true) (h3 : ti.k = .slice e) (h4 : lkT T e = some te) (h5 : te.ok = true) (h6 : Snoc H (.row 0 te.size e) l H') (h : Ev P N ops draw (([l], [l]) :: acc) rest ⟨(d, .row [] l) :: env, H'⟩ K) : Ev P N ops draw acc (⟨some d, .buildSlice t 0 #[], ty, pos, after, gd⟩ :: rest) ⟨env, H⟩ K :=
  ev_core (pads := 1) rfl hg hd (os_buildSlice0 hT rfl h1 h2 h3 h4 h5 (l := l)) (fun q hq => by rw [List.mem_singleton] at hq; subst hq; exact (snoc_facts h6).1) (fun q hq => by rw [List.mem_singleton] at hq; subst hq; simp) (snoc_facts h6).2 h
theorem ev_makeSlice {t e : TypeId} {x y : Operand} {ti te : TI} {l c : Nat} {k1 k2 : IntKind} (hT : TOk P T) (hg : gEval ops env gd = some true) (hd : Nat.blt d N = true) (e0 : evalO (look env) x = some (.s (.int k1 0))) (e1 : evalO (look env) y = some (.s (.int k2 c))) (h1 : lkT T t = some ti) (h2 : ti.ok = true) (h3 : ti.k = .slice e) (h4 : lkT T e = some te) (h5 : te.ok = true)
    (h6 : Snoc H (.row 0 te.size e) l H') (h7 : te.bytes * c ≤ 281474976710656) (h8 : c ≤ 9223372036854775807) (h : Ev P N ops draw (([l], [l]) :: acc) rest ⟨(d, .row [] l) :: env, H'⟩ K) : Ev P N ops draw acc (⟨some d, .makeSlice t x y, ty, pos, after, gd⟩ :: rest) ⟨env, H⟩ K :=
  ev_core (pads := 1) rfl hg hd (os_makeSlice hT rfl e0 e1 h1 h2 h3 h4 h5 h7 h8 (l := l)) (fun q hq => by rw [List.mem_singleton] at hq; subst hq; exact (snoc_facts h6).1) (fun q hq => by rw [List.mem_singleton] at hq; subst hq; simp) (snoc_facts h6).2 h
end
end Go.Proofs.Pm
end

/- A part of the proof of one law: the machine on pure values and the walks of functions. -/
import Derived.Test.YtjoikahblpephaaGreatDoorPmLw9P24
set_option linter.all false
section
namespace Go.Proofs.Pm
open Go
theorem HRel.grow {G : Good} {w w' : World} {ι : Intp} {H : List LS} (h : HRel G w ι H) (h4 : w.heap.size ≤ w'.heap.size) (hblk : ∀ b, b < w.heap.size → w'.heap[b]? = w.heap[b]?) : HRel G w' ι H ∧ Ext G w ι H w' ι H := by
  have hext : Ext G w ι H w' ι H := ⟨Nat.le_refl _, h4, fun a v hp hc => ⟨by rw [World.cell?_of_block (hblk _ (World.block_lt_of_cell? w a hc))]; exact hc, hp⟩, fun i cs t hi => ⟨rfl, cs, hi⟩, fun i n sz t hi => ⟨n, hi, Nat.le_refl _, fun _ => rfl⟩, fun i kvs hi => ⟨rfl, kvs, hi⟩, fun i xs φ hi => ⟨rfl, xs, φ, hi⟩⟩
  exact ⟨⟨fun i s hi => (h.rel i s hi).ext hext rfl (fun b c hb => hblk b (h.lt i b c (List.getElem?_eq_some_iff.1 hi).1 hb)), h.inj, fun i b c hi hb => Nat.lt_of_lt_of_le (h.lt i b c hi hb) h4, h.good, h.base.keep (fun a v => hext.prot a v)⟩, hext⟩
inductive Frz (reads : List (Nat × LS)) : PV → PV → Prop
  | same {p : PV} (h : closedB p = true) : Frz reads p p
  | ptr {i : Nat} {cs : List PV} {t : TypeId} (hm : (i, LS.box cs t) ∈ reads) (hc : closedLB cs = true) : Frz reads (.ptr i 0) (.eptr cs)
  | sl {i n : Nat} {o : List B} {t : TypeId} (hm : (i, LS.box (strS o) t) ∈ reads) (hn : n = o.length) : Frz reads (.sl i n) (.list (strL o))
  | fn1 {f : FuncId} {c c' : PV} (h : Frz reads c c') : Frz reads (.fn f [] [c]) (.fn f [] [c'])
theorem prot0 {G : Good} {b off : Nat} (h : G b off) : Prot G (fun _ => none) [] b off := ⟨h, fun i c hi => absurd hi (Nat.not_lt_zero i)⟩
theorem frz_rep {G : Good} {w : World} {ι : Intp} {H : List LS} {reads : List (Nat × LS)} (hH : HRel G w ι H) (hrd : ∀ q ∈ reads, H[q.1]? = some q.2) {p p1 : PV} (hf : Frz reads p p1) : ∀ {v : Value}, VRep (Prot G ι H) w ι H p v → VRep (Prot G (fun _ => none) []) w (fun _ => none) [] p1 v := by
  have hkeep : ∀ {p : PV} {v : Value}, closedB p = true → VRep (Prot G ι H) w ι H p v → VRep (Prot G (fun _ => none) []) w (fun _ => none) [] p v := fun {p v} hc h =>
    (h.closed hc).keep (fun a v hp hc => ⟨hc, prot0 hp.1⟩) (fun _ _ _ h => by simp at h) (fun _ _ _ _ h => by simp at h) (fun _ _ h => by simp at h) (fun _ _ _ h => by simp at h)
  induction hf with
  | same h => intro v hv; exact hkeep h hv
  | @ptr i cs t hm hc =>
    intro v hv
    obtain ⟨b, c, cs', t', rfl, hi, _⟩ := ptr_inv hv
    obtain ⟨b2, c2, vs, e1, e2, e3, e4, e5⟩ := hH.rel i _ (hrd _ hm)
    rw [hi] at e1
    injection e1 with e1
    injection e1 with e1 _
    subst e1
    have hil : i < H.length := (List.getElem?_eq_some_iff.1 (hrd _ hm)).1
    have hget : ∀ (j : Nat) (p : PV), cs[j]? = some p → j < cs.length ∧ vs[j]? = some ((vs[j]?).getD undef) := fun j p hp => by
      have h1 := (List.getElem?_eq_some_iff.1 hp).1
      have h2 : vs[j]? = some vs[j] := Array.getElem?_eq_getElem (by omega)
      exact ⟨h1, by rw [h2]; rfl⟩
    refine .eptr ⟨b, 0, none⟩ (fun j => (vs[j]?).getD undef) (fun j p hp => ?_) (fun j p hp => ?_)
    · obtain ⟨h1, h2⟩ := hget j p hp
      refine ⟨?_, e4 j _ h1 h2, prot0 (hH.good i b c hil hi _)⟩
      rw [add_at, cell_of_row w b j vs t (0, 0) e2]
      exact h2
    · obtain ⟨h1, h2⟩ := hget j p hp
      exact hkeep (closed_get hc p (List.mem_of_getElem? hp)) (e5 j p _ hp h2)
  | @sl i n o t hm hn =>
    intro v hv
    obtain ⟨b, c, cs', t', m, rfl, hi, _, hnm, hmm⟩ := sl_inv hv
    obtain ⟨b2, c2, vs, e1, e2, e3, e4, e5⟩ := hH.rel i _ (hrd _ hm)
    rw [hi] at e1
    injection e1 with e1
    injection e1 with e1 _
    subst e1 hn
    rw [strS_length] at e3
    have hil : i < H.length := (List.getElem?_eq_some_iff.1 (hrd _ hm)).1
    have hget : ∀ (j : Nat), j < o.length → vs[j]? = some ((vs[j]?).getD undef) := fun j hj => by
      have h2 : vs[j]? = some vs[j] := Array.getElem?_eq_getElem (by omega)
      rw [h2]; rfl
    have hxs : ∀ (k : Nat) (x : List PV), (strL o)[k]? = some x → k < o.length ∧ x = [.s (.string (getS o k))] := fun k x hx => by
      have h1 : k < o.length := by have := (List.getElem?_eq_some_iff.1 hx).1; rwa [strL_length] at this
      rw [strL_get (getS_get h1)] at hx
      exact ⟨h1, (Option.some.inj hx).symm⟩
    refine .list 1 (fun k _ => (vs[k]?).getD undef) (by rw [strL_length]) hnm hmm (strL_len _) (fun h0 => ⟨_, rfl, fun k j x hx hj => ?_⟩) (fun k j x p hx hp => ?_)
    · obtain ⟨h1, _⟩ := hxs k x hx
      have hj0 : j = 0 := by omega
      subst hj0
      rw [Nat.mul_one, Nat.add_zero, add_at, cell_of_row w b k vs t (0, 0) e2]
      refine ⟨hget k h1, e4 k _ (by rw [strS_length]; exact h1) (hget k h1), prot0 (hH.good i b c hil hi _)⟩
    · obtain ⟨h1, rfl⟩ := hxs k x hx
      cases j with
      | succ j => simp at hp
      | zero =>
        simp only [List.getElem?_cons_zero, Option.some.injEq] at hp
        subst hp
        have := s_inv (e5 k _ _ (strS_get h1) (hget k h1))
        rw [this]
        exact .s _
  | @fn1 f c c' h ih =>
    intro v hv
    obtain ⟨fs, cs, rfl, h1, h2⟩ := fn_inv hv
    have hfs : fs = #[] := by have := h1.length; simpa using this.symm
    subst hfs
    have hcs : ∃ u, cs = #[u] := by
      have := h2.length
      match cs, this with
      | ⟨[u]⟩, _ => exact ⟨u, rfl⟩
    obtain ⟨u, rfl⟩ := hcs
    have hu := h2.get 0 c u rfl rfl
    refine .fn rfl rfl (fun j x v hx => by simp at hx) (fun j x v hx hv => ?_)
    cases j with
    | succ j => simp at hx
    | zero =>
      simp only [List.getElem?_cons_zero, Option.some.injEq] at hx
      have hv' : u = v := by simpa using hv
      subst hx hv'
      exact ih hu
inductive Frzs (reads : List (Nat × LS)) : List PV → List PV → Prop
  | nil : Frzs reads [] []
  | cons {p p1 : PV} {ps ps1 : List PV} (h : Frz reads p p1) (hr : Frzs reads ps ps1) : Frzs reads (p :: ps) (p1 :: ps1)
def Scal (r : PV) : Prop := ∀ {G : Good} {w : World} {ι : Intp} {H : List LS} {G2 : Good} {w2 : World} {ι2 : Intp} {H2 : List LS} {v : Value}, VRep G w ι H r v → VRep G2 w2 ι2 H2 r v
theorem scal_s (v : Value) : Scal (.s v) := fun h => by rw [s_inv h]; exact .s _
theorem scal_tup {xs : List PV} (hx : ∀ x ∈ xs, Scal x) : Scal (.tup xs) := fun h => by
  obtain ⟨vs, rfl, hl, hr⟩ := tup_inv h
  exact .tup hl (fun j x v hj hv => hx x (List.mem_of_getElem? hj) (hr j x v hj hv))
theorem os_callF {P : Program} {o : Oper} {f : Nat → Option PV} {x : Operand} {xs : Array Operand} {tys : Array TypeId} {g : FuncId} {caps as0 args : List PV} {r : PV} {reads : List (Nat × LS)}
    (ho : o.op = .call { callee := .value x, args := xs, argTypes := tys }) (hx : evalO f x = some (.fn g [] caps)) (ha : evalL f xs.toList = some as0) (hc : FCall P g args [] r []) (hf : Frzs reads (as0 ++ caps) args) (hr : Scal r) : OStep P o f reads r [] := by
  intro G w ι H a hH hG hfv hrd
  have hfn := evalO_mem hfv (x := x) (by rw [ho]; simp [Op.operands, Call.operands]) hx
  obtain ⟨fs, cs, hfe, hfirst, hcaps⟩ := fn_inv hfn
  have hfs : fs = #[] := by have := hfirst.length; simpa using this.symm
  subst hfs
  have has := evalL_rep (a := a) (fun t p ht hp => hfv t p (mem_tmps (by rw [ho]; simp only [Op.operands, Call.operands]; exact Array.mem_toList_iff.2 (Array.mem_append.2 (.inr (Array.mem_toList_iff.1 ht))))) hp) ha
  have happ : ∀ {R : PV → Value → Prop} {ps qs : List PV} {vs us : List Value}, VReps R ps vs → VReps R qs us → VReps R (ps ++ qs) (vs ++ us) := by
    intro R ps qs vs us h k
    induction h with
    | nil => exact k
    | cons h _ ih => exact .cons h ih
  have hall := happ has hcaps
  have hfrz : ∀ {ps ps1 : List PV} {vs : List Value}, Frzs reads ps ps1 → VReps (VRep (Prot G ι H) w ι H) ps vs → VReps (VRep (Prot G (fun _ => none) []) w (fun _ => none) []) ps1 vs := by
    intro ps ps1 vs h
    induction h generalizing vs with
    | nil => intro hv; cases hv; exact .nil
    | cons h _ ih => intro hv; cases hv with | cons h1 h2 => exact .cons (frz_rep hH hrd h h1) (ih h2)
  have hargs := hfrz hf hall
  have hcall := hc.2 G w (fun _ => none) _ ⟨fun i s hi => (by simp at hi), fun i j b c d hi => (by cases hi), fun i b c hi => (by cases hi), fun i b c hi => (by cases hi), hH.base.keep (fun a v hp hc => ⟨hc, prot0 hp.1⟩)⟩ hG hargs
  unfold OpGoes
  have hrun : (execOp a.eval o).run P w = .ok (.enter g (xs.toList.map a.eval ++ cs.toList).toArray) w := by
    have he := hc.1 (#[] ++ (Array.map a.eval xs ++ cs)) w
    have : (xs.toList.map a.eval ++ cs.toList).toArray = #[] ++ (Array.map a.eval xs ++ cs) := by
      apply Array.ext'; simp
    rw [this]
    simp at he
    simp [execOp, ho, resolve, hfe, Deferred.ofValue, invoke, he]
  rw [hrun]
  refine Calls.mono hcall ?_
  rintro e w' ⟨v, ι', rfl, _, hv, _, hout⟩
  have hblk : ∀ b, b < w.heap.size → w'.heap[b]? = w.heap[b]? := fun b hb => hout.block b hb (fun i c hi => by cases hi)
  obtain ⟨k1, k2⟩ := hH.grow hout.size hblk
  exact ⟨v, rfl, ι, k1, hr hv, k2, ⟨hout.os, hout.tape, hout.output, hout.size, fun b hb _ => hblk b hb, fun i b c hi he => .inl ⟨hi, he⟩⟩⟩
section
variable {P : Program} {T : List TI} {N : Nat} {ops : Array Oper} {draw : Bool} {acc : List (List Nat × List Nat)} {rest : List Oper} {K : St → Prop} {env : List (Nat × PV)} {H H' : List LS} {d : Nat} {ty : TypeId} {pos : String} {after : Array Edge} {gd : Option (Nat × Bool)}
theorem ev_callF {x : Operand} {xs : Array Operand} {tys : Array TypeId} {g : FuncId} {caps as0 args : List PV} {r : PV} (reads : List (Nat × LS)) (hg : gEval ops env gd = some true) (hd : Nat.blt d N = true) (e0 : evalO (look env) x = some (.fn g [] caps)) (e1 : evalL (look env) xs.toList = some as0) (hc : FCall P g args [] r []) (hf : Frzs reads (as0 ++ caps) args) (hr : Scal r) (hrd : ∀ q ∈ reads, H[q.1]? = some q.2)
    (h : Ev P N ops draw ((reads.map (·.1), []) :: acc) rest ⟨(d, r) :: env, H⟩ K) : Ev P N ops draw acc (⟨some d, .call { callee := .value x, args := xs, argTypes := tys }, ty, pos, after, gd⟩ :: rest) ⟨env, H⟩ K :=
  ev_core (pads := 0) rfl hg hd (os_callF rfl e0 e1 hc hf hr) (fun q hq => by simpa [pad] using hrd q hq) (fun q hq => by cases hq) (by simp [setAll, pad]) h
end
end Go.Proofs.Pm
end

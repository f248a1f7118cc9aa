/- A part of the proof of one law: the machine on pure values and the walks of functions. -/
import Derived.Test.YtjoikahblpephaaGreatDoorPmLw9P0
import Derived.OrdersIn
import Derived.RangeFuncLeaves
import Derived.RangeFuncRecord
set_option linter.all false
section
namespace Go.Proofs.Pm
open Go
structure St where
  env : List (Nat × PV)
  H : List LS
def look : List (Nat × PV) → Nat → Option PV
  | [], _ => none
  | (k, p) :: r, t => bif Nat.beq k t then some p else look r t
def put (env : List (Nat × PV)) (d : Option Nat) (p : PV) : List (Nat × PV) :=
  match d with
  | some t => (t, p) :: env
  | none => env
def setAll : List LS → List (Nat × LS) → List LS
  | H, [] => H
  | H, q :: r => setAll (H.set q.1 q.2) r
def pad (H : List LS) (n : Nat) : List LS := H ++ List.replicate n .absent
def dstOk (N : Nat) : Option Nat → Bool
  | some t => Nat.blt t N
  | none => true
theorem look_put_same (env : List (Nat × PV)) (t : Nat) (p : PV) : look (put env (some t) p) t = some p := by simp [put, look]
theorem look_put_ne (env : List (Nat × PV)) {d : Option Nat} {t : Nat} (p : PV) (h : d ≠ some t) : look (put env d p) t = look env t := by
  cases d with
  | none => rfl
  | some u =>
    have : Nat.beq u t = false := by
      cases hb : Nat.beq u t with
      | false => rfl
      | true => exact absurd (by rw [Nat.eq_of_beq_eq_true hb]) h
    simp [put, look, this]
theorem setAll_length (H : List LS) (ws : List (Nat × LS)) : (setAll H ws).length = H.length := by
  induction ws generalizing H with
  | nil => rfl
  | cons q r ih => simp [setAll, ih]
theorem setAll_get_not (H : List LS) {ws : List (Nat × LS)} {x : Nat} (h : x ∉ ws.map (·.1)) : (setAll H ws)[x]? = H[x]? := by
  induction ws generalizing H with
  | nil => rfl
  | cons q r ih =>
    simp only [List.map_cons, List.mem_cons, not_or] at h
    rw [setAll, ih _ h.2, List.getElem?_set_ne (Ne.symm h.1)]
theorem setAll_get_congr {H H' : List LS} {ws : List (Nat × LS)} {x : Nat} (hl : x < H.length) (hl' : x < H'.length) (h : x ∈ ws.map (·.1) ∨ H[x]? = H'[x]?) : (setAll H ws)[x]? = (setAll H' ws)[x]? := by
  induction ws generalizing H H' with
  | nil => simpa [setAll] using h
  | cons q r ih =>
    rw [setAll, setAll]
    refine ih (by simpa using hl) (by simpa using hl') ?_
    by_cases hq : q.1 = x
    · subst hq
      right
      rw [List.getElem?_set_self hl, List.getElem?_set_self hl']
    · rcases h with h | h
      · simp only [List.map_cons, List.mem_cons] at h
        rcases h with h | h
        · exact absurd h.symm hq
        · exact .inl h
      · right
        rw [List.getElem?_set_ne hq, List.getElem?_set_ne hq, h]
theorem setAll_pad (H : List LS) (n : Nat) : ∀ (ws : List (Nat × LS)), (∀ q ∈ ws, q.1 < H.length) → setAll (pad H n) ws = pad (setAll H ws) n := by
  intro ws
  induction ws generalizing H with
  | nil => intro _; rfl
  | cons q r ih =>
    intro h
    have hq := h q List.mem_cons_self
    rw [setAll, setAll, ← ih (H.set q.1 q.2) (fun x hx => by simpa using h x (List.mem_cons_of_mem _ hx))]
    congr 1
    simp [pad, List.set_append, hq]
theorem pad_pad (H : List LS) (m n : Nat) : pad (pad H m) n = pad H (m + n) := by simp [pad, List.append_assoc, List.replicate_append_replicate]
theorem pad_length (H : List LS) (n : Nat) : (pad H n).length = H.length + n := by simp [pad]
theorem pad_get {H : List LS} {x : Nat} {s : LS} (h : H[x]? = some s) (n : Nat) : (pad H n)[x]? = some s := by
  rw [pad, List.getElem?_append_left (List.getElem?_eq_some_iff.1 h).1, h]
def EnvR (G : Good) (w : World) (ι : Intp) (H : List LS) (f : Nat → Option PV) (a : Act) : Prop :=
  ∀ t p, f t = some p → ∃ v, a.tmps[t]? = some v ∧ VRep (Prot G ι H) w ι H p v
structure Ctx where
  G : Good
  w : World
  ι : Intp
  H : List LS
  N : Nat
  rd : Option Nat := none
def fenceOf : Option Nat → Fence
  | none => Fence.wide
  | some l => Fence.wide.inRound l
theorem fenceOf_fn (rd : Option Nat) (f : FuncId) : (fenceOf rd).fn f := by cases rd <;> trivial
theorem fenceOf_depth (rd : Option Nat) : (fenceOf rd).depth = none := by cases rd <;> rfl
theorem fenceOf_calls {rd : Option Nat} {P : Program} {f : FuncId} {args : Array Value} {w : World} {R : Ending → World → Prop} (h : Calls P f args w R) (n : Nat) : CallsIn (fenceOf rd) n P f args w R := by
  have h := (callsIn_wide (n := n)).2 h
  cases rd with
  | none => exact h
  | some l => exact h
theorem fenceOf_round_in {rd : Option Nat} {P : Program} {l : Nat} {f : FuncId} {tmps : Array Value} {assign body : Code} {w : World} {R : Ending → World → Prop} (h : RoundIn Fence.wide 0 P l f tmps assign body w R) : RoundIn (fenceOf rd) 0 P l f tmps assign body w R := by
  cases rd with
  | none => exact h
  | some l => exact h
def mark (D : Nat) : Deferred := { target := .collected D, args := #[] }
def DRel (k0 k : Nat) (w : World) (ι : Intp) (ds : List Deferred) : Prop := ∃ l : List Nat, ds = l.map mark ∧ l.Nodup ∧ ∀ D ∈ l, k0 ≤ D ∧ w.heap[D]? = some (.deferred (some [])) ∧ ∀ i c, i < k → ι i ≠ some (D, c)
theorem DRel.nil {k0 k : Nat} {w : World} {ι : Intp} : DRel k0 k w ι [] := ⟨[], rfl, List.nodup_nil, fun D hD => by cases hD⟩
theorem DRel.out {k0 k k' : Nat} {w w' : World} {ι ι' : Intp} {ds : List Deferred} (h : DRel k0 k w ι ds) (ho : Out w ι k w' ι' k') : DRel k0 k' w' ι' ds := by
  obtain ⟨l, h1, h2, h3⟩ := h
  refine ⟨l, h1, h2, fun D hD => ?_⟩
  obtain ⟨g1, g2, g3⟩ := h3 D hD
  have hlt := (Array.getElem?_eq_some_iff.1 g2).1
  refine ⟨g1, (ho.block D hlt g3).trans g2, fun i c hi e => ?_⟩
  rcases ho.new i D c hi e with ⟨e1, e2⟩ | e1
  · exact g3 i c e1 e2
  · omega
theorem DRel.mono {k0 k k' : Nat} {w : World} {ι ι' : Intp} {ds : List Deferred} (h : DRel k0 k w ι ds) (hk : ∀ i b c, i < k' → ι' i = some (b, c) → ∃ j, j < k ∧ ι j = some (b, c)) : DRel k0 k' w ι' ds := by
  obtain ⟨l, h1, h2, h3⟩ := h
  refine ⟨l, h1, h2, fun D hD => ?_⟩
  obtain ⟨g1, g2, g3⟩ := h3 D hD
  refine ⟨g1, g2, fun i c hi e => ?_⟩
  obtain ⟨j, hj, e2⟩ := hk i D c hi e
  exact g3 j c hj e2
def SRel (Γ : Ctx) (f : Nat → Option PV) (H : List LS) (a : Act) (w : World) : Prop :=
  ∃ ι, HRel Γ.G w ι H ∧ EnvR Γ.G w ι H f a ∧ (∀ b off, w.heap.size ≤ b → Γ.G b off) ∧ a.tmps.size = Γ.N ∧ DRel Γ.w.heap.size H.length w ι a.defers ∧
    Ext Γ.G Γ.w Γ.ι Γ.H w ι H ∧ Out Γ.w Γ.ι Γ.H.length w ι H.length
def OpGoes (P : Program) (o : Oper) (a : Act) (w : World) (K : Value → World → Prop) : Prop :=
  match (execOp a.eval o).run P w with
  | .ok (.value v) w' => K v w'
  | .ok .skip w' => K undef w'
  | .ok (.enter f args) w' => Calls P f args w' fun e w'' => ∃ v, e = .returned v ∧ K v w''
  | .ok (.round l f tmps assign body) w' => RoundIn Fence.wide 0 P l f tmps assign body w' fun e w'' => ∃ v, e = .returned v ∧ K v w''
  | _ => False
theorem OpGoes.noDefer {P : Program} {o : Oper} {a : Act} {w : World} {K : Value → World → Prop} (h : OpGoes P o a w K) : ∀ c, o.op ≠ .defer c := by
  intro c hc
  unfold OpGoes at h
  simp only [execOp, hc, Sem.run_bind] at h
  cases hr : (resolve a.eval c o.type).run P w with
  | ok d w1 => rw [hr] at h; simp [Result.andThen, Sem.run_pure] at h
  | halt e w1 => rw [hr] at h; simp [Result.andThen] at h
theorem OpGoes.wp {P : Program} {o : Oper} {a : Act} {w : World} {K : Value → World → Prop} {next : Act → World → Prop} {Q : Exit → Act → World → Prop}
    (rd : Option Nat) (h : OpGoes P o a w K) (hk : ∀ v w', K v w' → next (a.put o.dst v) w') : o.wpIn (fenceOf rd) 0 P a w next Q := by
  refine ⟨fun f _ => fenceOf_fn rd f, ?_⟩
  rw [Oper.semAt_eq _ _ _ h.noDefer]
  unfold OpGoes at h
  generalize (execOp a.eval o).run P w = r at h
  have hn : (fenceOf rd).depth.isSome = true → 1 ≤ 0 := fun e => by rw [fenceOf_depth] at e; cases e
  cases r with
  | ok n w' =>
    cases n <;> simp only at h <;> first
      | exact hk _ _ h
      | exact ⟨hn, CallsIn.mono (fenceOf_calls h _) (fun e w'' he => by obtain ⟨v, rfl, hv⟩ := he; exact hk _ _ hv)⟩
      | exact ⟨hn, RoundIn.mono (fenceOf_round_in h) (fun e w'' he => by obtain ⟨v, rfl, hv⟩ := he; exact hk _ _ hv)⟩
      | exact h.elim
  | halt x w' => exact h.elim
def tmpsOf (o : Op) : List Nat := o.operands.toList.filterMap fun x => match x with
  | .tmp t => some t
  | _ => none
def OStep (P : Program) (o : Oper) (f : Nat → Option PV) (reads : List (Nat × LS)) (r : PV) (writes : List (Nat × LS)) : Prop :=
  ∀ (G : Good) (w : World) (ι : Intp) (H : List LS) (a : Act), HRel G w ι H → (∀ b off, w.heap.size ≤ b → G b off) →
    (∀ t p, t ∈ tmpsOf o.op → f t = some p → VRep (Prot G ι H) w ι H p (a.tmps.getD t undef)) → (∀ q ∈ reads, H[q.1]? = some q.2) →
    OpGoes P o a w fun v w' => ∃ ι', HRel G w' ι' (setAll H writes) ∧ VRep (Prot G ι' (setAll H writes)) w' ι' (setAll H writes) r v ∧ Ext G w ι H w' ι' (setAll H writes) ∧ Out w ι H.length w' ι' H.length
theorem OStep.congr {P : Program} {o : Oper} {f g : Nat → Option PV} {reads writes : List (Nat × LS)} {r : PV} (h : OStep P o f reads r writes) (hfg : ∀ t ∈ tmpsOf o.op, g t = f t) : OStep P o g reads r writes :=
  fun G w ι H a h1 h2 h3 h4 => h G w ι H a h1 h2 (fun t p ht hp => h3 t p ht ((hfg t ht).trans hp)) h4
def putF (f : Nat → Option PV) (d : Option Nat) (p : PV) : Nat → Option PV := fun t => if d = some t then some p else f t
theorem look_put (env : List (Nat × PV)) (d : Option Nat) (p : PV) (t : Nat) : look (put env d p) t = putF (look env) d p t := by
  unfold putF
  split
  · rename_i h; rw [h, look_put_same]
  · rename_i h; exact look_put_ne _ _ h
theorem SRel.congr {Γ : Ctx} {f g : Nat → Option PV} {H : List LS} {a : Act} {w : World} (h : SRel Γ f H a w) (hfg : ∀ t p, g t = some p → f t = some p) : SRel Γ g H a w := by
  obtain ⟨ι, h1, h2, h3⟩ := h
  exact ⟨ι, h1, fun t p hp => h2 t p (hfg t p hp), h3⟩
theorem getD_of {a : Act} {t : Nat} {v : Value} (h : a.tmps[t]? = some v) : a.tmps.getD t undef = v := by
  rw [Array.getD_eq_getD_getElem?, h]; rfl
theorem SRel.step {P : Program} {Γ : Ctx} {o : Oper} {f : Nat → Option PV} {H : List LS} {a : Act} {w : World} {reads writes : List (Nat × LS)} {r : PV} {Q : Exit → Act → World → Prop} {K : Act → World → Prop}
    (h : SRel Γ f H a w) (hd : dstOk Γ.N o.dst = true) (ho : OStep P o f reads r writes) (hr : ∀ q ∈ reads, H[q.1]? = some q.2) (hk : ∀ a' w', SRel Γ (putF f o.dst r) (setAll H writes) a' w' → K a' w') : o.wpIn (fenceOf Γ.rd) 0 P a w K Q := by
  obtain ⟨ι, h1, h2, h3, h4, h5, h6, h7⟩ := h
  refine (ho Γ.G w ι H a h1 h3 (fun t p _ hp => ?_) hr).wp Γ.rd (fun v w' hv => hk _ _ ?_)
  · obtain ⟨v, hv, hr⟩ := h2 t p hp
    rwa [getD_of hv]
  · obtain ⟨ι', g1, g2, g3, g4⟩ := hv
    refine ⟨ι', g1, fun t p hp => ?_, fun b off hb => h3 b off (Nat.le_trans g3.heap hb), ?_, ?_, h6.trans g3, ?_⟩
    · unfold putF at hp
      split at hp
      · rename_i hdt
        injection hp with hp
        subst hp
        rw [hdt] at hd ⊢
        refine ⟨v, ?_, g2⟩
        simp only [dstOk, Nat.blt_eq] at hd
        simp [Act.put, h4, hd]
      · rename_i hdt
        obtain ⟨u, hu, hur⟩ := h2 t p hp
        refine ⟨u, ?_, hur.ext g3⟩
        cases hdo : o.dst with
        | none => exact hu
        | some d =>
          have : d ≠ t := fun e => hdt (by rw [hdo, e])
          simpa [Act.put, Array.getElem?_setIfInBounds_ne this] using hu
    · cases o.dst <;> simp [Act.put, h4]
    · have e : (a.put o.dst v).defers = a.defers := by cases o.dst <;> rfl
      rw [e, setAll_length]
      exact h5.out g4
    · rw [setAll_length]
      exact h7.trans g4
theorem SRel.skip {Γ : Ctx} {f : Nat → Option PV} {H : List LS} {a : Act} {w : World} {d : Option Nat} (h : SRel Γ f H a w) (hd : dstOk Γ.N d = true) : SRel Γ (putF f d (.s undef)) H (a.put d undef) w := by
  obtain ⟨ι, h1, h2, h3, h4, h5, h6⟩ := h
  refine ⟨ι, h1, fun t p hp => ?_, h3, ?_, ?_, h6⟩
  · unfold putF at hp
    split at hp
    · rename_i hdt
      injection hp with hp
      subst hp
      rw [hdt] at hd ⊢
      simp only [dstOk, Nat.blt_eq] at hd
      exact ⟨undef, by simp [Act.put, h4, hd], .s _⟩
    · rename_i hdt
      obtain ⟨u, hu, hur⟩ := h2 t p hp
      refine ⟨u, ?_, hur⟩
      cases d with
      | none => exact hu
      | some d =>
        have : d ≠ t := fun e => hdt (by rw [e])
        simpa [Act.put, Array.getElem?_setIfInBounds_ne this] using hu
  · cases d <;> simp [Act.put, h4]
  · have e : (a.put d undef).defers = a.defers := by cases d <;> rfl
    rw [e]; exact h5
theorem prot_pad {G : Good} {ι : Intp} {H : List LS} {n : Nat} {b off : Nat} : Prot G (fun i => if i < H.length then ι i else none) (pad H n) b off ↔ Prot G ι H b off := by
  unfold Prot
  refine and_congr Iff.rfl ⟨fun h i c hi he => ?_, fun h i c hi he => ?_⟩
  · have := h i c (by rw [pad_length]; omega) (by simp [hi, he])
    rwa [pad, List.getElem?_append_left hi] at this
  · by_cases hi2 : i < H.length
    · have := h i c hi2 (by simpa [hi2] using he)
      rwa [pad, List.getElem?_append_left hi2]
    · simp [hi2] at he
theorem vrep_pad {G : Good} {w : World} {ι : Intp} {H : List LS} {p : PV} {v : Value} (n : Nat) (h : VRep (Prot G ι H) w ι H p v) : VRep (Prot G (fun i => if i < H.length then ι i else none) (pad H n)) w (fun i => if i < H.length then ι i else none) (pad H n) p v := by
  have hlt : ∀ {i : Nat} {s : LS}, H[i]? = some s → i < H.length := fun h => (List.getElem?_eq_some_iff.1 h).1
  refine h.keep (fun a v hp hc => ⟨hc, prot_pad.2 hp⟩) (fun i cs t hi => ⟨by simp [hlt hi], cs, pad_get hi n⟩) (fun i m sz t hi => ⟨m, pad_get hi n, Nat.le_refl _, fun _ => by simp [hlt hi]⟩) (fun i kvs hi => ⟨by simp [hlt hi], kvs, pad_get hi n⟩) (fun i xs φ hi => ⟨by simp [hlt hi], xs, φ, pad_get hi n⟩)
theorem SRel.pad {Γ : Ctx} {f : Nat → Option PV} {H : List LS} {a : Act} {w : World} (h : SRel Γ f H a w) (n : Nat) : SRel Γ f (pad H n) a w := by
  obtain ⟨ι, h1, h2, h3, h4, h5, h6, h7⟩ := h
  refine ⟨fun i => if i < H.length then ι i else none, ⟨fun i s hi => ?_, fun i j b c d hi hj e1 e2 => ?_, fun i b c hi e => ?_, fun i b c hi e => ?_, h1.base.keep (fun a v hp hc => ⟨hc, prot_pad.2 hp⟩)⟩, fun t p hp => ?_, h3, h4, ?_, ⟨?_, h6.heap, fun a v hp hc => ?_, fun i cs t hi => ?_, fun i m sz t hi => ?_, fun i kvs hi => ?_, fun i xs φ hi => ?_⟩, ⟨h7.os, h7.tape, h7.output, h7.size, h7.block, fun i b c hi e => ?_⟩⟩
  · by_cases hl : i < H.length
    · rw [Pm.pad, List.getElem?_append_left hl] at hi
      have hr := h1.rel i s hi
      cases s with
      | box cs t =>
        obtain ⟨b, c, vs, e1, e2, e3, e4, e5⟩ := hr
        exact ⟨b, c, vs, by simp [hl, e1], e2, e3, e4, fun j x v hx hv => vrep_pad n (e5 j x v hx hv)⟩
      | row m sz t =>
        rcases hr with ⟨e1, e2⟩ | ⟨b, c, cur, e1, e2⟩
        · exact .inl ⟨by simp [e1], e2⟩
        · exact .inr ⟨b, c, cur, by simp [hl, e1], e2⟩
      | arr xs sz t =>
        obtain ⟨b, c, vs, e1, e2, e3, e4, e5, e6⟩ := hr
        exact ⟨b, c, vs, by simp [hl, e1], e2, e3, e4, e5, fun k j x p v hx hp hv => vrep_pad n (e6 k j x p v hx hp hv)⟩
      | mp kvs =>
        obtain ⟨b, c, es, clock, e1, e2, e3, e4⟩ := hr
        refine ⟨b, c, es, clock, by simp [hl, e1], e2, e3, fun j q e hq he => ⟨?_, vrep_pad n (e4 j q e hq he).2⟩⟩
        exact (e4 j q e hq he).1.keep (fun a v hp hc => ⟨hc, prot_pad.2 hp⟩) (fun _ _ _ h => by simp at h) (fun _ _ _ _ h => by simp at h) (fun _ _ h => by simp at h) (fun _ _ _ h => by simp at h)
      | obj xs φ =>
        obtain ⟨b, c, vs, e1, e2, e3, e4, e5⟩ := hr
        exact ⟨b, c, vs, by simp [hl, e1], e2, e3, e4, fun j x v hx hv => vrep_pad n (e5 j x v hx hv)⟩
      | absent => have : ι i = none := hr; show (if i < H.length then ι i else none) = none; simp [this]
    · rw [Pm.pad, List.getElem?_append_right (by omega)] at hi
      have hs : s = .absent := by
        rw [List.getElem?_replicate] at hi
        split at hi
        · injection hi with hi; exact hi.symm
        · cases hi
      subst hs
      show (if i < H.length then ι i else none) = none
      simp [hl]
  · by_cases hi2 : i < H.length <;> by_cases hj2 : j < H.length <;> simp [hi2, hj2] at e1 e2
    exact h1.inj i j b c d hi2 hj2 e1 e2
  · by_cases hi2 : i < H.length <;> simp [hi2] at e
    exact h1.lt i b c hi2 e
  · by_cases hi2 : i < H.length <;> simp [hi2] at e
    exact h1.good i b c hi2 e
  · obtain ⟨v, hv, hr⟩ := h2 t p hp
    exact ⟨v, hv, vrep_pad n hr⟩
  · refine h5.mono (fun i b c hi e => ?_)
    by_cases hi2 : i < H.length <;> simp [hi2] at e
    exact ⟨i, hi2, e⟩
  · rw [pad_length]; exact Nat.le_trans h6.len (by omega)
  · obtain ⟨k1, k2⟩ := h6.prot a v hp hc
    exact ⟨k1, prot_pad.2 k2⟩
  · obtain ⟨k1, cs', k2⟩ := h6.box i cs t hi
    exact ⟨by have := (List.getElem?_eq_some_iff.1 k2).1; simp [this, k1], cs', pad_get k2 n⟩
  · obtain ⟨m', k1, k2, k3⟩ := h6.row i m sz t hi
    exact ⟨m', pad_get k1 n, k2, fun e => by have := (List.getElem?_eq_some_iff.1 k1).1; simp [this, k3 e]⟩
  · obtain ⟨k1, cs', k2⟩ := h6.mp i kvs hi
    exact ⟨by have := (List.getElem?_eq_some_iff.1 k2).1; simp [this, k1], cs', pad_get k2 n⟩
  · obtain ⟨k1, xs', φ', k2⟩ := h6.obj i xs φ hi
    exact ⟨by have := (List.getElem?_eq_some_iff.1 k2).1; simp [this, k1], xs', φ', pad_get k2 n⟩
  · by_cases hi2 : i < H.length <;> simp [hi2] at e
    exact h7.new i b c hi2 e
end Go.Proofs.Pm
end
section
namespace Go.Proofs.Pm
open Go
structure Stp where
  perf : Bool
  r : PV
  pads : Nat
  reads : List (Nat × LS)
  writes : List (Nat × LS)
def gv : Value → Bool → Bool
  | .bool g, want => g == want
  | _, _ => false
def gb : Value → Option Bool
  | .bool g => some g
  | _ => none
def guardIs (ops : Array Oper) (o : Oper) (f : Nat → Option PV) (b : Bool) : Prop :=
  match o.guard with
  | none => b = true
  | some (j, want) => ∃ d v, ((ops[j]?).bind (·.dst)) = some d ∧ f d = some (.s v) ∧ gv v want = b
inductive Chain (P : Program) (N : Nat) (ops : Array Oper) : Nat → St → List Stp → St → Prop
  | nil {i st} : Chain P N ops i st [] st
  | perf {i st o s l st'} (ho : ops[i]? = some o) (hd : dstOk N o.dst = true) (hg : guardIs ops o (look st.env) true) (hp : s.perf = true) (hs : OStep P o (look st.env) s.reads s.r s.writes)
      (hr : ∀ q ∈ s.reads, (pad st.H s.pads)[q.1]? = some q.2) (hw : ∀ q ∈ s.writes, q.1 ∈ s.reads.map (·.1)) (h : Chain P N ops (i + 1) ⟨put st.env o.dst s.r, setAll (pad st.H s.pads) s.writes⟩ l st') : Chain P N ops i st (s :: l) st'
  | skip {i st o s l st'} (ho : ops[i]? = some o) (hd : dstOk N o.dst = true) (hg : guardIs ops o (look st.env) false) (hp : s = ⟨false, .s undef, 0, [], []⟩) (h : Chain P N ops (i + 1) ⟨put st.env o.dst (.s undef), st.H⟩ l st') : Chain P N ops i st (s :: l) st'
theorem wanted_of {ops : Array Oper} {o : Oper} {f : Nat → Option PV} {b : Bool} (h : guardIs ops o f b) {Γ : Ctx} {H : List LS} {a : Act} {w : World} (hs : SRel Γ f H a w) : Region.wanted o (yielded ops a.tmps) = b := by
  unfold guardIs at h
  unfold Region.wanted
  split at h
  · rename_i hg; rw [hg]; exact h.symm
  · rename_i j want hg
    obtain ⟨d, g, h1, h2, h3⟩ := h
    obtain ⟨ι, _, he, _⟩ := hs
    obtain ⟨v, hv, hr⟩ := he d _ h2
    cases hr
    rw [hg]
    simp only
    have e1 : yielded ops a.tmps j = gb g := by
      unfold yielded
      rw [h1, Option.bind_some, hv]
      cases g <;> rfl
    rw [e1, ← h3]
    cases g <;> first
      | rfl
      | (rename_i x; cases x <;> cases want <;> rfl)
theorem SRel.put_ {Γ : Ctx} {env : List (Nat × PV)} {d : Option Nat} {p : PV} {H : List LS} {a : Act} {w : World} (h : SRel Γ (putF (look env) d p) H a w) : SRel Γ (look (put env d p)) H a w :=
  h.congr (fun t q hq => by rw [← look_put]; exact hq)
theorem region_text {P : Program} {Γ : Ctx} {ops : Array Oper} {Q : Exit → Act → World → Prop} {i : Nat} {st st' : St} {l : List Stp} (hc : Chain P Γ.N ops i st l st') :
    ∀ {a : Act} {w : World}, SRel Γ (look st.env) st.H a w → (∀ a w, SRel Γ (look st'.env) st'.H a w → Q .normal a w) → wpOpsIn (fenceOf Γ.rd) 0 P ops Q (List.range' i l.length) a w := by
  induction hc with
  | nil => intro a w h hQ; exact hQ a w h
  | @perf i st o s l st' ho hd hg hp hs hr hw h ih =>
    intro a w hst hQ
    simp only [List.length_cons, List.range'_succ]
    rw [wpOpsIn_cons]
    unfold wpOpIn
    rw [ho]
    simp only
    rw [if_pos (wanted_of hg hst)]
    exact (hst.pad s.pads).step hd hs hr (fun a' w' h' => ih h'.put_ hQ)
  | @skip i st o s l st' ho hd hg hp h ih =>
    intro a w hst hQ
    simp only [List.length_cons, List.range'_succ]
    rw [wpOpsIn_cons]
    unfold wpOpIn
    rw [ho]
    simp only
    rw [if_neg (by rw [wanted_of hg hst]; decide)]
    exact ⟨fun f _ => fenceOf_fn _ f, ih (hst.skip hd).put_ hQ⟩
def afterOf (o : Oper) : List Nat := (o.after.toList.filter (Region.binds .any)).map (·.on)
def guardSlot (ops : Array Oper) (o : Oper) : List Nat :=
  match o.guard with
  | some (j, _) => ((ops[j]?).bind (·.dst)).toList
  | none => []
def usesOf (ops : Array Oper) (o : Oper) : List Nat := tmpsOf o.op ++ guardSlot ops o
def befAux : List Oper → List (List Nat) → List (List Nat)
  | [], acc => acc
  | o :: r, acc => befAux r (acc ++ [(afterOf o ++ (afterOf o).flatMap (fun j => acc.getD j [])).eraseDups])
def befOf (ops : Array Oper) : List (List Nat) := befAux ops.toList []
def common (xs ys : List Nat) : Bool := xs.any fun x => ys.contains x
def clash (ops : Array Oper) (x y : Oper) (kx ky : List Nat × List Nat) : Bool :=
  (match x.dst with
   | some d => (usesOf ops y).contains d || y.dst == some d
   | none => false) ||
  (match y.dst with
   | some d => (usesOf ops x).contains d
   | none => false) || common kx.2 ky.1 || common ky.2 kx.1
def okDraw (ops : Array Oper) (ks : List (List Nat × List Nat)) : Bool :=
  let b := befOf ops
  (List.range ops.size).all fun y => match ops[y]? with
    | some oy => (afterOf oy).all (fun j => decide (j < y)) && (List.range y).all fun x => match ops[x]? with
      | some ox => !clash ops ox oy (ks.getD x ([], [])) (ks.getD y ([], [])) || (b.getD y []).contains x
      | none => false
    | none => false
def keysOf (l : List Stp) : List (List Nat × List Nat) := l.map fun s => (s.reads.map (·.1), s.writes.map (·.1))
def dstOf (ops : Array Oper) (i : Nat) : Option Nat := (ops[i]?).bind (·.dst)
def app (ops : Array Oper) (i : Nat) (s : Stp) (st : St) : St := ⟨put st.env (dstOf ops i) s.r, setAll st.H s.writes⟩
def foldD (ops : Array Oper) (b : Nat → Bool) : Nat → List Stp → St → St
  | _, [], st => st
  | i, s :: l, st => foldD ops b (i + 1) l (bif b i then app ops i s st else st)
def pads : List Stp → Nat
  | [] => 0
  | s :: l => s.pads + pads l
section fold
variable {ops : Array Oper}
theorem foldD_length (b : Nat → Bool) : ∀ (l : List Stp) (i : Nat) (st : St), (foldD ops b i l st).H.length = st.H.length
  | [], _, _ => rfl
  | s :: l, i, st => by
    rw [foldD, foldD_length b l (i + 1)]
    cases b i <;> simp [app, setAll_length]
theorem fold_env_congr {b b' : Nat → Bool} {t : Nat} : ∀ (l : List Stp) (i : Nat) {st st2 : St}, (∀ k, i ≤ k → k < i + l.length → dstOf ops k = some t → b k = b' k) → look st.env t = look st2.env t →
    look (foldD ops b i l st).env t = look (foldD ops b' i l st2).env t
  | [], _, _, _, _, h => h
  | s :: l, i, st, st2, hb, h => by
    rw [foldD, foldD]
    refine fold_env_congr l (i + 1) (fun k h1 h2 hk => hb k (by omega) (by simp; omega) hk) ?_
    by_cases hd : dstOf ops i = some t
    · rw [hb i (Nat.le_refl _) (by simp) hd]
      cases b' i
      · exact h
      · simp [app, hd, look_put_same]
    · have e1 : look (bif b i then app ops i s st else st).env t = look st.env t := by
        cases b i
        · rfl
        · exact look_put_ne _ _ hd
      have e2 : look (bif b' i then app ops i s st2 else st2).env t = look st2.env t := by
        cases b' i
        · rfl
        · exact look_put_ne _ _ hd
      rw [e1, e2, h]
theorem fold_H_congr {b b' : Nat → Bool} {x : Nat} : ∀ (l : List Stp) (i : Nat) {st st2 : St}, x < st.H.length → x < st2.H.length → (∀ k s, l[k]? = some s → x ∈ s.writes.map (·.1) → b (i + k) = b' (i + k)) → st.H[x]? = st2.H[x]? →
    (foldD ops b i l st).H[x]? = (foldD ops b' i l st2).H[x]?
  | [], _, _, _, _, _, _, h => h
  | s :: l, i, st, st2, hx, hx2, hb, h => by
    rw [foldD, foldD]
    have hlen : ∀ (c : Bool) (st : St), x < st.H.length → x < (bif c then app ops i s st else st).H.length := by
      intro c st hx; cases c <;> simpa [app, setAll_length] using hx
    refine fold_H_congr l (i + 1) (hlen _ _ hx) (hlen _ _ hx2) (fun k s' hk hm => by have := hb (k + 1) s' (by simpa using hk) hm; rwa [show i + (k + 1) = i + 1 + k by omega] at this) ?_
    by_cases hd : x ∈ s.writes.map (·.1)
    · have h0 := hb 0 s rfl hd
      simp only [Nat.add_zero] at h0
      rw [h0]
      cases b' i
      · exact h
      · exact setAll_get_congr hx hx2 (.inl hd)
    · have e : ∀ (c : Bool) (st : St), (bif c then app ops i s st else st).H[x]? = st.H[x]? := by
        intro c st; cases c
        · rfl
        · exact setAll_get_not _ hd
      rw [e, e, h]
def up (b : Nat → Bool) (i : Nat) : Nat → Bool := fun j => bif Nat.beq j i then true else b j
theorem up_self (b : Nat → Bool) (i : Nat) : up b i i = true := by simp [up]
theorem up_ne {b : Nat → Bool} {i j : Nat} (h : j ≠ i) : up b i j = b j := by
  have : Nat.beq j i = false := by
    cases hb : Nat.beq j i with
    | false => rfl
    | true => exact absurd (Nat.eq_of_beq_eq_true hb) h
  simp [up, this]
theorem fold_env_up {b : Nat → Bool} {m t : Nat} {s0 : Stp} : ∀ (l : List Stp) (i : Nat) (st : St), i ≤ m → l[m - i]? = some s0 → b m = false → (∀ k, m < k → k < i + l.length → b k = true → ∀ d, dstOf ops m = some d → dstOf ops k ≠ some d) →
    look (put (foldD ops b i l st).env (dstOf ops m) s0.r) t = look (foldD ops (up b m) i l st).env t
  | [], i, st, hi, hs, _, _ => by simp at hs
  | s :: l, i, st, hi, hs, hbm, hk => by
    rw [foldD, foldD]
    rcases Nat.lt_or_ge i m with h | h
    · rw [up_ne (by omega : i ≠ m)]
      exact fold_env_up l (i + 1) _ h (by have : m - i = (m - (i + 1)) + 1 := by omega
                                          rw [this] at hs; simpa using hs) hbm (fun k h1 h2 => hk k h1 (by simp; omega))
    · obtain rfl : i = m := by omega
      simp only [Nat.sub_self, List.getElem?_cons_zero, Option.some.injEq] at hs
      subst hs
      rw [hbm, up_self]
      simp only [cond_false, cond_true]
      by_cases hd : dstOf ops i = some t
      · rw [hd, look_put_same]
        have : look (foldD ops (up b i) (i + 1) l (app ops i s st)).env t = look (foldD ops (fun _ => false) (i + 1) l (app ops i s st)).env t := by
          refine fold_env_congr l (i + 1) (fun k h1 h2 hkt => ?_) rfl
          rw [up_ne (by omega)]
          cases hb : b k with
          | false => rfl
          | true => exact absurd hkt (hk k (by omega) (by simp; omega) hb t hd)
        rw [this]
        have h0 : ∀ (l : List Stp) (i : Nat) (st : St), foldD ops (fun _ => false) i l st = st := by
          intro l
          induction l with
          | nil => intro i st; rfl
          | cons s l ih => intro i st; rw [foldD]; exact ih _ _
        rw [h0, app, hd, look_put_same]
      · rw [look_put_ne _ _ hd]
        refine fold_env_congr l (i + 1) (fun k h1 h2 _ => (up_ne (by omega)).symm) ?_
        exact (look_put_ne _ _ hd).symm
theorem fold_H_up {b : Nat → Bool} {m x : Nat} {s0 : Stp} : ∀ (l : List Stp) (i : Nat) (st : St), x < st.H.length → i ≤ m → l[m - i]? = some s0 → b m = false → (∀ k s, l[k]? = some s → m < i + k → b (i + k) = true → x ∈ s0.writes.map (·.1) → x ∉ s.writes.map (·.1)) →
    (setAll (foldD ops b i l st).H s0.writes)[x]? = (foldD ops (up b m) i l st).H[x]?
  | [], i, st, _, hi, hs, _, _ => by simp at hs
  | s :: l, i, st, hx, hi, hs, hbm, hk => by
    rw [foldD, foldD]
    rcases Nat.lt_or_ge i m with h | h
    · rw [up_ne (by omega : i ≠ m)]
      refine fold_H_up l (i + 1) _ (by cases b i <;> simpa [app, setAll_length] using hx) h (by have : m - i = (m - (i + 1)) + 1 := by omega
                                                                                                rw [this] at hs; simpa using hs) hbm (fun k s' h1 h2 h3 => ?_)
      have := hk (k + 1) s' (by simpa using h1) (by omega)
      rw [show i + (k + 1) = i + 1 + k by omega] at this
      exact this h3
    · obtain rfl : i = m := by omega
      simp only [Nat.sub_self, List.getElem?_cons_zero, Option.some.injEq] at hs
      subst hs
      rw [hbm, up_self]
      simp only [cond_false, cond_true]
      have hl1 : x < (foldD ops b (i + 1) l st).H.length := by rw [foldD_length]; exact hx
      by_cases hd : x ∈ s.writes.map (·.1)
      · have h1 : (foldD ops (up b i) (i + 1) l (app ops i s st)).H[x]? = (foldD ops (fun _ => false) (i + 1) l (app ops i s st)).H[x]? := by
          refine fold_H_congr l (i + 1) (by simpa [app, setAll_length] using hx) (by simpa [app, setAll_length] using hx) (fun k s' h1 h2 => ?_) rfl
          rw [up_ne (by omega)]
          cases hb : b (i + 1 + k) with
          | false => rfl
          | true => exact absurd h2 (hk (k + 1) s' (by simpa using h1) (by omega) (by rw [show i + (k + 1) = i + 1 + k by omega]; exact hb) hd)
        have h0 : ∀ (l : List Stp) (i : Nat) (st : St), foldD ops (fun _ => false) i l st = st := by
          intro l
          induction l with
          | nil => intro i st; rfl
          | cons s l ih => intro i st; rw [foldD]; exact ih _ _
        rw [h1, h0, app]
        exact setAll_get_congr hl1 hx (.inl hd)
      · rw [setAll_get_not _ hd]
        refine fold_H_congr l (i + 1) hx (by simpa [app, setAll_length] using hx) (fun k s' h1 h2 => (up_ne (by omega)).symm) ?_
        exact (setAll_get_not _ hd).symm
end fold
theorem reads_lt {H : List LS} {n : Nat} {reads : List (Nat × LS)} (hr : ∀ q ∈ reads, (pad H n)[q.1]? = some q.2) {x : Nat} (hx : x ∈ reads.map (·.1)) : x < (pad H n).length := by
  obtain ⟨q, hq, rfl⟩ := List.mem_map.1 hx
  exact (List.getElem?_eq_some_iff.1 (hr q hq)).1
theorem chain_at {P : Program} {N : Nat} {ops : Array Oper} {i : Nat} {st st' : St} {l : List Stp} (hc : Chain P N ops i st l st') : ∀ m s, l[m]? = some s →
    ∃ o, ops[i + m]? = some o ∧ dstOk N o.dst = true ∧ guardIs ops o (look (foldD ops (fun k => Nat.blt k (i + m)) i l ⟨st.env, pad st.H (pads l)⟩).env) s.perf ∧
      (s.perf = true → OStep P o (look (foldD ops (fun k => Nat.blt k (i + m)) i l ⟨st.env, pad st.H (pads l)⟩).env) s.reads s.r s.writes) ∧
      (s.perf = false → s = ⟨false, .s undef, 0, [], []⟩) ∧
      (∀ q ∈ s.reads, (foldD ops (fun k => Nat.blt k (i + m)) i l ⟨st.env, pad st.H (pads l)⟩).H[q.1]? = some q.2) ∧ (∀ q ∈ s.writes, q.1 ∈ s.reads.map (·.1)) := by
  have h0 : ∀ (l : List Stp) (i j : Nat) (st : St), j ≤ i → foldD ops (fun k => Nat.blt k j) i l st = st := by
    intro l
    induction l with
    | nil => intro i j st _; rfl
    | cons s l ih =>
      intro i j st hj
      have : Nat.blt i j = false := by
        cases hb : Nat.blt i j with
        | false => rfl
        | true => simp at hb; omega
      rw [foldD, this]
      exact ih _ _ _ (by omega)
  induction hc with
  | nil => intro m s h; simp at h
  | @perf i st o s l st' ho hd hg hp hs hr hw h ih =>
    intro m s' hm
    cases m with
    | zero =>
      simp only [List.getElem?_cons_zero, Option.some.injEq] at hm
      subst hm
      rw [h0 _ _ _ _ (by omega)]
      refine ⟨o, ho, hd, by rw [hp]; exact hg, fun _ => hs, fun e => (by rw [hp] at e; cases e), fun q hq => ?_, hw⟩
      have := pad_get (hr q hq) (pads l)
      rwa [pad_pad] at this
    | succ m =>
      have := ih m s' (by simpa using hm)
      rw [show i + 1 + m = i + (m + 1) by omega] at this
      have hb : Nat.blt i (i + (m + 1)) = true := by simp
      rw [foldD, hb]
      simp only [cond_true]
      have he : app ops i s ⟨st.env, pad st.H (pads (s :: l))⟩ = ⟨put st.env o.dst s.r, pad (setAll (pad st.H s.pads) s.writes) (pads l)⟩ := by
        rw [app, dstOf, ho, pads, ← pad_pad]
        rw [setAll_pad _ _ _ (fun q hq => reads_lt hr (hw q hq))]
        rfl
      rw [he]
      exact this
  | @skip i st o s l st' ho hd hg hp h ih =>
    intro m s' hm
    cases m with
    | zero =>
      simp only [List.getElem?_cons_zero, Option.some.injEq] at hm
      subst hm
      rw [h0 _ _ _ _ (by omega)]
      subst hp
      exact ⟨o, ho, hd, hg, (fun e => by cases e), fun _ => rfl, fun q hq => (by cases hq), fun q hq => (by cases hq)⟩
    | succ m =>
      have := ih m s' (by simpa using hm)
      rw [show i + 1 + m = i + (m + 1) by omega] at this
      have hb : Nat.blt i (i + (m + 1)) = true := by simp
      rw [foldD, hb]
      simp only [cond_true]
      subst hp
      have he : app ops i ⟨false, .s undef, 0, [], []⟩ ⟨st.env, pad st.H (pads (⟨false, .s undef, 0, [], []⟩ :: l))⟩ = ⟨put st.env o.dst (.s undef), pad st.H (pads l)⟩ := by
        rw [app, dstOf, ho, pads]
        simp [setAll]
      rw [he]
      exact this
theorem chain_end {P : Program} {N : Nat} {ops : Array Oper} {i : Nat} {st st' : St} {l : List Stp} (hc : Chain P N ops i st l st') (b : Nat → Bool) (hb : ∀ k, i ≤ k → k < i + l.length → b k = true) :
    foldD ops b i l ⟨st.env, pad st.H (pads l)⟩ = st' := by
  induction hc with
  | nil => simp [foldD, pads, pad]
  | @perf i st o s l st' ho hd hg hp hs hr hw h ih =>
    rw [foldD, hb i (Nat.le_refl _) (by simp)]
    simp only [cond_true]
    have he : app ops i s ⟨st.env, pad st.H (pads (s :: l))⟩ = ⟨put st.env o.dst s.r, pad (setAll (pad st.H s.pads) s.writes) (pads l)⟩ := by
      rw [app, dstOf, ho, pads, ← pad_pad]
      rw [setAll_pad _ _ _ (fun q hq => reads_lt hr (hw q hq))]
      rfl
    rw [he]
    exact ih (fun k h1 h2 => hb k (by omega) (by simp; omega))
  | @skip i st o s l st' ho hd hg hp h ih =>
    rw [foldD, hb i (Nat.le_refl _) (by simp)]
    simp only [cond_true]
    subst hp
    have he : app ops i ⟨false, .s undef, 0, [], []⟩ ⟨st.env, pad st.H (pads (⟨false, .s undef, 0, [], []⟩ :: l))⟩ = ⟨put st.env o.dst (.s undef), pad st.H (pads l)⟩ := by
      rw [app, dstOf, ho, pads]
      simp [setAll]
    rw [he]
    exact ih (fun k h1 h2 => hb k (by omega) (by simp; omega))
theorem getD_lt {acc : List (List Nat)} {j k : Nat} (h : k ∈ acc.getD j []) : j < acc.length := by
  by_cases hj : j < acc.length
  · exact hj
  · rw [List.getD_eq_getElem?_getD, List.getElem?_eq_none (by omega)] at h
    cases h
theorem befAux_spec (all : List Oper) : ∀ (os : List Oper) (acc : List (List Nat)), all.drop acc.length = os → (∀ i k, k ∈ acc.getD i [] → ∃ o, all[i]? = some o ∧ (k ∈ afterOf o ∨ ∃ j ∈ afterOf o, k ∈ acc.getD j [])) →
    ∀ i k, k ∈ (befAux os acc).getD i [] → ∃ o, all[i]? = some o ∧ (k ∈ afterOf o ∨ ∃ j ∈ afterOf o, k ∈ (befAux os acc).getD j [])
  | [], acc, _, h => h
  | o :: r, acc, hd, h => by
    rw [befAux]
    have hlen : acc.length < all.length := by
      by_cases hh : acc.length < all.length
      · exact hh
      · rw [List.drop_eq_nil_of_le (by omega)] at hd; cases hd
    have ho : all[acc.length]? = some o := by
      have := congrArg (fun l => l[0]?) hd
      simpa using this
    refine befAux_spec all r _ (by rw [List.length_append, List.length_singleton, ← List.drop_drop, hd]; rfl) (fun i k hk => ?_)
    have hmono : ∀ j k, k ∈ acc.getD j [] → k ∈ (acc ++ [(afterOf o ++ (afterOf o).flatMap (fun j => acc.getD j [])).eraseDups]).getD j [] := by
      intro j k hk
      have hj := getD_lt hk
      rw [List.getD_eq_getElem?_getD] at hk ⊢
      rwa [List.getElem?_append_left hj]
    by_cases hi : i < acc.length
    · have hk2 : k ∈ acc.getD i [] := by
        rw [List.getD_eq_getElem?_getD] at hk ⊢
        rwa [List.getElem?_append_left hi] at hk
      obtain ⟨o', h1, h2⟩ := h i k hk2
      exact ⟨o', h1, h2.imp id (fun ⟨j, h3, h4⟩ => ⟨j, h3, hmono j k h4⟩)⟩
    · have hi2 := getD_lt hk
      simp at hi2
      obtain rfl : i = acc.length := by omega
      rw [List.getD_eq_getElem?_getD, List.getElem?_append_right (Nat.le_refl _)] at hk
      simp only [Nat.sub_self, List.getElem?_cons_zero, Option.getD_some, List.mem_eraseDups, List.mem_append, List.mem_flatMap] at hk
      exact ⟨o, ho, hk.imp id (fun ⟨j, h3, h4⟩ => ⟨j, h3, hmono j k h4⟩)⟩
theorem befOf_spec (ops : Array Oper) (i k : Nat) (h : k ∈ (befOf ops).getD i []) : ∃ o, ops[i]? = some o ∧ (k ∈ afterOf o ∨ ∃ j ∈ afterOf o, k ∈ (befOf ops).getD j []) := by
  obtain ⟨o, h1, h2⟩ := befAux_spec ops.toList ops.toList [] rfl (fun i k h => by simp at h) i k h
  exact ⟨o, by simpa using h1, h2⟩
section drawn
variable {ops : Array Oper} {ks : List (List Nat × List Nat)}
theorem ok_after (h : okDraw ops ks = true) {i : Nat} {o : Oper} (ho : ops[i]? = some o) : ∀ j ∈ afterOf o, j < i := by
  have hi := (Array.getElem?_eq_some_iff.1 ho).1
  have h1 := List.all_eq_true.1 h i (List.mem_range.2 hi)
  rw [ho] at h1
  simp only [Bool.and_eq_true, List.all_eq_true, decide_eq_true_eq] at h1
  exact h1.1
theorem ok_clash (h : okDraw ops ks = true) {x y : Nat} {ox oy : Oper} (hx : ops[x]? = some ox) (hy : ops[y]? = some oy) (hxy : x < y) (hc : clash ops ox oy (ks.getD x ([], [])) (ks.getD y ([], [])) = true) : x ∈ (befOf ops).getD y [] := by
  have hi := (Array.getElem?_eq_some_iff.1 hy).1
  have h1 := List.all_eq_true.1 h y (List.mem_range.2 hi)
  rw [hy] at h1
  simp only [Bool.and_eq_true, List.all_eq_true] at h1
  have h2 := h1.2 x (List.mem_range.2 hxy)
  rw [hx] at h2
  simp only [hc, Bool.not_true, Bool.false_or] at h2
  exact List.contains_iff_mem.1 h2
def ClosedB (ops : Array Oper) (b : Nat → Bool) : Prop := ∀ i o, ops[i]? = some o → b i = true → ∀ j ∈ afterOf o, b j = true
theorem bef_in (h : okDraw ops ks = true) {b : Nat → Bool} (hc : ClosedB ops b) : ∀ (n i : Nat) (o : Oper), i ≤ n → ops[i]? = some o → (∀ j ∈ afterOf o, b j = true) → ∀ k ∈ (befOf ops).getD i [], b k = true := by
  intro n
  induction n with
  | zero =>
    intro i o hi ho ha k hk
    obtain ⟨o', h1, h2⟩ := befOf_spec ops i k hk
    rw [ho] at h1
    injection h1 with h1
    subst h1
    rcases h2 with h2 | ⟨j, h3, _⟩
    · exact ha k h2
    · have := ok_after h ho j h3; omega
  | succ n ih =>
    intro i o hi ho ha k hk
    obtain ⟨o', h1, h2⟩ := befOf_spec ops i k hk
    rw [ho] at h1
    injection h1 with h1
    subst h1
    rcases h2 with h2 | ⟨j, h3, h4⟩
    · exact ha k h2
    · obtain ⟨oj, hj, _⟩ := befOf_spec ops j k h4
      exact ih j oj (by have := ok_after h ho j h3; omega) hj (hc j oj hj (ha j h3)) k h4
end drawn
end Go.Proofs.Pm
end
section
namespace Go.Proofs.Pm
open Go
theorem VRep.drew {G : Good} {w : World} {ι : Intp} {H : List LS} {p : PV} {v : Value} (n : Nat) (h : VRep G w ι H p v) : VRep G { w with drawn := n } ι H p v :=
  h.keep (w := w) (w' := { w with drawn := n }) (fun a v hp hc => ⟨hc, hp⟩) (fun i cs t hi => ⟨rfl, cs, hi⟩) (fun i m sz t hi => ⟨m, hi, Nat.le_refl _, fun _ => rfl⟩) (fun i kvs hi => ⟨rfl, kvs, hi⟩) (fun i xs φ hi => ⟨rfl, xs, φ, hi⟩)
theorem HRel.drew {G : Good} {w : World} {ι : Intp} {H : List LS} (n : Nat) (h : HRel G w ι H) : HRel G { w with drawn := n } ι H := by
  refine ⟨fun i s hi => ?_, h.inj, h.lt, h.good, h.base.keep (fun a v hp hc => ⟨hc, hp⟩)⟩
  have hr := h.rel i s hi
  cases s with
  | box cs t =>
    obtain ⟨b, c, vs, e1, e2, e3, e4, e5⟩ := hr
    exact ⟨b, c, vs, e1, e2, e3, e4, fun j x v hx hv => (e5 j x v hx hv).drew n⟩
  | row m sz t => exact hr
  | arr xs sz t =>
    obtain ⟨b, c, vs, e1, e2, e3, e4, e5, e6⟩ := hr
    exact ⟨b, c, vs, e1, e2, e3, e4, e5, fun k j x p v hx hp hv => (e6 k j x p v hx hp hv).drew n⟩
  | mp kvs =>
    obtain ⟨b, c, es, clock, e1, e2, e3, e4⟩ := hr
    exact ⟨b, c, es, clock, e1, e2, e3, fun j q e hq he => ⟨(e4 j q e hq he).1.drew n, (e4 j q e hq he).2.drew n⟩⟩
  | obj xs φ =>
    obtain ⟨b, c, vs, e1, e2, e3, e4, e5⟩ := hr
    exact ⟨b, c, vs, e1, e2, e3, e4, fun j x v hx hv => (e5 j x v hx hv).drew n⟩
  | absent => exact hr
theorem SRel.drew {Γ : Ctx} {f : Nat → Option PV} {H : List LS} {a : Act} {w : World} (n : Nat) (h : SRel Γ f H a w) : SRel Γ f H a { w with drawn := n } := by
  obtain ⟨ι, h1, h2, h3, h4, h5, h6, h7⟩ := h
  exact ⟨ι, h1.drew n, fun t p hp => by obtain ⟨v, hv, hr⟩ := h2 t p hp; exact ⟨v, hv, hr.drew n⟩, h3, h4, h5, ⟨h6.len, h6.heap, h6.prot, h6.box, h6.row, h6.mp, h6.obj⟩, ⟨h7.os, h7.tape, h7.output, h7.size, h7.block, h7.new⟩⟩
theorem Nat_blt_self (k : Nat) : Nat.blt k k = false := by
  cases hb : Nat.blt k k with
  | false => rfl
  | true => simp at hb
def cnt (b : Nat → Bool) : Nat → Nat
  | 0 => 0
  | n + 1 => cnt b n + (bif b n then 0 else 1)
theorem cnt_up {b : Nat → Bool} {i : Nat} (hb : b i = false) : ∀ n, i < n → cnt (up b i) n + 1 = cnt b n
  | 0, h => by omega
  | n + 1, h => by
    have h0 : ∀ m, m ≤ i → cnt (up b i) m = cnt b m := by
      intro m
      induction m with
      | zero => intro _; rfl
      | succ m ih => intro hm; rw [cnt, cnt, ih (by omega), up_ne (by omega)]
    rcases Nat.lt_or_ge i n with hi | hi
    · rw [cnt, cnt, up_ne (by omega), ← cnt_up hb n hi]; omega
    · obtain rfl : i = n := by omega
      rw [cnt, cnt, h0 i (Nat.le_refl _), up_self, hb]; rfl
theorem cnt_zero {b : Nat → Bool} : ∀ n, cnt b n = 0 → ∀ i, i < n → b i = true
  | 0, _, i, hi => by omega
  | n + 1, h, i, hi => by
    rw [cnt] at h
    rcases Nat.lt_or_ge i n with h1 | h1
    · exact cnt_zero n (by omega) i h1
    · obtain rfl : i = n := by omega
      cases hb : b i with
      | true => rfl
      | false => rw [hb] at h; simp at h
def bl (listed : Array Bool) : Nat → Bool := fun i => listed.getD i false
theorem bl_set {listed : Array Bool} {i : Nat} (h : i < listed.size) : bl (listed.setIfInBounds i true) = up (bl listed) i := by
  funext j
  by_cases hj : j = i
  · subst hj; rw [up_self]; simp [bl, h]
  · rw [up_ne hj]; simp [bl, Array.getD_eq_getD_getElem?, Array.getElem?_setIfInBounds_ne (Ne.symm hj)]
theorem common_of {xs ys : List Nat} {x : Nat} (h1 : x ∈ xs) (h2 : x ∈ ys) : common xs ys = true := by
  unfold common
  exact List.any_eq_true.2 ⟨x, h1, List.contains_iff_mem.2 h2⟩
theorem keysOf_get {l : List Stp} {i : Nat} {s : Stp} (h : l[i]? = some s) : (keysOf l).getD i ([], []) = (s.reads.map (·.1), s.writes.map (·.1)) := by
  simp [keysOf, List.getD_eq_getElem?_getD, h]
section
variable {P : Program} {Γ : Ctx} {ops : Array Oper} {Q : Exit → Act → World → Prop} {st st' : St} {l : List Stp}
theorem region_sim (hc : Chain P Γ.N ops 0 st l st') (hl : l.length = ops.size) (hok : okDraw ops (keysOf l) = true) (hQ : ∀ a w, SRel Γ (look st'.env) st'.H a w → Q .normal a w) :
    ∀ (fuel : Nat) (listed : Array Bool) (a : Act) (w : World), listed.size = ops.size → cnt (bl listed) ops.size ≤ fuel → ClosedB ops (bl listed) →
      SRel Γ (look (foldD ops (bl listed) 0 l ⟨st.env, pad st.H (pads l)⟩).env) (foldD ops (bl listed) 0 l ⟨st.env, pad st.H (pads l)⟩).H a w → wpAnyIn (fenceOf Γ.rd) 0 P .any ops Q fuel listed a w := by
  have hend : ∀ (listed : Array Bool) (a : Act) (w : World), (∀ i, i < ops.size → bl listed i = true) →
      SRel Γ (look (foldD ops (bl listed) 0 l ⟨st.env, pad st.H (pads l)⟩).env) (foldD ops (bl listed) 0 l ⟨st.env, pad st.H (pads l)⟩).H a w → Q .normal a w := by
    intro listed a w hall hs
    rw [chain_end hc (bl listed) (fun k _ h2 => hall k (by omega))] at hs
    exact hQ a w hs
  have hready : ∀ (listed : Array Bool), listed.size = ops.size → Region.ready .any ops listed = [] → ∀ n i, i ≤ n → i < ops.size → bl listed i = true := by
    intro listed hsz hr n
    induction n with
    | zero =>
      intro i hi hlt
      cases hb : bl listed i with
      | true => rfl
      | false =>
        exfalso
        obtain ⟨o, ho⟩ : ∃ o, ops[i]? = some o := ⟨ops[i], Array.getElem?_eq_getElem hlt⟩
        have : i ∈ Region.ready .any ops listed := by
          unfold Region.ready
          rw [List.mem_filter]
          refine ⟨List.mem_range.2 hlt, ?_⟩
          rw [ho]
          have hb1 : listed.getD i true = false := by
            simp only [bl, Array.getD_eq_getD_getElem?] at hb ⊢
            rw [Array.getElem?_eq_getElem (by omega)] at hb ⊢
            simpa using hb
          simp only [hb1, Bool.not_false, Bool.true_and, Option.map_some, Option.getD_some, Array.all_eq_true']
          intro e he
          cases hbd : Region.binds .any e with
          | false => rfl
          | true =>
            have hj := ok_after hok ho e.on (List.mem_map.2 ⟨e, List.mem_filter.2 ⟨Array.mem_toList_iff.2 he, hbd⟩, rfl⟩)
            omega
        rw [hr] at this
        cases this
    | succ n ih =>
      intro i hi hlt
      cases hb : bl listed i with
      | true => rfl
      | false =>
        exfalso
        obtain ⟨o, ho⟩ : ∃ o, ops[i]? = some o := ⟨ops[i], Array.getElem?_eq_getElem hlt⟩
        have : i ∈ Region.ready .any ops listed := by
          unfold Region.ready
          rw [List.mem_filter]
          refine ⟨List.mem_range.2 hlt, ?_⟩
          rw [ho]
          have hb1 : listed.getD i true = false := by
            simp only [bl, Array.getD_eq_getD_getElem?] at hb ⊢
            rw [Array.getElem?_eq_getElem (by omega)] at hb ⊢
            simpa using hb
          simp only [hb1, Bool.not_false, Bool.true_and, Option.map_some, Option.getD_some, Array.all_eq_true']
          intro e he
          cases hbd : Region.binds .any e with
          | false => rfl
          | true =>
            have hj := ok_after hok ho e.on (List.mem_map.2 ⟨e, List.mem_filter.2 ⟨Array.mem_toList_iff.2 he, hbd⟩, rfl⟩)
            simpa [bl] using ih e.on (by omega) (by omega)
        rw [hr] at this
        cases this
  intro fuel
  induction fuel with
  | zero =>
    intro listed a w hsz hcnt hcl hs
    have hall := cnt_zero ops.size (by omega : cnt (bl listed) ops.size = 0)
    refine ⟨?_, hend listed a w hall hs⟩
    refine List.eq_nil_iff_forall_not_mem.2 (fun i hi => ?_)
    unfold Region.ready at hi
    rw [List.mem_filter, List.mem_range] at hi
    have := hall i hi.1
    have h2 : listed.getD i true = true := by
      simp only [bl, Array.getD_eq_getD_getElem?] at this ⊢
      rw [Array.getElem?_eq_getElem (by omega)] at this ⊢
      simpa using this
    rw [h2] at hi
    simp at hi
  | succ fuel ih =>
    intro listed a w hsz hcnt hcl hs
    refine ⟨fun hr => hend listed a w (fun i hi => hready listed hsz hr i i (Nat.le_refl _) hi) hs, fun i hi => ?_⟩
    unfold Region.ready at hi
    rw [List.mem_filter, List.mem_range] at hi
    obtain ⟨hlt, hi⟩ := hi
    obtain ⟨o, ho⟩ : ∃ o, ops[i]? = some o := ⟨ops[i], Array.getElem?_eq_getElem hlt⟩
    rw [ho] at hi
    simp only [Option.map_some, Option.getD_some, Bool.and_eq_true, Bool.not_eq_true', Array.all_eq_true'] at hi
    obtain ⟨hun, haft⟩ := hi
    have hbi : bl listed i = false := by
      simp only [bl, Array.getD_eq_getD_getElem?] at hun ⊢
      rw [Array.getElem?_eq_getElem (by omega)] at hun ⊢
      simpa using hun
    have haf : ∀ j ∈ afterOf o, bl listed j = true := by
      intro j hj
      obtain ⟨e, he, rfl⟩ := List.mem_map.1 hj
      rw [List.mem_filter] at he
      have := haft e (Array.mem_toList_iff.1 he.1)
      rw [he.2] at this
      simpa [bl] using this
    have hbef := bef_in hok hcl i i o (Nat.le_refl _) ho haf
    have hnot : ∀ k ok, ops[k]? = some ok → i ∈ (befOf ops).getD k [] → bl listed k = false := by
      intro k ok hk hik
      cases hb : bl listed k with
      | false => rfl
      | true =>
        have := bef_in hok hcl k k ok (Nat.le_refl _) hk (hcl k ok hk hb) i hik
        rw [hbi] at this
        cases this
    obtain ⟨s, hsi⟩ : ∃ s, l[i]? = some s := ⟨l[i]'(by omega), List.getElem?_eq_getElem (by omega)⟩
    obtain ⟨o', ho', hd, hg, hperf, hskip, hreads, hwr⟩ := chain_at hc i s hsi
    rw [Nat.zero_add] at ho' hg hperf hreads
    rw [ho] at ho'
    injection ho' with ho'
    subst ho'
    have hop : ∀ k, k < l.length → ∃ ok, ops[k]? = some ok := fun k hk => ⟨ops[k]'(by omega), Array.getElem?_eq_getElem (by omega)⟩
    -- the slots that the operation looks at are as in the text's order
    have hagree : ∀ t, t ∈ usesOf ops o → look (foldD ops (fun k => Nat.blt k i) 0 l ⟨st.env, pad st.H (pads l)⟩).env t = look (foldD ops (bl listed) 0 l ⟨st.env, pad st.H (pads l)⟩).env t := by
      intro t ht
      refine fold_env_congr l 0 (fun k _ hk hkt => ?_) rfl
      obtain ⟨ok, hok'⟩ := hop k (by omega)
      have hdk : ok.dst = some t := by simpa [dstOf, hok'] using hkt
      rcases Nat.lt_trichotomy k i with h | h | h
      · have := hbef k (ok_clash hok hok' ho h (by unfold clash; rw [hdk]; simp [ht]))
        rw [this]; simpa using h
      · subst h; rw [hbi]; exact Nat_blt_self _
      · have := hnot k ok hok' (ok_clash hok ho hok' h (by unfold clash; rw [hdk]; simp [ht]))
        rw [this]
        cases hb : Nat.blt k i with
        | false => rfl
        | true => simp at hb; omega
    have hagH : ∀ x, x ∈ s.reads.map (·.1) → (foldD ops (fun k => Nat.blt k i) 0 l ⟨st.env, pad st.H (pads l)⟩).H[x]? = (foldD ops (bl listed) 0 l ⟨st.env, pad st.H (pads l)⟩).H[x]? := by
      intro x hx
      have hxl : x < (pad st.H (pads l)).length := by
        obtain ⟨q, hq, rfl⟩ := List.mem_map.1 hx
        have := (List.getElem?_eq_some_iff.1 (hreads q hq)).1
        rwa [foldD_length] at this
      refine fold_H_congr l 0 hxl hxl (fun k s' hk hm => ?_) rfl
      rw [Nat.zero_add]
      obtain ⟨ok, hok'⟩ := hop k (List.getElem?_eq_some_iff.1 hk).1
      rcases Nat.lt_trichotomy k i with h | h | h
      · have := hbef k (ok_clash hok hok' ho h (by unfold clash; rw [keysOf_get hk, keysOf_get hsi]; simp [common_of hm hx]))
        rw [this]; simpa using h
      · subst h; rw [hbi]; exact Nat_blt_self _
      · have := hnot k ok hok' (ok_clash hok ho hok' h (by unfold clash; rw [keysOf_get hk, keysOf_get hsi]; simp [common_of hm hx]))
        rw [this]
        cases hb : Nat.blt k i with
        | false => rfl
        | true => simp at hb; omega
    have hg' : guardIs ops o (look (foldD ops (bl listed) 0 l ⟨st.env, pad st.H (pads l)⟩).env) s.perf := by
      unfold guardIs at hg ⊢
      split
      · rename_i hgd; rw [hgd] at hg; exact hg
      · rename_i j want hgd
        rw [hgd] at hg
        obtain ⟨d, g, h1, h2, h3⟩ := hg
        refine ⟨d, g, h1, ?_, h3⟩
        rw [← hagree d (by unfold usesOf guardSlot; rw [hgd]; simp [h1])]
        exact h2
    -- the next state
    have hnext : ∀ a' w', SRel Γ (putF (look (foldD ops (bl listed) 0 l ⟨st.env, pad st.H (pads l)⟩).env) o.dst s.r) (setAll (foldD ops (bl listed) 0 l ⟨st.env, pad st.H (pads l)⟩).H s.writes) a' w' →
        wpAnyIn (fenceOf Γ.rd) 0 P .any ops Q fuel (listed.setIfInBounds i true) a' w' := by
      intro a' w' h
      have hdo : dstOf ops i = o.dst := by simp [dstOf, ho]
      refine ih _ a' w' (by simpa using hsz) ?_ ?_ ?_
      · rw [bl_set (by omega)]
        have := cnt_up hbi ops.size hlt
        omega
      · rw [bl_set (by omega)]
        intro k ok hk hb j hj
        by_cases hji : j = i
        · rw [hji, up_self]
        · rw [up_ne hji]
          by_cases hki : k = i
          · subst hki
            rw [ho] at hk
            injection hk with hk
            subst hk
            exact haf j hj
          · rw [up_ne hki] at hb
            exact hcl k ok hk hb j hj
      · rw [bl_set (by omega)]
        have hH : (foldD ops (up (bl listed) i) 0 l ⟨st.env, pad st.H (pads l)⟩).H = setAll (foldD ops (bl listed) 0 l ⟨st.env, pad st.H (pads l)⟩).H s.writes := by
          apply List.ext_getElem?
          intro x
          by_cases hx : x < (pad st.H (pads l)).length
          · refine (fold_H_up l 0 ⟨st.env, pad st.H (pads l)⟩ hx (Nat.zero_le _) (by simpa using hsi) hbi (fun k s' hk h1 h2 h3 h4 => ?_)).symm
            rw [Nat.zero_add] at h1 h2
            obtain ⟨ok, hok'⟩ := hop k (List.getElem?_eq_some_iff.1 hk).1
            obtain ⟨q, hq, rfl⟩ := List.mem_map.1 h3
            have := hnot k ok hok' (ok_clash hok ho hok' h1 (by unfold clash; rw [keysOf_get hk, keysOf_get hsi]; simp [common_of h4 (hwr q hq)]))
            rw [this] at h2
            cases h2
          · rw [List.getElem?_eq_none (by rw [foldD_length]; exact Nat.le_of_not_lt hx), List.getElem?_eq_none (by rw [setAll_length, foldD_length]; exact Nat.le_of_not_lt hx)]
        rw [hH]
        refine h.congr (fun t p hp => ?_)
        rw [← look_put, ← hdo]
        rw [fold_env_up l 0 ⟨st.env, pad st.H (pads l)⟩ (Nat.zero_le _) (by simpa using hsi) hbi (fun k h1 h2 h3 d hd1 hd2 => ?_)]
        · exact hp
        · obtain ⟨ok, hok'⟩ := hop k (by omega)
          have e1 : ok.dst = some d := by simpa [dstOf, hok'] using hd2
          have e2 : o.dst = some d := by simpa [dstOf, ho] using hd1
          have := hnot k ok hok' (ok_clash hok ho hok' h1 (by unfold clash; rw [e1, e2]; simp))
          rw [this] at h3
          cases h3
    unfold wpOpIn
    rw [ho]
    simp only
    rw [wanted_of hg' hs]
    cases hp : s.perf with
    | true =>
      rw [if_pos rfl]
      exact hs.step hd ((hperf hp).congr (fun t ht => (hagree t (List.mem_append_left _ ht)).symm)) (fun q hq => by rw [← hagH q.1 (List.mem_map.2 ⟨q, hq, rfl⟩)]; exact hreads q hq) hnext
    | false =>
      rw [if_neg (by decide)]
      have hsk := hskip hp
      refine ⟨fun f _ => fenceOf_fn _ f, hnext _ _ ?_⟩
      rw [hsk]
      exact hs.skip hd
theorem region_any {id : Nat} (hc : Chain P Γ.N ops 0 st l st') (hl : l.length = ops.size) (hok : okDraw ops (keysOf l) = true) (hm : P.follows .mixedOrders = true) (hQ : ∀ a w, SRel Γ (look st'.env) st'.H a w → Q .normal a w)
    {a : Act} {w : World} (hs : SRel Γ (look st.env) st.H a w) : (Code.region id ops true).wpIn (fenceOf Γ.rd) 0 P Q a w := by
  refine wpIn_region_any hm (region_sim hc hl hok hQ ops.size _ a _ (by simp) ?_ ?_ ?_)
  · generalize ops.size = n
    have : ∀ (b : Nat → Bool) n, cnt b n ≤ n := by
      intro b n
      induction n with
      | zero => exact Nat.le_refl _
      | succ n ih => rw [cnt]; cases b n <;> simp <;> omega
    exact this _ _
  · intro i o ho hb
    simp [bl, Array.getD_eq_getD_getElem?, Array.getElem?_replicate] at hb
    split at hb <;> simp at hb
  · have h0 : foldD ops (bl (Array.replicate ops.size false)) 0 l ⟨st.env, pad st.H (pads l)⟩ = ⟨st.env, pad st.H (pads l)⟩ := by
      have hb : ∀ k, bl (Array.replicate ops.size false) k = false := by
        intro k
        simp [bl, Array.getD_eq_getD_getElem?, Array.getElem?_replicate]
        split <;> rfl
      have : ∀ (l : List Stp) (i : Nat) (st : St), foldD ops (bl (Array.replicate ops.size false)) i l st = st := by
        intro l
        induction l with
        | nil => intro i st; rfl
        | cons s l ih => intro i st; rw [foldD, hb]; exact ih _ _
      exact this _ _ _
    rw [h0]
    exact (hs.pad _).drew _
end
end Go.Proofs.Pm
end

/- A part of the proof of one law: the machine on pure values and the walks of functions. -/
import Derived.Test.YtjoikahblpephaaGreatDoorPmLw9P5
import Derived.Deep.LoopGhost
set_option linter.all false
section
namespace Go.Proofs.Pm
open Go
structure Cut (ρ : List Nat) (H H2 : List LS) : Prop where
  nd : ρ.Nodup
  len : ρ.length = H2.length
  at_ : ∀ (j i : Nat), ρ[j]? = some i → ∃ s s' : LS, H[i]? = some s ∧ H2[j]? = some s' ∧ MvS (fun i j => ρ[j]? = some i) s s'
section cut
variable {G : Good} {w : World} {ι : Intp} {H H2 : List LS} {ρ : List Nat}
theorem Cut.lt (h : Cut ρ H H2) {j i : Nat} (hj : ρ[j]? = some i) : i < H.length := by obtain ⟨s, _, h1, _⟩ := h.at_ j i hj; exact (List.getElem?_eq_some_iff.1 h1).1
theorem bindι {j b c : Nat} (h : (ρ[j]?).bind ι = some (b, c)) : ∃ i, ρ[j]? = some i ∧ ι i = some (b, c) := by
  cases hj : ρ[j]? with
  | none => rw [hj] at h; cases h
  | some i => rw [hj] at h; exact ⟨i, rfl, h⟩
theorem Cut.alike (h : Cut ρ H H2) : Alike (fun i j => ρ[j]? = some i) ι H (fun j => (ρ[j]?).bind ι) H2 := by
  refine ⟨fun i j hj => by simp [hj], fun i j cs t hj hb => ?_, fun i j n sz t hj hb => ?_, fun i j kvs hj hb => ?_, fun i j xs φ hj hb => ?_⟩
  · obtain ⟨s, s', k1, k2, k3⟩ := h.at_ j i hj
    rw [k1] at hb; injection hb with hb; subst hb
    cases k3; exact ⟨_, k2⟩
  · obtain ⟨s, s', k1, k2, k3⟩ := h.at_ j i hj
    rw [k1] at hb; injection hb with hb; subst hb
    cases k3; exact k2
  · obtain ⟨s, s', k1, k2, k3⟩ := h.at_ j i hj
    rw [k1] at hb; injection hb with hb; subst hb
    cases k3; exact ⟨_, k2⟩
  · obtain ⟨s, s', k1, k2, k3⟩ := h.at_ j i hj
    rw [k1] at hb; injection hb with hb; subst hb
    cases k3; exact ⟨_, _, k2⟩
theorem Cut.prot (h : Cut ρ H H2) {b off : Nat} (hp : Prot G ι H b off) : Prot G (fun j => (ρ[j]?).bind ι) H2 b off := by
  refine ⟨hp.1, fun j c hj e => ?_⟩
  obtain ⟨i, hi, e2⟩ := bindι e
  obtain ⟨s, s', k1, k2, k3⟩ := h.at_ j i hi
  obtain ⟨n, sz, t, k5, k6⟩ := hp.2 i c (h.lt hi) e2
  rw [k1] at k5; injection k5 with k5; subst k5
  cases k3
  exact ⟨n, sz, t, k2, k6⟩
theorem Cut.rel (h : Cut ρ H H2) (hH : HRel G w ι H) : HRel G w (fun j => (ρ[j]?).bind ι) H2 := by
  refine ⟨fun j s' hj => ?_, fun j j' b c d hj hj' e e' => ?_, fun j b c hj e => ?_, fun j b c hj e off => ?_, hH.base.keep (fun a v hp hc => ⟨hc, h.prot hp⟩)⟩
  · have hi : ρ[j]? = some (ρ[j]'(by rw [h.len]; exact (List.getElem?_eq_some_iff.1 hj).1)) := List.getElem?_eq_getElem _
    obtain ⟨s, s2, k1, k2, k3⟩ := h.at_ j _ hi
    rw [hj] at k2; injection k2 with k2; subst k2
    exact (hH.rel _ s k1).mv (fun a v hp _ => h.prot hp) h.alike (by simp [hi]) k3
  · obtain ⟨i, hi, e2⟩ := bindι e
    obtain ⟨i', hi', e2'⟩ := bindι e'
    have := hH.inj i i' b c d (h.lt hi) (h.lt hi') e2 e2'
    subst this
    exact (List.getElem?_inj (List.getElem?_eq_some_iff.1 hi).1 h.nd).1 (hi.trans hi'.symm)
  · obtain ⟨i, hi, e2⟩ := bindι e
    exact hH.lt i b c (h.lt hi) e2
  · obtain ⟨i, hi, e2⟩ := bindι e
    exact hH.good i b c (h.lt hi) e2 off
theorem Cut.val (h : Cut ρ H H2) {p q : PV} {v : Value} (hm : Mv (fun i j => ρ[j]? = some i) p q) (hv : VRep (Prot G ι H) w ι H p v) : VRep (Prot G (fun j => (ρ[j]?).bind ι) H2) w (fun j => (ρ[j]?).bind ι) H2 q v :=
  hv.mv (fun a v hp _ => h.prot hp) h.alike hm
theorem Cut.ext {G0 : World} {ι0 : Intp} {H0 : List LS} (h : Cut ρ H H2) (hk : ∀ i, i < H0.length → ρ[i]? = some i) (he : Ext G G0 ι0 H0 w ι H) : Ext G G0 ι0 H0 w (fun j => (ρ[j]?).bind ι) H2 := by
  have hlt : ∀ {i : Nat} {s : LS}, H0[i]? = some s → i < H0.length := fun h => (List.getElem?_eq_some_iff.1 h).1
  refine ⟨?_, he.heap, fun a v hp hc => ?_, fun i cs t hi => ?_, fun i n sz t hi => ?_, fun i kvs hi => ?_, fun i xs φ hi => ?_⟩
  · rw [← h.len]
    rcases Nat.lt_or_ge ρ.length H0.length with hl | hl
    · have := hk ρ.length hl
      simp at this
    · exact hl
  · obtain ⟨k1, k2⟩ := he.prot a v hp hc
    exact ⟨k1, h.prot k2⟩
  · obtain ⟨k1, cs', k2⟩ := he.box i cs t hi
    have := hk i (hlt hi)
    obtain ⟨cs2, k3⟩ := h.alike (ι := ι).box i i cs' t this k2
    exact ⟨by simp [this, k1], cs2, k3⟩
  · obtain ⟨n', k1, k2, k2b⟩ := he.row i n sz t hi
    have := hk i (hlt hi)
    exact ⟨n', h.alike (ι := ι).row i i n' sz t this k1, k2, fun e => by simp [this, k2b e]⟩
  · obtain ⟨k1, cs', k2⟩ := he.mp i kvs hi
    have := hk i (hlt hi)
    obtain ⟨cs2, k3⟩ := h.alike (ι := ι).mp i i cs' this k2
    exact ⟨by simp [this, k1], cs2, k3⟩
  · obtain ⟨k1, xs', φ', k2⟩ := he.obj i xs φ hi
    have := hk i (hlt hi)
    obtain ⟨xs2, φ2, k3⟩ := h.alike (ι := ι).obj i i xs' φ' this k2
    exact ⟨by simp [this, k1], xs2, φ2, k3⟩
theorem Cut.out {w0 : World} {ι0 : Intp} {k0 : Nat} (h : Cut ρ H H2) (hk : ∀ i, i < k0 → ρ[i]? = some i) (ho : Out w0 ι0 k0 w ι H.length) : Out w0 ι0 k0 w (fun j => (ρ[j]?).bind ι) H2.length := by
  refine ⟨ho.os, ho.tape, ho.output, ho.size, ho.block, fun j b c hj e => ?_⟩
  obtain ⟨i, hi, e2⟩ := bindι e
  rcases ho.new i b c (h.lt hi) e2 with ⟨h1, h2⟩ | h1
  · have := (List.getElem?_inj (List.getElem?_eq_some_iff.1 hi).1 h.nd).1 (hi.trans (hk i h1).symm)
    subst this
    exact .inl ⟨h1, h2⟩
  · exact .inr h1
end cut
def EnvLe (ρ : List Nat) (f : Nat → Option PV) : List (Nat × PV) → Prop
  | [] => True
  | (t, q) :: r => (∃ p, f t = some p ∧ Mv (fun i j => ρ[j]? = some i) p q) ∧ EnvLe ρ f r
theorem EnvLe.get {ρ : List Nat} {f : Nat → Option PV} : ∀ {env : List (Nat × PV)}, EnvLe ρ f env → ∀ t q, look env t = some q → ∃ p, f t = some p ∧ Mv (fun i j => ρ[j]? = some i) p q
  | [], _, t, q, h => by simp [look] at h
  | (k, p) :: r, he, t, q, h => by
    simp only [look] at h
    cases hb : Nat.beq k t with
    | true =>
      rw [hb] at h
      simp only [cond_true, Option.some.injEq] at h
      subst h
      rw [← Nat.eq_of_beq_eq_true hb]
      exact he.1
    | false =>
      rw [hb] at h
      exact he.2.get t q h
structure Le (ρ : List Nat) (st st2 : St) : Prop where
  env : EnvLe ρ (look st.env) st2.env
  cut : Cut ρ st.H st2.H
inductive CutL (R : Nat → Nat → Prop) (H : List LS) : List Nat → List LS → Prop
  | nil : CutL R H [] []
  | cons {i r s s' r'} (h1 : H[i]? = some s) (h2 : MvS R s s') (h : CutL R H r r') : CutL R H (i :: r) (s' :: r')
theorem CutL.get {R : Nat → Nat → Prop} {H : List LS} {r : List Nat} {r' : List LS} (h : CutL R H r r') : r.length = r'.length ∧ ∀ (j i : Nat), r[j]? = some i → ∃ s s' : LS, H[i]? = some s ∧ r'[j]? = some s' ∧ MvS R s s' := by
  induction h with
  | nil => exact ⟨rfl, fun j i h => by simp at h⟩
  | @cons i r s s' r' h1 h2 h ih =>
    refine ⟨by simp [ih.1], fun j k hk => ?_⟩
    cases j with
    | zero => simp at hk; subst hk; exact ⟨s, s', h1, rfl, h2⟩
    | succ j => simpa using ih.2 j k (by simpa using hk)
theorem cut_of {ρ : List Nat} {H H2 : List LS} (hn : ρ.Nodup) (h : CutL (fun i j => ρ[j]? = some i) H ρ H2) : Cut ρ H H2 := ⟨hn, h.get.1, h.get.2⟩
theorem le_of {ρ : List Nat} {st : St} {env : List (Nat × PV)} {H : List LS} (hn : ρ.Nodup) (h : CutL (fun i j => ρ[j]? = some i) st.H ρ H) (he : EnvLe ρ (look st.env) env) : Le ρ st ⟨env, H⟩ := ⟨he, cut_of hn h⟩
theorem EnvLe.nil {ρ : List Nat} {f : Nat → Option PV} : EnvLe ρ f [] := trivial
theorem EnvLe.cons {ρ : List Nat} {f : Nat → Option PV} {t : Nat} {p q : PV} {r : List (Nat × PV)} (h1 : f t = some p) (h2 : Mv (fun i j => ρ[j]? = some i) p q) (h : EnvLe ρ f r) : EnvLe ρ f ((t, q) :: r) := ⟨⟨p, h1, h2⟩, h⟩
theorem keep0 {ρ : List Nat} : ∀ i, i < 0 → ρ[i]? = some i := fun i h => by omega
theorem keep1 {r : List Nat} : ∀ i, i < 1 → (0 :: r)[i]? = some i := fun i h => by
  obtain rfl : i = 0 := by omega
  rfl
theorem keep2 {r : List Nat} : ∀ i, i < 2 → (0 :: 1 :: r)[i]? = some i := fun i h => by
  match i, h with
  | 0, _ => rfl
  | 1, _ => rfl
theorem SRel.le {Γ : Ctx} {ρ : List Nat} {st st2 : St} {a : Act} {w : World} (h : SRel Γ (look st.env) st.H a w) (hl : Le ρ st st2) (hk : ∀ i, i < Γ.H.length → ρ[i]? = some i) : SRel Γ (look st2.env) st2.H a w := by
  obtain ⟨ι, h1, h2, h3, h4, h5, h6, h7⟩ := h
  refine ⟨fun j => (ρ[j]?).bind ι, hl.cut.rel h1, fun t q hq => ?_, h3, h4, h5.mono (fun j b c _ e => by
    obtain ⟨i, hi, e2⟩ := bindι e
    exact ⟨i, hl.cut.lt hi, e2⟩), hl.cut.ext hk h6, hl.cut.out hk h7⟩
  obtain ⟨p, hp, hm⟩ := hl.env.get t q hq
  obtain ⟨v, hv, hr⟩ := h2 t p hp
  exact ⟨v, hv, hl.cut.val hm hr⟩
theorem wpIn_loop_ghost {F : Fence} {n : Nat} {P : Program} {Q : Exit → Act → World → Prop} {a : Act} {w : World} {c : Code} (I : Nat → Act → World → Prop) (n₀ : Nat) (h₀ : I n₀ a w)
    (round : ∀ k a w, I k a w → c.wpIn F n P (Exit.then (fun a' w' => ∃ k', k' < k ∧ I k' a' w') Q) a w) : (Code.loop c).wpIn F n P Q a w := by
  refine wpIn_loop (fun a w => ∃ k, I k a w) (fun a w => leastOf (fun k => I k a w)) ⟨n₀, h₀⟩ ?_
  intro a w hI
  refine wpIn_mono (round _ a w (leastOf_spec hI).1) ?_
  intro e a' w' hq
  cases e with
  | normal =>
    obtain ⟨n', hlt, hI'⟩ := hq
    exact show (∃ k, I k a' w') ∧ leastOf (fun k => I k a' w') < leastOf (fun k => I k a w) from ⟨⟨n', hI'⟩, Nat.lt_of_le_of_lt ((leastOf_spec ⟨n', hI'⟩).2 n' hI') hlt⟩
  | exit id => exact hq
  | goto l => exact hq
  | ret => exact hq
  | panic ch => exact hq
  | outgrown => exact hq
def AWp (P : Program) (Γ : Ctx) (c : Code) (st : St) (Q : Exit → St → Prop) : Prop :=
  ∀ a w, SRel Γ (look st.env) st.H a w → c.wpIn (fenceOf Γ.rd) 0 P (fun e a' w' => ∃ st', Q e st' ∧ SRel Γ (look st'.env) st'.H a' w') a w
def Sq (K : St → Prop) (Q : Exit → St → Prop) : Exit → St → Prop
  | .normal, st => K st
  | e, st => Q e st
def Bq (id : Nat) (Q : Exit → St → Prop) : Exit → St → Prop
  | .exit k, st => bif Nat.beq k id then Q .normal st else Q (.exit k) st
  | e, st => Q e st
section code
variable {P : Program} {Γ : Ctx} {st : St} {Q : Exit → St → Prop}
theorem awp_mono {c : Code} {Q' : Exit → St → Prop} (h : AWp P Γ c st Q) (hq : ∀ e st, Q e st → Q' e st) : AWp P Γ c st Q' :=
  fun a w hs => wpIn_mono (h a w hs) (fun e a' w' ⟨st', h1, h2⟩ => ⟨st', hq _ _ h1, h2⟩)
theorem awp_seq {x y : Code} (h : AWp P Γ x st (Sq (fun st' => AWp P Γ y st' Q) Q)) : AWp P Γ (.seq x y) st Q := fun a w hs => by
  refine wpIn_seq (wpIn_mono (h a w hs) (fun e a' w' ⟨st', h1, h2⟩ => ?_))
  cases e with
  | normal => exact h1 a' w' h2
  | exit id => exact ⟨st', h1, h2⟩
  | goto l => exact ⟨st', h1, h2⟩
  | ret => exact ⟨st', h1, h2⟩
  | panic c => exact ⟨st', h1, h2⟩
  | outgrown => exact ⟨st', h1, h2⟩
theorem awp_skip (h : Q .normal st) : AWp P Γ .skip st Q := fun a w hs => wpIn_skip ⟨st, h, hs⟩
theorem awp_exit {id : Nat} (h : Q (.exit id) st) : AWp P Γ (.exit id) st Q := fun a w hs => wpIn_exit ⟨st, h, hs⟩
theorem awp_ret (h : Q .ret st) : AWp P Γ .ret st Q := fun a w hs => wpIn_ret ⟨st, h, hs⟩
theorem awp_block {id : Nat} {c : Code} (h : AWp P Γ c st (Bq id Q)) : AWp P Γ (.block id c) st Q := fun a w hs => by
  refine wpIn_block (wpIn_mono (h a w hs) (fun e a' w' ⟨st', h1, h2⟩ => ?_))
  cases e with
  | normal => exact ⟨st', h1, h2⟩
  | exit k =>
    by_cases hk : k = id
    · subst hk
      simp only [Exit.inBlock, if_true]
      simp only [Bq, Nat.beq_refl] at h1
      exact ⟨st', h1, h2⟩
    · simp only [Exit.inBlock, if_neg hk]
      have : Nat.beq k id = false := by
        cases hb : Nat.beq k id with
        | false => rfl
        | true => exact absurd (Nat.eq_of_beq_eq_true hb) hk
      simp only [Bq, this] at h1
      exact ⟨st', h1, h2⟩
  | goto l => exact ⟨st', h1, h2⟩
  | ret => exact ⟨st', h1, h2⟩
  | panic c => exact ⟨st', h1, h2⟩
  | outgrown => exact ⟨st', h1, h2⟩
theorem evalO_env {a : Act} {w : World} {H : List LS} {x : Operand} {v : Value} (hs : SRel Γ (look st.env) st.H a w) (hx : evalO (look st.env) x = some (.s v)) : a.eval x = v := by
  obtain ⟨ι, _, he, _⟩ := hs
  exact s_inv (evalO_rep (G := Prot Γ.G ι st.H) (w := w) (ι := ι) (H := st.H) (fun t p _ hp => by obtain ⟨u, hu, hr⟩ := he t p hp; rwa [getD_of hu]) hx)
theorem awp_cond {x : Operand} {c d : Code} {b : Bool} (hx : evalO (look st.env) x = some (.s (.bool b))) (ht : b = true → AWp P Γ c st Q) (hf : b = false → AWp P Γ d st Q) : AWp P Γ (.cond x c d) st Q := fun a w hs =>
  wpIn_cond_split (evalO_env (H := st.H) hs hx) (fun e => ht e a w hs) (fun e => hf e a w hs)
theorem awp_loop {c : Code} {α : Type} (F : α → St) (I : α → Prop) (μ : α → Nat) (a0 : α) (ρ : List Nat) (h0 : Le ρ st (F a0)) (hI : I a0) (hk : ∀ i, i < Γ.H.length → ρ[i]? = some i)
    (hr : ∀ x, I x → AWp P Γ c (F x) (Sq (fun st' => ∃ y ρ', Le ρ' st' (F y) ∧ μ y < μ x ∧ I y ∧ ∀ i, i < Γ.H.length → ρ'[i]? = some i) Q)) : AWp P Γ (.loop c) st Q := fun a w hs => by
  refine wpIn_loop_ghost (fun n a w => ∃ x, μ x = n ∧ I x ∧ SRel Γ (look (F x).env) (F x).H a w) (μ a0) ⟨a0, rfl, hI, hs.le h0 hk⟩ (fun n a w ⟨x, hn, hIx, hsx⟩ => ?_)
  refine wpIn_mono (hr x hIx a w hsx) (fun e a' w' ⟨st', h1, h2⟩ => ?_)
  cases e with
  | normal =>
    obtain ⟨y, ρ', k1, k2, k4, k3⟩ := h1
    exact ⟨μ y, hn ▸ k2, y, rfl, k4, h2.le k1 k3⟩
  | exit id => exact ⟨st', h1, h2⟩
  | goto l => exact ⟨st', h1, h2⟩
  | ret => exact ⟨st', h1, h2⟩
  | panic c => exact ⟨st', h1, h2⟩
  | outgrown => exact ⟨st', h1, h2⟩
end code
end Go.Proofs.Pm
end
section
namespace Go.Proofs.Pm
open Go
def gEval (ops : Array Oper) (env : List (Nat × PV)) : Option (Nat × Bool) → Option Bool
  | none => some true
  | some (j, want) => match (ops[j]?).bind (·.dst) with
    | some d => match look env d with
      | some (.s v) => some (gv v want)
      | _ => none
    | none => none
theorem gEval_spec {ops : Array Oper} {env : List (Nat × PV)} {o : Oper} {b : Bool} (h : gEval ops env o.guard = some b) : guardIs ops o (look env) b := by
  unfold gEval at h
  unfold guardIs
  split at h
  · rename_i hg; rw [hg]; simpa using h.symm
  · rename_i j want hg
    rw [hg]
    split at h
    · rename_i d hd
      split at h
      · rename_i g hl
        exact ⟨d, g, hd, hl, by simpa using h⟩
      · cases h
    · cases h
def Ev (P : Program) (N : Nat) (ops : Array Oper) (draw : Bool) (acc : List (List Nat × List Nat)) (rest : List Oper) (st : St) (K : St → Prop) : Prop :=
  ∀ i, ops.toList.drop i = rest → ∃ l st' st2, Chain P N ops i st l st' ∧ l.length = rest.length ∧ (∀ t p, look st2.env t = some p → look st'.env t = some p) ∧ st'.H = st2.H ∧ K st2 ∧ (draw = true → okDraw ops (acc.reverse ++ keysOf l) = true)
inductive Snoc : List LS → LS → Nat → List LS → Prop
  | n0 {s} : Snoc [] s 0 [s]
  | n1 {a s} : Snoc [a] s 1 [a, s]
  | n2 {a b s} : Snoc [a, b] s 2 [a, b, s]
  | n3 {a b c s} : Snoc [a, b, c] s 3 [a, b, c, s]
  | n4 {a b c d s} : Snoc [a, b, c, d] s 4 [a, b, c, d, s]
  | n5 {a b c d e s} : Snoc [a, b, c, d, e] s 5 [a, b, c, d, e, s]
  | n6 {a b c d e f s} : Snoc [a, b, c, d, e, f] s 6 [a, b, c, d, e, f, s]
  | n7 {a b c d e f g s} : Snoc [a, b, c, d, e, f, g] s 7 [a, b, c, d, e, f, g, s]
  | n8 {a b c d e f g h s} : Snoc [a, b, c, d, e, f, g, h] s 8 [a, b, c, d, e, f, g, h, s]
  | n9 {a b c d e f g h i s} : Snoc [a, b, c, d, e, f, g, h, i] s 9 [a, b, c, d, e, f, g, h, i, s]
  | n10 {a b c d e f g h i j s} : Snoc [a, b, c, d, e, f, g, h, i, j] s 10 [a, b, c, d, e, f, g, h, i, j, s]
  | n11 {a b c d e f g h i j k s} : Snoc [a, b, c, d, e, f, g, h, i, j, k] s 11 [a, b, c, d, e, f, g, h, i, j, k, s]
  | n12 {a b c d e f g h i j k l s} : Snoc [a, b, c, d, e, f, g, h, i, j, k, l] s 12 [a, b, c, d, e, f, g, h, i, j, k, l, s]
theorem Snoc.spec {H : List LS} {s : LS} {n : Nat} {H' : List LS} (h : Snoc H s n H') : n = H.length ∧ H' = H ++ [s] := by cases h <;> exact ⟨rfl, rfl⟩
inductive SetAt : List LS → Nat → LS → List LS → Prop
  | zero {x H s} : SetAt (x :: H) 0 s (s :: H)
  | succ {x H n s H'} (h : SetAt H n s H') : SetAt (x :: H) (n + 1) s (x :: H')
theorem SetAt.spec {H : List LS} {n : Nat} {s : LS} {H' : List LS} (h : SetAt H n s H') : H' = H.set n s := by
  induction h with
  | zero => rfl
  | succ _ ih => simp [ih]
section
variable {P : Program} {Γ : Ctx} {N : Nat} {ops : Array Oper} {draw : Bool} {acc : List (List Nat × List Nat)} {rest : List Oper} {K : St → Prop} {env : List (Nat × PV)} {H H' : List LS} {st : St}
theorem ev_nil (h : K st) (hd : draw = false) : Ev P N ops draw acc [] st K := fun i _ => ⟨[], st, st, .nil, rfl, fun _ _ h => h, rfl, h, fun e => by rw [hd] at e; cases e⟩
theorem ev_nilD (h : K st) (hd : okDraw ops acc.reverse = true) : Ev P N ops draw acc [] st K := fun i _ => ⟨[], st, st, .nil, rfl, fun _ _ h => h, rfl, h, fun e => by simpa [keysOf] using hd⟩
theorem ev_core {o : Oper} {d pads : Nat} {r : PV} {reads writes : List (Nat × LS)} (hod : o.dst = some d) (hg : gEval ops env o.guard = some true) (hd : Nat.blt d N = true) (hs : OStep P o (look env) reads r writes) (hr : ∀ q ∈ reads, (pad H pads)[q.1]? = some q.2)
    (hw : ∀ q ∈ writes, q.1 ∈ reads.map (·.1)) (hH : setAll (pad H pads) writes = H') (h : Ev P N ops draw ((reads.map (·.1), writes.map (·.1)) :: acc) rest ⟨(d, r) :: env, H'⟩ K) : Ev P N ops draw acc (o :: rest) ⟨env, H⟩ K := fun i hi => by
  have ho : ops[i]? = some o := by
    rw [← Array.getElem?_toList]
    have := congrArg (fun l => l[0]?) hi
    simpa using this
  have hi' : ops.toList.drop (i + 1) = rest := by rw [← List.drop_drop, hi]; rfl
  obtain ⟨l, st', st2, h1, h2, h3, h4, h5, h6⟩ := h (i + 1) hi'
  refine ⟨⟨true, r, pads, reads, writes⟩ :: l, st', st2, .perf ho (by rw [hod]; exact hd) (gEval_spec hg) rfl hs hr hw ?_, by simp [h2], h3, h4, h5, fun e => ?_⟩
  · simpa only [hod, put, hH] using h1
  · simpa [keysOf] using h6 e
theorem ev_core0 {o : Oper} {pads : Nat} {r : PV} {reads writes : List (Nat × LS)} (hod : o.dst = none) (hg : gEval ops env o.guard = some true) (hs : OStep P o (look env) reads r writes) (hr : ∀ q ∈ reads, (pad H pads)[q.1]? = some q.2)
    (hw : ∀ q ∈ writes, q.1 ∈ reads.map (·.1)) (hH : setAll (pad H pads) writes = H') (h : Ev P N ops draw ((reads.map (·.1), writes.map (·.1)) :: acc) rest ⟨env, H'⟩ K) : Ev P N ops draw acc (o :: rest) ⟨env, H⟩ K := fun i hi => by
  have ho : ops[i]? = some o := by
    rw [← Array.getElem?_toList]
    have := congrArg (fun l => l[0]?) hi
    simpa using this
  have hi' : ops.toList.drop (i + 1) = rest := by rw [← List.drop_drop, hi]; rfl
  obtain ⟨l, st', st2, h1, h2, h3, h4, h5, h6⟩ := h (i + 1) hi'
  refine ⟨⟨true, r, pads, reads, writes⟩ :: l, st', st2, .perf ho (by rw [hod]; rfl) (gEval_spec hg) rfl hs hr hw ?_, by simp [h2], h3, h4, h5, fun e => ?_⟩
  · simpa only [hod, put, hH] using h1
  · simpa [keysOf] using h6 e
theorem ev_skip {op : Op} {ty : TypeId} {pos : String} {after : Array Edge} {gd : Option (Nat × Bool)} {d : Nat} (hg : gEval ops env gd = some false) (hd : Nat.blt d N = true) (h : Ev P N ops draw (([], []) :: acc) rest ⟨(d, .s undef) :: env, H⟩ K) : Ev P N ops draw acc (⟨some d, op, ty, pos, after, gd⟩ :: rest) ⟨env, H⟩ K := fun i hi => by
  have ho : ops[i]? = some ⟨some d, op, ty, pos, after, gd⟩ := by
    rw [← Array.getElem?_toList]
    have := congrArg (fun l => l[0]?) hi
    simpa using this
  have hi' : ops.toList.drop (i + 1) = rest := by rw [← List.drop_drop, hi]; rfl
  obtain ⟨l, st', st2, h1, h2, h3, h4, h5, h6⟩ := h (i + 1) hi'
  refine ⟨⟨false, .s undef, 0, [], []⟩ :: l, st', st2, .skip ho hd (gEval_spec hg) rfl ?_, by simp [h2], h3, h4, h5, fun e => ?_⟩
  · simpa only [put] using h1
  · simpa [keysOf] using h6 e
theorem ev_env {env' : List (Nat × PV)} (he : ∀ t p, look env' t = some p → look env t = some p) (h : Ev P N ops draw acc rest ⟨env', H⟩ K) : Ev P N ops draw acc rest ⟨env, H⟩ K := by
  have mono : ∀ {i : Nat} {st st' : St} {l : List Stp}, Chain P N ops i st l st' → ∀ {e2 : List (Nat × PV)}, (∀ t p, look st.env t = some p → look e2 t = some p) → ∃ st2, Chain P N ops i ⟨e2, st.H⟩ l st2 ∧ (∀ t p, look st'.env t = some p → look st2.env t = some p) ∧ st2.H = st'.H := by
    intro i st st' l hc
    have hput : ∀ {e e2 : List (Nat × PV)} {d : Option Nat} {r : PV}, (∀ t p, look e t = some p → look e2 t = some p) → ∀ t p, look (put e d r) t = some p → look (put e2 d r) t = some p := by
      intro e e2 d r h t p hp
      rw [look_put] at hp ⊢
      unfold putF at hp ⊢
      split
      · rename_i hd; rw [if_pos hd] at hp; exact hp
      · rename_i hd; rw [if_neg hd] at hp; exact h t p hp
    have hgd : ∀ {e e2 : List (Nat × PV)} {o : Oper} {b : Bool}, (∀ t p, look e t = some p → look e2 t = some p) → guardIs ops o (look e) b → guardIs ops o (look e2) b := by
      intro e e2 o b h hg
      unfold guardIs at hg ⊢
      split
      · rename_i hn; rw [hn] at hg; exact hg
      · rename_i j want hn
        rw [hn] at hg
        obtain ⟨d, g, h1, h2, h3⟩ := hg
        exact ⟨d, g, h1, h d _ h2, h3⟩
    induction hc with
    | nil => intro e2 h; exact ⟨_, .nil, h, rfl⟩
    | @perf i st o s l st' ho hd hg hp hs hr hw hc ih =>
      intro e2 h
      obtain ⟨st2, k1, k2, k3⟩ := ih (hput (d := o.dst) (r := s.r) h)
      exact ⟨st2, .perf ho hd (hgd h hg) hp (fun G w ι H a g1 g2 g3 g4 => hs G w ι H a g1 g2 (fun t p ht hp => g3 t p ht (h t p hp)) g4) hr hw k1, k2, k3⟩
    | @skip i st o s l st' ho hd hg hp hc ih =>
      intro e2 h
      obtain ⟨st2, k1, k2, k3⟩ := ih (hput (d := o.dst) (r := .s undef) h)
      exact ⟨st2, .skip ho hd (hgd h hg) hp k1, k2, k3⟩
  intro i hi
  obtain ⟨l, st', st2, h1, h2, h3, h4, h5, h6⟩ := h i hi
  obtain ⟨st3, k1, k2, k3⟩ := mono h1 he
  exact ⟨l, st3, st2, k1, h2, fun t p hp => k2 t p (h3 t p hp), k3.trans h4, h5, h6⟩
theorem look_dup {d : Nat} {q : PV} (hb : look env d = some q) : ∀ t p, look ((d, q) :: env) t = some p → look env t = some p := by
  intro t p hp
  simp only [look] at hp
  cases h : Nat.beq d t with
  | true =>
    rw [h] at hp
    rw [← Nat.eq_of_beq_eq_true h, hb]; exact hp
  | false => rw [h] at hp; exact hp
theorem ev_split {o : Oper} {j : Nat} {want b : Bool} {d : Nat} (hg : o.guard = some (j, want)) (hd : (ops[j]?).bind (·.dst) = some d) (hb : look env d = some (.s (.bool b))) (ht : b = true → Ev P N ops draw acc (o :: rest) ⟨(d, .s (.bool true)) :: env, H⟩ K) (hf : b = false → Ev P N ops draw acc (o :: rest) ⟨(d, .s (.bool false)) :: env, H⟩ K) : Ev P N ops draw acc (o :: rest) ⟨env, H⟩ K := by
  cases b with
  | true => exact ev_env (look_dup hb) (ht rfl)
  | false => exact ev_env (look_dup hb) (hf rfl)
theorem ev_is {v u : Value} {d : Nat} (hv : v = u) (h : Ev P N ops draw acc rest ⟨(d, .s u) :: env, H⟩ K) : Ev P N ops draw acc rest ⟨(d, .s v) :: env, H⟩ K := by rw [hv]; exact h
theorem ev_as {p q : PV} {d : Nat} (hv : p = q) (h : Ev P N ops draw acc rest ⟨(d, q) :: env, H⟩ K) : Ev P N ops draw acc rest ⟨(d, p) :: env, H⟩ K := by rw [hv]; exact h
theorem awp_reg {id : Nat} {Q : Exit → St → Prop} (h : Ev P Γ.N ops false [] ops.toList st (fun st' => Q .normal st')) : AWp P Γ (.region id ops false) st Q := fun a w hs => by
  obtain ⟨l, st', st2, h1, h2, h3, h4, h5, _⟩ := h 0 (by simp)
  refine wpIn_region ?_
  have := region_text (Q := fun e a' w' => ∃ st', Q e st' ∧ SRel Γ (look st'.env) st'.H a' w') h1 hs (fun a' w' hs' => ⟨st2, h5, by rw [← h4]; exact hs'.congr h3⟩)
  rw [h2] at this
  simpa [List.range_eq_range'] using this
theorem awp_draw {id : Nat} {Q : Exit → St → Prop} (hm : P.follows .mixedOrders = true) (h : Ev P Γ.N ops true [] ops.toList st (fun st' => Q .normal st')) : AWp P Γ (.region id ops true) st Q := fun a w hs => by
  obtain ⟨l, st', st2, h1, h2, h3, h4, h5, h6⟩ := h 0 (by simp)
  exact region_any (Q := fun e a' w' => ∃ st', Q e st' ∧ SRel Γ (look st'.env) st'.H a' w') h1 (by simpa using h2) (by simpa using h6 rfl) hm (fun a' w' hs' => ⟨st2, h5, by rw [← h4]; exact hs'.congr h3⟩) hs
end
end Go.Proofs.Pm
end
section
namespace Go.Proofs.Pm
open Go
section
variable {P : Program} {T : List TI} {N : Nat} {ops : Array Oper} {draw : Bool} {acc : List (List Nat × List Nat)} {rest : List Oper} {K : St → Prop} {env : List (Nat × PV)} {H H' : List LS} {d : Nat} {ty : TypeId} {pos : String} {after : Array Edge} {gd : Option (Nat × Bool)}
theorem ev_n {op : Op} {pvs : List PV} {r : PV} (hT : TOk P T) (hop : OpN T op pvs [] r) (hg : gEval ops env gd = some true) (hd : Nat.blt d N = true) (he : evalL (look env) op.operands.toList = some pvs) (h : Ev P N ops draw (([], []) :: acc) rest ⟨(d, r) :: env, H⟩ K) : Ev P N ops draw acc (⟨some d, op, ty, pos, after, gd⟩ :: rest) ⟨env, H⟩ K :=
  ev_core (pads := 0) rfl hg hd (ostep_n (OpN.sound hT hop) he) (fun q hq => by cases hq) (fun q hq => by cases hq) (by simp [setAll, pad]) h
theorem ev_n1 {op : Op} {pvs : List PV} {r : PV} {i : Nat} {s : LS} (hT : TOk P T) (hop : OpN T op pvs [(i, s)] r) (hg : gEval ops env gd = some true) (hd : Nat.blt d N = true) (he : evalL (look env) op.operands.toList = some pvs) (hr : H[i]? = some s) (h : Ev P N ops draw (([i], []) :: acc) rest ⟨(d, r) :: env, H⟩ K) : Ev P N ops draw acc (⟨some d, op, ty, pos, after, gd⟩ :: rest) ⟨env, H⟩ K :=
  ev_core (pads := 0) rfl hg hd (ostep_n (OpN.sound hT hop) he) (fun q hq => by
    rw [List.mem_singleton] at hq; subst hq
    simpa [pad] using hr) (fun q hq => by cases hq) (by simp [setAll, pad]) h
theorem ev_move {x : Operand} {p : PV} (hT : TOk P T) (hg : gEval ops env gd = some true) (hd : Nat.blt d N = true) (e0 : evalO (look env) x = some (p))  (h : Ev P N ops draw (([], []) :: acc) rest ⟨(d, p) :: env, H⟩ K) : Ev P N ops draw acc (⟨some d, .move x, ty, pos, after, gd⟩ :: rest) ⟨env, H⟩ K :=
  ev_n (op := .move x) (pvs := [p]) hT (.move) hg hd (by simp [Op.operands, Call.operands, evalL, e0]) h
theorem ev_assign {x : Operand} {p : PV} (hT : TOk P T) (hg : gEval ops env gd = some true) (hd : Nat.blt d N = true) (e0 : evalO (look env) x = some (p))  (h : Ev P N ops draw (([], []) :: acc) rest ⟨(d, p) :: env, H⟩ K) : Ev P N ops draw acc (⟨some d, .assign x, ty, pos, after, gd⟩ :: rest) ⟨env, H⟩ K :=
  ev_n (op := .assign x) (pvs := [p]) hT (.assign) hg hd (by simp [Op.operands, Call.operands, evalL, e0]) h
theorem ev_pickT {c x y : Operand} {p q : PV} (hT : TOk P T) (hg : gEval ops env gd = some true) (hd : Nat.blt d N = true) (e0 : evalO (look env) c = some (.s (.bool true))) (e1 : evalO (look env) x = some (p)) (e2 : evalO (look env) y = some (q))  (h : Ev P N ops draw (([], []) :: acc) rest ⟨(d, p) :: env, H⟩ K) : Ev P N ops draw acc (⟨some d, .pick c x y, ty, pos, after, gd⟩ :: rest) ⟨env, H⟩ K :=
  ev_n (op := .pick c x y) (pvs := [.s (.bool true), p, q]) hT (.pickT) hg hd (by simp [Op.operands, Call.operands, evalL, e0, e1, e2]) h
theorem ev_pickF {c x y : Operand} {p q : PV} (hT : TOk P T) (hg : gEval ops env gd = some true) (hd : Nat.blt d N = true) (e0 : evalO (look env) c = some (.s (.bool false))) (e1 : evalO (look env) x = some (p)) (e2 : evalO (look env) y = some (q))  (h : Ev P N ops draw (([], []) :: acc) rest ⟨(d, q) :: env, H⟩ K) : Ev P N ops draw acc (⟨some d, .pick c x y, ty, pos, after, gd⟩ :: rest) ⟨env, H⟩ K :=
  ev_n (op := .pick c x y) (pvs := [.s (.bool false), p, q]) hT (.pickF) hg hd (by simp [Op.operands, Call.operands, evalL, e0, e1, e2]) h
theorem ev_loadE {x : Operand} {t : TypeId} {ti : TI} {cs : List PV} {r : PV} (hT : TOk P T) (hg : gEval ops env gd = some true) (hd : Nat.blt d N = true) (e0 : evalO (look env) x = some (.eptr cs)) (h1 : lkT T t = some ti) (h2 : ti.ok = true) (h3 : loadO ti 0 cs = some r) (h : Ev P N ops draw (([], []) :: acc) rest ⟨(d, r) :: env, H⟩ K) : Ev P N ops draw acc (⟨some d, .load t x, ty, pos, after, gd⟩ :: rest) ⟨env, H⟩ K :=
  ev_n (op := .load t x) (pvs := [.eptr cs]) hT (.loadE h1 h2 h3) hg hd (by simp [Op.operands, Call.operands, evalL, e0]) h
theorem ev_loadB {x : Operand} {t bt : TypeId} {ti : TI} {i off : Nat} {cs : List PV} {r : PV} (hT : TOk P T) (hg : gEval ops env gd = some true) (hd : Nat.blt d N = true) (e0 : evalO (look env) x = some (.ptr i off)) (hrd : H[i]? = some (.box cs bt)) (h1 : lkT T t = some ti) (h2 : ti.ok = true) (h3 : loadO ti off cs = some r) (h : Ev P N ops draw (([i], []) :: acc) rest ⟨(d, r) :: env, H⟩ K) : Ev P N ops draw acc (⟨some d, .load t x, ty, pos, after, gd⟩ :: rest) ⟨env, H⟩ K :=
  ev_n1 (op := .load t x) (pvs := [.ptr i off]) hT (.loadB h1 h2 h3) hg hd (by simp [Op.operands, Call.operands, evalL, e0]) hrd h
theorem ev_faE {x : Operand} {t tf : TypeId} {j off sz : Nat} {ti : TI} {cs ds : List PV} (hT : TOk P T) (hg : gEval ops env gd = some true) (hd : Nat.blt d N = true) (e0 : evalO (look env) x = some (.eptr cs)) (h1 : lkT T t = some ti) (h2 : ti.ok = true) (h3 : fieldO ti j = some (off, sz, tf)) (h4 : Nat.beq sz 0 = false) (h5 : dropO off cs = some ds) (h : Ev P N ops draw (([], []) :: acc) rest ⟨(d, .eptr ds) :: env, H⟩ K) : Ev P N ops draw acc (⟨some d, .fieldAddr t x j, ty, pos, after, gd⟩ :: rest) ⟨env, H⟩ K :=
  ev_n (op := .fieldAddr t x j) (pvs := [.eptr cs]) hT (.faE h1 h2 h3 h4 h5) hg hd (by simp [Op.operands, Call.operands, evalL, e0]) h
theorem ev_faB {x : Operand} {t tf : TypeId} {i o j off sz : Nat} {ti : TI} (hT : TOk P T) (hg : gEval ops env gd = some true) (hd : Nat.blt d N = true) (e0 : evalO (look env) x = some (.ptr i o)) (h1 : lkT T t = some ti) (h2 : ti.ok = true) (h3 : fieldO ti j = some (off, sz, tf)) (h4 : Nat.beq sz 0 = false) (h : Ev P N ops draw (([], []) :: acc) rest ⟨(d, .ptr i (o + off)) :: env, H⟩ K) : Ev P N ops draw acc (⟨some d, .fieldAddr t x j, ty, pos, after, gd⟩ :: rest) ⟨env, H⟩ K :=
  ev_n (op := .fieldAddr t x j) (pvs := [.ptr i o]) hT (.faB h1 h2 h3 h4) hg hd (by simp [Op.operands, Call.operands, evalL, e0]) h
theorem ev_nilE {x : Operand} {cs : List PV} (hT : TOk P T) (hg : gEval ops env gd = some true) (hd : Nat.blt d N = true) (e0 : evalO (look env) x = some (.eptr cs))  (h : Ev P N ops draw (([], []) :: acc) rest ⟨(d, .eptr cs) :: env, H⟩ K) : Ev P N ops draw acc (⟨some d, .nilCheck x, ty, pos, after, gd⟩ :: rest) ⟨env, H⟩ K :=
  ev_n (op := .nilCheck x) (pvs := [.eptr cs]) hT (.nilE) hg hd (by simp [Op.operands, Call.operands, evalL, e0]) h
theorem ev_nilB {x : Operand} {i o : Nat} (hT : TOk P T) (hg : gEval ops env gd = some true) (hd : Nat.blt d N = true) (e0 : evalO (look env) x = some (.ptr i o))  (h : Ev P N ops draw (([], []) :: acc) rest ⟨(d, .ptr i o) :: env, H⟩ K) : Ev P N ops draw acc (⟨some d, .nilCheck x, ty, pos, after, gd⟩ :: rest) ⟨env, H⟩ K :=
  ev_n (op := .nilCheck x) (pvs := [.ptr i o]) hT (.nilB) hg hd (by simp [Op.operands, Call.operands, evalL, e0]) h
theorem ev_extract {x : Operand} {i : Nat} {xs : List PV} {r : PV} (hT : TOk P T) (hg : gEval ops env gd = some true) (hd : Nat.blt d N = true) (e0 : evalO (look env) x = some (.tup xs)) (h1 : xs[i]? = some r) (h : Ev P N ops draw (([], []) :: acc) rest ⟨(d, r) :: env, H⟩ K) : Ev P N ops draw acc (⟨some d, .extract x i, ty, pos, after, gd⟩ :: rest) ⟨env, H⟩ K :=
  ev_n (op := .extract x i) (pvs := [.tup xs]) hT (.extract h1) hg hd (by simp [Op.operands, Call.operands, evalL, e0]) h
theorem ev_iadd {x y : Operand} {t u : TypeId} {k : IntKind} {a b : Int} (hT : TOk P T) (hg : gEval ops env gd = some true) (hd : Nat.blt d N = true) (e0 : evalO (look env) x = some (.s (.int k a))) (e1 : evalO (look env) y = some (.s (.int k b)))  (h : Ev P N ops draw (([], []) :: acc) rest ⟨(d, .s (.int k (k.wrap (a + b)))) :: env, H⟩ K) : Ev P N ops draw acc (⟨some d, .binOp .add t x y u, ty, pos, after, gd⟩ :: rest) ⟨env, H⟩ K :=
  ev_n (op := .binOp .add t x y u) (pvs := [.s (.int k a), .s (.int k b)]) hT (.iadd) hg hd (by simp [Op.operands, Call.operands, evalL, e0, e1]) h
theorem ev_isub {x y : Operand} {t u : TypeId} {k : IntKind} {a b : Int} (hT : TOk P T) (hg : gEval ops env gd = some true) (hd : Nat.blt d N = true) (e0 : evalO (look env) x = some (.s (.int k a))) (e1 : evalO (look env) y = some (.s (.int k b)))  (h : Ev P N ops draw (([], []) :: acc) rest ⟨(d, .s (.int k (k.wrap (a - b)))) :: env, H⟩ K) : Ev P N ops draw acc (⟨some d, .binOp .sub t x y u, ty, pos, after, gd⟩ :: rest) ⟨env, H⟩ K :=
  ev_n (op := .binOp .sub t x y u) (pvs := [.s (.int k a), .s (.int k b)]) hT (.isub) hg hd (by simp [Op.operands, Call.operands, evalL, e0, e1]) h
theorem ev_ieql {x y : Operand} {t u : TypeId} {k : IntKind} {a b : Int} (hT : TOk P T) (hg : gEval ops env gd = some true) (hd : Nat.blt d N = true) (e0 : evalO (look env) x = some (.s (.int k a))) (e1 : evalO (look env) y = some (.s (.int k b)))  (h : Ev P N ops draw (([], []) :: acc) rest ⟨(d, .s (.bool (a == b))) :: env, H⟩ K) : Ev P N ops draw acc (⟨some d, .binOp .eql t x y u, ty, pos, after, gd⟩ :: rest) ⟨env, H⟩ K :=
  ev_n (op := .binOp .eql t x y u) (pvs := [.s (.int k a), .s (.int k b)]) hT (.ieql) hg hd (by simp [Op.operands, Call.operands, evalL, e0, e1]) h
theorem ev_ineq {x y : Operand} {t u : TypeId} {k : IntKind} {a b : Int} (hT : TOk P T) (hg : gEval ops env gd = some true) (hd : Nat.blt d N = true) (e0 : evalO (look env) x = some (.s (.int k a))) (e1 : evalO (look env) y = some (.s (.int k b)))  (h : Ev P N ops draw (([], []) :: acc) rest ⟨(d, .s (.bool (a != b))) :: env, H⟩ K) : Ev P N ops draw acc (⟨some d, .binOp .neq t x y u, ty, pos, after, gd⟩ :: rest) ⟨env, H⟩ K :=
  ev_n (op := .binOp .neq t x y u) (pvs := [.s (.int k a), .s (.int k b)]) hT (.ineq) hg hd (by simp [Op.operands, Call.operands, evalL, e0, e1]) h
theorem ev_ilss {x y : Operand} {t u : TypeId} {k : IntKind} {a b : Int} (hT : TOk P T) (hg : gEval ops env gd = some true) (hd : Nat.blt d N = true) (e0 : evalO (look env) x = some (.s (.int k a))) (e1 : evalO (look env) y = some (.s (.int k b)))  (h : Ev P N ops draw (([], []) :: acc) rest ⟨(d, .s (.bool (decide (a < b)))) :: env, H⟩ K) : Ev P N ops draw acc (⟨some d, .binOp .lss t x y u, ty, pos, after, gd⟩ :: rest) ⟨env, H⟩ K :=
  ev_n (op := .binOp .lss t x y u) (pvs := [.s (.int k a), .s (.int k b)]) hT (.ilss) hg hd (by simp [Op.operands, Call.operands, evalL, e0, e1]) h
theorem ev_ileq {x y : Operand} {t u : TypeId} {k : IntKind} {a b : Int} (hT : TOk P T) (hg : gEval ops env gd = some true) (hd : Nat.blt d N = true) (e0 : evalO (look env) x = some (.s (.int k a))) (e1 : evalO (look env) y = some (.s (.int k b)))  (h : Ev P N ops draw (([], []) :: acc) rest ⟨(d, .s (.bool (decide (a ≤ b)))) :: env, H⟩ K) : Ev P N ops draw acc (⟨some d, .binOp .leq t x y u, ty, pos, after, gd⟩ :: rest) ⟨env, H⟩ K :=
  ev_n (op := .binOp .leq t x y u) (pvs := [.s (.int k a), .s (.int k b)]) hT (.ileq) hg hd (by simp [Op.operands, Call.operands, evalL, e0, e1]) h
theorem ev_igtr {x y : Operand} {t u : TypeId} {k : IntKind} {a b : Int} (hT : TOk P T) (hg : gEval ops env gd = some true) (hd : Nat.blt d N = true) (e0 : evalO (look env) x = some (.s (.int k a))) (e1 : evalO (look env) y = some (.s (.int k b)))  (h : Ev P N ops draw (([], []) :: acc) rest ⟨(d, .s (.bool (decide (b < a)))) :: env, H⟩ K) : Ev P N ops draw acc (⟨some d, .binOp .gtr t x y u, ty, pos, after, gd⟩ :: rest) ⟨env, H⟩ K :=
  ev_n (op := .binOp .gtr t x y u) (pvs := [.s (.int k a), .s (.int k b)]) hT (.igtr) hg hd (by simp [Op.operands, Call.operands, evalL, e0, e1]) h
theorem ev_igeq {x y : Operand} {t u : TypeId} {k : IntKind} {a b : Int} (hT : TOk P T) (hg : gEval ops env gd = some true) (hd : Nat.blt d N = true) (e0 : evalO (look env) x = some (.s (.int k a))) (e1 : evalO (look env) y = some (.s (.int k b)))  (h : Ev P N ops draw (([], []) :: acc) rest ⟨(d, .s (.bool (decide (b ≤ a)))) :: env, H⟩ K) : Ev P N ops draw acc (⟨some d, .binOp .geq t x y u, ty, pos, after, gd⟩ :: rest) ⟨env, H⟩ K :=
  ev_n (op := .binOp .geq t x y u) (pvs := [.s (.int k a), .s (.int k b)]) hT (.igeq) hg hd (by simp [Op.operands, Call.operands, evalL, e0, e1]) h
theorem ev_iquo {x y : Operand} {t u : TypeId} {k : IntKind} {a b : Int} (hT : TOk P T) (hg : gEval ops env gd = some true) (hd : Nat.blt d N = true) (e0 : evalO (look env) x = some (.s (.int k a))) (e1 : evalO (look env) y = some (.s (.int k b))) (h1 : b ≠ 0) (h : Ev P N ops draw (([], []) :: acc) rest ⟨(d, .s (.int k (k.wrap (a.tdiv b)))) :: env, H⟩ K) : Ev P N ops draw acc (⟨some d, .binOp .quo t x y u, ty, pos, after, gd⟩ :: rest) ⟨env, H⟩ K :=
  ev_n (op := .binOp .quo t x y u) (pvs := [.s (.int k a), .s (.int k b)]) hT (.iquo h1) hg hd (by simp [Op.operands, Call.operands, evalL, e0, e1]) h
theorem ev_irem {x y : Operand} {t u : TypeId} {k : IntKind} {a b : Int} (hT : TOk P T) (hg : gEval ops env gd = some true) (hd : Nat.blt d N = true) (e0 : evalO (look env) x = some (.s (.int k a))) (e1 : evalO (look env) y = some (.s (.int k b))) (h1 : b ≠ 0) (h : Ev P N ops draw (([], []) :: acc) rest ⟨(d, .s (.int k (a.tmod b))) :: env, H⟩ K) : Ev P N ops draw acc (⟨some d, .binOp .rem t x y u, ty, pos, after, gd⟩ :: rest) ⟨env, H⟩ K :=
  ev_n (op := .binOp .rem t x y u) (pvs := [.s (.int k a), .s (.int k b)]) hT (.irem h1) hg hd (by simp [Op.operands, Call.operands, evalL, e0, e1]) h
theorem ev_sadd {x y : Operand} {t u : TypeId} {a b : ByteArray} (hT : TOk P T) (hg : gEval ops env gd = some true) (hd : Nat.blt d N = true) (e0 : evalO (look env) x = some (.s (.string a))) (e1 : evalO (look env) y = some (.s (.string b))) (h1 : a.size + b.size ≤ 9223372036854775807) (h : Ev P N ops draw (([], []) :: acc) rest ⟨(d, .s (.string (a ++ b))) :: env, H⟩ K) : Ev P N ops draw acc (⟨some d, .binOp .add t x y u, ty, pos, after, gd⟩ :: rest) ⟨env, H⟩ K :=
  ev_n (op := .binOp .add t x y u) (pvs := [.s (.string a), .s (.string b)]) hT (.sadd h1) hg hd (by simp [Op.operands, Call.operands, evalL, e0, e1]) h
theorem ev_seql {x y : Operand} {t u : TypeId} {a b : ByteArray} (hT : TOk P T) (hg : gEval ops env gd = some true) (hd : Nat.blt d N = true) (e0 : evalO (look env) x = some (.s (.string a))) (e1 : evalO (look env) y = some (.s (.string b)))  (h : Ev P N ops draw (([], []) :: acc) rest ⟨(d, .s (.bool (a.toList == b.toList))) :: env, H⟩ K) : Ev P N ops draw acc (⟨some d, .binOp .eql t x y u, ty, pos, after, gd⟩ :: rest) ⟨env, H⟩ K :=
  ev_n (op := .binOp .eql t x y u) (pvs := [.s (.string a), .s (.string b)]) hT (.seql) hg hd (by simp [Op.operands, Call.operands, evalL, e0, e1]) h
theorem ev_sneq {x y : Operand} {t u : TypeId} {a b : ByteArray} (hT : TOk P T) (hg : gEval ops env gd = some true) (hd : Nat.blt d N = true) (e0 : evalO (look env) x = some (.s (.string a))) (e1 : evalO (look env) y = some (.s (.string b)))  (h : Ev P N ops draw (([], []) :: acc) rest ⟨(d, .s (.bool (!(a.toList == b.toList)))) :: env, H⟩ K) : Ev P N ops draw acc (⟨some d, .binOp .neq t x y u, ty, pos, after, gd⟩ :: rest) ⟨env, H⟩ K :=
  ev_n (op := .binOp .neq t x y u) (pvs := [.s (.string a), .s (.string b)]) hT (.sneq) hg hd (by simp [Op.operands, Call.operands, evalL, e0, e1]) h
theorem ev_not {x : Operand} {t : TypeId} {b : Bool} (hT : TOk P T) (hg : gEval ops env gd = some true) (hd : Nat.blt d N = true) (e0 : evalO (look env) x = some (.s (.bool b)))  (h : Ev P N ops draw (([], []) :: acc) rest ⟨(d, .s (.bool (!b))) :: env, H⟩ K) : Ev P N ops draw acc (⟨some d, .unOp .not t x, ty, pos, after, gd⟩ :: rest) ⟨env, H⟩ K :=
  ev_n (op := .unOp .not t x) (pvs := [.s (.bool b)]) hT (.not) hg hd (by simp [Op.operands, Call.operands, evalL, e0]) h
theorem ev_conv {x : Operand} {s t : TypeId} {k k2 : IntKind} {a : Int} {ti tj : TI} (hT : TOk P T) (hg : gEval ops env gd = some true) (hd : Nat.blt d N = true) (e0 : evalO (look env) x = some (.s (.int k a))) (h1 : lkT T t = some ti) (h2 : ti.ok = true) (h3 : ti.k = .int k2) (h4 : lkT T s = some tj) (h5 : tj.ok = true) (h : Ev P N ops draw (([], []) :: acc) rest ⟨(d, .s (.int k2 (k2.wrap a))) :: env, H⟩ K) : Ev P N ops draw acc (⟨some d, .convert s t x, ty, pos, after, gd⟩ :: rest) ⟨env, H⟩ K :=
  ev_n (op := .convert s t x) (pvs := [.s (.int k a)]) hT (.conv h1 h2 h3 h4 h5) hg hd (by simp [Op.operands, Call.operands, evalL, e0]) h
theorem ev_imax {x y : Operand} {t u : TypeId} {k : IntKind} {a b : Int} (hT : TOk P T) (hg : gEval ops env gd = some true) (hd : Nat.blt d N = true) (e0 : evalO (look env) x = some (.s (.int k a))) (e1 : evalO (look env) y = some (.s (.int k b)))  (h : Ev P N ops draw (([], []) :: acc) rest ⟨(d, .s (.int k (if b > a then b else a))) :: env, H⟩ K) : Ev P N ops draw acc (⟨some d, .call { callee := .builtin .max, args := #[x, y], argTypes := #[t, u] }, ty, pos, after, gd⟩ :: rest) ⟨env, H⟩ K :=
  ev_n (op := .call { callee := .builtin .max, args := #[x, y], argTypes := #[t, u] }) (pvs := [.s (.int k a), .s (.int k b)]) hT (.imax) hg hd (by simp [Op.operands, Call.operands, evalL, e0, e1]) h
theorem ev_lenS {x : Operand} {t : TypeId} {a : ByteArray} {ti : TI} (hT : TOk P T) (hg : gEval ops env gd = some true) (hd : Nat.blt d N = true) (e0 : evalO (look env) x = some (.s (.string a))) (h1 : lkT T t = some ti) (h2 : ti.ok = true) (h3 : ti.k = .str) (h : Ev P N ops draw (([], []) :: acc) rest ⟨(d, .s (.int .i64 a.size)) :: env, H⟩ K) : Ev P N ops draw acc (⟨some d, .call { callee := .builtin .len, args := #[x], argTypes := #[t] }, ty, pos, after, gd⟩ :: rest) ⟨env, H⟩ K :=
  ev_n (op := .call { callee := .builtin .len, args := #[x], argTypes := #[t] }) (pvs := [.s (.string a)]) hT (.lenS h1 h2 h3) hg hd (by simp [Op.operands, Call.operands, evalL, e0]) h
theorem ev_lenL {x : Operand} {t e : TypeId} {xs : List (List PV)} {ti : TI} (hT : TOk P T) (hg : gEval ops env gd = some true) (hd : Nat.blt d N = true) (e0 : evalO (look env) x = some (.list xs)) (h1 : lkT T t = some ti) (h2 : ti.ok = true) (h3 : ti.k = .slice e) (h : Ev P N ops draw (([], []) :: acc) rest ⟨(d, .s (.int .i64 xs.length)) :: env, H⟩ K) : Ev P N ops draw acc (⟨some d, .call { callee := .builtin .len, args := #[x], argTypes := #[t] }, ty, pos, after, gd⟩ :: rest) ⟨env, H⟩ K :=
  ev_n (op := .call { callee := .builtin .len, args := #[x], argTypes := #[t] }) (pvs := [.list xs]) hT (.lenL h1 h2 h3) hg hd (by simp [Op.operands, Call.operands, evalL, e0]) h
theorem ev_lenR {x : Operand} {t e : TypeId} {xs : List (List PV)} {i : Nat} {ti : TI} (hT : TOk P T) (hg : gEval ops env gd = some true) (hd : Nat.blt d N = true) (e0 : evalO (look env) x = some (.row xs i)) (h1 : lkT T t = some ti) (h2 : ti.ok = true) (h3 : ti.k = .slice e) (h : Ev P N ops draw (([], []) :: acc) rest ⟨(d, .s (.int .i64 xs.length)) :: env, H⟩ K) : Ev P N ops draw acc (⟨some d, .call { callee := .builtin .len, args := #[x], argTypes := #[t] }, ty, pos, after, gd⟩ :: rest) ⟨env, H⟩ K :=
  ev_n (op := .call { callee := .builtin .len, args := #[x], argTypes := #[t] }) (pvs := [.row xs i]) hT (.lenR h1 h2 h3) hg hd (by simp [Op.operands, Call.operands, evalL, e0]) h
theorem ev_lenNil {x : Operand} {t e : TypeId} {n c : Nat} {ti : TI} (hT : TOk P T) (hg : gEval ops env gd = some true) (hd : Nat.blt d N = true) (e0 : evalO (look env) x = some (.s (.slice none n c))) (h1 : lkT T t = some ti) (h2 : ti.ok = true) (h3 : ti.k = .slice e) (h : Ev P N ops draw (([], []) :: acc) rest ⟨(d, .s (.int .i64 n)) :: env, H⟩ K) : Ev P N ops draw acc (⟨some d, .call { callee := .builtin .len, args := #[x], argTypes := #[t] }, ty, pos, after, gd⟩ :: rest) ⟨env, H⟩ K :=
  ev_n (op := .call { callee := .builtin .len, args := #[x], argTypes := #[t] }) (pvs := [.s (.slice none n c)]) hT (.lenNil h1 h2 h3) hg hd (by simp [Op.operands, Call.operands, evalL, e0]) h
theorem ev_iaL {x y : Operand} {t e : TypeId} {k : IntKind} {n : Int} {xs : List (List PV)} {c : List PV} {ti te : TI} (hT : TOk P T) (hg : gEval ops env gd = some true) (hd : Nat.blt d N = true) (e0 : evalO (look env) x = some (.list xs)) (e1 : evalO (look env) y = some (.s (.int k n))) (h1 : lkT T t = some ti) (h2 : ti.ok = true) (h3 : ti.k = .slice e) (h4 : lkT T e = some te) (h5 : te.ok = true) (h6 : 0 ≤ n) (h7 : xs[n.toNat]? = some c) (h8 : Nat.beq c.length te.size = true) (h : Ev P N ops draw (([], []) :: acc) rest ⟨(d, .eptr c) :: env, H⟩ K) : Ev P N ops draw acc (⟨some d, .indexAddr t x y, ty, pos, after, gd⟩ :: rest) ⟨env, H⟩ K :=
  ev_n (op := .indexAddr t x y) (pvs := [.list xs, .s (.int k n)]) hT (.iaL h1 h2 h3 h4 h5 h6 h7 h8) hg hd (by simp [Op.operands, Call.operands, evalL, e0, e1]) h
theorem ev_slS0 {x lo : Operand} {t : TypeId} {k : IntKind} {n : Int} {a : ByteArray} {ti : TI} (hT : TOk P T) (hg : gEval ops env gd = some true) (hd : Nat.blt d N = true) (e0 : evalO (look env) x = some (.s (.string a))) (e1 : evalO (look env) lo = some (.s (.int k n))) (h1 : lkT T t = some ti) (h2 : ti.ok = true) (h3 : ti.k = .str) (h4 : 0 ≤ n) (h5 : n ≤ a.size) (h : Ev P N ops draw (([], []) :: acc) rest ⟨(d, .s (.string (a.extract n.toNat a.size))) :: env, H⟩ K) : Ev P N ops draw acc (⟨some d, .slice t x (some lo) none none, ty, pos, after, gd⟩ :: rest) ⟨env, H⟩ K :=
  ev_n (op := .slice t x (some lo) none none) (pvs := [.s (.string a), .s (.int k n)]) hT (.slS0 h1 h2 h3 h4 h5) hg hd (by simp [Op.operands, Call.operands, evalL, e0, e1]) h
theorem ev_slS1 {x hi : Operand} {t : TypeId} {k : IntKind} {n : Int} {a : ByteArray} {ti : TI} (hT : TOk P T) (hg : gEval ops env gd = some true) (hd : Nat.blt d N = true) (e0 : evalO (look env) x = some (.s (.string a))) (e1 : evalO (look env) hi = some (.s (.int k n))) (h1 : lkT T t = some ti) (h2 : ti.ok = true) (h3 : ti.k = .str) (h4 : 0 ≤ n) (h5 : n ≤ a.size) (h : Ev P N ops draw (([], []) :: acc) rest ⟨(d, .s (.string (a.extract 0 n.toNat))) :: env, H⟩ K) : Ev P N ops draw acc (⟨some d, .slice t x none (some hi) none, ty, pos, after, gd⟩ :: rest) ⟨env, H⟩ K :=
  ev_n (op := .slice t x none (some hi) none) (pvs := [.s (.string a), .s (.int k n)]) hT (.slS1 h1 h2 h3 h4 h5) hg hd (by simp [Op.operands, Call.operands, evalL, e0, e1]) h
theorem ev_mkFn {g : FuncId} {first caps : Array Operand} {ps as bs : List PV} (hT : TOk P T) (hg : gEval ops env gd = some true) (hd : Nat.blt d N = true) (e0 : evalL (look env) (first ++ caps).toList = some ps) (h1 : ps.take first.size = as) (h2 : ps.drop first.size = bs) (h : Ev P N ops draw (([], []) :: acc) rest ⟨(d, .fn g as bs) :: env, H⟩ K) : Ev P N ops draw acc (⟨some d, .makeFunc (.func g) first caps, ty, pos, after, gd⟩ :: rest) ⟨env, H⟩ K :=
  ev_n (op := .makeFunc (.func g) first caps) hT (.mkFn h1 h2) hg hd (by simpa [Op.operands] using e0) h
theorem snoc_facts {s : LS} {l : Nat} (hs : Snoc H s l H') : (pad H 1)[l]? = some .absent ∧ setAll (pad H 1) [(l, s)] = H' := by
  obtain ⟨rfl, rfl⟩ := hs.spec
  refine ⟨by simp [pad], ?_⟩
  simp [pad, setAll, List.set_append]
theorem ev_box {t : TypeId} {x : Operand} {p : PV} {cs : List PV} {l : Nat} (hg : gEval ops env gd = some true) (hd : Nat.blt d N = true) (e0 : evalO (look env) x = some p) (h1 : cellsPV p = some cs) (h2 : Snoc H (.box cs t) l H') (h : Ev P N ops draw (([l], [l]) :: acc) rest ⟨(d, .ptr l 0) :: env, H'⟩ K) : Ev P N ops draw acc (⟨some d, .box t x, ty, pos, after, gd⟩ :: rest) ⟨env, H⟩ K :=
  ev_core (pads := 1) rfl hg hd (os_box rfl e0 h1 (l := l)) (fun q hq => by rw [List.mem_singleton] at hq; subst hq; exact (snoc_facts h2).1) (fun q hq => by rw [List.mem_singleton] at hq; subst hq; simp) (snoc_facts h2).2 h
theorem ev_alloc {t : TypeId} {ti : TI} {cs : List PV} {l : Nat} (hT : TOk P T) (hg : gEval ops env gd = some true) (hd : Nat.blt d N = true) (h1 : lkT T t = some ti) (h2 : ti.ok = true) (h3 : ti.zero.all (·.oneCell') = true) (h4 : ti.zero.map .s = cs) (h5 : Snoc H (.box cs t) l H') (h : Ev P N ops draw (([l], [l]) :: acc) rest ⟨(d, .ptr l 0) :: env, H'⟩ K) : Ev P N ops draw acc (⟨some d, .alloc t, ty, pos, after, gd⟩ :: rest) ⟨env, H⟩ K :=
  ev_core (pads := 1) rfl hg hd (os_alloc hT rfl h1 h2 h3 h4 (l := l)) (fun q hq => by rw [List.mem_singleton] at hq; subst hq; exact (snoc_facts h5).1) (fun q hq => by rw [List.mem_singleton] at hq; subst hq; simp) (snoc_facts h5).2 h
theorem ev_store {t bt : TypeId} {x y : Operand} {i off : Nat} {p : PV} {bs bs' cs : List PV} {ti : TI} (hT : TOk P T) (hg : gEval ops env gd = some true) (e0 : evalO (look env) x = some (.ptr i off)) (e1 : evalO (look env) y = some p) (h1 : cellsPV p = some cs) (hrd : H[i]? = some (.box bs bt)) (h2 : lkT T t = some ti) (h3 : ti.ok = true) (h4 : Nat.beq cs.length ti.size = true) (h5 : storeO bs off cs = some bs') (h6 : SetAt H i (.box bs' bt) H') (h : Ev P N ops draw (([i], [i]) :: acc) rest ⟨env, H'⟩ K) : Ev P N ops draw acc (⟨none, .store t x y, ty, pos, after, gd⟩ :: rest) ⟨env, H⟩ K :=
  ev_core0 (pads := 0) rfl hg (os_store hT rfl e0 e1 h1 h2 h3 h4 h5) (fun q hq => by rw [List.mem_singleton] at hq; subst hq; simpa [pad] using hrd) (fun q hq => by rw [List.mem_singleton] at hq; subst hq; simp) (by rw [h6.spec]; simp [setAll, pad]) h
theorem ev_buildSlice {t e : TypeId} {n : Nat} {parts : Array (Nat × Operand)} {xs : List Operand} {ps : List PV} {css : List (List PV)} {ti te : TI} {l : Nat} (hT : TOk P T) (hg : gEval ops env gd = some true) (hd : Nat.blt d N = true) (h1 : parts.toList.map (·.2) = xs) (h2 : parts.toList = (xs.zipIdx 0).map fun x => (x.2, x.1)) (e0 : evalL (look env) xs = some ps) (h3 : lkT T t = some ti) (h4 : ti.ok = true) (h5 : ti.k = .slice e) (h6 : lkT T e = some te) (h7 : te.ok = true) (h8 : Nat.beq xs.length n = true)
    (h9 : elemsO te.size ps = some css) (h10 : Nat.blt 0 (n * te.size) = true) (h11 : Nat.ble (n * te.size) 16777216 = true) (h12 : Snoc H (.row n te.size e) l H') (h : Ev P N ops draw (([l], [l]) :: acc) rest ⟨(d, .row css l) :: env, H'⟩ K) : Ev P N ops draw acc (⟨some d, .buildSlice t n parts, ty, pos, after, gd⟩ :: rest) ⟨env, H⟩ K :=
  ev_core (pads := 1) rfl hg hd (os_buildSlice hT rfl h1 h2 e0 h3 h4 h5 h6 h7 h8 h9 h10 h11 (l := l)) (fun q hq => by rw [List.mem_singleton] at hq; subst hq; exact (snoc_facts h12).1) (fun q hq => by rw [List.mem_singleton] at hq; subst hq; simp) (snoc_facts h12).2 h
theorem ev_append {t e : TypeId} {x y : Operand} {i n sz : Nat} {et : TypeId} {xs ys : List (List PV)} {q : PV} {ti te : TI} (hT : TOk P T) (hg : gEval ops env gd = some true) (hd : Nat.blt d N = true) (e0 : evalO (look env) x = some (.row xs i)) (e1 : evalO (look env) y = some q) (h1 : elemsOf q = some ys) (hrd : H[i]? = some (.row n sz et)) (h2 : lkT T t = some ti) (h3 : ti.ok = true) (h4 : ti.k = .slice e) (h5 : lkT T e = some te) (h6 : te.ok = true) (h8 : te.size = sz) (h9 : e = et) (h10 : Nat.blt 0 sz = true)
    (h13 : SetAt H i (.row (n + ys.length) sz et) H') (h7 : xs.length = n) (h11 : ∀ y ∈ ys, y.length = sz) (h12 : ∀ y ∈ xs, y.length = sz) (h14 : (xs.length + ys.length) * te.bytes ≤ 140737488355328) (h15 : xs.length + ys.length ≤ 9223372036854775807) (h : Ev P N ops draw (([i], [i]) :: acc) rest ⟨(d, .row (xs ++ ys) i) :: env, H'⟩ K) : Ev P N ops draw acc (⟨some d, .call { callee := .builtin .append, args := #[x, y], argTypes := #[t, t] }, ty, pos, after, gd⟩ :: rest) ⟨env, H⟩ K :=
  ev_core (pads := 0) rfl hg hd (os_append hT rfl e0 e1 h1 h2 h3 h4 h5 h6 h7 h8 h9 h10 h11 h12 h14 h15) (fun q hq => by rw [List.mem_singleton] at hq; subst hq; simpa [pad] using hrd) (fun q hq => by rw [List.mem_singleton] at hq; subst hq; simp) (by rw [h13.spec]; simp [setAll, pad]) h
mutual
theorem Mv.closed {R : Nat → Nat → Prop} : ∀ {p : PV}, closedB p = true → Mv R p p
  | .s _, _ => .frz rfl
  | .junk, _ => .frz rfl
  | .list _, _ => .frz rfl
  | .eptr _, _ => .frz rfl
  | .agg xs, h => .frz (by simp only [closedB] at h; simp [Pm.frz, h])
  | .tup xs, h => .frz (by simp only [closedB] at h; simp [Pm.frz, h])
  | .fn f a b, h => by
    simp only [closedB, Bool.and_eq_true] at h
    exact Mv.fnL (mvl_closed h.1) (mvl_closed h.2)
  | .row _ _, h => by simp [closedB] at h
  | .ptr _ _, h => by simp [closedB] at h
  | .mp _, h => by simp [closedB] at h
  | .sl _ _, h => by simp [closedB] at h
theorem mvl_closed {R : Nat → Nat → Prop} : ∀ {as : List PV}, closedLB as = true → MvL R as as
  | [], _ => .nil
  | p :: r, h => by
    simp only [closedLB, Bool.and_eq_true] at h
    exact .cons (Mv.closed h.1) (mvl_closed h.2)
end
theorem mvl_frz {R : Nat → Nat → Prop} : ∀ {as bs : List PV}, frzL as = some bs → MvL R as bs
  | [], bs, h => by simp only [frzL, Option.some.injEq] at h; subst h; exact .nil
  | p :: r, bs, h => by
    simp only [frzL] at h
    split at h
    · rename_i q qs hq hqs
      simp only [Option.some.injEq] at h
      subst h
      exact .cons (.frz hq) (mvl_frz hqs)
    · cases h
theorem ev_call {x : Operand} {xs : Array Operand} {tys : Array TypeId} {g : FuncId} {fs cs as args : List PV} {r : PV} (hg : gEval ops env gd = some true) (hd : Nat.blt d N = true) (e0 : evalO (look env) x = some (.fn g fs cs)) (e1 : evalL (look env) xs.toList = some as) (hf : frzL (fs ++ (as ++ cs)) = some args) (hc : FCall P g args [] r []) (hr : closedB r = true) (h : Ev P N ops draw (([], []) :: acc) rest ⟨(d, r) :: env, H⟩ K) : Ev P N ops draw acc (⟨some d, .call { callee := .value x, args := xs, argTypes := tys }, ty, pos, after, gd⟩ :: rest) ⟨env, H⟩ K :=
  ev_core (pads := 0) rfl hg hd (os_call (sg := []) (nu := []) (Sin := []) (Sout := []) rfl e0 e1 hc (mvl_frz hf) .nil (Mv.closed hr) .nil rfl rfl List.nodup_nil) (fun q hq => by cases hq) (fun q hq => by cases hq) (by simp [setAll, pad]) h
theorem ev_callR {x : Operand} {xs : Array Operand} {tys : Array TypeId} {g : FuncId} {fs cs as args : List PV} {ys : List (List PV)} {n sz l : Nat} {t : TypeId} (hg : gEval ops env gd = some true) (hd : Nat.blt d N = true) (e0 : evalO (look env) x = some (.fn g fs cs)) (e1 : evalL (look env) xs.toList = some as) (hf : frzL (fs ++ (as ++ cs)) = some args) (hc : FCall P g args [] (.row ys 0) [.row n sz t]) (h2 : Snoc H (.row n sz t) l H') (h : Ev P N ops draw (([l], [l]) :: acc) rest ⟨(d, .row ys l) :: env, H'⟩ K) : Ev P N ops draw acc (⟨some d, .call { callee := .value x, args := xs, argTypes := tys }, ty, pos, after, gd⟩ :: rest) ⟨env, H⟩ K :=
  ev_core (pads := 1) rfl hg hd (os_call (sg := []) (nu := [l]) (Sin := []) (Sout := [.row n sz t]) (r' := .row ys l) rfl e0 e1 hc (mvl_frz hf) .nil (.row rfl) (.cons .row .nil) rfl rfl (by simp)) (fun q hq => by
    simp at hq; subst hq; exact (snoc_facts h2).1) (fun q hq => by simp at hq; subst hq; simp) (by simpa using (snoc_facts h2).2) (by simpa using h)
end
end Go.Proofs.Pm
end
section
namespace Go.Proofs.Pm
open Go
def argEnv : Nat → List PV → List (Nat × PV)
  | _, [] => []
  | k, p :: r => (k, p) :: argEnv (k + 1) r
theorem argEnv_look : ∀ {ps : List PV} {k t : Nat} {p : PV}, look (argEnv k ps) t = some p → ∃ j, t = k + j ∧ ps[j]? = some p
  | [], _, _, _, h => by simp [argEnv, look] at h
  | q :: r, k, t, p, h => by
    simp only [argEnv, look] at h
    cases hb : Nat.beq k t with
    | true =>
      rw [hb] at h
      simp only [cond_true, Option.some.injEq] at h
      subst h
      exact ⟨0, by rw [← Nat.eq_of_beq_eq_true hb]; rfl, rfl⟩
    | false =>
      rw [hb] at h
      obtain ⟨j, h1, h2⟩ := argEnv_look h
      exact ⟨j + 1, by omega, by simpa using h2⟩
def resV (T : List TI) (st : St) : ResultVar → Option PV
  | .tmp t => look st.env t
  | .cell a t => match look st.env a with
    | some (.ptr i off) => match st.H[i]? with
      | some (.box cs _) => match lkT T t with
        | some ti => bif ti.ok then loadO ti off cs else none
        | none => none
      | _ => none
    | _ => none
def resL (T : List TI) (st : St) : List ResultVar → Option (List PV)
  | [] => some []
  | x :: r => match resV T st x with
    | some p => match resL T st r with
      | some ps => some (p :: ps)
      | none => none
    | none => none
def resO (T : List TI) (st : St) (rs : List ResultVar) : Option PV :=
  match rs with
  | [x] => resV T st x
  | rs => match resL T st rs with
    | some ps => some (.tup ps)
    | none => none
def resSem (tmps : Array Value) : ResultVar → Sem Value
  | .tmp t => pure (tmps.getD t undef)
  | .cell a t => do loadVar t (← asAddr (tmps.getD a undef))
theorem results_eq (fn : Func) (tmps : Array Value) : results fn tmps = (do
    let vs ← fn.results.mapM (resSem tmps)
    pure (if h : vs.size = 1 then vs[0] else .tuple vs)) := by
  unfold results
  have : ∀ (f g : ResultVar → Sem Value), (∀ x, f x = g x) → fn.results.mapM f = fn.results.mapM g := fun f g h => by rw [funext h]
  rw [this _ (resSem tmps) (fun x => by cases x <;> rfl)]
section
variable {P : Program} {T : List TI} {Γ : Ctx}
theorem resV_run {st : St} {a : Act} {w : World} {G : Good} {ι : Intp} {x : ResultVar} {p : PV} (hT : TOk P T) (hH : HRel G w ι st.H) (he : EnvR G w ι st.H (look st.env) a) (h : resV T st x = some p) :
    ∃ v, (resSem a.tmps x).run P w = .ok v w ∧ VRep (Prot G ι st.H) w ι st.H p v := by
  cases x with
  | tmp t =>
    obtain ⟨v, hv, hr⟩ := he t p h
    exact ⟨v, by simp [resSem, getD_of hv], hr⟩
  | cell b t =>
    simp only [resV] at h
    split at h <;> try cases h
    rename_i i off hl
    split at h <;> try cases h
    rename_i cs bt hb
    split at h <;> try cases h
    rename_i ti ht
    cases hk : ti.ok with
    | false => rw [hk] at h; cases h
    | true =>
      rw [hk] at h
      simp only [cond_true] at h
      obtain ⟨u, hu, hur⟩ := he b _ hl
      let o : Oper := { dst := none, op := .load t (.tmp b), type := 0, pos := "", after := #[], guard := none }
      obtain ⟨v, h1, h2⟩ := OpN.sound hT (OpN.loadB (x := .tmp b) ht hk h (i := i) (bt := bt)) o G w ι st.H (fun _ => u) rfl hH (.cons hur .nil) (fun q hq => by rw [List.mem_singleton] at hq; subst hq; exact hb)
      obtain ⟨b0, c0, cs', t', rfl, hi, hb'⟩ := ptr_inv hur
      refine ⟨v, ?_, h2⟩
      simp only [resSem, getD_of hu]
      simp [execOp, o, Instr.loadAt, Instr.sureAddr] at h1
      generalize hq : (loadVar t ⟨b0, off, none⟩).run P w = rr at h1
      cases rr with
      | ok v1 w1 => simp_all [asAddr]
      | halt e w1 => simp_all
theorem resL_run {st : St} {a : Act} {w : World} {G : Good} {ι : Intp} (hT : TOk P T) (hH : HRel G w ι st.H) (he : EnvR G w ι st.H (look st.env) a) : ∀ {rs : List ResultVar} {ps : List PV}, resL T st rs = some ps →
    ∃ vs, (rs.mapM (resSem a.tmps)).run P w = .ok vs w ∧ VReps (VRep (Prot G ι st.H) w ι st.H) ps vs
  | [], ps, h => by simp only [resL, Option.some.injEq] at h; subst h; exact ⟨[], by simp, .nil⟩
  | x :: rs, ps, h => by
    simp only [resL] at h
    split at h <;> try cases h
    rename_i p hp
    split at h <;> try cases h
    rename_i qs hq
    obtain ⟨v, h1, h2⟩ := resV_run hT hH he hp
    obtain ⟨vs, h3, h4⟩ := resL_run hT hH he hq
    refine ⟨v :: vs, ?_, .cons h2 h4⟩
    rw [List.mapM_cons]
    simp [Sem.run_bind, h1, h3, Sem.run_pure]
theorem results_run {fn : Func} {st : St} {a : Act} {w : World} {G : Good} {ι : Intp} {p : PV} (hT : TOk P T) (hH : HRel G w ι st.H) (he : EnvR G w ι st.H (look st.env) a) (h : resO T st fn.results.toList = some p) :
    ∃ v, (results fn a.tmps).run P w = .ok v w ∧ VRep (Prot G ι st.H) w ι st.H p v := by
  have key : ∀ {ps : List PV}, resL T st fn.results.toList = some ps → ∃ vs : List Value, (results fn a.tmps).run P w = .ok (if h : vs.toArray.size = 1 then vs.toArray[0] else .tuple vs.toArray) w ∧ VReps (VRep (Prot G ι st.H) w ι st.H) ps vs := by
    intro ps hps
    obtain ⟨vs, h1, h2⟩ := resL_run hT hH he hps
    refine ⟨vs, ?_, h2⟩
    rw [results_eq, Array.mapM_eq_mapM_toList]
    simp [Sem.run_bind, h1, Sem.run_pure]
  generalize hrs : fn.results.toList = rs at h
  rw [hrs] at key
  unfold resO at h
  split at h
  · rename_i x
    obtain ⟨vs, h1, h2⟩ := key (ps := [p]) (by simp [resL, h])
    cases h2 with
    | cons h3 h4 =>
      cases h4
      exact ⟨_, h1, by simpa using h3⟩
  · rename_i hne
    split at h <;> try cases h
    rename_i ps hps
    obtain ⟨vs, h1, h2⟩ := key hps
    refine ⟨_, h1, ?_⟩
    have hl := h2.length
    have hl2 : ∀ {rs : List ResultVar} {ps : List PV}, resL T st rs = some ps → ps.length = rs.length := by
      intro rs
      induction rs with
      | nil => intro ps h; simp only [resL, Option.some.injEq] at h; subst h; rfl
      | cons x r ih =>
        intro ps h
        simp only [resL] at h
        split at h <;> try cases h
        split at h <;> try cases h
        rename_i hq
        simp [ih hq]
    have h1' : ¬ vs.toArray.size = 1 := by
      intro e
      have : rs.length = 1 := by rw [← hl2 hps, hl]; simpa using e
      match rs, this with
      | [x], _ => exact hne x rfl
    rw [dif_neg h1']
    exact .tup (by simpa using hl) (fun j x v hx hv => h2.get j x v hx (by simpa using hv))
def Rt (T : List TI) (rs : List ResultVar) (k : Nat) (r : PV) (Hout : List LS) : Exit → St → Prop
  | .ret, st | .normal, st => ∃ p ρ, resO T st rs = some p ∧ Mv (fun i j => ρ[j]? = some i) p r ∧ Cut ρ st.H Hout ∧ ∀ i, i < k → ρ[i]? = some i
  | _, _ => False
theorem turn_ext {G : Good} {w : World} {ι : Intp} {H : List LS} {D : Nat} {ob o' : Obj} (hH : HRel G w ι H) (hD : w.heap[D]? = some ob) (hc : ∀ cs t z, ob ≠ .cells cs t z) (hn : ∀ i c, i < H.length → ι i ≠ some (D, c)) : Ext G w ι H (w.putObj D o') ι H ∧ HRel G (w.putObj D o') ι H := by
  have hblk : ∀ b, b ≠ D → (w.putObj D o').heap[b]? = w.heap[b]? := fun b hb => World.putObj_heap_other hb
  have hcell : ∀ (a : Addr) v, w.cell? a = some v → (w.putObj D o').cell? a = some v := fun a v h => by
    have hne : a.block ≠ D := fun e => by
      unfold World.cell? at h
      rw [e, hD] at h
      cases ob with
      | cells cs t z => exact hc _ _ _ rfl
      | _ => simp at h
    rw [World.cell?_of_block (hblk _ hne)]; exact h
  have he : Ext G w ι H (w.putObj D o') ι H := ⟨Nat.le_refl _, by simp, fun a v hp h => ⟨hcell a v h, hp⟩, fun i cs t hi => ⟨rfl, cs, hi⟩, fun i n sz t hi => ⟨n, hi, Nat.le_refl _, fun _ => rfl⟩, fun i kvs hi => ⟨rfl, kvs, hi⟩, fun i xs φ hi => ⟨rfl, xs, φ, hi⟩⟩
  refine ⟨he, fun i s hi => LRel.ext he rfl (fun b c e => hblk b (fun e2 => hn i c (List.getElem?_eq_some_iff.1 hi).1 (by rw [e, e2]))) (hH.rel i s hi), hH.inj, fun i b c hi e => by simpa using hH.lt i b c hi e, hH.good, hH.base.keep (fun a v => he.prot a v)⟩
theorem leave_marks {fn : Func} {tmps : Array Value} {R : Ending → World → Prop} {G : Good} {w : World} {ι : Intp} {Hin : List LS} {ι' : Intp} {H : List LS} :
    ∀ (l : List Nat) (w' : World), HRel G w' ι' H → Ext G w ι Hin w' ι' H → Out w ι Hin.length w' ι' H.length → l.Nodup → (∀ D ∈ l, w.heap.size ≤ D ∧ w'.heap[D]? = some (.deferred (some [])) ∧ ∀ i c, i < H.length → ι' i ≠ some (D, c)) →
      (∀ w'', HRel G w'' ι' H → Ext G w' ι' H w'' ι' H → Ext G w ι Hin w'' ι' H → Out w ι Hin.length w'' ι' H.length → LeavesIn Fence.wide 0 P fn tmps R [] .returning w'') → LeavesInM Fence.wide 0 P fn tmps R (l.map mark) .returning w'
  | [], w', h1, h2, h3, _, _, h6 => h6 w' h1 (Ext.refl _ _ _ _) h2 h3
  | D :: l, w', h1, h2, h3, h4, h5, h6 => by
    obtain ⟨g1, g2, g3⟩ := h5 D List.mem_cons_self
    obtain ⟨k1, k2⟩ := turn_ext (o' := .deferred none) h1 g2 (by simp) g3
    rw [List.nodup_cons] at h4
    refine ⟨by simp, .inl ⟨D, _, rfl, run_takeDeferred g2, ?_⟩⟩
    refine leave_marks l _ k2 (h2.trans k1) ⟨h3.os, h3.tape, h3.output, by simpa using h3.size, fun b hb hn => ?_, h3.new⟩ h4.2 (fun D' hD' => ?_) (fun w'' m1 m2 m3 m4 => h6 w'' m1 (k1.trans m2) m3 m4)
    · rw [World.putObj_heap_other (by omega)]; exact h3.block b hb hn
    · obtain ⟨q1, q2, q3⟩ := h5 D' (List.mem_cons_of_mem _ hD')
      exact ⟨q1, by
        have hne : D' ≠ D := fun e => h4.1 (by rw [← e]; exact hD')
        rw [World.putObj_heap_other hne]; exact q2, q3⟩
theorem fcall_intro {f : FuncId} {fn : Func} {c : Code} {args : List PV} {Hin Hout : List LS} {r : PV} {N : Nat} (hT : TOk P T) (hen : Enters P f) (hf : P.funcs[f]? = some fn) (hb : fn.body = some c) (hN : fn.ntmps = N) (hl : Nat.ble args.length N = true)
    (h : ∀ G w ι, AWp P { G := G, w := w, ι := ι, H := Hin, N := N } c ⟨argEnv 0 args, Hin⟩ (Rt T fn.results.toList Hin.length r Hout)) : FCall P f args Hin r Hout := by
  refine ⟨hen, fun G w ι av hH hG hav => ?_⟩
  refine (callsIn_wide (n := 0)).1 (callsIn_of_wp_marks hf hb trivial ?_)
  have hlen := hav.length
  have hle := Nat.le_of_ble_eq_true hl
  have hs : SRel { G := G, w := w, ι := ι, H := Hin, N := N } (look (argEnv 0 args)) Hin { tmps := av.toArray ++ Array.replicate (fn.ntmps - av.toArray.size) undef, defers := [] } w := by
    refine ⟨ι, hH, fun t p hp => ?_, hG, ?_, DRel.nil, Ext.refl _ _ _ _, Out.refl _ _ _⟩
    · obtain ⟨j, rfl, hj⟩ := argEnv_look hp
      have hjl : j < av.length := by rw [← hlen]; exact (List.getElem?_eq_some_iff.1 hj).1
      have h1 : av[j]? = some av[j] := List.getElem?_eq_getElem hjl
      refine ⟨av[j], ?_, hav.get j p _ hj h1⟩
      rw [Nat.zero_add, Array.getElem?_append_left (by simpa using hjl)]
      simpa using h1
    · simp [hN]; omega
  refine wpIn_mono (h G w ι _ w hs) (fun e a' w' ⟨st', h1, h2⟩ => ?_)
  have fin : ∀ {st' : St}, (∃ p ρ, resO T st' fn.results.toList = some p ∧ Mv (fun i j => ρ[j]? = some i) p r ∧ Cut ρ st'.H Hout ∧ ∀ i, i < Hin.length → ρ[i]? = some i) → SRel { G := G, w := w, ι := ι, H := Hin, N := N } (look st'.env) st'.H a' w' →
      LeavesInM Fence.wide 0 P fn a'.tmps (fun e w' => ∃ v ι', e = .returned v ∧ HRel G w' ι' Hout ∧ VRep (Prot G ι' Hout) w' ι' Hout r v ∧ Ext G w ι Hin w' ι' Hout ∧ Out w ι Hin.length w' ι' Hout.length) a'.defers .returning w' := by
    intro st' ⟨p, ρ, k1, k2, k3, k4⟩ hs'
    obtain ⟨ι', g1, g2, g3, g4, g5, g6, g7⟩ := hs'
    obtain ⟨l, d1, d2, d3⟩ := g5
    rw [d1]
    refine leave_marks l w' g1 g6 g7 d2 d3 (fun w'' m1 m2 m3 m4 => ?_)
    obtain ⟨v, q1, q2⟩ := results_run (a := a') hT m1 (fun t p hp => by obtain ⟨u, hu, hr⟩ := g2 t p hp; exact ⟨u, hu, hr.ext m2⟩) k1
    exact ⟨v, q1, v, _, rfl, k3.rel m1, k3.val k2 q2, k3.ext k4 m3, k3.out k4 m4⟩
  cases e with
  | normal => exact fin h1 h2
  | ret => exact fin h1 h2
  | exit id => exact h1.elim
  | goto l => exact h1.elim
  | panic c => exact h1.elim
  | outgrown => exact h1.elim
theorem absent_none {G : Good} {w : World} {ι : Intp} {H : List LS} {l : Nat} (hH : HRel G w ι H) (hl : H[l]? = some .absent) : ι l = none := hH.rel l _ hl
theorem ghost_rel {f : Nat → Option PV} {H : List LS} {a : Act} {w : World} {t sz : Nat} {et : TypeId} (h : SRel Γ f H a w) (ht : f t = some (.s (.slice none 0 0))) :
    SRel Γ (fun k => if k = t then some (.row [] H.length) else f k) (H ++ [.row 0 sz et]) a w := by
  obtain ⟨ι, h1, h2, h3, h4, h5, h6, h7⟩ := h.pad 1
  have hl : (pad H 1)[H.length]? = some .absent := by simp [pad]
  have hn := absent_none h1 hl
  have hset : (pad H 1).set H.length (.row 0 sz et) = H ++ [.row 0 sz et] := by simp [pad, List.set_append]
  have he : Ext Γ.G w ι (pad H 1) w ι ((pad H 1).set H.length (.row 0 sz et)) := by
    have hk : ∀ {i : Nat} {s : LS}, (pad H 1)[i]? = some s → s ≠ .absent → ((pad H 1).set H.length (.row 0 sz et))[i]? = some s := by
      intro i s hi hs
      have : i ≠ H.length := by intro e; subst e; rw [hl] at hi; injection hi with hi; exact hs hi.symm
      rw [List.getElem?_set_ne (Ne.symm this)]; exact hi
    refine ⟨by simp, Nat.le_refl _, fun ad v hp hc => ⟨hc, hp.1, fun i c hi e => ?_⟩, fun i cs t hi => ⟨rfl, cs, hk hi (by simp)⟩, fun i n sz t hi => ⟨n, hk hi (by simp), Nat.le_refl _, fun _ => rfl⟩, fun i kvs hi => ⟨rfl, kvs, hk hi (by simp)⟩, fun i xs φ hi => ⟨rfl, xs, φ, hk hi (by simp)⟩⟩
    obtain ⟨n, sz', t', k1, k2⟩ := hp.2 i c (by simpa using hi) e
    exact ⟨n, sz', t', hk k1 (by simp), k2⟩
  rw [hset] at he
  have hlen : H.length < (pad H 1).length := by simp [pad]
  have hle : (H ++ [LS.row 0 sz et]).length = (pad H 1).length := by simp [pad]
  refine ⟨ι, ?_, fun k p hp => ?_, h3, h4, by rw [hle]; exact h5, h6.trans he, ?_⟩
  · have := HRel.upd (s := .row 0 sz et) (ι' := ι) (w' := w) h1 hlen (fun _ _ => rfl) (by rw [hset]; exact he) (fun _ _ _ _ _ _ => rfl) (.inl ⟨hn, rfl⟩) (fun b c e => by rw [hn] at e; cases e) (fun b c e => by rw [hn] at e; cases e) (fun b c e => by rw [hn] at e; cases e)
    rwa [hset] at this
  · simp only at hp
    by_cases hkt : k = t
    · rw [if_pos hkt] at hp
      injection hp with hp
      subst hp hkt
      obtain ⟨v, hv, hr⟩ := h2 k _ ht
      rw [s_inv hr] at hv
      refine ⟨_, hv, .row (.list sz (fun _ _ => undef) rfl (Nat.le_refl _) (by simp [maxLen]) (fun x hx => by cases hx) (fun h0 => by omega) (fun i j x p hx => by simp at hx)) ⟨0, sz, et, by simp, Nat.le_refl _⟩ (fun _ _ _ => .inl ⟨hn, ⟨_, rfl⟩, rfl⟩)⟩
    · rw [if_neg hkt] at hp
      obtain ⟨v, hv, hr⟩ := h2 k p hp
      exact ⟨v, hv, hr.ext he⟩
  · have : (H ++ [LS.row 0 sz et]).length = (pad H 1).length := by simp [pad]
    rw [this]; exact h7
theorem awp_ghost {c : Code} {Q : Exit → St → Prop} {env : List (Nat × PV)} {H H' : List LS} (t sz : Nat) (et : TypeId) {l : Nat} (ht : look env t = some (.s (.slice none 0 0))) (hs : Snoc H (.row 0 sz et) l H') (h : AWp P Γ c ⟨(t, .row [] l) :: env, H'⟩ Q) : AWp P Γ c ⟨env, H⟩ Q := fun a w hs0 => by
  obtain ⟨rfl, rfl⟩ := hs.spec
  refine h a w ((ghost_rel (t := t) (sz := sz) (et := et) hs0 ht).congr (fun k p hp => ?_))
  simp only [look] at hp
  cases hb : Nat.beq t k with
  | true => rw [hb] at hp; rw [if_pos (Nat.eq_of_beq_eq_true hb).symm]; exact hp
  | false => rw [hb] at hp; rw [if_neg (fun e => by rw [e] at hb; simp at hb)]; exact hp
theorem awp_len {c : Code} {Q : Exit → St → Prop} {st : St} (t : Nat) {xs : List (List PV)} (ht : look st.env t = some (.list xs)) (h : xs.length ≤ 9223372036854775807 → AWp P Γ c st Q) : AWp P Γ c st Q := fun a w hs => by
  obtain ⟨ι, h1, h2, _⟩ := id hs
  obtain ⟨v, hv, hr⟩ := h2 t _ ht
  refine h ?_ a w hs
  generalize hp : PV.list xs = p at hr
  cases hr with
  | list sz vs hn hc hm hsz hA hr => cases hp; subst hn; exact Nat.le_trans hc (by simpa [maxLen] using hm)
  | _ => cases hp
theorem awp_weaken {c : Code} {Q : Exit → St → Prop} {st : St} (st2 : St) (ρ : List Nat) (hle : Le ρ st st2) (hk : ∀ i, i < Γ.H.length → ρ[i]? = some i) (h : AWp P Γ c st2 Q) : AWp P Γ c st Q := fun a w hs => h a w (hs.le hle hk)
end
end Go.Proofs.Pm
end

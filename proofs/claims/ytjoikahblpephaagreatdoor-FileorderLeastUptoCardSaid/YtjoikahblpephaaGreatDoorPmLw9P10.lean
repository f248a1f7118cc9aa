/- A part of the proof of one law: the machine on pure values and the walks of functions. -/
import Derived.Test.YtjoikahblpephaaGreatDoorPmLw9P9
import Derived.MapKept
import Derived.Carry
set_option linter.all false
section
namespace Go.Proofs.Pm
open Go
abbrev KV := List (ByteArray × PV)
def mpOf (l : KV) : List (PV × PV) := l.map fun q => (.s (.string q.1), q.2)
def idxM : KV → ByteArray → Option Nat
  | [], _ => none
  | q :: r, k => if k = q.1 then some 0 else (idxM r k).map (· + 1)
def getM : KV → ByteArray → Option PV
  | [], _ => none
  | q :: r, k => if k = q.1 then some q.2 else getM r k
def setM : KV → ByteArray → PV → KV
  | [], k, p => [(k, p)]
  | q :: r, k, p => if k = q.1 then (k, p) :: r else q :: setM r k p
theorem idxM_none : ∀ {l : KV} {k : ByteArray} (p : PV), idxM l k = none → getM l k = none ∧ setM l k p = l ++ [(k, p)]
  | [], k, p, _ => ⟨rfl, rfl⟩
  | q :: r, k, p, h => by
    simp only [idxM] at h
    split at h
    · cases h
    · rename_i hk
      obtain ⟨h1, h2⟩ := idxM_none p (by simpa using h)
      exact ⟨by simp [getM, hk, h1], by simp [setM, hk, h2]⟩
theorem idxM_some : ∀ {l : KV} {k : ByteArray} {j : Nat} (p : PV), idxM l k = some j → ∃ q, l[j]? = some q ∧ q.1 = k ∧ getM l k = some q.2 ∧ setM l k p = l.set j (k, p)
  | [], k, j, p, h => by simp [idxM] at h
  | q :: r, k, j, p, h => by
    simp only [idxM] at h
    split at h
    · rename_i hk
      injection h with h
      subst h
      exact ⟨q, rfl, hk.symm, by simp [getM, hk], by simp [setM, hk]⟩
    · rename_i hk
      obtain ⟨j', hj, rfl⟩ := Option.map_eq_some_iff.1 h
      obtain ⟨q', h1, h2, h3, h4⟩ := idxM_some p hj
      exact ⟨q', by simpa using h1, h2, by simp [getM, hk, h3], by simp [setM, hk, h4]⟩
theorem findNow_str {k : ByteArray} : ∀ {es : List MapEntry} {l : KV} (i : Nat), es.length = l.length → (∀ (j : Nat) (e : MapEntry) (q : ByteArray × PV), es[j]? = some e → l[j]? = some q → e.key = .string q.1) →
    (idxM l k = none → Instr.findNow .string (.string k) es i = some none) ∧ (∀ j e, idxM l k = some j → es[j]? = some e → Instr.findNow .string (.string k) es i = some (some (i + j, e.val)))
  | [], [], i, _, _ => ⟨fun _ => rfl, fun j e h => by simp [idxM] at h⟩
  | [], _ :: _, i, h, _ => by simp at h
  | _ :: _, [], i, h, _ => by simp at h
  | e :: es, q :: l, i, hl, h => by
    have h0 := h 0 e q rfl rfl
    obtain ⟨i1, i2⟩ := findNow_str (k := k) (es := es) (l := l) (i + 1) (by simpa using hl) (fun j e q he hq => h (j + 1) e q (by simpa using he) (by simpa using hq))
    simp only [idxM, Instr.findNow, h0, Instr.sameNow]
    by_cases hk : k = q.1
    · have hb : (k == q.1) = true := (MapKept.bytes_beq _ _).2 hk
      rw [hb, if_pos hk]
      refine ⟨fun h => (by cases h), fun j e' hj he => ?_⟩
      injection hj with hj
      subst hj
      simp at he
      subst he
      rfl
    · have hb : (k == q.1) = false := by
        cases hb : (k == q.1) with
        | false => rfl
        | true => exact absurd ((MapKept.bytes_beq _ _).1 hb) hk
      rw [hb, if_neg hk]
      refine ⟨fun h => i1 (by simpa using h), fun j e' hj he => ?_⟩
      obtain ⟨j', hj', rfl⟩ := Option.map_eq_some_iff.1 hj
      have := i2 j' e' hj' (by simpa using he)
      simp only [this]
      congr 3
      omega
section
variable {P : Program} {T : List TI} {o : Oper} {f : Nat → Option PV}
theorem kind_map {t k e : TypeId} {ti : TI} (hT : TOk P T) (ht : lkT T t = some ti) (hk : ti.ok = true) (hd : ti.k = .map k e) : P.underlying t = some (.map k e) := by
  obtain ⟨d, h1, h2⟩ := kind_at hT ht hk
  rw [hd] at h2
  cases d <;> simp [tkOf] at h2
  rw [h1, h2.1, h2.2]
theorem mp_at {G : Good} {w : World} {ι : Intp} {H : List LS} {i : Nat} {l : KV} {v : Value} (hH : HRel G w ι H) (hb : H[i]? = some (.mp (mpOf l))) (hv : VRep (Prot G ι H) w ι H (.mp i) v) :
    ∃ b c es clock, v = .map (some b) ∧ ι i = some (b, c) ∧ w.heap[b]? = some (.map es clock) ∧ es.size = l.length ∧ (∀ (j : Nat) (e : MapEntry) (q : ByteArray × PV), es[j]? = some e → l[j]? = some q → e.key = .string q.1 ∧ VRep (Prot G ι H) w ι H q.2 e.val) := by
  obtain ⟨b, c, kvs, rfl, hi, _⟩ := mp_inv hv
  obtain ⟨b', c', es, clock, hi', hblk, hl, hr⟩ := hH.rel i _ hb
  rw [hi] at hi'
  injection hi' with hi'
  injection hi' with e1 e2
  subst e1 e2
  refine ⟨b, c, es, clock, rfl, hi, hblk, by rw [← hl]; simp [mpOf], fun j e q he hq => ?_⟩
  obtain ⟨h1, h2⟩ := hr j (.s (.string q.1), q.2) e (by simp [mpOf, hq]) he
  exact ⟨s_inv h1, h2⟩
theorem os_makeMap {t : TypeId} {l : Nat} (ho : o.op = .makeMap t none) : OStep P o f [(l, .absent)] (.mp l) [(l, .mp (mpOf []))] := by
  intro G w ι H a hH hG hf hr
  have hl := hr (l, .absent) List.mem_cons_self
  have hll := (List.getElem?_eq_some_iff.1 hl).1
  unfold OpGoes
  have hrun : (execOp a.eval o).run P w = .ok (.value (.map (some w.heap.size))) (w.alloc (.map #[] 0)) := by
    simp [execOp, ho, Go.RowKit.run_makeMap]
  rw [hrun]
  exact ⟨updI ι l (some (w.heap.size, 0)), rel_new hH hG hl ⟨w.heap.size, 0, #[], 0, updI_self _ _ _, heap_alloc_new w _, rfl, fun j q e hq he => by simp at he⟩, .mp (updI_self _ _ _) ⟨_, by simp [setAll, hll]; rfl⟩, ext_new hl, out_new hll⟩
theorem nstep_lookup {t kt e : TypeId} {x y : Operand} {i : Nat} {l : KV} {k : ByteArray} {r : PV} {ti tk : TI} (hT : TOk P T) (ht : lkT T t = some ti) (hk : ti.ok = true) (hd : ti.k = .map kt e) (hK : lkT T kt = some tk) (hkk : tk.ok = true) (hks : tk.k = .str) (hg : getM l k = some r) :
    NStep P (.lookup t x y false) [.mp i, .s (.string k)] [(i, .mp (mpOf l))] r := by
  intro o G w ι H ρ ho hH hv hrd
  have hb := hrd (i, .mp (mpOf l)) List.mem_cons_self
  obtain ⟨e1, e2⟩ := VReps.two (v := ρ x) (u := ρ y) hv
  obtain ⟨b, c, es, clock, hx, hi, hblk, hsz, hes⟩ := mp_at hH hb e1
  have e2 := s_inv e2
  have hut := kind_map hT ht hk hd
  have huk := kind_str hT hK hkk hks
  cases hj : idxM l k with
  | none => rw [(idxM_none (.s undef) hj).1] at hg; cases hg
  | some j =>
    obtain ⟨q, h1, h2, h3, _⟩ := idxM_some (.s undef) hj
    rw [h3] at hg
    injection hg with hg
    subst hg
    have hjl : j < es.size := by rw [hsz]; exact (List.getElem?_eq_some_iff.1 h1).1
    have hfn := (findNow_str (k := k) (es := es.toList) (l := l) 0 (by simpa using hsz) (fun j e q he hq => (hes j e q (by simpa using he) hq).1)).2 j es[j] hj (by simp [hjl])
    refine ⟨es[j].val, ?_, (hes j es[j] q (by simp [hjl]) h1).2⟩
    simp [execOp, ho, hx, e2, Instr.lookup, run_underlying hut, MapKept.run_getObj_map hblk, MapKept.run_checkKey huk (show MapKept.IsKey .string (.string k) by simp [MapKept.IsKey]), MapKept.run_findKey huk hfn]
theorem nstep_lookup0 {t kt e : TypeId} {x y : Operand} {i : Nat} {l : KV} {k : ByteArray} {z : Value} {ti tk te : TI} (hT : TOk P T) (ht : lkT T t = some ti) (hk : ti.ok = true) (hd : ti.k = .map kt e) (hK : lkT T kt = some tk) (hkk : tk.ok = true) (hks : tk.k = .str)
    (hE : lkT T e = some te) (hke : te.ok = true) (hz : te.zero = [z]) (hag : te.agg = false) (hg : getM l k = none) :
    NStep P (.lookup t x y false) [.mp i, .s (.string k)] [(i, .mp (mpOf l))] (.s z) := by
  intro o G w ι H ρ ho hH hv hrd
  have hb := hrd (i, .mp (mpOf l)) List.mem_cons_self
  obtain ⟨e1, e2⟩ := VReps.two (v := ρ x) (u := ρ y) hv
  obtain ⟨b, c, es, clock, hx, hi, hblk, hsz, hes⟩ := mp_at hH hb e1
  have e2 := s_inv e2
  have hut := kind_map hT ht hk hd
  have huk := kind_str hT hK hkk hks
  obtain ⟨inf, d, z', g1, g2, g3, g4, g5, g6, g7, g8, g9, g10, g11⟩ := tiOf_ok (hT.at_ hE) hke
  have hzz : z' = z := by
    have := g11 (by rw [← g5]; exact hag)
    rw [hz, this] at g8
    simpa using g8.symm
  subst hzz
  cases hj : idxM l k with
  | some j =>
    obtain ⟨q, h1, h2, h3, _⟩ := idxM_some (.s undef) hj
    rw [h3] at hg
    cases hg
  | none =>
    have hfn := (findNow_str (k := k) (es := es.toList) (l := l) 0 (by simpa using hsz) (fun j e q he hq => (hes j e q (by simpa using he) hq).1)).1 hj
    refine ⟨z', ?_, .s _⟩
    simp [execOp, ho, hx, e2, Instr.lookup, run_underlying hut, MapKept.run_getObj_map hblk, MapKept.run_checkKey huk (show MapKept.IsKey .string (.string k) by simp [MapKept.IsKey]), MapKept.run_findKey huk hfn, zeroValue, typeInfo, g1, g3]
theorem ext_mp {G : Good} {w : World} {ι : Intp} {H : List LS} {i b c : Nat} {kvs kvs' : List (PV × PV)} {ob : Obj} (hi : ι i = some (b, c)) (hb : H[i]? = some (.mp kvs)) : Ext G w ι H { w with heap := w.heap.setIfInBounds b ob } ι (H.set i (.mp kvs')) := by
  have hll := (List.getElem?_eq_some_iff.1 hb).1
  refine ⟨by simp, by simp, fun a v hp hc => ?_, fun j cs t' hj => ?_, fun j n sz t' hj => ?_, fun j kvs hj => ?_, fun j xs φ hj => ?_⟩
  · have hne : a.block ≠ b := fun e => by
      obtain ⟨n, sz, t', h1, h2⟩ := hp.2 i c hll (by rw [e]; exact hi)
      rw [hb] at h1; injection h1 with h1; cases h1
    refine ⟨by rw [World.cell?_of_block (w := w) (by simp [Array.getElem?_setIfInBounds_ne (Ne.symm hne)])]; exact hc, hp.1, fun j d hj e => ?_⟩
    simp only [List.length_set] at hj
    by_cases hji : j = i
    · subst hji
      rw [hi] at e; injection e with e; injection e with e _; exact absurd e.symm hne
    · rw [List.getElem?_set_ne (Ne.symm hji)]
      exact hp.2 j d hj e
  · have hji : j ≠ i := fun e => by subst e; rw [hb] at hj; injection hj with hj; cases hj
    exact ⟨rfl, cs, by rw [List.getElem?_set_ne (Ne.symm hji)]; exact hj⟩
  · have hji : j ≠ i := fun e => by subst e; rw [hb] at hj; injection hj with hj; cases hj
    exact ⟨n, by rw [List.getElem?_set_ne (Ne.symm hji)]; exact hj, Nat.le_refl _, fun _ => rfl⟩
  · refine ⟨rfl, ?_⟩
    by_cases hji : j = i
    · subst hji
      exact ⟨kvs', by simp [hll]⟩
    · exact ⟨kvs, by rw [List.getElem?_set_ne (Ne.symm hji)]; exact hj⟩
  · have hji : j ≠ i := fun e => by subst e; rw [hb] at hj; injection hj with hj; cases hj
    exact ⟨rfl, xs, φ, by rw [List.getElem?_set_ne (Ne.symm hji)]; exact hj⟩
theorem os_mapUpdate {t kt e : TypeId} {x y z : Operand} {i : Nat} {l : KV} {k : ByteArray} {p : PV} {ti tk : TI} (hT : TOk P T) (ho : o.op = .mapUpdate t x y z) (hx : evalO f x = some (.mp i)) (hy : evalO f y = some (.s (.string k))) (hz : evalO f z = some p)
    (ht : lkT T t = some ti) (hk : ti.ok = true) (hd : ti.k = .map kt e) (hK : lkT T kt = some tk) (hkk : tk.ok = true) (hks : tk.k = .str) : OStep P o f [(i, .mp (mpOf l))] (.s undef) [(i, .mp (mpOf (setM l k p)))] := by
  intro G w ι H a hH hG hf hr
  have hb := hr (i, .mp (mpOf l)) List.mem_cons_self
  have hll := (List.getElem?_eq_some_iff.1 hb).1
  have hzv := evalO_mem hf (x := z) (by rw [ho]; simp [Op.operands]) hz
  have hyv := s_inv (evalO_mem hf (x := y) (by rw [ho]; simp [Op.operands]) hy)
  obtain ⟨b, c, es, clock, hxv, hi, hblk, hsz, hes⟩ := mp_at hH hb (evalO_mem hf (x := x) (by rw [ho]; simp [Op.operands]) hx)
  have hut := kind_map hT ht hk hd
  have huk := kind_str hT hK hkk hks
  have hfn := findNow_str (k := k) (es := es.toList) (l := l) 0 (by simpa using hsz) (fun j e q he hq => (hes j e q (by simpa using he) hq).1)
  have hkey : MapKept.IsKey .string (.string k) := by simp [MapKept.IsKey]
  have main : ∃ es' clock', (execOp a.eval o).run P w = .ok .skip { w with heap := w.heap.setIfInBounds b (.map es' clock') } ∧ es'.size = (setM l k p).length ∧
      (∀ (j : Nat) (e : MapEntry) (q : ByteArray × PV), es'[j]? = some e → (setM l k p)[j]? = some q → e.key = .string q.1 ∧ VRep (Prot G ι H) w ι H q.2 e.val) := by
    cases hj : idxM l k with
    | none =>
      have h1 := hfn.1 hj
      have h2 := (idxM_none p hj).2
      refine ⟨es.push { key := .string k, val := a.eval z, born := clock }, clock + 1, ?_, by rw [h2]; simp [hsz], fun j e q he hq => ?_⟩
      · simp [execOp, ho, hxv, hyv, Instr.mapUpdate, run_underlying hut, MapKept.run_getObj_map hblk, MapKept.run_checkKey huk hkey, MapKept.run_findKey huk h1, MapKept.run_setObj_map _ hblk, Result.andThen]
      · rw [h2] at hq
        by_cases hjl : j < l.length
        · rw [List.getElem?_append_left hjl] at hq
          rw [Array.getElem?_push, if_neg (by omega)] at he
          exact hes j e q he hq
        · rw [List.getElem?_append_right (by omega)] at hq
          have hj0 : j = l.length := by
            have := (List.getElem?_eq_some_iff.1 hq).1
            simp at this; omega
          subst hj0
          rw [Array.getElem?_push, if_pos hsz.symm] at he
          simp at he hq
          subst he hq
          exact ⟨rfl, hzv⟩
    | some j0 =>
      obtain ⟨q0, k1, k2, k3, k4⟩ := idxM_some p hj
      have hjl : j0 < es.size := by rw [hsz]; exact (List.getElem?_eq_some_iff.1 k1).1
      have h1 := hfn.2 j0 es[j0] hj (by simp [hjl])
      have hk0 := (hes j0 es[j0] q0 (by simp [hjl]) k1).1
      rw [k2] at hk0
      rw [Nat.zero_add] at h1
      refine ⟨es.modify j0 fun e => { e with key := .string k, val := a.eval z }, clock, ?_, by rw [k4]; simp [hsz], fun j e q he hq => ?_⟩
      · simp [execOp, ho, hxv, hyv, Instr.mapUpdate, run_underlying hut, MapKept.run_getObj_map hblk, MapKept.run_checkKey huk hkey, MapKept.run_findKey huk h1, hjl, hk0, MapKept.run_keyThatStays hkey, MapKept.run_setObj_map _ hblk, Result.andThen]
      · rw [k4] at hq
        rw [Array.getElem?_modify] at he
        by_cases hjj : j0 = j
        · subst hjj
          rw [List.getElem?_set_self (by rw [← hsz]; exact hjl)] at hq
          simp [hjl] at he hq
          subst he hq
          exact ⟨rfl, hzv⟩
        · rw [List.getElem?_set_ne hjj] at hq
          rw [if_neg hjj] at he
          exact hes j e q he hq
  obtain ⟨es', clock', hrun, hsz', hes'⟩ := main
  unfold OpGoes
  rw [hrun]
  have he := ext_mp (G := G) (w := w) (ι := ι) (H := H) (kvs' := mpOf (setM l k p)) (ob := .map es' clock') hi hb
  have hset : ∀ b2, b2 ≠ b → ({ w with heap := w.heap.setIfInBounds b (.map es' clock') } : World).heap[b2]? = w.heap[b2]? := fun b2 h => by simp [Array.getElem?_setIfInBounds_ne (Ne.symm h)]
  have hbl : b < w.heap.size := hH.lt i b c hll hi
  refine ⟨ι, hH.upd hll (fun _ _ => rfl) he (fun j b2 c2 hj hji e => hset b2 (fun e2 => hji (hH.inj j i b2 c2 c hj hll e (by rw [hi, e2])))) ⟨b, c, es', clock', hi, by simp [hbl], by simp [mpOf, hsz'], fun j q e hq hee => ?_⟩ (fun b2 c2 e j d hj hji e2 => ?_) (fun b2 c2 e => ?_) (fun b2 c2 e off => hH.good i b2 c2 hll e off), .s _, he, ⟨rfl, rfl, rfl, by simp, fun k hk hn => hset k (fun e => hn i c hll (by rw [hi, e])), fun j b2 c2 hj e => .inl ⟨hj, e⟩⟩⟩
  · simp only [mpOf, List.getElem?_map, Option.map_eq_some_iff] at hq
    obtain ⟨q', hq', rfl⟩ := hq
    obtain ⟨h1, h2⟩ := hes' j e q' hee hq'
    exact ⟨by rw [h1]; exact .s _, h2.ext he⟩
  · rw [hi] at e
    injection e with e
    injection e with e3 e4
    subst e3
    exact hji (hH.inj j i b d c hj hll e2 hi)
  · simp only [Array.size_setIfInBounds]
    exact hH.lt i b2 c2 hll e
theorem ghost_hrel {G : Good} {w : World} {ι : Intp} {H : List LS} {l sz : Nat} {et : TypeId} (h1 : HRel G w ι H) (hl : H[l]? = some .absent) : HRel G w ι (H.set l (.row 0 sz et)) ∧ Ext G w ι H w ι (H.set l (.row 0 sz et)) := by
  have hn := absent_none h1 hl
  have hll := (List.getElem?_eq_some_iff.1 hl).1
  have hk : ∀ {i : Nat} {s : LS}, H[i]? = some s → s ≠ .absent → (H.set l (.row 0 sz et))[i]? = some s := by
    intro i s hi hs
    have : i ≠ l := by intro e; subst e; rw [hl] at hi; injection hi with hi; exact hs hi.symm
    rw [List.getElem?_set_ne (Ne.symm this)]; exact hi
  have he : Ext G w ι H w ι (H.set l (.row 0 sz et)) := by
    refine ⟨by simp, Nat.le_refl _, fun ad v hp hc => ⟨hc, hp.1, fun i c hi e => ?_⟩, fun i cs t hi => ⟨rfl, cs, hk hi (by simp)⟩, fun i n sz t hi => ⟨n, hk hi (by simp), Nat.le_refl _, fun _ => rfl⟩, fun i kvs hi => ⟨rfl, kvs, hk hi (by simp)⟩, fun i xs φ hi => ⟨rfl, xs, φ, hk hi (by simp)⟩⟩
    obtain ⟨n, sz', t', k1, k2⟩ := hp.2 i c (by simpa using hi) e
    exact ⟨n, sz', t', hk k1 (by simp), k2⟩
  exact ⟨HRel.upd (s := .row 0 sz et) (ι' := ι) (w' := w) h1 hll (fun _ _ => rfl) he (fun _ _ _ _ _ _ => rfl) (.inl ⟨hn, rfl⟩) (fun b c e => by rw [hn] at e; cases e) (fun b c e => by rw [hn] at e; cases e) (fun b c e => by rw [hn] at e; cases e), he⟩
theorem OpGoes.imp {a : Act} {w : World} {K K' : Value → World → Prop} (h : OpGoes P o a w K) (hk : ∀ v w', K v w' → K' v w') : OpGoes P o a w K' := by
  unfold OpGoes at h ⊢
  generalize (execOp a.eval o).run P w = r at h ⊢
  cases r with
  | ok n w' =>
    cases n <;> simp only at h ⊢ <;> first
      | exact hk _ _ h
      | exact Calls.mono h (fun e w'' he => by obtain ⟨v, rfl, hv⟩ := he; exact ⟨v, rfl, hk _ _ hv⟩)
      | exact RoundIn.mono h (fun e w'' he => by obtain ⟨v, rfl, hv⟩ := he; exact ⟨v, rfl, hk _ _ hv⟩)
      | exact h.elim
  | halt x w' => exact h.elim
theorem os_appendNil {t e : TypeId} {tx : Nat} {y : Operand} {l sz : Nat} {et : TypeId} {ys : List (List PV)} {q : PV} {ti te : TI} (hT : TOk P T) (ho : o.op = .call { callee := .builtin .append, args := #[.tmp tx, y], argTypes := #[t, t] })
    (hx : evalO f (.tmp tx) = some (.s (.slice none 0 0))) (hy : evalO f y = some q) (hq : elemsOf q = some ys) (ht : lkT T t = some ti) (hk : ti.ok = true) (hd : ti.k = .slice e) (hE : lkT T e = some te) (hke : te.ok = true) (hsz : te.size = sz) (het : e = et)
    (hpos : Nat.blt 0 sz = true) (hys : ∀ y ∈ ys, y.length = sz) (hb : ys.length * te.bytes ≤ 140737488355328) (hm : ys.length ≤ 9223372036854775807) :
    OStep P o f [(l, .absent)] (.row ys l) [(l, .row ys.length sz et)] := by
  intro G w ι H a hH hG hf hr
  have hl := hr (l, .absent) List.mem_cons_self
  have hll := (List.getElem?_eq_some_iff.1 hl).1
  have hn := absent_none hH hl
  obtain ⟨h2, he⟩ := ghost_hrel (sz := sz) (et := et) hH hl
  have hget : (H.set l (.row 0 sz et))[l]? = some (.row 0 sz et) := by simp [hll]
  let f' : Nat → Option PV := fun k => if k = tx then some (.row [] l) else f k
  have hy' : ∃ q', evalO f' y = some q' ∧ elemsOf q' = some ys := by
    cases y with
    | tmp ty =>
      by_cases e : ty = tx
      · subst e
        rw [hx] at hy
        injection hy with hy
        subst hy
        exact ⟨.row [] l, by simp [evalO, f'], hq⟩
      · exact ⟨q, by simpa [evalO, f', e] using hy, hq⟩
    | const v => exact ⟨q, by simpa [evalO] using hy, hq⟩
    | func g => exact ⟨q, by simpa [evalO] using hy, hq⟩
    | global g => simp [evalO] at hy
  obtain ⟨q', hy1, hy2⟩ := hy'
  have hst := os_append (P := P) (T := T) (o := o) (f := f') (xs := []) (ys := ys) (q := q') (i := l) (n := 0) (sz := sz) (et := et) hT ho (by simp [evalO, f']) hy1 hy2 ht hk hd hE hke rfl hsz het hpos hys (by simp) (by simpa using hb) (by simpa using hm)
  have hgo := hst G w ι _ a h2 hG (fun t p htm hp => by
    simp only [f'] at hp
    split at hp
    · rename_i htx
      injection hp with hp
      subst hp htx
      have := s_inv (hf t _ htm hx)
      rw [this]
      exact .row (.list sz (fun _ _ => undef) rfl (Nat.le_refl _) (by simp [maxLen]) (fun x hx => by cases hx) (fun h0 => by simp at h0) (fun i j x p hx => by simp at hx)) ⟨0, sz, et, hget, Nat.le_refl _⟩ (fun _ _ _ => .inl ⟨hn, ⟨_, rfl⟩, rfl⟩)
    · exact (hf t p htm hp).ext he) (fun q hq => by rw [List.mem_singleton] at hq; subst hq; exact hget)
  refine OpGoes.imp hgo (fun v w' ⟨ι', k1, k2, k3, k4⟩ => ?_)
  simp only [setAll, List.set_set, Nat.zero_add, List.nil_append, List.length_set] at k1 k2 k3 k4 ⊢
  exact ⟨ι', k1, k2, he.trans k3, k4⟩
end
section
variable {P : Program} {T : List TI} {N : Nat} {ops : Array Oper} {draw : Bool} {acc : List (List Nat × List Nat)} {rest : List Oper} {K : St → Prop} {env : List (Nat × PV)} {H H' : List LS} {d : Nat} {ty : TypeId} {pos : String} {after : Array Edge} {gd : Option (Nat × Bool)}
theorem ev_makeMap {t : TypeId} {l : Nat} (hg : gEval ops env gd = some true) (hd : Nat.blt d N = true) (h2 : Snoc H (.mp (mpOf [])) l H') (h : Ev P N ops draw (([l], [l]) :: acc) rest ⟨(d, .mp l) :: env, H'⟩ K) : Ev P N ops draw acc (⟨some d, .makeMap t none, ty, pos, after, gd⟩ :: rest) ⟨env, H⟩ K :=
  ev_core (pads := 1) rfl hg hd (os_makeMap rfl (l := l)) (fun q hq => by rw [List.mem_singleton] at hq; subst hq; exact (snoc_facts h2).1) (fun q hq => by rw [List.mem_singleton] at hq; subst hq; simp) (snoc_facts h2).2 h
theorem ev_lookup {t kt e : TypeId} {x y : Operand} {i : Nat} {l : KV} {k : ByteArray} {r : PV} {ti tk : TI} (hT : TOk P T) (hg : gEval ops env gd = some true) (hd : Nat.blt d N = true) (e0 : evalO (look env) x = some (.mp i)) (e1 : evalO (look env) y = some (.s (.string k))) (hrd : H[i]? = some (.mp (mpOf l)))
    (h1 : lkT T t = some ti) (h2 : ti.ok = true) (h3 : ti.k = .map kt e) (h4 : lkT T kt = some tk) (h5 : tk.ok = true) (h6 : tk.k = .str) (hr : getM l k = some r) (h : Ev P N ops draw (([i], []) :: acc) rest ⟨(d, r) :: env, H⟩ K) : Ev P N ops draw acc (⟨some d, .lookup t x y false, ty, pos, after, gd⟩ :: rest) ⟨env, H⟩ K :=
  ev_core (pads := 0) rfl hg hd (ostep_n (nstep_lookup hT h1 h2 h3 h4 h5 h6 hr) (by simp [Op.operands, evalL, e0, e1])) (fun q hq => by
    rw [List.mem_singleton] at hq; subst hq
    simpa [pad] using hrd) (fun q hq => by cases hq) (by simp [setAll, pad]) h
theorem ev_lookup0 {t kt e : TypeId} {x y : Operand} {i : Nat} {l : KV} {k : ByteArray} {z : Value} {ti tk te : TI} (hT : TOk P T) (hg : gEval ops env gd = some true) (hd : Nat.blt d N = true) (e0 : evalO (look env) x = some (.mp i)) (e1 : evalO (look env) y = some (.s (.string k))) (hrd : H[i]? = some (.mp (mpOf l)))
    (h1 : lkT T t = some ti) (h2 : ti.ok = true) (h3 : ti.k = .map kt e) (h4 : lkT T kt = some tk) (h5 : tk.ok = true) (h6 : tk.k = .str) (h7 : lkT T e = some te) (h8 : te.ok = true) (h9 : te.zero = [z]) (h10 : te.agg = false) (hr : getM l k = none) (h : Ev P N ops draw (([i], []) :: acc) rest ⟨(d, .s z) :: env, H⟩ K) : Ev P N ops draw acc (⟨some d, .lookup t x y false, ty, pos, after, gd⟩ :: rest) ⟨env, H⟩ K :=
  ev_core (pads := 0) rfl hg hd (ostep_n (nstep_lookup0 hT h1 h2 h3 h4 h5 h6 h7 h8 h9 h10 hr) (by simp [Op.operands, evalL, e0, e1])) (fun q hq => by
    rw [List.mem_singleton] at hq; subst hq
    simpa [pad] using hrd) (fun q hq => by cases hq) (by simp [setAll, pad]) h
theorem ev_mapUpdate {t kt e : TypeId} {x y z : Operand} {i : Nat} {l : KV} {k : ByteArray} {p : PV} {ti tk : TI} (hT : TOk P T) (hg : gEval ops env gd = some true) (e0 : evalO (look env) x = some (.mp i)) (e1 : evalO (look env) y = some (.s (.string k))) (e2 : evalO (look env) z = some p) (hrd : H[i]? = some (.mp (mpOf l)))
    (h1 : lkT T t = some ti) (h2 : ti.ok = true) (h3 : ti.k = .map kt e) (h4 : lkT T kt = some tk) (h5 : tk.ok = true) (h6 : tk.k = .str) (h7 : SetAt H i (.mp (mpOf (setM l k p))) H') (h : Ev P N ops draw (([i], [i]) :: acc) rest ⟨env, H'⟩ K) : Ev P N ops draw acc (⟨none, .mapUpdate t x y z, ty, pos, after, gd⟩ :: rest) ⟨env, H⟩ K :=
  ev_core0 (pads := 0) rfl hg (os_mapUpdate hT rfl e0 e1 e2 h1 h2 h3 h4 h5 h6) (fun q hq => by rw [List.mem_singleton] at hq; subst hq; simpa [pad] using hrd) (fun q hq => by rw [List.mem_singleton] at hq; subst hq; simp) (by rw [h7.spec]; simp [setAll, pad]) h
end
end Go.Proofs.Pm
end

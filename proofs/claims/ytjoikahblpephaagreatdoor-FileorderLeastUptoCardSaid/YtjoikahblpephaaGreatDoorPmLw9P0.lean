/- A part of the proof of one law: the machine on pure values and the walks of functions. -/
import Derived.WalkKit
import Derived.Laws.AppendOwn
import Derived.Below
import Derived.Lib.DecodeN
set_option linter.all false
section
namespace Go.Proofs.Pm
open Go
inductive PV where
  | s (v : Value)
  | agg (xs : List PV)
  | tup (xs : List PV)
  | list (xs : List (List PV))
  | row (xs : List (List PV)) (i : Nat)
  | ptr (i off : Nat)
  | eptr (cs : List PV)
  | fn (f : FuncId) (first caps : List PV)
  | mp (i : Nat)
  | yl (i : Nat)
  | sl (i n : Nat)
  | junk
inductive LS where
  | box (cs : List PV) (t : TypeId)
  | row (n sz : Nat) (t : TypeId)
  | arr (xs : List (List PV)) (sz : Nat) (t : TypeId)
  | mp (kvs : List (PV × PV))
  | obj (xs : List PV) (φ : List Value → Obj)
  | absent
abbrev Intp := Nat → Option (Nat × Nat)
abbrev Good := Nat → Nat → Prop
def Prot (G : Good) (ι : Intp) (H : List LS) : Good := fun b off =>
  G b off ∧ ∀ i c, i < H.length → ι i = some (b, c) → ∃ n sz t, H[i]? = some (.row n sz t) ∧ off < n * sz
def Own (ι : Intp) (i n : Nat) (v : Value) : Prop :=
  (ι i = none ∧ (∃ A, v = .slice A 0 0) ∧ n = 0) ∨ ∃ b c, ι i = some (b, c) ∧ v = .slice (some ⟨b, 0, none⟩) n c
inductive VRep (G : Good) (w : World) : Intp → List LS → PV → Value → Prop
  | s {ι H} (v : Value) : VRep G w ι H (.s v) v
  | junk {ι H} (v : Value) : VRep G w ι H .junk v
  | agg {ι H xs} {vs : Array Value} (hl : xs.length = vs.size) (h1 : ∀ v ∈ vs, v.oneCell' = true) (hr : ∀ (j : Nat) (x : PV) (v : Value), xs[j]? = some x → vs[j]? = some v → VRep G w ι H x v) : VRep G w ι H (.agg xs) (.agg vs)
  | tup {ι H xs} {vs : Array Value} (hl : xs.length = vs.size) (hr : ∀ (j : Nat) (x : PV) (v : Value), xs[j]? = some x → vs[j]? = some v → VRep G w ι H x v) : VRep G w ι H (.tup xs) (.tuple vs)
  | list {ι H xs A n c} (sz : Nat) (vs : Nat → Nat → Value) (hn : n = xs.length) (hc : n ≤ c) (hm : c ≤ maxLen) (hsz : ∀ x ∈ xs, x.length = sz)
      (hA : 0 < n → ∃ ad : Addr, A = some ad ∧ ∀ (i j : Nat) (x : List PV), xs[i]? = some x → j < sz → w.cell? (ad.add (i * sz + j)) = some (vs i j) ∧ (vs i j).oneCell' = true ∧ G ad.block (ad.off + (i * sz + j)))
      (hr : ∀ (i j : Nat) (x : List PV) (p : PV), xs[i]? = some x → x[j]? = some p → VRep G w (fun _ => none) [] p (vs i j)) : VRep G w ι H (.list xs) (.slice A n c)
  | row {ι H xs i v} (h : VRep G w ι H (.list xs) v) (hi : ∃ n sz t, H[i]? = some (.row n sz t) ∧ xs.length ≤ n) (ho : ∀ sz t, H[i]? = some (.row xs.length sz t) → Own ι i xs.length v) : VRep G w ι H (.row xs i) v
  | ptr {ι H i off b c} (hi : ι i = some (b, c)) (hb : ∃ cs t, H[i]? = some (.box cs t)) : VRep G w ι H (.ptr i off) (.pointer (some ⟨b, off, none⟩))
  | eptr {ι H cs} (ad : Addr) (vs : Nat → Value) (hc : ∀ (j : Nat) (p : PV), cs[j]? = some p → w.cell? (ad.add j) = some (vs j) ∧ (vs j).oneCell' = true ∧ G ad.block (ad.off + j))
      (hr : ∀ (j : Nat) (p : PV), cs[j]? = some p → VRep G w (fun _ => none) [] p (vs j)) : VRep G w ι H (.eptr cs) (.pointer (some ad))
  | fn {ι H f first caps} {fs cs : Array Value} (hf : first.length = fs.size) (hc : caps.length = cs.size) (h1 : ∀ (j : Nat) (x : PV) (v : Value), first[j]? = some x → fs[j]? = some v → VRep G w ι H x v)
      (h2 : ∀ (j : Nat) (x : PV) (v : Value), caps[j]? = some x → cs[j]? = some v → VRep G w ι H x v) : VRep G w ι H (.fn f first caps) (.func (.func f) fs cs)
  | mp {ι H i b c} (hi : ι i = some (b, c)) (hb : ∃ kvs, H[i]? = some (.mp kvs)) : VRep G w ι H (.mp i) (.map (some b))
  | yl {ι H i b c} (hi : ι i = some (b, c)) (hb : ∃ xs φ, H[i]? = some (.obj xs φ)) : VRep G w ι H (.yl i) (.func (.yield b) #[] #[])
  | sl {ι H i n b c m} (hi : ι i = some (b, c)) (hb : ∃ cs t, H[i]? = some (.box cs t)) (hn : n ≤ m) (hm : m ≤ maxLen) : VRep G w ι H (.sl i n) (.slice (some ⟨b, 0, none⟩) n m)
def LRel (G : Good) (w : World) (ι : Intp) (H : List LS) (i : Nat) : LS → Prop
  | .box cs t => ∃ b c, ∃ vs : Array Value, ι i = some (b, c) ∧ w.heap[b]? = some (.cells vs t (0, 0)) ∧ cs.length ≤ vs.size ∧ (∀ (j : Nat) (v : Value), j < cs.length → vs[j]? = some v → v.oneCell' = true) ∧ ∀ (j : Nat) (x : PV) (v : Value), cs[j]? = some x → vs[j]? = some v → VRep G w ι H x v
  | .row n sz t => (ι i = none ∧ n = 0) ∨ ∃ b c, ∃ cur : Array Value, ι i = some (b, c) ∧ w.heap[b]? = some (.cells cur t (0, 0)) ∧ cur.size = c * sz ∧ n ≤ c ∧ c ≤ maxLen
  | .arr xs sz t => ∃ b c, ∃ vs : Array Value, ι i = some (b, c) ∧ w.heap[b]? = some (.cells vs t (0, 0)) ∧ xs.length * sz ≤ vs.size ∧ (∀ x ∈ xs, x.length = sz) ∧ (∀ v ∈ vs, v.oneCell' = true) ∧ ∀ (k j : Nat) (x : List PV) (p : PV) (v : Value), xs[k]? = some x → x[j]? = some p → vs[k * sz + j]? = some v → VRep G w ι H p v
  | .mp kvs => ∃ b c es clock, ι i = some (b, c) ∧ w.heap[b]? = some (.map es clock) ∧ kvs.length = es.size ∧ ∀ (j : Nat) (q : PV × PV) (e : MapEntry), kvs[j]? = some q → es[j]? = some e → VRep G w (fun _ => none) [] q.1 e.key ∧ VRep G w ι H q.2 e.val
  | .obj xs φ => ∃ b c vs, ι i = some (b, c) ∧ w.heap[b]? = some (φ vs) ∧ (∀ cs t z, φ vs ≠ .cells cs t z) ∧ xs.length = vs.length ∧ ∀ (j : Nat) (x : PV) (v : Value), xs[j]? = some x → vs[j]? = some v → VRep G w ι H x v
  | .absent => ι i = none
structure Base (G : Good) (w : World) : Prop where
  first : ∀ c, c < 256 → w.cell? ⟨1, c, none⟩ = some (.int .u8 (Lib.firstT c)) ∧ G 1 c
  lo : ∀ i, i < 16 → w.cell? ⟨2, 2 * i, none⟩ = some (.int .u8 (Lib.accLo i)) ∧ G 2 (2 * i)
  hi : ∀ i, i < 16 → w.cell? ⟨2, 2 * i + 1, none⟩ = some (.int .u8 (Lib.accHi i)) ∧ G 2 (2 * i + 1)
  len : ∃ m : Int, w.cell? ⟨0, 0, none⟩ = some (.int .i64 m) ∧ G 0 0
theorem Base.keep {G G' : Good} {w w' : World} (h : Base G w) (hg : ∀ (a : Addr) v, G a.block a.off → w.cell? a = some v → w'.cell? a = some v ∧ G' a.block a.off) : Base G' w' :=
  ⟨fun c hc => hg _ _ (h.first c hc).2 (h.first c hc).1, fun i hi => hg _ _ (h.lo i hi).2 (h.lo i hi).1, fun i hi => hg _ _ (h.hi i hi).2 (h.hi i hi).1, (let ⟨m, h1, h2⟩ := h.len; ⟨m, hg _ _ h2 h1⟩)⟩
structure HRel (G : Good) (w : World) (ι : Intp) (H : List LS) : Prop where
  rel : ∀ i s, H[i]? = some s → LRel (Prot G ι H) w ι H i s
  inj : ∀ i j b c d, i < H.length → j < H.length → ι i = some (b, c) → ι j = some (b, d) → i = j
  lt : ∀ i b c, i < H.length → ι i = some (b, c) → b < w.heap.size
  good : ∀ i b c, i < H.length → ι i = some (b, c) → ∀ off, G b off
  base : Base (Prot G ι H) w
structure Ext (G : Good) (w : World) (ι : Intp) (H : List LS) (w' : World) (ι' : Intp) (H' : List LS) : Prop where
  len : H.length ≤ H'.length
  heap : w.heap.size ≤ w'.heap.size
  prot : ∀ a v, Prot G ι H a.block a.off → w.cell? a = some v → w'.cell? a = some v ∧ Prot G ι' H' a.block a.off
  box : ∀ i cs t, H[i]? = some (.box cs t) → ι' i = ι i ∧ ∃ cs', H'[i]? = some (.box cs' t)
  row : ∀ i n sz t, H[i]? = some (.row n sz t) → ∃ n', H'[i]? = some (.row n' sz t) ∧ n ≤ n' ∧ (n' = n → ι' i = ι i)
  mp : ∀ i kvs, H[i]? = some (.mp kvs) → ι' i = ι i ∧ ∃ kvs', H'[i]? = some (.mp kvs')
  obj : ∀ i xs φ, H[i]? = some (.obj xs φ) → ι' i = ι i ∧ ∃ xs' φ', H'[i]? = some (.obj xs' φ')
structure Out (w : World) (ι : Intp) (k : Nat) (w' : World) (ι' : Intp) (k' : Nat) : Prop where
  os : w'.os = w.os
  tape : w'.tape = w.tape
  output : w'.output = w.output
  size : w.heap.size ≤ w'.heap.size
  block : ∀ b, b < w.heap.size → (∀ i c, i < k → ι i ≠ some (b, c)) → w'.heap[b]? = w.heap[b]?
  new : ∀ i b c, i < k' → ι' i = some (b, c) → (i < k ∧ ι i = some (b, c)) ∨ w.heap.size ≤ b
theorem Ext.refl (G : Good) (w : World) (ι : Intp) (H : List LS) : Ext G w ι H w ι H where
  len := Nat.le_refl _
  heap := Nat.le_refl _
  prot := fun _ _ h hc => ⟨hc, h⟩
  box := fun _ cs _ h => ⟨rfl, cs, h⟩
  row := fun _ n _ _ h => ⟨n, h, Nat.le_refl _, fun _ => rfl⟩
  mp := fun _ kvs h => ⟨rfl, kvs, h⟩
  obj := fun _ xs φ h => ⟨rfl, xs, φ, h⟩
theorem Ext.trans {G : Good} {w w1 w2 : World} {ι ι1 ι2 : Intp} {H H1 H2 : List LS} (h : Ext G w ι H w1 ι1 H1) (k : Ext G w1 ι1 H1 w2 ι2 H2) : Ext G w ι H w2 ι2 H2 where
  len := Nat.le_trans h.len k.len
  heap := Nat.le_trans h.heap k.heap
  prot := fun a v hp hc => by
    obtain ⟨h1, h2⟩ := h.prot a v hp hc
    exact k.prot a v h2 h1
  box := fun i cs t hi => by
    obtain ⟨h1, cs1, h2⟩ := h.box i cs t hi
    obtain ⟨h3, cs2, h4⟩ := k.box i cs1 t h2
    exact ⟨h3.trans h1, cs2, h4⟩
  row := fun i n sz t hi => by
    obtain ⟨n1, h1, h2, h3⟩ := h.row i n sz t hi
    obtain ⟨n2, k1, k2, k3⟩ := k.row i n1 sz t h1
    exact ⟨n2, k1, Nat.le_trans h2 k2, fun e => (k3 (by omega)).trans (h3 (by omega))⟩
  mp := fun i kvs hi => by
    obtain ⟨h1, cs1, h2⟩ := h.mp i kvs hi
    obtain ⟨h3, cs2, h4⟩ := k.mp i cs1 h2
    exact ⟨h3.trans h1, cs2, h4⟩
  obj := fun i xs φ hi => by
    obtain ⟨h1, xs1, φ1, h2⟩ := h.obj i xs φ hi
    obtain ⟨h3, xs2, φ2, h4⟩ := k.obj i xs1 φ1 h2
    exact ⟨h3.trans h1, xs2, φ2, h4⟩
theorem Out.refl (w : World) (ι : Intp) (k : Nat) : Out w ι k w ι k := ⟨rfl, rfl, rfl, Nat.le_refl _, fun _ _ _ => rfl, fun _ _ _ hi h => .inl ⟨hi, h⟩⟩
theorem Out.trans {w w1 w2 : World} {ι ι1 ι2 : Intp} {k k1 k2 : Nat} (h : Out w ι k w1 ι1 k1) (g : Out w1 ι1 k1 w2 ι2 k2) : Out w ι k w2 ι2 k2 where
  os := g.os.trans h.os
  tape := g.tape.trans h.tape
  output := g.output.trans h.output
  size := Nat.le_trans h.size g.size
  block := fun b hb hn => by
    refine (g.block b (Nat.lt_of_lt_of_le hb h.size) (fun i c hi he => ?_)).trans (h.block b hb hn)
    rcases h.new i b c hi he with ⟨h1, h2⟩ | h1
    · exact hn i c h1 h2
    · omega
  new := fun i b c hi he => by
    rcases g.new i b c hi he with ⟨h1, h2⟩ | h1
    · exact h.new i b c h1 h2
    · exact .inr (Nat.le_trans h.size h1)
theorem Own.keep {ι ι' : Intp} {i n : Nat} {v : Value} (h : Own ι i n v) (he : ι' i = ι i) : Own ι' i n v := by
  unfold Own at *
  rwa [he]
theorem VRep.keep {G G' : Good} {w w' : World} (hg : ∀ a v, G a.block a.off → w.cell? a = some v → w'.cell? a = some v ∧ G' a.block a.off) {ι : Intp} {H : List LS} {p : PV} {v : Value} (h : VRep G w ι H p v) :
    ∀ {ι' : Intp} {H' : List LS}, (∀ i cs t, H[i]? = some (.box cs t) → ι' i = ι i ∧ ∃ cs', H'[i]? = some (.box cs' t)) →
    (∀ i n sz t, H[i]? = some (.row n sz t) → ∃ n', H'[i]? = some (.row n' sz t) ∧ n ≤ n' ∧ (n' = n → ι' i = ι i)) → (∀ i kvs, H[i]? = some (.mp kvs) → ι' i = ι i ∧ ∃ kvs', H'[i]? = some (.mp kvs')) → (∀ i xs φ, H[i]? = some (.obj xs φ) → ι' i = ι i ∧ ∃ xs' φ', H'[i]? = some (.obj xs' φ')) → VRep G' w' ι' H' p v := by
  induction h with
  | s v => intro ι' H' _ _ _ _; exact .s v
  | junk v => intro ι' H' _ _ _ _; exact .junk v
  | agg hl h1 hr ih => intro ι' H' a b c d; exact .agg hl h1 (fun j x v hx hv => ih j x v hx hv a b c d)
  | tup hl hr ih => intro ι' H' a b c d; exact .tup hl (fun j x v hx hv => ih j x v hx hv a b c d)
  | list sz vs hn hc hm hsz hA hr ih =>
    intro ι' H' a b c d
    refine .list sz vs hn hc hm hsz (fun h0 => ?_) (fun i j x p hx hp => ih i j x p hx hp (fun _ _ _ h => by simp at h) (fun _ _ _ _ h => by simp at h) (fun _ _ h => by simp at h) (fun _ _ _ h => by simp at h))
    obtain ⟨ad, he, hcells⟩ := hA h0
    refine ⟨ad, he, fun i j x hx hj => ?_⟩
    obtain ⟨h2, h3, h4⟩ := hcells i j x hx hj
    have h5 := hg (ad.add (i * sz + j)) _ (by unfold Addr.add; split <;> simp_all) h2
    exact ⟨h5.1, h3, by have := h5.2; unfold Addr.add at this; split at this <;> simp_all⟩
  | row h hi ho ih =>
    intro ι' H' a b c d
    obtain ⟨n, sz, t, h1, h2⟩ := hi
    obtain ⟨n', h3, h4, h5⟩ := b _ n sz t h1
    refine .row (ih a b c d) ⟨n', sz, t, h3, by omega⟩ (fun sz2 t2 he => ?_)
    rw [h3] at he
    injection he with he
    injection he with e1 e2 e3
    subst e2 e3
    have hn : n' = n := by omega
    exact (ho sz t (by rw [h1, hn.symm.trans e1])).keep (h5 hn)
  | ptr hi hb =>
    intro ι' H' a b c d
    obtain ⟨cs, t, h1⟩ := hb
    obtain ⟨h2, cs', h3⟩ := a _ cs t h1
    exact .ptr (h2.trans hi) ⟨cs', t, h3⟩
  | eptr ad vs hc hr ih =>
    intro ι' H' a b c d
    refine .eptr ad vs (fun j p hp => ?_) (fun j p hp => ih j p hp (fun _ _ _ h => by simp at h) (fun _ _ _ _ h => by simp at h) (fun _ _ h => by simp at h) (fun _ _ _ h => by simp at h))
    obtain ⟨h2, h3, h4⟩ := hc j p hp
    have h5 := hg (ad.add j) _ (by unfold Addr.add; split <;> simp_all) h2
    exact ⟨h5.1, h3, by have := h5.2; unfold Addr.add at this; split at this <;> simp_all⟩
  | fn hf hc h1 h2 ih1 ih2 => intro ι' H' a b c d; exact .fn hf hc (fun j x v hx hv => ih1 j x v hx hv a b c d) (fun j x v hx hv => ih2 j x v hx hv a b c d)
  | mp hi hb =>
    intro ι' H' a b c d
    obtain ⟨kvs, h1⟩ := hb
    obtain ⟨h2, cs', h3⟩ := c _ kvs h1
    exact .mp (h2.trans hi) ⟨cs', h3⟩
  | yl hi hb =>
    intro ι' H' a b c d
    obtain ⟨xs, φ, h1⟩ := hb
    obtain ⟨h2, xs', φ', h3⟩ := d _ xs φ h1
    exact .yl (h2.trans hi) ⟨xs', φ', h3⟩
  | sl hi hb hn hm =>
    intro ι' H' a b c d
    obtain ⟨cs, t, h1⟩ := hb
    obtain ⟨h2, cs', h3⟩ := a _ cs t h1
    exact .sl (h2.trans hi) ⟨cs', t, h3⟩ hn hm
theorem VRep.ext {G : Good} {w w' : World} {ι ι' : Intp} {H H' : List LS} (he : Ext G w ι H w' ι' H') {p : PV} {v : Value} (h : VRep (Prot G ι H) w ι H p v) : VRep (Prot G ι' H') w' ι' H' p v :=
  h.keep (fun a v => he.prot a v) he.box he.row he.mp he.obj
end Go.Proofs.Pm
end

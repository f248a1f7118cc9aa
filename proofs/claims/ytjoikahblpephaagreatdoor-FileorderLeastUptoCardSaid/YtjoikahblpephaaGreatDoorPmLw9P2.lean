/- A part of the proof of one law: the machine on pure values and the walks of functions. -/
import Derived.Test.YtjoikahblpephaaGreatDoorPmLw9P1
import Derived.Laws.Cells
import Derived.Laws.Entries
set_option linter.all false
section
namespace Go.Proofs.Pm
open Go
inductive TK where
  | struct (fs : List (Nat × Nat × Nat))
  | arr (n e : Nat)
  | int (k : IntKind)
  | bool
  | str
  | slice (e : Nat)
  | ptr (e : Nat)
  | map (k e : Nat)
  | fn
  | other
structure TI where
  k : TK
  agg : Bool
  size : Nat
  bytes : Nat
  zero : List Value
  ok : Bool
def tkOf (P : Program) : TypeDesc → TK
  | .struct fs => .struct (fs.toList.map fun f => (f.offset, P.cellsOf f.type, f.type))
  | .array n e => .arr n e
  | .int k => .int k
  | .bool => .bool
  | .string => .str
  | .slice e => .slice e
  | .pointer e => .ptr e
  | .map k e => .map k e
  | .func .. => .fn
  | _ => .other
def aggOf : TypeDesc → Bool
  | .struct _ | .array _ _ => true
  | _ => false
def tiOf (P : Program) (t : TypeId) : TI :=
  match P.info? t, P.underlying t with
  | some i, some d => match i.zero with
    | some z => { k := tkOf P d, agg := aggOf d, size := i.size, bytes := i.bytes, zero := z.cells.toList, ok := (match z with | .agg _ => aggOf d | _ => !aggOf d) && decide (z.cells.size = i.size) }
    | none => { k := .other, agg := false, size := 0, bytes := 0, zero := [], ok := false }
  | _, _ => { k := .other, agg := false, size := 0, bytes := 0, zero := [], ok := false }
def lkT : List TI → Nat → Option TI
  | [], _ => none
  | x :: _, 0 => some x
  | _ :: r, n + 1 => lkT r n
theorem lkT_eq : ∀ (T : List TI) (n : Nat), lkT T n = T[n]?
  | [], _ => by simp [lkT]
  | x :: _, 0 => by simp [lkT]
  | _ :: r, n + 1 => by simp [lkT, lkT_eq r n]
def TOk (P : Program) (T : List TI) : Prop := (List.range T.length).map (tiOf P) = T
section table
variable {P : Program} {T : List TI} {t : Nat} {ti : TI}
theorem TOk.at_ (h : TOk P T) (ht : lkT T t = some ti) : tiOf P t = ti := by
  rw [lkT_eq] at ht
  have := congrArg (fun l => l[t]?) h
  simp only [List.getElem?_map] at this
  rw [ht] at this
  have hl := (List.getElem?_eq_some_iff.1 ht).1
  simpa [List.getElem?_range, hl] using this
theorem tiOf_ok (h : tiOf P t = ti) (hk : ti.ok = true) : ∃ i d z, P.info? t = some i ∧ P.underlying t = some d ∧ i.zero = some z ∧ ti.k = tkOf P d ∧ ti.agg = aggOf d ∧ ti.size = i.size ∧ ti.bytes = i.bytes ∧ ti.zero = z.cells.toList ∧ z.cells.size = i.size ∧ (aggOf d = true → ∃ cs, z = .agg cs) ∧ (aggOf d = false → z.cells = #[z]) := by
  unfold tiOf at h
  split at h
  · rename_i i d hi hd
    split at h
    · rename_i z hz
      subst h
      simp only [Bool.and_eq_true, decide_eq_true_eq] at hk
      refine ⟨i, d, z, hi, hd, hz, rfl, rfl, rfl, rfl, rfl, hk.2, fun ha => ?_, fun ha => ?_⟩
      · cases z <;> simp_all
      · cases z <;> simp_all [Value.cells]
    · subst h; cases hk
  · subst h; cases hk
end table
def evalO (f : Nat → Option PV) : Operand → Option PV
  | .tmp t => f t
  | .const v => some (.s v)
  | .func g => some (.fn g [] [])
  | .global _ => none
def evalL (f : Nat → Option PV) : List Operand → Option (List PV)
  | [] => some []
  | x :: r => match evalO f x with
    | some p => match evalL f r with
      | some ps => some (p :: ps)
      | none => none
    | none => none
inductive VReps (R : PV → Value → Prop) : List PV → List Value → Prop
  | nil : VReps R [] []
  | cons {p ps v vs} (h : R p v) (hr : VReps R ps vs) : VReps R (p :: ps) (v :: vs)
theorem VReps.length {R : PV → Value → Prop} {ps : List PV} {vs : List Value} (h : VReps R ps vs) : ps.length = vs.length := by
  induction h with
  | nil => rfl
  | cons _ _ ih => simp [ih]
theorem VReps.get {R : PV → Value → Prop} {ps : List PV} {vs : List Value} (h : VReps R ps vs) : ∀ (j : Nat) (p : PV) (v : Value), ps[j]? = some p → vs[j]? = some v → R p v := by
  induction h with
  | nil => intro j p v hp; simp at hp
  | cons h _ ih =>
    intro j p v hp hv
    cases j with
    | zero => simp at hp hv; subst hp hv; exact h
    | succ j => exact ih j p v (by simpa using hp) (by simpa using hv)
theorem VReps.mk {R : PV → Value → Prop} : ∀ {ps : List PV} {vs : List Value}, ps.length = vs.length → (∀ (j : Nat) (p : PV) (v : Value), ps[j]? = some p → vs[j]? = some v → R p v) → VReps R ps vs
  | [], [], _, _ => .nil
  | p :: ps, v :: vs, hl, h => .cons (h 0 p v rfl rfl) (VReps.mk (by simpa using hl) (fun j q u hq hu => h (j + 1) q u (by simpa using hq) (by simpa using hu)))
  | [], _ :: _, hl, _ => by simp at hl
  | _ :: _, [], hl, _ => by simp at hl
theorem VReps.imp {R R' : PV → Value → Prop} (hh : ∀ p v, R p v → R' p v) {ps : List PV} {vs : List Value} (h : VReps R ps vs) : VReps R' ps vs := by
  induction h with
  | nil => exact .nil
  | cons h _ ih => exact .cons (hh _ _ h) ih
theorem evalO_rep {G : Good} {w : World} {ι : Intp} {H : List LS} {f : Nat → Option PV} {a : Act} {x : Operand} {p : PV} (h : ∀ t p, x = .tmp t → f t = some p → VRep G w ι H p (a.tmps.getD t undef)) (he : evalO f x = some p) : VRep G w ι H p (a.eval x) := by
  cases x with
  | tmp t => exact h t p rfl he
  | const v => simp only [evalO, Option.some.injEq] at he; subst he; exact .s v
  | func g => simp only [evalO, Option.some.injEq] at he; subst he; exact .fn rfl rfl (fun j x v hx => by simp at hx) (fun j x v hx => by simp at hx)
  | global g => simp [evalO] at he
theorem evalL_rep {G : Good} {w : World} {ι : Intp} {H : List LS} {f : Nat → Option PV} {a : Act} : ∀ {xs : List Operand} {ps : List PV}, (∀ t p, .tmp t ∈ xs → f t = some p → VRep G w ι H p (a.tmps.getD t undef)) → evalL f xs = some ps →
    VReps (VRep G w ι H) ps (xs.map a.eval)
  | [], ps, _, he => by simp only [evalL, Option.some.injEq] at he; subst he; exact .nil
  | x :: xs, ps, h, he => by
    simp only [evalL] at he
    split at he
    · rename_i p hp
      split at he
      · rename_i qs hq
        simp only [Option.some.injEq] at he
        subst he
        exact .cons (evalO_rep (fun t p' ht hf => h t p' (by rw [ht]; exact List.mem_cons_self) hf) hp) (evalL_rep (fun t p' ht hf => h t p' (List.mem_cons_of_mem _ ht) hf) hq)
      · cases he
    · cases he
def takeO (off size : Nat) (cs : List PV) : Option (List PV) :=
  bif Nat.beq off 0 && Nat.beq cs.length size then some cs else bif Nat.ble (off + size) cs.length then some ((cs.drop off).take size) else none
theorem takeO_spec {off size : Nat} {cs ds : List PV} (h : takeO off size cs = some ds) : ds.length = size ∧ ∀ j p, ds[j]? = some p → cs[off + j]? = some p := by
  unfold takeO at h
  cases hb : (Nat.beq off 0 && Nat.beq cs.length size) with
  | true =>
    rw [hb] at h
    simp only [cond_true, Option.some.injEq] at h
    subst h
    simp only [Bool.and_eq_true] at hb
    have h1 := Nat.eq_of_beq_eq_true hb.1
    have h2 := Nat.eq_of_beq_eq_true hb.2
    subst h1
    exact ⟨h2, fun j p hp => by rwa [Nat.zero_add]⟩
  | false =>
    rw [hb] at h
    cases hc : Nat.ble (off + size) cs.length with
    | false => rw [hc] at h; simp at h
    | true =>
      rw [hc] at h
      simp only [cond_true, cond_false, Option.some.injEq] at h
      subst h
      have := Nat.le_of_ble_eq_true hc
      refine ⟨by simp; omega, fun j p hp => ?_⟩
      rw [List.getElem?_take] at hp
      split at hp
      · rwa [List.getElem?_drop] at hp
      · cases hp
def loadO (ti : TI) (off : Nat) (cs : List PV) : Option PV :=
  match ti.agg with
  | true => match takeO off ti.size cs with
    | some ds => some (.agg ds)
    | none => none
  | false => cs[off]?
def dropO (off : Nat) (cs : List PV) : Option (List PV) :=
  match off with
  | 0 => some cs
  | n + 1 => some (cs.drop (n + 1))
theorem dropO_spec {off : Nat} {cs ds : List PV} (h : dropO off cs = some ds) : ds = cs.drop off := by
  cases off <;> simp_all [dropO]
def fieldO (ti : TI) (j : Nat) : Option (Nat × Nat × Nat) :=
  match ti.k with
  | .struct fs => fs[j]?
  | _ => none
inductive OpN (T : List TI) : Op → List PV → List (Nat × LS) → PV → Prop
  | move {x p} : OpN T (.move x) [p] [] p
  | assign {x p} : OpN T (.assign x) [p] [] p
  | pickT {c a b p q} : OpN T (.pick c a b) [.s (.bool true), p, q] [] p
  | pickF {c a b p q} : OpN T (.pick c a b) [.s (.bool false), p, q] [] q
  | loadE {t x cs ti r} (hT : lkT T t = some ti) (hk : ti.ok = true) (hr : loadO ti 0 cs = some r) : OpN T (.load t x) [.eptr cs] [] r
  | loadB {t x i off cs bt ti r} (hT : lkT T t = some ti) (hk : ti.ok = true) (hr : loadO ti off cs = some r) : OpN T (.load t x) [.ptr i off] [(i, .box cs bt)] r
  | faE {t x j cs ti off sz tf ds} (hT : lkT T t = some ti) (hk : ti.ok = true) (hf : fieldO ti j = some (off, sz, tf)) (hz : Nat.beq sz 0 = false) (hd : dropO off cs = some ds) : OpN T (.fieldAddr t x j) [.eptr cs] [] (.eptr ds)
  | faB {t x j i o ti off sz tf} (hT : lkT T t = some ti) (hk : ti.ok = true) (hf : fieldO ti j = some (off, sz, tf)) (hz : Nat.beq sz 0 = false) : OpN T (.fieldAddr t x j) [.ptr i o] [] (.ptr i (o + off))
  | nilE {x cs} : OpN T (.nilCheck x) [.eptr cs] [] (.eptr cs)
  | nilB {x i o} : OpN T (.nilCheck x) [.ptr i o] [] (.ptr i o)
  | nilF {x f a b} : OpN T (.nilCheck x) [.fn f a b] [] (.fn f a b)
  | extract {x i xs r} (hr : xs[i]? = some r) : OpN T (.extract x i) [.tup xs] [] r
  | fieldV {t x j cs ti off sz tf tj r} (hT : lkT T t = some ti) (hk : ti.ok = true) (hf : fieldO ti j = some (off, sz, tf)) (hF : lkT T tf = some tj) (hj : tj.ok = true) (hr : loadO tj off cs = some r) : OpN T (.field t x j) [.agg cs] [] r
  | mkFn {f first caps ps as bs} (h1 : ps.take first.size = as) (h2 : ps.drop first.size = bs) : OpN T (.makeFunc (.func f) first caps) ps [] (.fn f as bs)
  | iadd {t u x y k a b} : OpN T (.binOp .add t x y u) [.s (.int k a), .s (.int k b)] [] (.s (.int k (k.wrap (a + b))))
  | isub {t u x y k a b} : OpN T (.binOp .sub t x y u) [.s (.int k a), .s (.int k b)] [] (.s (.int k (k.wrap (a - b))))
  | imul {t u x y k a b} : OpN T (.binOp .mul t x y u) [.s (.int k a), .s (.int k b)] [] (.s (.int k (k.wrap (a * b))))
  | iquo {t u x y k a b} (h0 : b ≠ 0) : OpN T (.binOp .quo t x y u) [.s (.int k a), .s (.int k b)] [] (.s (.int k (k.wrap (a.tdiv b))))
  | irem {t u x y k a b} (h0 : b ≠ 0) : OpN T (.binOp .rem t x y u) [.s (.int k a), .s (.int k b)] [] (.s (.int k (a.tmod b)))
  | ieql {t u x y k a b} : OpN T (.binOp .eql t x y u) [.s (.int k a), .s (.int k b)] [] (.s (.bool (a == b)))
  | ineq {t u x y k a b} : OpN T (.binOp .neq t x y u) [.s (.int k a), .s (.int k b)] [] (.s (.bool (a != b)))
  | ilss {t u x y k a b} : OpN T (.binOp .lss t x y u) [.s (.int k a), .s (.int k b)] [] (.s (.bool (decide (a < b))))
  | ileq {t u x y k a b} : OpN T (.binOp .leq t x y u) [.s (.int k a), .s (.int k b)] [] (.s (.bool (decide (a ≤ b))))
  | igtr {t u x y k a b} : OpN T (.binOp .gtr t x y u) [.s (.int k a), .s (.int k b)] [] (.s (.bool (decide (b < a))))
  | igeq {t u x y k a b} : OpN T (.binOp .geq t x y u) [.s (.int k a), .s (.int k b)] [] (.s (.bool (decide (b ≤ a))))
  | ishl {t u x y k k' a b} (h0 : 0 ≤ b) : OpN T (.binOp .shl t x y u) [.s (.int k a), .s (.int k' b)] [] (.s (.int k (k.wrap (a * 2 ^ min b.toNat k.bits))))
  | ishr {t u x y k k' a b} (h0 : 0 ≤ b) : OpN T (.binOp .shr t x y u) [.s (.int k a), .s (.int k' b)] [] (.s (.int k (a.fdiv (2 ^ min b.toNat k.bits))))
  | iand {t u x y k a b} : OpN T (.binOp .and t x y u) [.s (.int k a), .s (.int k b)] [] (.s (.int k (Go.bits .and k a b)))
  | ior {t u x y k a b} : OpN T (.binOp .or t x y u) [.s (.int k a), .s (.int k b)] [] (.s (.int k (Go.bits .or k a b)))
  | ixor {t u x y k a b} : OpN T (.binOp .xor t x y u) [.s (.int k a), .s (.int k b)] [] (.s (.int k (Go.bits .xor k a b)))
  | sadd {t u x y a b} (h0 : a.size + b.size ≤ 9223372036854775807) : OpN T (.binOp .add t x y u) [.s (.string a), .s (.string b)] [] (.s (.string (a ++ b)))
  | seql {t u x y a b} : OpN T (.binOp .eql t x y u) [.s (.string a), .s (.string b)] [] (.s (.bool (a.toList == b.toList)))
  | sneq {t u x y a b} : OpN T (.binOp .neq t x y u) [.s (.string a), .s (.string b)] [] (.s (.bool (!(a.toList == b.toList))))
  | slss {t u x y a b} : OpN T (.binOp .lss t x y u) [.s (.string a), .s (.string b)] [] (.s (.bool (Op.bytesLess a.toList b.toList)))
  | beql {t u x y a b ti} (hT : lkT T t = some ti) (hk : ti.ok = true) (hb : ti.k = .bool) : OpN T (.binOp .eql t x y u) [.s (.bool a), .s (.bool b)] [] (.s (.bool (a == b)))
  | not {t x b} : OpN T (.unOp .not t x) [.s (.bool b)] [] (.s (.bool (!b)))
  | neg {t x k n} : OpN T (.unOp .neg t x) [.s (.int k n)] [] (.s (.int k (k.wrap (0 - n))))
  | conv {s d x k n ti tj k'} (hT : lkT T d = some ti) (hk : ti.ok = true) (hd : ti.k = .int k') (hS : lkT T s = some tj) (hj : tj.ok = true) : OpN T (.convert s d x) [.s (.int k n)] [] (.s (.int k' (k'.wrap n)))
  | convS {s d x b ti tj} (hT : lkT T d = some ti) (hk : ti.ok = true) (hd : ti.k = .str) (hS : lkT T s = some tj) (hj : tj.ok = true) : OpN T (.convert s d x) [.s (.string b)] [] (.s (.string b))
  | idxStr {t x i s k n b ti} (hT : lkT T t = some ti) (hk : ti.ok = true) (hd : ti.k = .str) (h0 : 0 ≤ n) (hb : s[n.toNat]? = some b) : OpN T (.index t x i) [.s (.string s), .s (.int k n)] [] (.s (.int .u8 b.toNat))
  | imax {x y t1 t2 k a b} : OpN T (.call { callee := .builtin .max, args := #[x, y], argTypes := #[t1, t2] }) [.s (.int k a), .s (.int k b)] [] (.s (.int k (if b > a then b else a)))
  | imin {x y t1 t2 k a b} : OpN T (.call { callee := .builtin .min, args := #[x, y], argTypes := #[t1, t2] }) [.s (.int k a), .s (.int k b)] [] (.s (.int k (if b < a then b else a)))
  | lenS {x t s ti} (hT : lkT T t = some ti) (hk : ti.ok = true) (hd : ti.k = .str) : OpN T (.call { callee := .builtin .len, args := #[x], argTypes := #[t] }) [.s (.string s)] [] (.s (.int .i64 s.size))
  | lenL {x t xs ti e} (hT : lkT T t = some ti) (hk : ti.ok = true) (hd : ti.k = .slice e) : OpN T (.call { callee := .builtin .len, args := #[x], argTypes := #[t] }) [.list xs] [] (.s (.int .i64 xs.length))
  | lenR {x t xs i ti e} (hT : lkT T t = some ti) (hk : ti.ok = true) (hd : ti.k = .slice e) : OpN T (.call { callee := .builtin .len, args := #[x], argTypes := #[t] }) [.row xs i] [] (.s (.int .i64 xs.length))
  | lenNil {x t c n ti e} (hT : lkT T t = some ti) (hk : ti.ok = true) (hd : ti.k = .slice e) : OpN T (.call { callee := .builtin .len, args := #[x], argTypes := #[t] }) [.s (.slice none n c)] [] (.s (.int .i64 n))
  | iaL {t x y xs k n ti e te c} (hT : lkT T t = some ti) (hk : ti.ok = true) (hd : ti.k = .slice e) (hE : lkT T e = some te) (hke : te.ok = true) (h0 : 0 ≤ n) (hx : xs[n.toNat]? = some c) (hl : Nat.beq c.length te.size = true) : OpN T (.indexAddr t x y) [.list xs, .s (.int k n)] [] (.eptr c)
  | iaR {t x y xs i k n ti e te c} (hT : lkT T t = some ti) (hk : ti.ok = true) (hd : ti.k = .slice e) (hE : lkT T e = some te) (hke : te.ok = true) (h0 : 0 ≤ n) (hx : xs[n.toNat]? = some c) (hl : Nat.beq c.length te.size = true) : OpN T (.indexAddr t x y) [.row xs i, .s (.int k n)] [] (.eptr c)
  | slS0 {t x s lo k n ti} (hT : lkT T t = some ti) (hk : ti.ok = true) (hd : ti.k = .str) (h0 : 0 ≤ n) (h1 : n ≤ s.size) : OpN T (.slice t x (some lo) none none) [.s (.string s), .s (.int k n)] [] (.s (.string (s.extract n.toNat s.size)))
  | slS1 {t x s hi k n ti} (hT : lkT T t = some ti) (hk : ti.ok = true) (hd : ti.k = .str) (h0 : 0 ≤ n) (h1 : n ≤ s.size) : OpN T (.slice t x none (some hi) none) [.s (.string s), .s (.int k n)] [] (.s (.string (s.extract 0 n.toNat)))
  | slS2 {t x s lo hi k k' m n ti} (hT : lkT T t = some ti) (hk : ti.ok = true) (hd : ti.k = .str) (h0 : 0 ≤ m) (h1 : m ≤ n) (h2 : n ≤ s.size) : OpN T (.slice t x (some lo) (some hi) none) [.s (.string s), .s (.int k m), .s (.int k' n)] [] (.s (.string (s.extract m.toNat n.toNat)))
def NStep (P : Program) (op : Op) (pvs : List PV) (reads : List (Nat × LS)) (r : PV) : Prop :=
  ∀ (o : Oper) (G : Good) (w : World) (ι : Intp) (H : List LS) (ρ : Operand → Value), o.op = op → HRel G w ι H → VReps (VRep (Prot G ι H) w ι H) pvs (op.operands.toList.map ρ) → (∀ q ∈ reads, H[q.1]? = some q.2) →
    ∃ v, (execOp ρ o).run P w = .ok (.value v) w ∧ VRep (Prot G ι H) w ι H r v
section inv
variable {G : Good} {w : World} {ι : Intp} {H : List LS} {u : Value}
theorem s_inv {v : Value} (h : VRep G w ι H (.s v) u) : u = v := by
  generalize hp : PV.s v = p at h
  cases h <;> simp_all
theorem agg_inv {xs : List PV} (h : VRep G w ι H (.agg xs) u) : ∃ vs : Array Value, u = .agg vs ∧ xs.length = vs.size ∧ (∀ v ∈ vs, v.oneCell' = true) ∧ ∀ (j : Nat) (x : PV) (v : Value), xs[j]? = some x → vs[j]? = some v → VRep G w ι H x v := by
  generalize hp : PV.agg xs = p at h
  cases h with
  | agg hl h1 hr => cases hp; exact ⟨_, rfl, hl, h1, hr⟩
  | _ => cases hp
theorem tup_inv {xs : List PV} (h : VRep G w ι H (.tup xs) u) : ∃ vs : Array Value, u = .tuple vs ∧ xs.length = vs.size ∧ ∀ (j : Nat) (x : PV) (v : Value), xs[j]? = some x → vs[j]? = some v → VRep G w ι H x v := by
  generalize hp : PV.tup xs = p at h
  cases h with
  | tup hl hr => cases hp; exact ⟨_, rfl, hl, hr⟩
  | _ => cases hp
theorem ptr_inv {i off : Nat} (h : VRep G w ι H (.ptr i off) u) : ∃ b c cs t, u = .pointer (some ⟨b, off, none⟩) ∧ ι i = some (b, c) ∧ H[i]? = some (.box cs t) := by
  generalize hp : PV.ptr i off = p at h
  cases h with
  | ptr hi hb => cases hp; obtain ⟨cs, t, hb⟩ := hb; exact ⟨_, _, cs, t, rfl, hi, hb⟩
  | _ => cases hp
theorem eptr_inv {cs : List PV} (h : VRep G w ι H (.eptr cs) u) : ∃ (ad : Addr) (vs : Nat → Value), u = .pointer (some ad) ∧ (∀ (j : Nat) (p : PV), cs[j]? = some p → w.cell? (ad.add j) = some (vs j) ∧ (vs j).oneCell' = true ∧ G ad.block (ad.off + j)) ∧ ∀ (j : Nat) (p : PV), cs[j]? = some p → VRep G w (fun _ => none) [] p (vs j) := by
  generalize hp : PV.eptr cs = p at h
  cases h with
  | eptr ad vs hc hr => cases hp; exact ⟨ad, vs, rfl, hc, hr⟩
  | _ => cases hp
theorem list_inv {xs : List (List PV)} (h : VRep G w ι H (.list xs) u) : ∃ A c sz, ∃ vs : Nat → Nat → Value, u = .slice A xs.length c ∧ xs.length ≤ c ∧ c ≤ maxLen ∧ (∀ x ∈ xs, x.length = sz) ∧
    (0 < xs.length → ∃ ad : Addr, A = some ad ∧ ∀ (i j : Nat) (x : List PV), xs[i]? = some x → j < sz → w.cell? (ad.add (i * sz + j)) = some (vs i j) ∧ (vs i j).oneCell' = true ∧ G ad.block (ad.off + (i * sz + j))) ∧
    ∀ (i j : Nat) (x : List PV) (p : PV), xs[i]? = some x → x[j]? = some p → VRep G w (fun _ => none) [] p (vs i j) := by
  generalize hp : PV.list xs = p at h
  cases h with
  | list sz vs hn hc hm hsz hA hr => cases hp; subst hn; exact ⟨_, _, sz, vs, rfl, hc, hm, hsz, hA, hr⟩
  | _ => cases hp
theorem row_inv {xs : List (List PV)} {i : Nat} (h : VRep G w ι H (.row xs i) u) : VRep G w ι H (.list xs) u ∧ (∃ n sz t, H[i]? = some (.row n sz t) ∧ xs.length ≤ n) ∧ ∀ sz t, H[i]? = some (.row xs.length sz t) → Own ι i xs.length u := by
  generalize hp : PV.row xs i = p at h
  cases h with
  | row h hi ho => cases hp; exact ⟨h, hi, ho⟩
  | _ => cases hp
theorem fn_inv {f : FuncId} {first caps : List PV} (h : VRep G w ι H (.fn f first caps) u) : ∃ fs cs : Array Value, u = .func (.func f) fs cs ∧ VReps (VRep G w ι H) first fs.toList ∧ VReps (VRep G w ι H) caps cs.toList := by
  generalize hp : PV.fn f first caps = p at h
  cases h with
  | fn hf hc h1 h2 => cases hp; exact ⟨_, _, rfl, VReps.mk (by simpa using hf) (fun j p v hp hv => h1 j p v hp (by simpa using hv)), VReps.mk (by simpa using hc) (fun j p v hp hv => h2 j p v hp (by simpa using hv))⟩
  | _ => cases hp
theorem mp_inv {i : Nat} (h : VRep G w ι H (.mp i) u) : ∃ b c kvs, u = .map (some b) ∧ ι i = some (b, c) ∧ H[i]? = some (.mp kvs) := by
  generalize hp : PV.mp i = p at h
  cases h with
  | mp hi hb => cases hp; obtain ⟨kvs, hb⟩ := hb; exact ⟨_, _, kvs, rfl, hi, hb⟩
  | _ => cases hp
theorem yl_inv {i : Nat} (h : VRep G w ι H (.yl i) u) : ∃ b c xs φ, u = .func (.yield b) #[] #[] ∧ ι i = some (b, c) ∧ H[i]? = some (.obj xs φ) := by
  generalize hp : PV.yl i = p at h
  cases h with
  | yl hi hb => cases hp; obtain ⟨xs, φ, hb⟩ := hb; exact ⟨_, _, xs, φ, rfl, hi, hb⟩
  | _ => cases hp
theorem sl_inv {i n : Nat} (h : VRep G w ι H (.sl i n) u) : ∃ b c cs t m, u = .slice (some ⟨b, 0, none⟩) n m ∧ ι i = some (b, c) ∧ H[i]? = some (.box cs t) ∧ n ≤ m ∧ m ≤ maxLen := by
  generalize hp : PV.sl i n = p at h
  cases h with
  | sl hi hb hn hm => cases hp; obtain ⟨cs, t, hb⟩ := hb; exact ⟨_, _, cs, t, _, rfl, hi, hb, hn, hm⟩
  | _ => cases hp
theorem closed_rep {p : PV} (h : VRep G w (fun _ => none) [] p u) : VRep G w ι H p u :=
  h.keep (fun a v hp hc => ⟨hc, hp⟩) (fun _ _ _ h => by simp at h) (fun _ _ _ _ h => by simp at h) (fun _ _ h => by simp at h) (fun _ _ _ h => by simp at h)
theorem add_add (a : Addr) (i j : Nat) : (a.add i).add j = a.add (i + j) := by
  unfold Addr.add
  by_cases h1 : i = 0 <;> by_cases h2 : j = 0 <;> simp [h1, h2, Nat.add_assoc]
theorem add_block (a : Addr) (i : Nat) : (a.add i).block = a.block := by unfold Addr.add; split <;> rfl
theorem add_off (a : Addr) (i : Nat) : (a.add i).off = a.off + i := by unfold Addr.add; split <;> simp_all
end inv
end Go.Proofs.Pm
end

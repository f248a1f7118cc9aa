/- A part of the proof of one law: the machine on pure values and the walks of functions. -/
import Derived.Test.YtjoikahblpephaaGreatDoorPmLw9P10
import Derived.Test.YtjoikahblpephaaGreatDoorPmLw9P12
import Derived.Laws.StructEq
import Derived.KernelRfl
set_option linter.all false
section
namespace Go.Proofs.Pm
open Go
def RdAll (H : List LS) : List (Nat × LS) → Prop
  | [] => True
  | q :: r => H[q.1]? = some q.2 ∧ RdAll H r
theorem RdAll.get {H : List LS} : ∀ {l : List (Nat × LS)}, RdAll H l → ∀ q ∈ l, H[q.1]? = some q.2
  | [], _, q, h => by cases h
  | p :: r, h, q, hq => by
    rcases List.mem_cons.1 hq with rfl | hq
    · exact h.1
    · exact h.2.get q hq
section
variable {P : Program} {T : List TI} {N : Nat} {ops : Array Oper} {draw : Bool} {acc : List (List Nat × List Nat)} {rest : List Oper} {K : St → Prop} {env : List (Nat × PV)} {H H' : List LS} {d : Nat} {ty : TypeId} {pos : String} {after : Array Edge} {gd : Option (Nat × Bool)}
theorem ev_callG {sg nu : List Nat} {x : Operand} {xs : Array Operand} {tys : Array TypeId} {g : FuncId} {fs cs as1 args : List PV} {r r' : PV} {Hin Hout Sin Sout : List LS} (hg : gEval ops env gd = some true) (hd : Nat.blt d N = true) (e0 : evalO (look env) x = some (.fn g fs cs)) (e1 : evalL (look env) xs.toList = some as1) (hc : FCall P g args Hin r Hout)
    (hf : MvL (fun i j => sg[j]? = some i) (fs ++ (as1 ++ cs)) args) (hrd : RdAll (pad H nu.length) (sg.zip Sin ++ nu.map fun i => (i, .absent))) (hS : MvSs (fun i j => sg[j]? = some i) Sin Hin) (hr : Mv (fun j i => (sg ++ nu)[j]? = some i) r r') (hO : MvSs (fun j i => (sg ++ nu)[j]? = some i) Hout Sout)
    (hl : sg.length = Hin.length) (hl2 : (sg ++ nu).length = Hout.length) (hnd : (sg ++ nu).Nodup) (hH : setAll (pad H nu.length) ((sg ++ nu).zip Sout) = H') (h : Ev P N ops draw ((List.map Prod.fst (sg.zip Sin ++ nu.map fun i => (i, LS.absent)), List.map Prod.fst ((sg ++ nu).zip Sout)) :: acc) rest ⟨(d, r') :: env, H'⟩ K) : Ev P N ops draw acc (⟨some d, .call { callee := .value x, args := xs, argTypes := tys }, ty, pos, after, gd⟩ :: rest) ⟨env, H⟩ K :=
  ev_core (pads := nu.length) rfl hg hd (os_call rfl e0 e1 hc hf hS hr hO hl hl2 hnd) hrd.get (fun q hq => by
    have h1 := hS.length
    have h2 := hO.length
    have hk : List.map Prod.fst (sg.zip Sin ++ nu.map fun i => (i, LS.absent)) = sg ++ nu := by
      rw [List.map_append, List.map_fst_zip (by omega), List.map_map]
      congr 1
      exact List.map_id _
    rw [show (List.map (fun x => x.1) (sg.zip Sin ++ nu.map fun i => (i, LS.absent))) = sg ++ nu from hk]
    exact (List.of_mem_zip (show (q.1, q.2) ∈ _ from hq)).1) hH h
end
abbrev File := ByteArray × Int × Int
def fileC (f : File) : List PV := [.s (.string f.1), .s (.int .i64 f.2.1), .s (.int .i64 f.2.2)]
def filesC (l : List File) : List (List PV) := l.map fileC
theorem filesC_len (l : List File) : ∀ y ∈ filesC l, y.length = 3 := fun y hy => by
  obtain ⟨s, _, rfl⟩ := List.mem_map.1 hy
  rfl
theorem filesC_length (l : List File) : (filesC l).length = l.length := by simp [filesC]
theorem filesC_append (a b : List File) : filesC (a ++ b) = filesC a ++ filesC b := by simp [filesC]
theorem filesC_get {l : List File} {i : Nat} {f : File} (h : l[i]? = some f) : (filesC l)[i]? = some (fileC f) := by simp [filesC, h]
def ordL (l : List (List B)) : List (List PV) := l.map fun o => [.list (strL o)]
theorem ordL_length (l : List (List B)) : (ordL l).length = l.length := by simp [ordL]
def sameFile (f g : File) : Bool := (f.1.toList == g.1.toList) && (f.2.1 == g.2.1) && (f.2.2 == g.2.2)
theorem under69 : Tryz.prog.underlying 69 = some (.struct (Tryz.prog.fieldsOf 69)) := by kernel_rfl
theorem stood69 : Tryz.prog.stoodInHeld 69 = false := by kernel_rfl
theorem guard69 : Tryz.prog.eqGuardType Tryz.prog.depth 69 = false := by kernel_rfl
theorem fields69 : (Tryz.prog.fieldsOf 69).toList.map (fun f => (f.name == "_", f.type, f.offset)) = [(false, 9, 0), (false, 3, 1), (false, 3, 2)] := by kernel_rfl
theorem run_eq69 (a b : ByteArray) (s1 l1 s2 l2 : Int) (w : World) : (Op.equalIn 10000 69 (.agg #[.string a, .int .i64 s1, .int .i64 l1]) (.agg #[.string b, .int .i64 s2, .int .i64 l2])).run Tryz.prog w = .ok ((a.toList == b.toList) && (s1 == s2) && (l1 == l2)) w := by
  rw [show (10000 : Nat) = 9999 + 1 from rfl, run_equalIn_struct w 9999 69 _ _ under69 stood69]
  have hf := fields69
  generalize (Tryz.prog.fieldsOf 69).toList = fs at hf
  obtain ⟨f1, f2, f3, rfl⟩ : ∃ f1 f2 f3, fs = [f1, f2, f3] := by
    have hl := congrArg List.length hf
    simp only [List.length_map, List.length_cons, List.length_nil] at hl
    exact ⟨fs[0], fs[1], fs[2], List.ext_getElem (by simpa using hl) (fun i h1 h2 => by
      match i, h2 with
      | 0, _ => rfl
      | 1, _ => rfl
      | 2, _ => rfl
      | i + 3, h => simp at h; omega)⟩
  simp only [List.map_cons, List.map_nil, List.cons.injEq, Prod.mk.injEq, and_true] at hf
  obtain ⟨⟨n1, t1, o1⟩, ⟨n2, t2, o2⟩, n3, t3, o3⟩ := hf
  have n1 : f1.name ≠ "_" := by simpa using n1
  have n2 : f2.name ≠ "_" := by simpa using n2
  have n3 : f3.name ≠ "_" := by simpa using n3
  have u9 : Tryz.prog.underlying 9 = some .string := kind_str tab_ok (t := 9) rfl rfl rfl
  have u3 : Tryz.prog.underlying 3 = some (.int .i64) := kind_int tab_ok (t := 3) rfl rfl rfl
  simp only [Op.eqFields, n1, n2, n3, t1, t2, t3, o1, o2, o3, ne_eq, not_false_eq_true, if_true, part, Sem.run_bind, run_isAgg u9, run_isAgg u3, aggOf, Result.andThen_ok]
  have e1 := run_equalIn_string (P := Tryz.prog) w 9998 9 a b u9
  have e2 := run_equalIn_int (P := Tryz.prog) w 9998 3 .i64 .i64 s1 s2 u3
  have e3 := run_equalIn_int (P := Tryz.prog) w 9998 3 .i64 .i64 l1 l2 u3
  cases h1 : (a.toList == b.toList) <;> cases h2 : (s1 == s2) <;> cases h3 : (l1 == l2) <;> simp [e1, e2, e3, h1, h2, h3, Sem.run_bind, Sem.run_pure]
theorem nstep_neq69 {x y : Operand} {u : TypeId} (f g : File) : NStep Tryz.prog (.binOp .neq 69 x y u) [.agg (fileC f), .agg (fileC g)] [] (.s (.bool (!sameFile f g))) := by
  intro o G w ι H ρ ho hH hv _
  obtain ⟨e1, e2⟩ := VReps.two (v := ρ x) (u := ρ y) hv
  have key : ∀ {f : File} {v : Value}, VRep (Prot G ι H) w ι H (.agg (fileC f)) v → v = .agg #[.string f.1, .int .i64 f.2.1, .int .i64 f.2.2] := by
    intro f v h
    obtain ⟨vs, rfl, hl, _, hr⟩ := agg_inv h
    have hl : vs.size = 3 := hl.symm
    have h0 := s_inv (hr 0 _ vs[0] rfl (by simp [hl]))
    have h1 := s_inv (hr 1 _ vs[1] rfl (by simp [hl]))
    have h2 := s_inv (hr 2 _ vs[2] rfl (by simp [hl]))
    congr 1
    apply Array.ext
    · simpa using hl
    · intro i hi1 hi2
      match i, hi1 with
      | 0, _ => simpa using h0
      | 1, _ => simpa using h1
      | 2, _ => simpa using h2
      | i + 3, h => omega
  refine ⟨_, ?_, .s _⟩
  simp only [execOp, ho, Sem.run_bind, key e1, key e2, run_eqGuard_agg _ _ _ _ _ _ _ guard69, Result.andThen_ok, run_neq_struct, run_eq69]
  rfl
section
variable {N : Nat} {ops : Array Oper} {draw : Bool} {acc : List (List Nat × List Nat)} {rest : List Oper} {K : St → Prop} {env : List (Nat × PV)} {H : List LS} {d : Nat} {ty : TypeId} {pos : String} {after : Array Edge} {gd : Option (Nat × Bool)}
theorem ev_neq69 {x y : Operand} {u : TypeId} (f g : File) (hg : gEval ops env gd = some true) (hd : Nat.blt d N = true) (e0 : evalO (look env) x = some (.agg (fileC f))) (e1 : evalO (look env) y = some (.agg (fileC g))) (h : Ev Tryz.prog N ops draw (([], []) :: acc) rest ⟨(d, .s (.bool (!sameFile f g))) :: env, H⟩ K) : Ev Tryz.prog N ops draw acc (⟨some d, .binOp .neq 69 x y u, ty, pos, after, gd⟩ :: rest) ⟨env, H⟩ K :=
  ev_core (pads := 0) rfl hg hd (ostep_n (nstep_neq69 f g) (by simp [Op.operands, evalL, e0, e1])) (fun q hq => by cases hq) (fun q hq => by cases hq) (by simp [setAll, pad]) h
end
end Go.Proofs.Pm
end
section
namespace Go.Proofs.Pm
open Go
section
variable {P : Program} {T : List TI}
theorem kind_ptr {t e : TypeId} {ti : TI} (hT : TOk P T) (ht : lkT T t = some ti) (hk : ti.ok = true) (hd : ti.k = .ptr e) : P.underlying t = some (.pointer e) := by
  obtain ⟨d, h1, h2⟩ := kind_at hT ht hk
  rw [hd] at h2
  cases d <;> simp [tkOf] at h2
  rw [h1, h2]
theorem run_eql_nilS {t e : TypeId} (h : P.underlying t = some (.slice e)) (A : Option Addr) (n c : Nat) (w : World) : (binOp .eql t (.slice A n c) (.slice none 0 0)).run P w = .ok (.bool A.isNone) w := by
  have h1 : ∀ d : Nat, (Op.equalIn (d + 1) t (.slice A n c) (.slice none 0 0)).run P w = .ok A.isNone w := fun d => by
    cases A <;> simp [Op.equalIn, run_underlying h]
  simp only [binOp]
  simp [Op.equal, Op.maxDepth, h1 9999]
theorem run_eql_nilP {t e : TypeId} (h : P.underlying t = some (.pointer e)) (A : Option Addr) (w : World) : (binOp .eql t (.pointer A) (.pointer none)).run P w = .ok (.bool A.isNone) w := by
  have h1 : ∀ d : Nat, (Op.equalIn (d + 1) t (.pointer A) (.pointer none)).run P w = .ok A.isNone w := fun d => by
    cases A <;> simp [Op.equalIn, run_underlying h]
  simp only [binOp]
  simp [Op.equal, Op.maxDepth, h1 9999]
def nilS : PV → Option Bool
  | .s (.slice A _ _) => some A.isNone
  | .list (_ :: _) => some false
  | .sl _ _ => some false
  | _ => none
def nilP : PV → Option Bool
  | .s (.pointer A) => some A.isNone
  | .ptr _ _ => some false
  | .eptr _ => some false
  | _ => none
theorem nilS_spec {G : Good} {w : World} {ι : Intp} {H : List LS} {p : PV} {v : Value} {b : Bool} (h : VRep G w ι H p v) (hp : nilS p = some b) : ∃ A n c, v = .slice A n c ∧ A.isNone = b := by
  unfold nilS at hp
  split at hp
  · injection hp with hp; exact ⟨_, _, _, s_inv h, hp⟩
  · injection hp with hp
    subst hp
    obtain ⟨A, c, sz, vs, rfl, _, _, _, hA, _⟩ := list_inv h
    obtain ⟨ad, rfl, _⟩ := hA (by simp)
    exact ⟨_, _, _, rfl, rfl⟩
  · injection hp with hp; subst hp; obtain ⟨b, c, cs, t, m, rfl, _⟩ := sl_inv h; exact ⟨_, _, _, rfl, rfl⟩
  · cases hp
theorem nilP_spec {G : Good} {w : World} {ι : Intp} {H : List LS} {p : PV} {v : Value} {b : Bool} (h : VRep G w ι H p v) (hp : nilP p = some b) : ∃ A, v = .pointer A ∧ A.isNone = b := by
  unfold nilP at hp
  split at hp
  · injection hp with hp; exact ⟨_, s_inv h, hp⟩
  · injection hp with hp; subst hp; obtain ⟨b, c, cs, t, rfl, _⟩ := ptr_inv h; exact ⟨_, rfl, rfl⟩
  · injection hp with hp; subst hp; obtain ⟨ad, vs, rfl, _⟩ := eptr_inv h; exact ⟨_, rfl, rfl⟩
  · cases hp
theorem nstep_nilS {t e u : TypeId} {x : Operand} {p : PV} {b : Bool} {ti : TI} (hT : TOk P T) (ht : lkT T t = some ti) (hk : ti.ok = true) (hd : ti.k = .slice e) (hp : nilS p = some b) : NStep P (.binOp .eql t x (.const (.slice none 0 0)) u) [p, .s (.slice none 0 0)] [] (.s (.bool b)) := by
  intro o G w ι H ρ ho hH hv _
  obtain ⟨e1, e2⟩ := VReps.two (v := ρ x) (u := ρ (.const (.slice none 0 0))) hv
  have e2 := s_inv e2
  have hu := kind_slice hT ht hk hd
  obtain ⟨A, n, c, hA, rfl⟩ := nilS_spec e1 hp
  refine ⟨_, ?_, .s _⟩
  simp [execOp, ho, hA, e2, run_eqGuard_plain (a := .slice A n c) (by simp) (by simp), run_eql_nilS hu]
theorem nstep_nilP {t e u : TypeId} {x : Operand} {p : PV} {b : Bool} {ti : TI} (hT : TOk P T) (ht : lkT T t = some ti) (hk : ti.ok = true) (hd : ti.k = .ptr e) (hp : nilP p = some b) : NStep P (.binOp .eql t x (.const (.pointer none)) u) [p, .s (.pointer none)] [] (.s (.bool b)) := by
  intro o G w ι H ρ ho hH hv _
  obtain ⟨e1, e2⟩ := VReps.two (v := ρ x) (u := ρ (.const (.pointer none))) hv
  have e2 := s_inv e2
  have hu := kind_ptr hT ht hk hd
  obtain ⟨A, hA, rfl⟩ := nilP_spec e1 hp
  refine ⟨_, ?_, .s _⟩
  simp [execOp, ho, hA, e2, run_eqGuard_plain (a := .pointer A) (by simp) (by simp), run_eql_nilP hu]
end
section
variable {P : Program} {T : List TI} {N : Nat} {ops : Array Oper} {draw : Bool} {acc : List (List Nat × List Nat)} {rest : List Oper} {K : St → Prop} {env : List (Nat × PV)} {H H' : List LS} {d : Nat} {ty : TypeId} {pos : String} {after : Array Edge} {gd : Option (Nat × Bool)}
theorem ev_nilS {t e u : TypeId} {x : Operand} {p : PV} {b : Bool} {ti : TI} (hT : TOk P T) (hg : gEval ops env gd = some true) (hd : Nat.blt d N = true) (e0 : evalO (look env) x = some p) (h1 : lkT T t = some ti) (h2 : ti.ok = true) (h3 : ti.k = .slice e) (hp : nilS p = some b) (h : Ev P N ops draw (([], []) :: acc) rest ⟨(d, .s (.bool b)) :: env, H⟩ K) : Ev P N ops draw acc (⟨some d, .binOp .eql t x (.const (.slice none 0 0)) u, ty, pos, after, gd⟩ :: rest) ⟨env, H⟩ K :=
  ev_core (pads := 0) rfl hg hd (ostep_n (nstep_nilS hT h1 h2 h3 hp) (by show evalL (look env) [x, _] = _; simp only [evalL, e0]; rfl)) (fun q hq => by cases hq) (fun q hq => by cases hq) (by simp [setAll, pad]) h
theorem ev_nilP {t e u : TypeId} {x : Operand} {p : PV} {b : Bool} {ti : TI} (hT : TOk P T) (hg : gEval ops env gd = some true) (hd : Nat.blt d N = true) (e0 : evalO (look env) x = some p) (h1 : lkT T t = some ti) (h2 : ti.ok = true) (h3 : ti.k = .ptr e) (hp : nilP p = some b) (h : Ev P N ops draw (([], []) :: acc) rest ⟨(d, .s (.bool b)) :: env, H⟩ K) : Ev P N ops draw acc (⟨some d, .binOp .eql t x (.const (.pointer none)) u, ty, pos, after, gd⟩ :: rest) ⟨env, H⟩ K :=
  ev_core (pads := 0) rfl hg hd (ostep_n (nstep_nilP hT h1 h2 h3 hp) (by show evalL (look env) [x, _] = _; simp only [evalL, e0]; rfl)) (fun q hq => by cases hq) (fun q hq => by cases hq) (by simp [setAll, pad]) h
end
section
variable {P : Program} {T : List TI} {Γ : Ctx}
theorem awp_nil {c : Code} {Q : Exit → St → Prop} {env : List (Nat × PV)} {H : List LS} (t : Nat) (ht : look env t = some (.list [])) (h1 : AWp P Γ c ⟨(t, .s (.slice none 0 0)) :: env, H⟩ Q)
    (h2 : ∀ A m, m ≤ maxLen → (A.isNone = true → m ≠ 0) → AWp P Γ c ⟨(t, .s (.slice A 0 m)) :: env, H⟩ Q) : AWp P Γ c ⟨env, H⟩ Q := fun a w hs => by
  obtain ⟨ι, k1, k2, k3⟩ := id hs
  obtain ⟨v, hv, hr⟩ := k2 t _ ht
  obtain ⟨A, cp, sz, vs, rfl, _, hm, _⟩ := list_inv hr
  have key : ∀ p, VRep (Prot Γ.G ι H) w ι H p (.slice A 0 cp) → SRel Γ (look ((t, p) :: env)) H a w := fun p hp => by
    refine ⟨ι, k1, fun k q hq => ?_, k3⟩
    simp only [look] at hq
    cases hb : Nat.beq t k with
    | true =>
      rw [hb] at hq
      simp only [cond_true, Option.some.injEq] at hq
      subst hq
      rw [← Nat.eq_of_beq_eq_true hb]
      exact ⟨_, hv, hp⟩
    | false => rw [hb] at hq; exact k2 k q hq
  by_cases hc : A.isNone = true ∧ cp = 0
  · obtain ⟨hA, rfl⟩ := hc
    have : A = none := by simpa using hA
    subst this
    exact h1 a w (key _ (.s _))
  · exact h2 A cp hm (fun hA e => hc ⟨hA, e⟩) a w (key _ (.s _))
theorem awp_unnil {c : Code} {Q : Exit → St → Prop} {env : List (Nat × PV)} {H : List LS} (t : Nat) {A : Option Addr} {m : Nat} (ht : look env t = some (.s (.slice A 0 m))) (hm : m ≤ maxLen) (h : AWp P Γ c ⟨(t, .list []) :: env, H⟩ Q) : AWp P Γ c ⟨env, H⟩ Q := fun a w hs => by
  obtain ⟨ι, k1, k2, k3⟩ := id hs
  obtain ⟨v, hv, hr⟩ := k2 t _ ht
  have hr := s_inv hr
  refine h a w ⟨ι, k1, fun k q hq => ?_, k3⟩
  simp only [look] at hq
  cases hb : Nat.beq t k with
  | true =>
    rw [hb] at hq
    simp only [cond_true, Option.some.injEq] at hq
    subst hq
    rw [← Nat.eq_of_beq_eq_true hb]
    refine ⟨_, hv, ?_⟩
    rw [hr]
    exact .list 0 (fun _ _ => undef) rfl (Nat.zero_le _) hm (fun x hx => by cases hx) (fun h0 => by simp at h0) (fun i j x p hx => by simp at hx)
  | false => rw [hb] at hq; exact k2 k q hq
end
section
variable {P : Program}
theorem vreps_s {R : PV → Value → Prop} (hR : ∀ v u, R (.s v) u → u = v) : ∀ {vals av : List Value}, VReps R (vals.map .s) av → av = vals
  | [], [], _ => rfl
  | v :: vals, [], h => by cases h
  | [], u :: av, h => by cases h
  | v :: vals, u :: av, h => by
    cases h with
    | cons h1 h2 => rw [hR _ _ h1, vreps_s hR h2]
theorem fcall_pure {f : FuncId} {vals : List Value} {v : Value} {r : PV} (hen : Enters P f) (h : ∀ w, Calls P f vals.toArray w fun e w' => e = .returned v ∧ w' = w) (hr : ∀ G w ι, VRep G w ι [] r v) : FCall P f (vals.map .s) [] r [] := by
  refine ⟨hen, fun G w ι av hH hG hav => ?_⟩
  have := vreps_s (fun v u h => s_inv h) hav
  subst this
  exact Calls.mono (h w) (fun e w' ⟨he, hw⟩ => by subst hw; exact ⟨v, ι, he, hH, hr _ _ _, Ext.refl _ _ _ _, Out.refl _ _ _⟩)
theorem fcall_below {f : FuncId} {vals : List Value} {r : PV} {K : World → Value → World → Prop} (hen : Enters P f) (h : ∀ w G, Base G w → (∀ b off, w.heap.size ≤ b → G b off) → Calls P f vals.toArray w fun e w' => ∃ v, e = .returned v ∧ K w v w' ∧ w'.os = w.os ∧ w'.tape = w.tape ∧ w'.output = w.output ∧ w.heap.size ≤ w'.heap.size ∧ ∀ b, b < w.heap.size → w'.heap[b]? = w.heap[b]?)
    (hr : ∀ v (w w' : World) (G : Good), K w v w' → (∀ b off, w.heap.size ≤ b → G b off) → VRep G w' (fun _ => none) [] r v) : FCall P f (vals.map .s) [] r [] := by
  refine ⟨hen, fun G w ι av hH hG hav => ?_⟩
  have := vreps_s (fun v u h => s_inv h) hav
  subst this
  have hP : ∀ {ι : Intp} {b off : Nat}, Prot G ι [] b off ↔ G b off := fun {ι b off} => ⟨fun h => h.1, fun h => ⟨h, fun i c hi => by cases hi⟩⟩
  refine Calls.mono (h w G (hH.base.keep (fun a v hp hc => ⟨hc, hp.1⟩)) hG) (fun e w' ⟨v, he, hK, h1, h2, h3, h4, h5⟩ => ?_)
  have hext : Ext G w ι [] w' ι [] := ⟨Nat.le_refl _, h4, fun a v hp hc => ⟨by rw [World.cell?_of_block (h5 _ (World.block_lt_of_cell? w a hc))]; exact hc, hp⟩, fun i cs t hi => by simp at hi, fun i n sz t hi => by simp at hi, fun i kvs hi => by simp at hi, fun i xs φ hi => by simp at hi⟩
  exact ⟨v, ι, he, ⟨fun i s hi => (by simp at hi), fun i j b c d hi => (by cases hi), fun i b c hi => (by cases hi), fun i b c hi => (by cases hi), hH.base.keep (fun a v => hext.prot a v)⟩, closed_rep (hr v w w' (Prot G ι []) hK (fun b off hb => hP.2 (hG b off hb))), hext, ⟨h1, h2, h3, h4, fun b hb _ => h5 b hb, fun i b c hi => by cases hi⟩⟩
end
end Go.Proofs.Pm
end
section
namespace Go.Proofs.Pm
open Go
section
variable {P : Program} {Γ : Ctx}
theorem awp_ghostC {c : Code} {Q : Exit → St → Prop} {env : List (Nat × PV)} {H H1 H2 : List LS} (i k sz : Nat) (et : TypeId) {l : Nat} {t : TypeId} {cs cs' : List PV} (hb : H[i]? = some (.box cs t)) (hk : cs[k]? = some (.s (.slice none 0 0))) (hcs : cs.set k (.row [] l) = cs') (h1 : SetAt H i (.box cs' t) H1) (h2 : Snoc H1 (.row 0 sz et) l H2) (h : AWp P Γ c ⟨env, H2⟩ Q) : AWp P Γ c ⟨env, H⟩ Q := fun a w hs0 => by
  subst hcs
  have e1 := h1.spec
  obtain ⟨e2, e3⟩ := h2.spec
  subst e1
  have hll : i < H.length := (List.getElem?_eq_some_iff.1 hb).1
  have hlen : l = H.length := by rw [e2]; simp
  subst hlen e3
  refine h a w ?_
  obtain ⟨ι, g1, g2, g3, g4, g5, g6, g7⟩ := hs0.pad 1
  have hl : (pad H 1)[H.length]? = some .absent := by simp [pad]
  have hn := absent_none g1 hl
  obtain ⟨k1, k2⟩ := ghost_hrel (sz := sz) (et := et) g1 hl
  have hset : (pad H 1).set H.length (.row 0 sz et) = H ++ [.row 0 sz et] := by simp [pad, List.set_append]
  rw [hset] at k1 k2
  have hi : (H ++ [LS.row 0 sz et])[i]? = some (.box cs t) := by rw [List.getElem?_append_left hll]; exact hb
  have hil : i < (H ++ [LS.row 0 sz et]).length := by simp; omega
  have hset2 : (H ++ [LS.row 0 sz et]).set i (.box (cs.set k (.row [] H.length)) t) = H.set i (.box (cs.set k (.row [] H.length)) t) ++ [.row 0 sz et] := by rw [List.set_append_left _ _ hll]
  have hne : i ≠ H.length := by omega
  have hget : ((H ++ [LS.row 0 sz et]).set i (.box (cs.set k (.row [] H.length)) t))[H.length]? = some (.row 0 sz et) := by rw [List.getElem?_set_ne hne]; simp
  have hself : ((H ++ [LS.row 0 sz et]).set i (.box (cs.set k (.row [] H.length)) t))[i]? = some (.box (cs.set k (.row [] H.length)) t) := by rw [List.getElem?_set_self hil]
  have hoth : ∀ {j : Nat} {s : LS}, (H ++ [LS.row 0 sz et])[j]? = some s → j ≠ i → ((H ++ [LS.row 0 sz et]).set i (.box (cs.set k (.row [] H.length)) t))[j]? = some s := fun hj hji => by rw [List.getElem?_set_ne (Ne.symm hji)]; exact hj
  obtain ⟨b, c', vs, f1, f2, f3, f4, f5⟩ := k1.rel i _ hi
  have hext : Ext Γ.G w ι (H ++ [LS.row 0 sz et]) w ι ((H ++ [LS.row 0 sz et]).set i (.box (cs.set k (.row [] H.length)) t)) := by
    refine ⟨by simp, Nat.le_refl _, fun ad v hp hc => ⟨hc, hp.1, fun j d hj e => ?_⟩, fun j cs t' hj => ⟨rfl, ?_⟩, fun j n sz' t' hj => ?_, fun j kvs hj => ⟨rfl, kvs, ?_⟩, fun j xs φ hj => ⟨rfl, xs, φ, ?_⟩⟩
    · obtain ⟨n, sz', t', m1, m2⟩ := hp.2 j d (by simpa using hj) e
      have hji : j ≠ i := fun e => by subst e; rw [hi] at m1; cases m1
      exact ⟨n, sz', t', hoth m1 hji, m2⟩
    · by_cases hji : j = i
      · subst hji
        rw [hi] at hj; injection hj with hj; injection hj with hj1 hj2; subst hj2
        exact ⟨_, hself⟩
      · exact ⟨cs, hoth hj hji⟩
    · have hji : j ≠ i := fun e => by subst e; rw [hi] at hj; cases hj
      exact ⟨n, hoth hj hji, Nat.le_refl _, fun _ => rfl⟩
    · have hji : j ≠ i := fun e => by subst e; rw [hi] at hj; cases hj
      exact hoth hj hji
    · have hji : j ≠ i := fun e => by subst e; rw [hi] at hj; cases hj
      exact hoth hj hji
  have hfin := HRel.upd (s := .box (cs.set k (.row [] H.length)) t) (ι' := ι) (w' := w) k1 hil (fun _ _ => rfl) hext (fun _ _ _ _ _ _ => rfl) ⟨b, c', vs, f1, f2, by simpa using f3, by simpa using f4, fun j x v hx hv => by
    by_cases hjk : j = k
    · subst hjk
      have hkl := (List.getElem?_eq_some_iff.1 hk).1
      rw [List.getElem?_set_self hkl] at hx
      injection hx with hx
      subst hx
      have := s_inv (f5 j (.s (.slice none 0 0)) v hk hv)
      subst this
      exact .row (.list sz (fun _ _ => undef) rfl (Nat.le_refl _) (by simp [maxLen]) (fun x hx => by cases hx) (fun h0 => by simp at h0) (fun i j x p hx => by simp at hx)) ⟨0, sz, et, hget, Nat.le_refl _⟩ (fun _ _ _ => .inl ⟨hn, ⟨_, rfl⟩, rfl⟩)
    · rw [List.getElem?_set_ne (Ne.symm hjk)] at hx
      exact (f5 j x v hx hv).ext hext⟩
    (fun b2 c2 e j d hj hji e2 => hji (k1.inj j i b2 d c2 hj hil e2 e)) (fun b2 c2 e => k1.lt i b2 c2 hil e) (fun b2 c2 e off => k1.good i b2 c2 hil e off)
  rw [hset2] at hfin hext
  have hle : (H.set i (.box (cs.set k (.row [] H.length)) t) ++ [LS.row 0 sz et]).length = (pad H 1).length := by simp [pad]
  refine ⟨ι, hfin, fun tt p hp => ?_, g3, g4, by rw [hle]; exact g5, (g6.trans k2).trans hext, ?_⟩
  · obtain ⟨v, hv, hr⟩ := g2 tt p hp
    exact ⟨v, hv, (hr.ext k2).ext hext⟩
  · have : (H.set i (.box (cs.set k (.row [] H.length)) t) ++ [LS.row 0 sz et]).length = (pad H 1).length := by simp [pad]
    rw [this]; exact g7
theorem awp_ghostB {c : Code} {Q : Exit → St → Prop} {env : List (Nat × PV)} {H H1 H2 : List LS} (i sz : Nat) (et : TypeId) {l : Nat} {t : TypeId} (hb : H[i]? = some (.box [.s (.slice none 0 0)] t)) (h1 : SetAt H i (.box [.row [] l] t) H1) (h2 : Snoc H1 (.row 0 sz et) l H2) (h : AWp P Γ c ⟨env, H2⟩ Q) : AWp P Γ c ⟨env, H⟩ Q :=
  awp_ghostC i 0 sz et hb rfl rfl h1 h2 h
end
end Go.Proofs.Pm
end
section
namespace Go.Proofs.Pm
open Go
section
variable {P : Program} {T : List TI} {N : Nat} {ops : Array Oper} {draw : Bool} {acc : List (List Nat × List Nat)} {rest : List Oper} {K : St → Prop} {env : List (Nat × PV)} {H H' : List LS} {d : Nat} {ty : TypeId} {pos : String} {after : Array Edge} {gd : Option (Nat × Bool)}
theorem SetAt.of {H : List LS} {n : Nat} {s : LS} (h : n < H.length) : SetAt H n s (H.set n s) := by
  induction H generalizing n with
  | nil => cases h
  | cons x r ih =>
    cases n with
    | zero => exact .zero
    | succ n => exact .succ (ih (by simpa using h))
theorem seta_facts {s : LS} {l : Nat} (h1 : H[l]? = some .absent) (h2 : SetAt H l s H') : (pad H 0)[l]? = some .absent ∧ setAll (pad H 0) [(l, s)] = H' := by
  rw [h2.spec]
  exact ⟨by simpa [pad] using h1, by simp [pad, setAll]⟩
theorem ev_allocA {t : TypeId} {ti : TI} {cs : List PV} (l : Nat) (hT : TOk P T) (hg : gEval ops env gd = some true) (hd : Nat.blt d N = true) (h1 : lkT T t = some ti) (h2 : ti.ok = true) (h3 : ti.zero.all (·.oneCell') = true) (h4 : ti.zero.map .s = cs) (hA : H[l]? = some .absent) (h5 : SetAt H l (.box cs t) H') (h : Ev P N ops draw (([l], [l]) :: acc) rest ⟨(d, .ptr l 0) :: env, H'⟩ K) : Ev P N ops draw acc (⟨some d, .alloc t, ty, pos, after, gd⟩ :: rest) ⟨env, H⟩ K :=
  ev_core (pads := 0) rfl hg hd (os_alloc hT rfl h1 h2 h3 h4 (l := l)) (fun q hq => by rw [List.mem_singleton] at hq; subst hq; exact (seta_facts hA h5).1) (fun q hq => by rw [List.mem_singleton] at hq; subst hq; simp) (seta_facts hA h5).2 h
theorem ev_buildSliceA {t e : TypeId} {n : Nat} {parts : Array (Nat × Operand)} {xs : List Operand} {ps : List PV} {css : List (List PV)} {ti te : TI} (l : Nat) (hT : TOk P T) (hg : gEval ops env gd = some true) (hd : Nat.blt d N = true) (h1 : parts.toList.map (·.2) = xs) (h2 : parts.toList = (xs.zipIdx 0).map fun x => (x.2, x.1)) (e0 : evalL (look env) xs = some ps) (h3 : lkT T t = some ti) (h4 : ti.ok = true) (h5 : ti.k = .slice e) (h6 : lkT T e = some te) (h7 : te.ok = true) (h8 : Nat.beq xs.length n = true)
    (h9 : elemsO te.size ps = some css) (h10 : Nat.blt 0 (n * te.size) = true) (h11 : Nat.ble (n * te.size) 16777216 = true) (hA : H[l]? = some .absent) (h12 : SetAt H l (.row n te.size e) H') (h : Ev P N ops draw (([l], [l]) :: acc) rest ⟨(d, .row css l) :: env, H'⟩ K) : Ev P N ops draw acc (⟨some d, .buildSlice t n parts, ty, pos, after, gd⟩ :: rest) ⟨env, H⟩ K :=
  ev_core (pads := 0) rfl hg hd (os_buildSlice hT rfl h1 h2 e0 h3 h4 h5 h6 h7 h8 h9 h10 h11 (l := l)) (fun q hq => by rw [List.mem_singleton] at hq; subst hq; exact (seta_facts hA h12).1) (fun q hq => by rw [List.mem_singleton] at hq; subst hq; simp) (seta_facts hA h12).2 h
theorem ev_appendNilA {t e : TypeId} {tx : Nat} {y : Operand} {sz : Nat} {et : TypeId} {ys : List (List PV)} {q : PV} {ti te : TI} (l : Nat) (hT : TOk P T) (hg : gEval ops env gd = some true) (hd : Nat.blt d N = true) (e0 : evalO (look env) (.tmp tx) = some (.s (.slice none 0 0))) (e1 : evalO (look env) y = some q) (h1 : elemsOf q = some ys) (h2 : lkT T t = some ti) (h3 : ti.ok = true) (h4 : ti.k = .slice e) (h5 : lkT T e = some te) (h6 : te.ok = true) (h8 : te.size = sz) (h9 : e = et) (h10 : Nat.blt 0 sz = true)
    (hA : H[l]? = some .absent) (h13 : SetAt H l (.row ys.length sz et) H') (h11 : ∀ y ∈ ys, y.length = sz) (h14 : ys.length * te.bytes ≤ 140737488355328) (h15 : ys.length ≤ 9223372036854775807) (h : Ev P N ops draw (([l], [l]) :: acc) rest ⟨(d, .row ys l) :: env, H'⟩ K) : Ev P N ops draw acc (⟨some d, .call { callee := .builtin .append, args := #[.tmp tx, y], argTypes := #[t, t] }, ty, pos, after, gd⟩ :: rest) ⟨env, H⟩ K :=
  ev_core (pads := 0) rfl hg hd (os_appendNil hT rfl e0 e1 h1 h2 h3 h4 h5 h6 h8 h9 h10 h11 h14 h15 (l := l)) (fun q hq => by rw [List.mem_singleton] at hq; subst hq; exact (seta_facts hA h13).1) (fun q hq => by rw [List.mem_singleton] at hq; subst hq; simp) (seta_facts hA h13).2 h
end
section
variable {P : Program} {Γ : Ctx}
def EnvIs (f : Nat → Option PV) : List (Nat × PV) → Prop
  | [] => True
  | (t, q) :: r => f t = some q ∧ EnvIs f r
theorem EnvIs.get {f : Nat → Option PV} : ∀ {env : List (Nat × PV)}, EnvIs f env → ∀ t q, look env t = some q → f t = some q
  | [], _, t, q, h => by simp [look] at h
  | (k, p) :: r, he, t, q, h => by
    simp only [look] at h
    cases hb : Nat.beq k t with
    | true =>
      rw [hb] at h
      simp only [cond_true, Option.some.injEq] at h
      subst h
      rw [← Nat.eq_of_beq_eq_true hb]
      exact he.1
    | false =>
      rw [hb] at h
      exact he.2.get t q h
theorem awp_env {c : Code} {Q : Exit → St → Prop} {env : List (Nat × PV)} {H : List LS} (env2 : List (Nat × PV)) (he : EnvIs (look env) env2) (h : AWp P Γ c ⟨env2, H⟩ Q) : AWp P Γ c ⟨env, H⟩ Q := fun a w hs => h a w (hs.congr (fun t p hp => he.get t p hp))
theorem awp_seq_env {x y : Code} {st : St} {Q : Exit → St → Prop} (env2 : List (Nat × PV)) (H2 : List LS) (h : AWp P Γ x st (Sq (fun st' => st'.H = H2 ∧ EnvIs (look st'.env) env2) Q)) (h2 : AWp P Γ y ⟨env2, H2⟩ Q) : AWp P Γ (.seq x y) st Q := by
  refine awp_seq (awp_mono h (fun e st' hq => ?_))
  cases e with
  | normal =>
    obtain ⟨k1, k2⟩ := hq
    obtain ⟨env', H'⟩ := st'
    simp only at k1 k2
    subst k1
    exact awp_env env2 k2 h2
  | exit id => exact hq
  | goto l => exact hq
  | ret => exact hq
  | panic c => exact hq
  | outgrown => exact hq
theorem awp_pad {c : Code} {Q : Exit → St → Prop} {env : List (Nat × PV)} {H : List LS} (n : Nat) (h : AWp P Γ c ⟨env, pad H n⟩ Q) : AWp P Γ c ⟨env, H⟩ Q := fun a w hs => h a w (hs.pad n)
end
abbrev Grp := List (B × List File)
def kvF : (Nat → Nat) → Grp → KV
  | _, [] => []
  | g, e :: r => (e.1, .row (filesC e.2) (g 0)) :: kvF (fun k => g (k + 1)) r
def kvL : Grp → KV
  | [] => []
  | e :: r => (e.1, .list (filesC e.2)) :: kvL r
def rowsG (es : Grp) : List LS := es.map fun e => .row e.2.length 3 69
def posG : Grp → B → Nat
  | [], _ => 0
  | e :: r, k => if k = e.1 then 0 else posG r k + 1
def oldG : Grp → B → List File
  | [], _ => []
  | e :: r, k => if k = e.1 then e.2 else oldG r k
def addG : Grp → File → Grp
  | [], f => [(f.1, [f])]
  | e :: r, f => if f.1 = e.1 then (f.1, e.2 ++ [f]) :: r else e :: addG r f
theorem posG_le : ∀ (es : Grp) (k : B), posG es k ≤ es.length
  | [], _ => Nat.le_refl _
  | e :: r, k => by
    rw [posG]
    split
    · exact Nat.zero_le _
    · simpa using posG_le r k
theorem getF : ∀ (es : Grp) (g : Nat → Nat) (k : B), posG es k < es.length → getM (kvF g es) k = some (.row (filesC (oldG es k)) (g (posG es k)))
  | [], g, k, h => by simp at h
  | e :: r, g, k, h => by
    rw [kvF, getM, posG, oldG]
    by_cases hk : k = e.1
    · rw [if_pos hk, if_pos hk, if_pos hk]
    · rw [if_neg hk, if_neg hk, if_neg hk]
      rw [posG, if_neg hk] at h
      exact getF r _ k (by simpa using h)
theorem getF0 : ∀ (es : Grp) (g : Nat → Nat) (k : B), posG es k = es.length → getM (kvF g es) k = none ∧ oldG es k = []
  | [], g, k, h => ⟨rfl, rfl⟩
  | e :: r, g, k, h => by
    rw [kvF, getM, oldG]
    by_cases hk : k = e.1
    · rw [posG, if_pos hk] at h; simp at h
    · rw [if_neg hk, if_neg hk]
      rw [posG, if_neg hk] at h
      exact getF0 r _ k (by simpa using h)
theorem setF : ∀ (es : Grp) (g : Nat → Nat) (f : File), setM (kvF g es) f.1 (.row (filesC (oldG es f.1 ++ [f])) (g (posG es f.1))) = kvF g (addG es f)
  | [], g, f => rfl
  | e :: r, g, f => by
    rw [kvF, setM, posG, oldG, addG]
    by_cases hk : f.1 = e.1
    · rw [if_pos hk, if_pos hk, if_pos hk, if_pos hk]; rfl
    · rw [if_neg hk, if_neg hk, if_neg hk, if_neg hk]
      rw [kvF, ← setF r]
theorem rows_old : ∀ (es : Grp) (f : File), posG es f.1 < es.length → rowsG (addG es f) = (rowsG es).set (posG es f.1) (.row ((oldG es f.1).length + 1) 3 69) ∧ (rowsG es)[posG es f.1]? = some (.row (oldG es f.1).length 3 69) ∧ (addG es f).length = es.length
  | [], f, h => by simp at h
  | e :: r, f, h => by
    rw [posG, oldG, addG]
    by_cases hk : f.1 = e.1
    · rw [if_pos hk, if_pos hk, if_pos hk]
      simp [rowsG]
    · rw [if_neg hk, if_neg hk, if_neg hk]
      rw [posG, if_neg hk] at h
      obtain ⟨h1, h2, h3⟩ := rows_old r f (by simpa using h)
      simp only [rowsG] at h1 h2 ⊢
      simp [h1, h2, h3]
theorem rows_new : ∀ (es : Grp) (f : File), posG es f.1 = es.length → rowsG (addG es f) = rowsG es ++ [.row 1 3 69] ∧ (addG es f).length = es.length + 1
  | [], f, h => ⟨rfl, rfl⟩
  | e :: r, f, h => by
    rw [addG]
    by_cases hk : f.1 = e.1
    · rw [posG, if_pos hk] at h; simp at h
    · rw [posG, if_neg hk] at h
      rw [if_neg hk]
      obtain ⟨h1, h2⟩ := rows_new r f (by simpa using h)
      simp only [rowsG] at h1 ⊢
      simp [h1, h2]
theorem kvF_mv {R : Nat → Nat → Prop} : ∀ (es : Grp) (g g' : Nat → Nat), (∀ k, k < es.length → R (g k) (g' k)) → MvKV R (mpOf (kvF g es)) (mpOf (kvF g' es))
  | [], _, _, _ => .nil
  | e :: r, g, g', h => .cons rfl (.row (h 0 (by simp))) (kvF_mv r _ _ (fun k hk => h (k + 1) (by simpa using hk)))
theorem kvL_mv {R : Nat → Nat → Prop} : ∀ (es : Grp) (g : Nat → Nat), MvKV R (mpOf (kvF g es)) (mpOf (kvL es))
  | [], _ => .nil
  | e :: r, g => .cons rfl (.frz rfl) (kvL_mv r _)
theorem getL : ∀ (es : Grp) (k : B), posG es k < es.length → getM (kvL es) k = some (.list (filesC (oldG es k)))
  | [], k, h => by simp at h
  | e :: r, k, h => by
    rw [kvL, getM, posG.eq_def, oldG] at *
    by_cases hk : k = e.1
    · rw [if_pos hk, if_pos hk]
    · simp only [if_neg hk] at h ⊢
      exact getL r k (by simpa using h)
theorem getL0 : ∀ (es : Grp) (k : B), posG es k = es.length → getM (kvL es) k = none
  | [], k, h => rfl
  | e :: r, k, h => by
    rw [kvL, getM]
    by_cases hk : k = e.1
    · rw [posG, if_pos hk] at h; simp at h
    · rw [if_neg hk]
      rw [posG, if_neg hk] at h
      exact getL0 r k (by simpa using h)
theorem old_add : ∀ (es : Grp) (f : File) (k : B), oldG (addG es f) k = oldG es k ++ (if k = f.1 then [f] else [])
  | [], f, k => by
    rw [addG, oldG, oldG]
    split <;> rfl
  | e :: r, f, k => by
    rw [addG]
    by_cases hf : f.1 = e.1
    · rw [if_pos hf, oldG, oldG]
      by_cases hk : k = e.1
      · have : k = f.1 := hk.trans hf.symm
        rw [if_pos this, if_pos hk, if_pos this]
      · have : ¬ k = f.1 := fun h => hk (h.trans hf)
        rw [if_neg this, if_neg hk, if_neg this, List.append_nil]
    · rw [if_neg hf, oldG, oldG]
      by_cases hk : k = e.1
      · have : ¬ k = f.1 := fun h => hf (h.symm.trans hk)
        rw [if_pos hk, if_pos hk, if_neg this, List.append_nil]
      · rw [if_neg hk, if_neg hk]; exact old_add r f k
theorem pos_old : ∀ (es : Grp), (∀ e ∈ es, e.2 ≠ []) → ∀ k, (posG es k = es.length ↔ oldG es k = [])
  | [], _, k => ⟨fun _ => rfl, fun _ => rfl⟩
  | e :: r, h, k => by
    rw [posG, oldG]
    by_cases hk : k = e.1
    · rw [if_pos hk, if_pos hk]
      exact ⟨fun h => by simp at h, fun h0 => absurd h0 (h e List.mem_cons_self)⟩
    · rw [if_neg hk, if_neg hk]
      have := pos_old r (fun e he => h e (List.mem_cons_of_mem _ he)) k
      simpa using this
theorem add_ne : ∀ (es : Grp) (f : File), (∀ e ∈ es, e.2 ≠ []) → ∀ e ∈ addG es f, e.2 ≠ []
  | [], f, _, e, he => by
    rw [addG, List.mem_singleton] at he; subst he; simp
  | e0 :: r, f, h, e, he => by
    rw [addG] at he
    split at he
    · rcases List.mem_cons.1 he with rfl | he
      · simp
      · exact h e (List.mem_cons_of_mem _ he)
    · rcases List.mem_cons.1 he with rfl | he
      · exact h _ List.mem_cons_self
      · exact add_ne r f (fun e he => h e (List.mem_cons_of_mem _ he)) e he
def grp (fs : List File) : Grp := fs.foldl addG []
theorem grp_facts : ∀ (fs : List File) (es : Grp), (∀ e ∈ es, e.2 ≠ []) → (∀ e ∈ fs.foldl addG es, e.2 ≠ []) ∧ ∀ k, oldG (fs.foldl addG es) k = oldG es k ++ fs.filter (fun f => decide (k = f.1))
  | [], es, h => ⟨h, fun k => by simp⟩
  | f :: r, es, h => by
    obtain ⟨h1, h2⟩ := grp_facts r (addG es f) (add_ne es f h)
    refine ⟨h1, fun k => ?_⟩
    rw [List.foldl_cons, h2, old_add, List.append_assoc, List.filter_cons]
    by_cases hk : k = f.1 <;> simp [hk]
theorem rowsG_at {es : Grp} {j : Nat} (h : j < es.length) : ∃ n, (rowsG es)[j]? = some (.row n 3 69) := ⟨_, by simp [rowsG, h]; rfl⟩
theorem range_get {a m j i : Nat} (h : (List.range' a m)[j]? = some i) : j < m ∧ i = a + j := by
  have hl := (List.getElem?_eq_some_iff.1 h).1
  simp only [List.length_range'] at hl
  refine ⟨hl, ?_⟩
  rw [List.getElem?_range' hl] at h
  injection h with h
  omega
theorem range_at {a m j : Nat} (h : j < m) : (List.range' a m)[j]? = some (a + j) := by
  rw [List.getElem?_range' h]; simp
theorem cut_open (es : Grp) : Cut (0 :: (es.length + 1) :: (es.length + 2) :: (es.length + 3) :: List.range' 1 es.length) (pad (.mp (mpOf (kvF (· + 1) es)) :: rowsG es) 3) (.mp (mpOf (kvF (· + 4) es)) :: .absent :: .absent :: .absent :: rowsG es) := by
  have hl : (rowsG es).length = es.length := by simp [rowsG]
  have hp : ∀ k, k < 3 → (pad (.mp (mpOf (kvF (· + 1) es)) :: rowsG es) 3)[es.length + 1 + k]? = some .absent := fun k hk => by
    rw [pad, List.getElem?_append_right (by simp [hl])]
    rw [List.length_cons, hl, Nat.add_sub_cancel_left, List.getElem?_replicate, if_pos hk]
  refine ⟨?_, by simp [hl], fun j i hj => ?_⟩
  · simp only [List.nodup_cons, List.mem_cons, List.mem_range', not_or]
    refine ⟨⟨by omega, by omega, by omega, by rintro ⟨i, h1, h2⟩; omega⟩, ⟨by omega, by omega, by rintro ⟨i, h1, h2⟩; omega⟩, ⟨by omega, by rintro ⟨i, h1, h2⟩; omega⟩, by rintro ⟨i, h1, h2⟩; omega, List.nodup_range'⟩
  · match j with
    | 0 =>
      simp only [List.getElem?_cons_zero, Option.some.injEq] at hj
      subst hj
      refine ⟨_, _, rfl, rfl, .mp (kvF_mv es _ _ (fun k hk => ?_))⟩
      show (List.range' 1 es.length)[k]? = _
      rw [range_at hk, Nat.add_comm]
    | 1 => simp at hj; subst hj; exact ⟨_, _, hp 0 (by omega), rfl, .absent⟩
    | 2 => simp at hj; subst hj; exact ⟨_, _, hp 1 (by omega), rfl, .absent⟩
    | 3 => simp at hj; subst hj; exact ⟨_, _, hp 2 (by omega), rfl, .absent⟩
    | j + 4 =>
      obtain ⟨h1, h2⟩ := range_get (show (List.range' 1 es.length)[j]? = some i from hj)
      obtain ⟨n, hn⟩ := rowsG_at h1
      subst h2
      refine ⟨_, _, ?_, hn, .row⟩
      rw [Nat.add_comm]
      exact pad_get (show (_ :: rowsG es)[j + 1]? = _ from hn) 3
theorem cut_old (es : Grp) (a b c : LS) : Cut (0 :: List.range' 4 es.length) (.mp (mpOf (kvF (· + 4) es)) :: a :: b :: c :: rowsG es) (.mp (mpOf (kvF (· + 1) es)) :: rowsG es) := by
  have hl : (rowsG es).length = es.length := by simp [rowsG]
  refine ⟨?_, by simp [hl], fun j i hj => ?_⟩
  · simp only [List.nodup_cons, List.mem_range']
    exact ⟨by rintro ⟨i, h1, h2⟩; omega, List.nodup_range'⟩
  · match j with
    | 0 =>
      simp only [List.getElem?_cons_zero, Option.some.injEq] at hj
      subst hj
      refine ⟨_, _, rfl, rfl, .mp (kvF_mv es _ _ (fun k hk => ?_))⟩
      show (List.range' 4 es.length)[k]? = _
      rw [range_at hk, Nat.add_comm]
    | j + 1 =>
      obtain ⟨h1, h2⟩ := range_get (show (List.range' 4 es.length)[j]? = some i from hj)
      obtain ⟨n, hn⟩ := rowsG_at h1
      subst h2
      refine ⟨_, _, ?_, hn, .row⟩
      rw [Nat.add_comm]
      exact hn
def newN (m k : Nat) : Nat := if k < m then k + 4 else 3
theorem cut_new (es es' : Grp) (a b : LS) (hm : es'.length = es.length + 1) (hr : rowsG es' = rowsG es ++ [.row 1 3 69]) : Cut (0 :: (List.range' 4 es.length ++ [3])) (.mp (mpOf (kvF (newN es.length) es')) :: a :: b :: .row 1 3 69 :: rowsG es) (.mp (mpOf (kvF (· + 1) es')) :: rowsG es') := by
  have hl : (rowsG es).length = es.length := by simp [rowsG]
  have hlr : (List.range' 4 es.length).length = es.length := by simp
  refine ⟨?_, by simp [hl, hr], fun j i hj => ?_⟩
  · rw [List.nodup_cons, List.mem_append, List.mem_range', List.mem_singleton]
    refine ⟨by rintro (⟨i, h1, h2⟩ | h) <;> omega, ?_⟩
    rw [List.nodup_append]
    refine ⟨List.nodup_range', by simp, fun x hx y hy => ?_⟩
    rw [List.mem_range'] at hx
    rw [List.mem_singleton] at hy
    obtain ⟨i, h1, h2⟩ := hx
    omega
  · match j with
    | 0 =>
      simp only [List.getElem?_cons_zero, Option.some.injEq] at hj
      subst hj
      refine ⟨_, _, rfl, rfl, .mp (kvF_mv es' _ _ (fun k hk => ?_))⟩
      show (List.range' 4 es.length ++ [3])[k]? = _
      unfold newN
      by_cases hk2 : k < es.length
      · rw [List.getElem?_append_left (by omega), range_at hk2, if_pos hk2, Nat.add_comm]
      · rw [List.getElem?_append_right (by omega), if_neg hk2, show k - (List.range' 4 es.length).length = 0 by omega]; rfl
    | j + 1 =>
      have hj : (List.range' 4 es.length ++ [3])[j]? = some i := hj
      show ∃ s s', _ ∧ (rowsG es')[j]? = _ ∧ _
      rw [hr]
      by_cases hk2 : j < es.length
      · rw [List.getElem?_append_left (by omega)] at hj
        obtain ⟨h1, h2⟩ := range_get hj
        obtain ⟨n, hn⟩ := rowsG_at h1
        subst h2
        refine ⟨_, _, ?_, by rw [List.getElem?_append_left (by omega)]; exact hn, .row⟩
        rw [Nat.add_comm]
        exact hn
      · have hjl := (List.getElem?_eq_some_iff.1 hj).1
        simp at hjl
        have hj0 : j = es.length := by omega
        subst hj0
        rw [List.getElem?_append_right (by omega)] at hj
        simp at hj
        subst hj
        exact ⟨_, _, rfl, by rw [List.getElem?_append_right (by omega)]; simp [hl], .row⟩
theorem cut_frz (es : Grp) : Cut [0] (.mp (mpOf (kvF (· + 1) es)) :: rowsG es) [.mp (mpOf (kvL es))] := by
  refine cut_of (by decide) (.cons rfl (.mp (kvL_mv es _)) .nil)
end Go.Proofs.Pm
end
section
namespace Go.Proofs.Pm
open Go
def XY (P : Program) (av : List Value) (w : World) (K : Value → World → Prop) : Prop :=
  ∃ (l : Nat) (rest : List Value) (f : FuncId) (tmps : Array Value) (assign body : Code), av = .func (.yield l) #[] #[] :: rest ∧ (Instr.yield l rest.toArray).run P w = .ok (.round l f tmps assign body) w ∧ RoundIn Fence.wide 0 P l f tmps assign body w fun e w' => ∃ v, e = .returned v ∧ K v w'
theorem XY.mono {P : Program} (av : List Value) (w : World) (K K' : Value → World → Prop) (h : XY P av w K) (hk : ∀ v w', K v w' → K' v w') : XY P av w K' := by
  obtain ⟨l, rest, f, tmps, assign, body, h1, h2, h3⟩ := h
  exact ⟨l, rest, f, tmps, assign, body, h1, h2, RoundIn.mono h3 (fun e w' ⟨v, he, hv⟩ => ⟨v, he, hk v w' hv⟩)⟩
def YCall (P : Program) (args : List PV) (Hin : List LS) (r : PV) (Hout : List LS) : Prop := XCall (XY P) args Hin r Hout
section
variable {P : Program} {o : Oper} {f : Nat → Option PV}
theorem os_yield {x : Operand} {xs : Array Operand} {tys : Array TypeId} {i : Nat} {as1 args : List PV} {Hin Hout Sin Sout : List LS} {r r' : PV} {sg nu : List Nat}
    (ho : o.op = .call { callee := .value x, args := xs, argTypes := tys }) (hx : evalO f x = some (.yl i)) (ha : evalL f xs.toList = some as1) (hc : YCall P args Hin r Hout)
    (hin : MvL (fun i j => sg[j]? = some i) (.yl i :: as1) args) (hS : MvSs (fun i j => sg[j]? = some i) Sin Hin) (hr : Mv (fun j i => (sg ++ nu)[j]? = some i) r r') (hO : MvSs (fun j i => (sg ++ nu)[j]? = some i) Hout Sout)
    (hlen : sg.length = Hin.length) (hlen2 : (sg ++ nu).length = Hout.length) (hnd : (sg ++ nu).Nodup) : OStep P o f (sg.zip Sin ++ nu.map fun i => (i, .absent)) r' ((sg ++ nu).zip Sout) := by
  intro G w ι H a hH hG hf hrd
  have hfn := evalO_mem hf (x := x) (by rw [ho]; simp [Op.operands, Call.operands]) hx
  obtain ⟨b, c, ys, φ, hfe, hi, hb⟩ := yl_inv hfn
  have has := evalL_rep (a := a) (fun t p ht hp => hf t p (mem_tmps (by rw [ho]; simp only [Op.operands, Call.operands]; exact Array.mem_toList_iff.2 (Array.mem_append.2 (.inr (Array.mem_toList_iff.1 ht))))) hp) ha
  have hall : VReps (VRep (Prot G ι H) w ι H) (.yl i :: as1) (a.eval x :: xs.toList.map a.eval) := .cons hfn has
  obtain ⟨l, rest, fn, tmps, assign, body, h1, h2, h3⟩ := call_core (X := XY P) XY.mono hc hin hS hr hO hlen hlen2 hnd G w ι H _ hH hG hall hrd
  rw [hfe] at h1
  injection h1 with h1 h4
  injection h1 with h1
  injection h1 with h1
  subst h1 h4
  unfold OpGoes
  have hrun : (execOp a.eval o).run P w = .ok (.round b fn tmps assign body) w := by
    have he : (xs.toList.map a.eval).toArray = Array.map a.eval xs := by apply Array.ext'; simp
    rw [he] at h2
    simp [execOp, ho, resolve, hfe, Deferred.ofValue, invoke, h2]
  rw [hrun]
  exact h3
variable {N : Nat} {ops : Array Oper} {draw : Bool} {acc : List (List Nat × List Nat)} {rest : List Oper} {K : St → Prop} {env : List (Nat × PV)} {H H' : List LS} {d : Nat} {ty : TypeId} {pos : String} {after : Array Edge} {gd : Option (Nat × Bool)}
theorem ev_yield {sg nu : List Nat} {x : Operand} {xs : Array Operand} {tys : Array TypeId} {i : Nat} {as1 args : List PV} {r r' : PV} {Hin Hout Sin Sout : List LS} (hg : gEval ops env gd = some true) (hd : Nat.blt d N = true) (e0 : evalO (look env) x = some (.yl i)) (e1 : evalL (look env) xs.toList = some as1) (hc : YCall P args Hin r Hout)
    (hf : MvL (fun i j => sg[j]? = some i) (.yl i :: as1) args) (hrd : RdAll (pad H nu.length) (sg.zip Sin ++ nu.map fun i => (i, .absent))) (hS : MvSs (fun i j => sg[j]? = some i) Sin Hin) (hr : Mv (fun j i => (sg ++ nu)[j]? = some i) r r') (hO : MvSs (fun j i => (sg ++ nu)[j]? = some i) Hout Sout)
    (hl : sg.length = Hin.length) (hl2 : (sg ++ nu).length = Hout.length) (hnd : (sg ++ nu).Nodup) (hH : setAll (pad H nu.length) ((sg ++ nu).zip Sout) = H') (h : Ev P N ops draw ((List.map Prod.fst (sg.zip Sin ++ nu.map fun i => (i, LS.absent)), List.map Prod.fst ((sg ++ nu).zip Sout)) :: acc) rest ⟨(d, r') :: env, H'⟩ K) : Ev P N ops draw acc (⟨some d, .call { callee := .value x, args := xs, argTypes := tys }, ty, pos, after, gd⟩ :: rest) ⟨env, H⟩ K :=
  ev_core (pads := nu.length) rfl hg hd (os_yield rfl e0 e1 hc hf hS hr hO hl hl2 hnd) hrd.get (fun q hq => by
    have h1 := hS.length
    have h2 := hO.length
    have hk : List.map Prod.fst (sg.zip Sin ++ nu.map fun i => (i, LS.absent)) = sg ++ nu := by
      rw [List.map_append, List.map_fst_zip (by omega), List.map_map]
      congr 1
      exact List.map_id _
    rw [show (List.map (fun x => x.1) (sg.zip Sin ++ nu.map fun i => (i, LS.absent))) = sg ++ nu from hk]
    exact (List.of_mem_zip (show (q.1, q.2) ∈ _ from hq)).1) hH h
end
def recO (ps : Array Tmp) (assign body : Code) (pend : Option Code) (fn : FuncId) (D : Nat) (vs : List Value) : Obj :=
  .loop { state := if pend.isNone then .ready else .done, pending := pend, fn, tmps := vs.toArray, params := ps, assign, body, defers := D }
def recB (ps : Array Tmp) (assign body : Code) (pend : Option Code) (fn : FuncId) (D : Nat) (vs : List Value) : Obj :=
  .loop { state := .busy, pending := pend, fn, tmps := vs.toArray, params := ps, assign, body, defers := D }
def slots (N : Nat) (env : List (Nat × PV)) : List PV := (List.range N).map fun t => (look env t).getD .junk
theorem slots_length (N : Nat) (env : List (Nat × PV)) : (slots N env).length = N := by simp [slots]
theorem slots_get {N : Nat} {env : List (Nat × PV)} {t : Nat} (h : t < N) : (slots N env)[t]? = some ((look env t).getD .junk) := by simp [slots, h]
theorem slots_mv {R : Nat → Nat → Prop} {N : Nat} {e e' : List (Nat × PV)} {φ : List Value → Obj} (h : ∀ t q, look e' t = some q → ∃ p, look e t = some p ∧ Mv R p q) : MvS R (.obj (slots N e) φ) (.obj (slots N e') φ) := by
  refine .obj (by simp [slots_length]) (fun j x y hx hy => ?_)
  have hj : j < N := by have := (List.getElem?_eq_some_iff.1 hx).1; rwa [slots_length] at this
  rw [slots_get hj] at hx hy
  injection hx with hx
  injection hy with hy
  cases hq : look e' j with
  | none => rw [hq] at hy; exact .inr hy.symm
  | some q =>
    obtain ⟨p, hp, hm⟩ := h j q hq
    rw [hq] at hy
    rw [hp] at hx
    subst hx hy
    exact .inl hm
def EnvLeR (R : Nat → Nat → Prop) (f : Nat → Option PV) : List (Nat × PV) → Prop
  | [] => True
  | (t, q) :: r => (∃ p, f t = some p ∧ Mv R p q) ∧ EnvLeR R f r
theorem EnvLeR.get {R : Nat → Nat → Prop} {f : Nat → Option PV} : ∀ {env : List (Nat × PV)}, EnvLeR R f env → ∀ t q, look env t = some q → ∃ p, f t = some p ∧ Mv R p q
  | [], _, t, q, h => by simp [look] at h
  | (k, p) :: r, he, t, q, h => by
    simp only [look] at h
    cases hb : Nat.beq k t with
    | true =>
      rw [hb] at h
      simp only [cond_true, Option.some.injEq] at h
      subst h
      rw [← Nat.eq_of_beq_eq_true hb]
      exact he.1
    | false =>
      rw [hb] at h
      exact he.2.get t q h
theorem slots_R {R : Nat → Nat → Prop} {N : Nat} {e e' : List (Nat × PV)} {φ : List Value → Obj} (h : EnvLeR R (look e) e') : MvS R (.obj (slots N e) φ) (.obj (slots N e') φ) := slots_mv (fun t q hq => h.get t q hq)
theorem obj_step {G : Good} {w : World} {ι : Intp} {H : List LS} {i b c : Nat} {xs : List PV} {vs : List Value} {φ φ' : List Value → Obj} (hH : HRel G w ι H) (hi : H[i]? = some (.obj xs φ)) (hb : ι i = some (b, c)) (hblk : w.heap[b]? = some (φ vs)) (hl : xs.length = vs.length) (hv : ∀ (j : Nat) (x : PV) (v : Value), xs[j]? = some x → vs[j]? = some v → VRep (Prot G ι H) w ι H x v)
    (hc : ∀ cs t z, φ vs ≠ .cells cs t z) (hc' : ∀ cs t z, φ' vs ≠ .cells cs t z) : HRel G (w.putObj b (φ' vs)) ι (H.set i (.obj xs φ')) ∧ Ext G w ι H (w.putObj b (φ' vs)) ι (H.set i (.obj xs φ')) ∧ Out w ι H.length (w.putObj b (φ' vs)) ι (H.set i (.obj xs φ')).length := by
  have hll := (List.getElem?_eq_some_iff.1 hi).1
  have hoth : ∀ b', b' ≠ b → (w.putObj b (φ' vs)).heap[b']? = w.heap[b']? := fun b' h => World.putObj_heap_other h
  have hcell : ∀ (a : Addr) v, w.cell? a = some v → (w.putObj b (φ' vs)).cell? a = some v := fun a v h => by
    have hne : a.block ≠ b := fun e => by
      unfold World.cell? at h
      rw [e, hblk] at h
      cases hφ : φ vs with
      | cells cs t z => exact hc _ _ _ hφ
      | _ => rw [hφ] at h; simp at h
    rw [World.cell?_of_block (hoth _ hne)]; exact h
  have hset : ∀ {j : Nat} {s : LS}, H[j]? = some s → j ≠ i → (H.set i (.obj xs φ'))[j]? = some s := fun h hj => by rw [List.getElem?_set_ne (Ne.symm hj)]; exact h
  have he : Ext G w ι H (w.putObj b (φ' vs)) ι (H.set i (.obj xs φ')) := by
    refine ⟨by simp, by simp, fun a v hp h => ⟨hcell a v h, hp.1, fun j d hj e => ?_⟩, fun j cs t hj => ⟨rfl, cs, hset hj (fun e => by subst e; rw [hi] at hj; cases hj)⟩, fun j n sz t hj => ⟨n, hset hj (fun e => by subst e; rw [hi] at hj; cases hj), Nat.le_refl _, fun _ => rfl⟩, fun j kvs hj => ⟨rfl, kvs, hset hj (fun e => by subst e; rw [hi] at hj; cases hj)⟩, fun j ys ψ hj => ⟨rfl, ?_⟩⟩
    · simp only [List.length_set] at hj
      obtain ⟨n, sz, t, k1, k2⟩ := hp.2 j d hj e
      exact ⟨n, sz, t, hset k1 (fun e => by subst e; rw [hi] at k1; cases k1), k2⟩
    · by_cases hj2 : j = i
      · subst hj2; exact ⟨xs, φ', by simp [hll]⟩
      · exact ⟨ys, ψ, hset hj hj2⟩
  refine ⟨hH.upd hll (fun _ _ => rfl) he (fun j b' c' hj hji e => hoth b' (fun e2 => hji (hH.inj j i b' c' c hj hll e (by rw [hb, e2])))) ⟨b, c, vs, hb, World.putObj_heap_same (Array.getElem?_eq_some_iff.1 hblk).1, hc', hl, fun j x v hx hv' => (hv j x v hx hv').ext he⟩ (fun b2 c2 e j d hj hji e2 => hji (hH.inj j i b2 d c2 hj hll e2 e)) (fun b2 c2 e => by simpa using hH.lt i b2 c2 hll e) (fun b2 c2 e off => hH.good i b2 c2 hll e off), he, ⟨rfl, rfl, rfl, by simp, fun k hk hn => hoth k (fun e => hn i c hll (by rw [hb, e])), fun j b' c' hj e => .inl ⟨by simpa using hj, e⟩⟩⟩
theorem lay_ext {G : Good} {w : World} {ι : Intp} {H : List LS} (ob : Obj) (hH : HRel G w ι H) : Ext G w ι H (w.alloc ob) ι H ∧ HRel G (w.alloc ob) ι H ∧ Out w ι H.length (w.alloc ob) ι H.length := by
  have hblk : ∀ b, b < w.heap.size → (w.alloc ob).heap[b]? = w.heap[b]? := fun b hb => Go.RowKit.Below.heap_alloc w ob b hb
  have hcell : ∀ (a : Addr) v, w.cell? a = some v → (w.alloc ob).cell? a = some v := fun a v h => by
    rw [World.cell?_of_block (hblk _ (World.block_lt_of_cell? w a h))]; exact h
  have he : Ext G w ι H (w.alloc ob) ι H := ⟨Nat.le_refl _, by simp, fun a v hp h => ⟨hcell a v h, hp⟩, fun i cs t hi => ⟨rfl, cs, hi⟩, fun i n sz t hi => ⟨n, hi, Nat.le_refl _, fun _ => rfl⟩, fun i kvs hi => ⟨rfl, kvs, hi⟩, fun i xs φ hi => ⟨rfl, xs, φ, hi⟩⟩
  refine ⟨he, ⟨fun i s hi => LRel.ext he rfl (fun b c e => hblk b (hH.lt i b c (List.getElem?_eq_some_iff.1 hi).1 e)) (hH.rel i s hi), hH.inj, fun i b c hi e => ?_, hH.good, hH.base.keep (fun a v => he.prot a v)⟩, ⟨rfl, rfl, rfl, by simp, fun b hb _ => hblk b hb, fun i b c hi e => .inl ⟨hi, e⟩⟩⟩
  have := hH.lt i b c hi e
  simp; omega
def jumpOf : Exit → Option (Option Code)
  | .normal => some none
  | .ret => some (some .ret)
  | .exit id => some (some (.exit id))
  | _ => none
section
variable {P : Program}
theorem env_lt {N : Nat} : ∀ {envC : List (Nat × PV)}, envC.all (fun e => Nat.blt e.1 N) = true → ∀ {t : Nat} {q : PV}, look envC t = some q → t < N
  | [], _, t, q, hq => by simp [look] at hq
  | e :: r, hN, t, q, hq => by
    simp only [List.all_cons, Bool.and_eq_true, Nat.blt_eq] at hN
    simp only [look] at hq
    cases hbq : Nat.beq e.1 t with
    | true => rw [← Nat.eq_of_beq_eq_true hbq]; exact hN.1
    | false => rw [hbq] at hq; exact env_lt hN.2 hq
theorem ycall_intro {p N : Nat} {assign body : Code} {envC : List (Nat × PV)} {x : PV} {Hb Hb' : List LS} {pend : Option Code} {fn : FuncId} {D : Nat} (hp : Nat.blt p N = true) (hN : envC.all (fun e => Nat.blt e.1 N) = true)
    (h : ∀ G w ι l, AWp P { G := G, w := w, ι := ι, H := .obj (slots N envC) (recO #[p] assign body none fn D) :: Hb, N := N, rd := some l } assign ⟨(p, x) :: envC, .obj (slots N envC) (recO #[p] assign body none fn D) :: Hb⟩
      (fun e st1 => e = .normal ∧ ∃ Hb1, st1.H = .obj (slots N envC) (recO #[p] assign body none fn D) :: Hb1 ∧ AWp P { G := G, w := w, ι := ι, H := .obj (slots N envC) (recO #[p] assign body none fn D) :: Hb, N := N, rd := some l } body ⟨st1.env, .obj (slots N envC) (recB #[p] assign body none fn D) :: Hb1⟩
        (fun e st => ∃ ρ, jumpOf e = some pend ∧ Cut ρ st.H (.obj (slots N envC) (recB #[p] assign body none fn D) :: Hb') ∧ ∀ i, i < Hb.length + 1 → ρ[i]? = some i))) :
    YCall P [.yl 0, x] (.obj (slots N envC) (recO #[p] assign body none fn D) :: Hb) (.s (.bool pend.isNone)) (.obj (slots N envC) (recO #[p] assign body pend fn D) :: Hb') := by
  intro G w ι av hH hG hav
  cases hav with
  | @cons _ _ v0 _ hv0 hav =>
  cases hav with
  | @cons _ _ v1 _ hv1 hav =>
  cases hav
  obtain ⟨b, c, _, _, rfl, hb, _⟩ := yl_inv hv0
  have hpN : p < N := by simpa using hp
  have hlt : ∀ t q, look envC t = some q → t < N := fun t q => env_lt hN
  obtain ⟨b', c', vs, e1, e2, e3, e4, e5⟩ := hH.rel 0 _ rfl
  rw [hb] at e1
  injection e1 with e1
  injection e1 with e1 e1'
  subst e1 e1'
  rw [slots_length] at e4
  refine ⟨b, [v1], fn, vs.toArray.setIfInBounds p v1, assign, body, rfl, ?_, roundIn_of_wpIn trivial ?_⟩
  · have := run_yield (P := P) (args := #[v1]) e2 rfl
    simpa using this
  refine wpIn_mono (h G w ι b { tmps := vs.toArray.setIfInBounds p v1, defers := [] } w ⟨ι, hH, fun t q hq => ?_, hG, by simp [e4], DRel.nil, Ext.refl _ _ _ _, Out.refl _ _ _⟩) ?_
  · simp only [look] at hq
    cases hbq : Nat.beq p t with
    | true =>
      rw [hbq] at hq
      simp only [cond_true, Option.some.injEq] at hq
      subst hq
      rw [← Nat.eq_of_beq_eq_true hbq]
      exact ⟨v1, by simp [hpN, ← e4], hv1⟩
    | false =>
      rw [hbq] at hq
      have hq : look envC t = some q := hq
      have ht := hlt t q hq
      have hne : p ≠ t := fun e => by rw [e] at hbq; simp at hbq
      have hvt : vs[t]? = some (vs[t]'(by omega)) := List.getElem?_eq_getElem _
      refine ⟨_, by rw [Array.getElem?_setIfInBounds_ne hne]; simpa using hvt, e5 t q _ ?_ hvt⟩
      rw [slots_get ht, hq]; rfl
  rintro e a1 w1 ⟨st1, ⟨rfl, Hb1, hst, hbody⟩, hs1⟩
  obtain ⟨env1, H1⟩ := st1
  simp only at hst hs1 hbody
  subst hst
  obtain ⟨ι1, k1, k2, k3, k4, k5, k6, k7⟩ := hs1
  have hι1 : ι1 0 = some (b, c) := by rw [(k6.obj 0 _ _ rfl).1]; exact hb
  obtain ⟨b', c', vs1, f1, f2, f3, f4, f5⟩ := k1.rel 0 _ rfl
  rw [hι1] at f1
  injection f1 with f1
  injection f1 with f1 f1'
  subst f1 f1'
  refine ⟨_, run_beginRound f2 rfl, ?_⟩
  obtain ⟨m1, m2, m3⟩ := obj_step (φ' := recB #[p] assign body none fn D) k1 rfl hι1 f2 f4 f5 f3 (by simp [recB])
  have hs2 : SRel { G := G, w := w, ι := ι, H := .obj (slots N envC) (recO #[p] assign body none fn D) :: Hb, N := N, rd := some b } (look env1) (.obj (slots N envC) (recB #[p] assign body none fn D) :: Hb1) a1 (w1.putObj b (recB #[p] assign body none fn D vs1)) :=
    ⟨ι1, m1, fun t q hq => by obtain ⟨v, hv, hr⟩ := k2 t q hq; exact ⟨v, hv, hr.ext m2⟩, fun b' off hb' => k3 b' off (by simpa using hb'), k4, k5.out m3, k6.trans m2, k7.trans m3⟩
  refine wpIn_mono (hbody a1 _ hs2) ?_
  rintro e a2 w2 ⟨st2, ⟨ρ, hj, hcut, hk⟩, hs3⟩
  obtain ⟨ι2, q1, q2, q3, q4, q5, q6, q7⟩ := hs3
  have hρ0 : ρ[0]? = some 0 := hk 0 (by omega)
  have hHc := hcut.rel q1
  have hk : ∀ i, i < (LS.obj (slots N envC) (recO #[p] assign body none fn D) :: Hb).length → ρ[i]? = some i := hk
  have hcx := hcut.ext hk q6
  have hco := hcut.out hk q7
  have hι2 : (fun j => (ρ[j]?).bind ι2) 0 = some (b, c) := by
    show (ρ[0]?).bind ι2 = _
    rw [hρ0]
    exact ((q6.obj 0 _ _ rfl).1).trans hb
  obtain ⟨b', c', vs2, g1, g2, g3, g4, g5⟩ := hHc.rel 0 _ rfl
  rw [hι2] at g1
  injection g1 with g1
  injection g1 with g1 g1'
  subst g1 g1'
  obtain ⟨n1, n2, n3⟩ := obj_step (φ' := recO #[p] assign body pend fn D) hHc rfl hι2 g2 g4 g5 g3 (by simp [recO])
  have fin : ∃ v w', (Instr.endRound b pend).run P w2 = .ok v w' ∧ ∃ v', Ending.returned v = .returned v' ∧ ∃ ι', HRel G w' ι' (.obj (slots N envC) (recO #[p] assign body pend fn D) :: Hb') ∧ VRep (Prot G ι' (.obj (slots N envC) (recO #[p] assign body pend fn D) :: Hb')) w' ι' (.obj (slots N envC) (recO #[p] assign body pend fn D) :: Hb') (.s (.bool pend.isNone)) v' ∧ Ext G w ι (.obj (slots N envC) (recO #[p] assign body none fn D) :: Hb) w' ι' (.obj (slots N envC) (recO #[p] assign body pend fn D) :: Hb') ∧ Out w ι (.obj (slots N envC) (recO #[p] assign body none fn D) :: Hb).length w' ι' (.obj (slots N envC) (recO #[p] assign body pend fn D) :: Hb').length :=
    ⟨_, _, run_endRound pend g2, _, rfl, _, n1, .s _, hcx.trans n2, hco.trans n3⟩
  cases e with
  | normal => simp only [jumpOf, Option.some.injEq] at hj; subst hj; exact fin
  | ret => simp only [jumpOf, Option.some.injEq] at hj; subst hj; exact fin
  | exit id => simp only [jumpOf, Option.some.injEq] at hj; subst hj; exact fin
  | goto l => simp [jumpOf] at hj
  | panic ch => simp [jumpOf] at hj
  | outgrown => simp [jumpOf] at hj
end
section
variable {P : Program} {Γ : Ctx}
set_option maxHeartbeats 1000000 in
theorem awp_rangeFunc {g : Operand} {p : Nat} {assign body : Code} {gf : FuncId} {caps args : List PV} {env envC envC' : List (Nat × PV)} {H H' : List LS} {Hin Hout Sin Sout : FuncId → Nat → List LS} {r : PV} {sg ρ : List Nat} {st2 : St} {pend : Option Code} {Q : Exit → St → Prop}
    (hrd : Γ.rd = none) (hg : evalO (look env) g = some (.fn gf [] caps)) (henv : EnvIs (look env) envC) (hc : ∀ fn D, FCall P gf args (Hin fn D) r (Hout fn D))
    (hf : MvL (fun i j => sg[j]? = some i) (.yl H.length :: caps) args) (hRd : ∀ fn D, RdAll (H ++ [.obj (slots Γ.N envC) (recO #[p] assign body none fn D)]) (sg.zip (Sin fn D)))
    (hS : ∀ fn D, MvSs (fun i j => sg[j]? = some i) (Sin fn D) (Hin fn D)) (hO : ∀ fn D, MvSs (fun j i => (sg ++ [])[j]? = some i) (Hout fn D) (Sout fn D)) (hl : ∀ fn D, sg.length = (Hin fn D).length) (hl2 : ∀ fn D, (sg ++ []).length = (Hout fn D).length) (hnd : sg.Nodup) (hr : closedB r = true)
    (hH : ∀ fn D, setAll (H ++ [.obj (slots Γ.N envC) (recO #[p] assign body none fn D)]) ((sg ++ []).zip (Sout fn D)) = H' ++ [.obj (slots Γ.N envC') (recO #[p] assign body pend fn D)])
    (hle : ∀ fn D, Le ρ ⟨env, H' ++ [.obj (slots Γ.N envC') (recO #[p] assign body pend fn D)]⟩ st2) (hn : H.length ∉ ρ) (hk : ∀ i, i < Γ.H.length → ρ[i]? = some i)
    (h : match pend with
      | none => Q .normal st2
      | some c => AWp P Γ c st2 Q) : AWp P Γ (.rangeFunc g #[p] assign body) ⟨env, H⟩ Q := by
  intro a w hs
  obtain ⟨ι, h1, h2, h3, h4, h5, h6, h7⟩ := hs.pad 1
  simp only at h2
  rw [show fenceOf Γ.rd = Fence.wide by rw [hrd]; rfl]
  refine wpIn_rangeFunc (fun fn _ => ?_)
  obtain ⟨D, hD⟩ : ∃ D, D = w.heap.size := ⟨_, rfl⟩
  have hHl : H'.length = H.length := by
    have := congrArg List.length (hH fn D)
    rw [setAll_length] at this
    simpa using this.symm
  -- the state ahead of the call
  obtain ⟨a1, a2, a3⟩ := lay_ext (.deferred (some [])) h1
  obtain ⟨w1, hw1⟩ : ∃ w1, w1 = w.alloc (.deferred (some [])) := ⟨_, rfl⟩
  rw [← hw1] at a1 a2 a3
  have hsz1 : w1.heap.size = D + 1 := by rw [hw1, hD]; simp
  have hab : (pad H 1)[H.length]? = some .absent := by simp [pad]
  have hset : ∀ s : LS, (pad H 1).set H.length s = H ++ [s] := fun s => by simp [pad, List.set_append]
  have hext2 := ext_new (G := Γ.G) (w := w1) (ι := ι) (H := pad H 1) (s := .obj (slots Γ.N envC) (recO #[p] assign body none fn D)) (o := recO #[p] assign body none fn D a.tmps.toList) (c := 0) hab
  have hout2 := out_new (w := w1) (ι := ι) (k := (pad H 1).length) (l := H.length) (o := recO #[p] assign body none fn D a.tmps.toList) (c := 0) (by simp [pad])
  have hrel2 := rel_new (o := recO #[p] assign body none fn D a.tmps.toList) (c := 0) (s := .obj (slots Γ.N envC) (recO #[p] assign body none fn D)) a2 (fun b off hb => h3 b off (by omega)) hab ⟨w1.heap.size, 0, a.tmps.toList, updI_self _ _ _, heap_alloc_new w1 _, by simp [recO], by rw [slots_length]; simpa using h4.symm, fun j x v hx hv => by
    have hj : j < Γ.N := by have := (List.getElem?_eq_some_iff.1 hx).1; rwa [slots_length] at this
    rw [slots_get hj] at hx
    injection hx with hx
    cases hq : look envC j with
    | none => rw [hq] at hx; subst hx; exact .junk _
    | some q =>
      rw [hq] at hx
      simp only [Option.getD_some] at hx
      subst hx
      obtain ⟨u, hu, hur⟩ := h2 j q (henv.get j q hq)
      rw [Array.getElem?_toList, hu] at hv
      injection hv with hv
      subst hv
      exact (hur.ext a1).ext hext2⟩
  rw [hset] at hext2 hrel2
  have hw2 : (w1.alloc (recO #[p] assign body none fn D a.tmps.toList)) = (w.alloc (.deferred (some []))).alloc (.loop { state := .ready, pending := none, fn, tmps := a.tmps, params := #[p], assign, body, defers := w.heap.size }) := by
    rw [hw1, hD]; simp [recO]
  obtain ⟨w2, hw2d⟩ : ∃ w2, w2 = w1.alloc (recO #[p] assign body none fn D a.tmps.toList) := ⟨_, rfl⟩
  rw [← hw2d] at hext2 hout2 hrel2 hw2
  obtain ⟨ι1, hι1⟩ : ∃ ι1, ι1 = updI ι H.length (some (w1.heap.size, 0)) := ⟨_, rfl⟩
  rw [← hι1] at hext2 hout2 hrel2
  have hsz2 : w2.heap.size = D + 2 := by rw [hw2d]; simp [hsz1]
  have hιn : ι1 H.length = some (D + 1, 0) := by rw [hι1, updI_self, hsz1]
  have hD2 : w2.heap[D]? = some (.deferred (some [])) := by
    rw [hw2d, Go.RowKit.Below.heap_alloc w1 _ D (by omega), hw1, hD]
    exact heap_alloc_new w _
  have hpl : (pad H 1).length = (H ++ [LS.obj (slots Γ.N envC) (recO #[p] assign body none fn D)]).length := by simp [pad]
  -- the function that is ranged over
  obtain ⟨fs, cs, hfe, hfirst, hcaps⟩ : ∃ fs cs : Array Value, a.eval g = .func (.func gf) fs cs ∧ VReps (VRep (Prot Γ.G ι (pad H 1)) w ι (pad H 1)) [] fs.toList ∧ VReps (VRep (Prot Γ.G ι (pad H 1)) w ι (pad H 1)) caps cs.toList :=
    fn_inv (evalO_rep (fun t q _ hp => by obtain ⟨u, hu, hr⟩ := h2 t q hp; rwa [getD_of hu]) hg)
  have hfs : fs = #[] := by
    have := hfirst.length
    simpa using this.symm
  subst hfs
  have hav : VReps (VRep (Prot Γ.G ι1 (H ++ [.obj (slots Γ.N envC) (recO #[p] assign body none fn D)])) w2 ι1 (H ++ [.obj (slots Γ.N envC) (recO #[p] assign body none fn D)])) (.yl H.length :: caps) (.func (.yield (D + 1)) #[] #[] :: cs.toList) :=
    .cons (.yl hιn ⟨slots Γ.N envC, recO #[p] assign body none fn D, by rw [List.getElem?_append_right (Nat.le_refl _)]; simp⟩) (hcaps.imp (fun p v hv => (hv.ext a1).ext hext2))
  have hcore := call_core (X := fun av w K => Calls P gf av.toArray w fun e w' => ∃ v, e = .returned v ∧ K v w') (fun av w K K' h hk => Calls.mono h (fun e w' ⟨v, he, hv⟩ => ⟨v, he, hk v w' hv⟩)) (fun G w ι av h1 h2 h3 => Calls.mono ((hc fn D).2 G w ι av h1 h2 h3) (fun e w' ⟨v, ι', he, hv⟩ => ⟨v, he, ι', hv⟩)) (nu := []) hf (hS fn D) (Mv.closed hr) (hO fn D) (hl fn D) (hl2 fn D) (by simpa using hnd) Γ.G w2 ι1 _ _ hrel2 (fun b off hb => h3 b off (by omega)) hav (fun q hq => (hRd fn D).get q (by simpa using hq))
  rw [hH fn D] at hcore
  refine ⟨D + 1, [mark D], w2, { target := .fn (.func gf) cs, args := #[.func (.yield (D + 1)) #[] #[]] }, w2, gf, #[.func (.yield (D + 1)) #[] #[]] ++ cs, w2, ?_, ?_, fun f' _ => trivial, ?_, fun e => (by cases e), ?_⟩
  · rw [hw2, hD]; exact run_enterLoop_outer _ _ _ _ _
  · simp only [resolve, hfe, rangeCall]
    simp [go_sem]
  · have := (hc fn D).1 (#[.func (.yield (D + 1)) #[] #[]] ++ cs) w2
    simp [invoke, go_sem, this]
  have hargs : (Value.func (.yield (D + 1)) #[] #[] :: cs.toList).toArray = #[.func (.yield (D + 1)) #[] #[]] ++ cs := by apply Array.ext'; simp
  rw [hargs] at hcore
  refine (callsIn_wide (n := 0 - 1)).2 (Calls.mono hcore ?_)
  rintro e w3 ⟨v, rfl, ι3, hH3, _, hx3, ho3⟩
  -- behind the call
  have hgetn : (H' ++ [LS.obj (slots Γ.N envC') (recO #[p] assign body pend fn D)])[H.length]? = some (.obj (slots Γ.N envC') (recO #[p] assign body pend fn D)) := by
    rw [← hHl, List.getElem?_append_right (Nat.le_refl _)]; simp
  have hι3 : ι3 H.length = some (D + 1, 0) := by
    rw [(hx3.obj H.length _ _ (by rw [List.getElem?_append_right (Nat.le_refl _)]; simp; exact ⟨rfl, rfl⟩)).1]; exact hιn
  obtain ⟨b, c, vs3, g1, g2, g3, g4, g5⟩ := hH3.rel H.length _ hgetn
  rw [hι3] at g1
  injection g1 with g1
  injection g1 with g1 g1'
  subst g1 g1'
  have hcut := (hle fn D).cut
  have hun : ∀ i c, i < st2.H.length → (ρ[i]?).bind ι3 ≠ some (D + 1, c) := fun i c hi e => by
    obtain ⟨j, hj, e2⟩ := bindι e
    have := hH3.inj j H.length (D + 1) c 0 (hcut.lt hj) (List.getElem?_eq_some_iff.1 hgetn).1 e2 hι3
    subst this
    exact hn (List.mem_of_getElem? hj)
  obtain ⟨x1, x2⟩ := turn_ext (o' := .loop { state := .exhausted, pending := pend, fn, tmps := vs3.toArray, params := #[p], assign, body, defers := D }) (hcut.rel hH3) g2 g3 hun
  have hbase : Ext Γ.G Γ.w Γ.ι Γ.H w3 ι3 (H' ++ [LS.obj (slots Γ.N envC') (recO #[p] assign body pend fn D)]) := ((h6.trans a1).trans hext2).trans hx3
  have ho3' : Out w2 ι1 (H ++ [LS.obj (slots Γ.N envC) (recO #[p] assign body none fn D)]).length w3 ι3 (H' ++ [LS.obj (slots Γ.N envC') (recO #[p] assign body pend fn D)]).length := by
    have : (H' ++ [LS.obj (slots Γ.N envC') (recO #[p] assign body pend fn D)]).length = (H ++ [LS.obj (slots Γ.N envC) (recO #[p] assign body none fn D)]).length := by simp [hHl]
    rw [this]; exact ho3
  have hobase : Out Γ.w Γ.ι Γ.H.length w3 ι3 (H' ++ [LS.obj (slots Γ.N envC') (recO #[p] assign body pend fn D)]).length := ((h7.trans a3).trans (hpl ▸ hout2)).trans ho3'
  have hcx := hcut.ext hk hbase
  have hco := hcut.out hk hobase
  have hwD : Γ.w.heap.size ≤ D := by rw [hD]; exact h7.size
  -- the marks
  have hds1 : DRel Γ.w.heap.size (H ++ [LS.obj (slots Γ.N envC) (recO #[p] assign body none fn D)]).length w2 ι1 a.defers := (h5.out a3).out (hpl ▸ hout2)
  have hds : DRel Γ.w.heap.size (H ++ [LS.obj (slots Γ.N envC) (recO #[p] assign body none fn D)]).length w2 ι1 (mark D :: a.defers) := by
    obtain ⟨l, d1, d2, d3⟩ := hds1
    obtain ⟨l0, c1, c2, c3⟩ := h5
    have hll : l = l0 := by
      rw [c1] at d1
      have hinj : ∀ (x y : List Nat), x.map mark = y.map mark → x = y := fun x => by
        induction x with
        | nil => intro y hy; cases y with
          | nil => rfl
          | cons _ _ => simp at hy
        | cons z x ih => intro y hy; cases y with
          | nil => simp at hy
          | cons z' y =>
            simp only [List.map_cons, List.cons.injEq] at hy
            have : z = z' := by
              have h0 := congrArg Deferred.target hy.1
              simp only [mark] at h0
              injection h0
            rw [this, ih y hy.2]
      exact (hinj _ _ d1).symm
    subst hll
    refine ⟨D :: l, by rw [d1]; rfl, List.nodup_cons.2 ⟨fun hm => ?_, d2⟩, fun D' hD' => ?_⟩
    · have := (Array.getElem?_eq_some_iff.1 (c3 D hm).2.1).1
      omega
    · rcases List.mem_cons.1 hD' with rfl | hD'
      · refine ⟨hwD, hD2, fun i c hi e => ?_⟩
        rcases hout2.new i D' c (by rw [hpl]; exact hi) e with ⟨q1, q2⟩ | q1
        · have := h1.lt i D' c q1 q2; omega
        · omega
      · exact d3 D' hD'
  have hds3 := (hds.out ho3').mono (k' := st2.H.length) (ι' := fun j => (ρ[j]?).bind ι3) (fun i b c hi e => by obtain ⟨j, hj, e2⟩ := bindι e; exact ⟨j, hcut.lt hj, e2⟩)
  have hfinal : SRel Γ (look st2.env) st2.H { a with defers := mark D :: a.defers } (w3.putObj (D + 1) (.loop { state := .exhausted, pending := pend, fn, tmps := vs3.toArray, params := #[p], assign, body, defers := D })) := by
    refine ⟨fun j => (ρ[j]?).bind ι3, x2, fun t q hq => ?_, fun b off hb => h3 b off ?_, h4, ?_, hcx.trans x1, ⟨hco.os, hco.tape, hco.output, by simpa using hco.size, fun b hb hnb => ?_, hco.new⟩⟩
    · obtain ⟨q0, hq0, hm⟩ := (hle fn D).env.get t q hq
      obtain ⟨v, hv, hr⟩ := h2 t q0 hq0
      exact ⟨v, hv, (hcut.val hm (((hr.ext a1).ext hext2).ext hx3)).ext x1⟩
    · have := hobase.size
      have := ho3.size
      simp at hb
      omega
    · obtain ⟨l, d1, d2, d3⟩ := hds3
      refine ⟨l, d1, d2, fun D' hD' => ?_⟩
      obtain ⟨q1, q2, q3⟩ := d3 D' hD'
      have hne : D' ≠ D + 1 := fun e => by
        rw [e, g2] at q2
        simp [recO] at q2
      exact ⟨q1, by rw [World.putObj_heap_other hne]; exact q2, q3⟩
    · rw [World.putObj_heap_other (by omega)]; exact hco.block b hb hnb
  have hend : (Instr.endLoop (D + 1)).run P w3 = .ok pend (w3.putObj (D + 1) (.loop { state := .exhausted, pending := pend, fn, tmps := vs3.toArray, params := #[p], assign, body, defers := D })) := by
    have := run_endLoop (P := P) (l := D + 1) (w := w3) g2 (by simp only; split <;> simp)
    simpa using this
  refine ⟨pend, _, hend, ?_⟩
  cases pend with
  | none => exact ⟨st2, h, hfinal⟩
  | some c =>
    have := h _ _ hfinal
    rw [show fenceOf Γ.rd = Fence.wide by rw [hrd]; rfl] at this
    exact this
end
end Go.Proofs.Pm
end

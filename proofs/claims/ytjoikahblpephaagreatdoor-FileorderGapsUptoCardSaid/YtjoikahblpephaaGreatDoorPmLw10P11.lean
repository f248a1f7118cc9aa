/- A part of the proof of one law: the machine on pure values and the walks of functions. -/
import Derived.Test.YtjoikahblpephaaGreatDoorPmLw10P9
import Derived.Laws.IdiomStrings
set_option linter.all false
section
namespace Go.Proofs.Pm
open Go
def byteL (l : List UInt8) : List (List PV) := l.map fun b => [.s (.int .u8 (b.toNat : Int))]
section
variable {P : Program} {T : List TI} {o : Oper} {f : Nat → Option PV}
theorem os_bytesStr {s t e : TypeId} {x : Operand} {p : PV} {xs : List (List PV)} {l : List UInt8} {ti tj te : TI} (hT : TOk P T) (ho : o.op = .convert s t x) (ex : evalO f x = some p) (hp : elemsOf p = some xs) (hl : xs = byteL l)
    (hs : lkT T s = some ti) (hsk : ti.ok = true) (hsd : ti.k = .slice e) (he : lkT T e = some te) (hek : te.ok = true) (hed : te.k = .int .u8) (ht : lkT T t = some tj) (htk : tj.ok = true) (htd : tj.k = .str) : OStep P o f [] (.s (.string ⟨l.toArray⟩)) [] := by
  subst hl
  intro G w ι H a hH hG hf hr
  have hxv := elemsOf_rep (evalO_mem hf (x := x) (by rw [ho]; simp [Op.operands]) ex) hp
  obtain ⟨A, c, sz, vs, hxe, hcap, hmax, hsz, hA, hrx⟩ := list_inv hxv
  have hll : (byteL l).length = l.length := by simp [byteL]
  have hrun : (convert s t (.slice A (byteL l).length c)).run P w = .ok (.string ⟨l.toArray⟩) w := by
    cases A with
    | none =>
      have h0 : l = [] := by
        cases l with
        | nil => rfl
        | cons b r => obtain ⟨ad, h1, _⟩ := hA (by simp [byteL]); cases h1
      subst h0
      rw [run_convert_bytes_string w s t e none _ c (kind_slice hT hs hsk hsd) (kind_int hT he hek hed) (kind_str hT ht htk htd)]
      rfl
    | some ad =>
      rw [hll]
      refine run_convert_bytes_back w s t e ad c l (kind_slice hT hs hsk hsd) (kind_int hT he hek hed) (kind_str hT ht htk htd) (fun j hj => ?_)
      obtain ⟨ad2, h1, hcells⟩ := hA (by rw [hll]; omega)
      injection h1 with h1
      subst h1
      have hx : (byteL l)[j]? = some [.s (.int .u8 (l[j].toNat : Int))] := by simp [byteL, hj]
      have hs1 : sz = 1 := (hsz _ (List.mem_of_getElem? hx)).symm
      subst hs1
      have h2 := (hcells j 0 _ hx (by omega)).1
      have h3 := s_inv (hrx j 0 _ _ hx rfl)
      rw [h3] at h2
      simpa using h2
  unfold OpGoes
  have : (execOp a.eval o).run P w = .ok (.value (.string ⟨l.toArray⟩)) w := by
    simp [execOp, ho, hxe, hrun]
  rw [this]
  exact ⟨ι, hH, .s _, Ext.refl _ _ _ _, Out.refl _ _ _⟩
end
section
variable {P : Program} {T : List TI} {N : Nat} {ops : Array Oper} {draw : Bool} {acc : List (List Nat × List Nat)} {rest : List Oper} {K : St → Prop} {env : List (Nat × PV)} {H H' : List LS} {d : Nat} {ty : TypeId} {pos : String} {after : Array Edge} {gd : Option (Nat × Bool)}
theorem ev_bytesStr {s t e : TypeId} {x : Operand} {p : PV} {xs : List (List PV)} {l : List UInt8} {ti tj te : TI} (hT : TOk P T) (hg : gEval ops env gd = some true) (hd : Nat.blt d N = true) (e0 : evalO (look env) x = some p) (h1 : elemsOf p = some xs)
    (h2 : lkT T s = some ti) (h3 : ti.ok = true) (h4 : ti.k = .slice e) (h5 : lkT T e = some te) (h6 : te.ok = true) (h7 : te.k = .int .u8) (h8 : lkT T t = some tj) (h9 : tj.ok = true) (h10 : tj.k = .str) (h11 : xs = byteL l) (h : Ev P N ops draw (([], []) :: acc) rest ⟨(d, .s (.string ⟨l.toArray⟩)) :: env, H⟩ K) : Ev P N ops draw acc (⟨some d, .convert s t x, ty, pos, after, gd⟩ :: rest) ⟨env, H⟩ K :=
  ev_core (pads := 0) rfl hg hd (os_bytesStr hT rfl e0 h1 h11 h2 h3 h4 h5 h6 h7 h8 h9 h10) (fun q hq => by cases hq) (fun q hq => by cases hq) (by simp [setAll, pad]) h
end
end Go.Proofs.Pm
end

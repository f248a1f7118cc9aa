/- A part of the proof of one law: the machine on pure values and the walks of functions. -/
import Derived.Test.YtjoikahblpephaaGreatDoorPmLw9P13
import Derived.Test.YtjoikahblpephaaGreatDoorPmLw9P14
set_option linter.all false
section
set_option maxRecDepth 100000
namespace Go.Proofs.Pm
open Go Go.ChangeShapes Go.WideShapes Go.ChangeAt Go.RowKit Go.Shelf
open YtjoikahblpephaaGreatDoor
open YtjoikahblpephaaGreatDoor.Rows (uptoBulk uptoBulkAll)
abbrev Gt : Good := fun _ _ => True
abbrev Gp : Good := Prot Gt N0 []
theorem gp : ∀ b o, Gp b o := fun b o => ⟨trivial, fun i c hi => absurd hi (Nat.not_lt_zero i)⟩
def tabRen : Ren := ⟨fun x => x, fun x => if x = 119 then 177 else if x = 138 then 179 else if x = 139 then 180 else x, fun x => if x = 3 then 1 else 2⟩
theorem tabTypes : U8Types Tryz.prog tabRen := ⟨by kernel_rfl, by kernel_rfl, by kernel_rfl, by kernel_rfl⟩
theorem tabExtra : U8Extra Tryz.prog tabRen := ⟨by kernel_rfl, by kernel_rfl, by kernel_rfl, by kernel_rfl, by kernel_rfl, by kernel_rfl, by kernel_rfl⟩
abbrev laidL : List (String × DataW Unit) := [("unicode/utf8.acceptRanges", Rows.laid_unicode_utf8_acceptRanges), ("unicode/utf8.first", Rows.laid_unicode_utf8_first)]
set_option maxRecDepth 100000 in
theorem firstEq : Rows.laid_unicode_utf8_first = Lib.firstData := by kernel_rfl
set_option maxRecDepth 100000 in
theorem acceptEq : (Rows.laid_unicode_utf8_acceptRanges : DataW Unit) = Lib.acceptData := by kernel_rfl
theorem handle_none : (laidL.filter fun x => x.2.handleName?.isSome) = [] := by kernel_rfl
theorem tabs {W : World} (h : laidMetH Tryz.prog laidL W) : Lib.Utf8Tabs 1 2 W := by
  have h' : laidMet Tryz.prog laidL W := by
    unfold laidMetH at h
    rw [handle_none] at h
    exact h
  refine utf8Tabs_of_readsT tabTypes tabExtra ?_ ?_
  · have := Lib.laidMet.reads h' (n := "unicode/utf8.first") (d := Rows.laid_unicode_utf8_first) (.tail _ (.head _))
    rwa [firstEq] at this
  · have := Lib.laidMet.reads h' (n := "unicode/utf8.acceptRanges") (d := Rows.laid_unicode_utf8_acceptRanges) (.head _)
    rwa [acceptEq] at this
theorem block0 : (((begin Tryz.prog (fun _ _ => 0) default).world.heap[0]?).bind Obj.row?) = some (#[Value.int .i64 0], 3) := by kernel_rfl
theorem types3 : Tryz.prog.cellTypes Tryz.prog.depth 3 = some [3] := by kernel_rfl
theorem build3 : Tryz.prog.buildable 3 = true := by kernel_rfl
theorem globals_pos : 0 < Tryz.prog.globals.size := by decide +kernel
theorem maxLen_cell {W : World} (h : W.ShapedOpen Tryz.prog) : ∃ m : Int, W.cell? ⟨0, 0, none⟩ = some (.int .i64 m) := by
  obtain ⟨cs, h1, h2, h3⟩ := h.1 0 _ _ globals_pos block0
  obtain ⟨ts, h4, _, h5⟩ := h3 build3
  rw [types3] at h4
  cases h4
  have h2' : 0 < cs.size := by rw [h2]; exact Nat.zero_lt_one
  obtain ⟨c, hz⟩ : ∃ c, cs[0]? = some c := ⟨_, Array.getElem?_eq_getElem h2'⟩
  obtain ⟨u, h6, h7⟩ := h5 0 _ hz
  obtain rfl : u = 3 := by
    have h9 : some 3 = some u := h6
    exact (Option.some.inj h9).symm
  have h8 : W.cell? ⟨0, 0, none⟩ = some c := by
    simp [World.cell?, h1, hz]
  unfold Cell.ok at h7
  rw [u3] at h7
  cases c with
  | int k n =>
    obtain ⟨rfl, _⟩ := h7
    exact ⟨n, h8⟩
  | _ => exact h7.elim
theorem base_of {W : World} (h : W.ShapedOpen Tryz.prog) (hl : laidMetH Tryz.prog laidL W) : Base Gp W := by
  obtain ⟨h1, h2⟩ := tabs hl
  obtain ⟨m, hm⟩ := maxLen_cell h
  exact ⟨fun c hc => ⟨h1 c hc, gp _ _⟩, fun i hi => ⟨(h2 i hi).1, gp _ _⟩, fun i hi => ⟨(h2 i hi).2, gp _ _⟩, ⟨m, hm, gp _ _⟩⟩
theorem answers {f : FuncId} {pvs : List PV} {av : List Value} {W : World} (hc : FCall Tryz.prog f pvs [] (.s (.bool true)) []) (hb : Base Gp W) (hr : VReps (VRep Gp W N0 []) pvs av) :
    Calls Tryz.prog f av.toArray W fun e W' => e = .returned (.bool true) ∧ Below W.heap.size W W' := by
  refine Calls.mono (hc.2 Gt W N0 av ⟨fun i s hi => (by simp at hi), fun i j b c d hi => absurd hi (Nat.not_lt_zero i), fun i b c hi => absurd hi (Nat.not_lt_zero i), fun i b c hi => absurd hi (Nat.not_lt_zero i), hb⟩ (fun _ _ _ => trivial) hr) (fun e W' h => ?_)
  obtain ⟨v, ι', he, _, hv, _, ho⟩ := h
  cases hv
  exact ⟨he, ho.os, ho.tape, ho.output, ho.size, fun b hb => ho.block b hb (fun i c hi => absurd hi (Nat.not_lt_zero i))⟩
theorem laidOut : laidOutB Tryz.prog = true := by kernel_rfl
section
variable {H : Type} {enc : TypeId × Value → H} {W : World}
theorem slice_val {t e : TypeId} {v : Value} {b : Nat} (ht : Tryz.prog.underlying t = some (.slice e)) (h : Value.okWide Tryz.prog W .any b t v) : v.cells = #[v] ∧ ∃ A n c, v = .slice A n c := by
  unfold Value.okWide at h
  rw [ht] at h
  simp only at h
  unfold Cell.okWide at h
  rw [ht] at h
  cases v with
  | slice A n c => exact ⟨rfl, A, n, c, rfl⟩
  | _ => simp [Cell.ok, ht] at h
theorem node_val {v : Value} {b : Nat} (h : Value.okWide Tryz.prog W .any b 25 v) : ∃ cs, v = .agg cs := by
  have hu : ∃ fs, Tryz.prog.underlying 25 = some (.struct fs) := by
    obtain ⟨d, hd, hl⟩ := Option.map_eq_some_iff.1 s25
    cases d with
    | struct fs => exact ⟨fs, hd⟩
    | _ => simp at hl
  obtain ⟨fs, hu⟩ := hu
  unfold Value.okWide at h
  rw [hu] at h
  obtain ⟨cs, rfl, _⟩ := h
  exact ⟨cs, rfl⟩
theorem arg_node {v : Value} {d : DataW H} {ps : List MemPlace} {b : Nat} (hv : Value.okWide Tryz.prog W .any b 25 v) (h : DataW.Trod enc Tryz.prog W 0 (fun _ => true) true 25 v d ps) : ∃ x : Node, VRep Gp W N0 [] (.agg (nodeC x)) v ∧ x.bulk ≤ uptoBulk d := by
  obtain ⟨cs, rfl⟩ := node_val hv
  obtain ⟨fuel, hf⟩ := h
  obtain ⟨x, hc, hb⟩ := open_nodeE gp fuel _ _ hf
  refine ⟨x, .agg (by rw [hc.1]; simp [Value.cells]) (fun u hu => ?_) (fun j p u hp hu => ?_), hb⟩
  · obtain ⟨j, hj, rfl⟩ := Array.mem_iff_getElem.1 hu
    have h1 : (nodeC x)[j]? = some _ := List.getElem?_eq_getElem (by rw [hc.1]; simpa [Value.cells] using hj)
    exact (hc.2 j _ cs[j] h1 (by simp [Value.cells, hj])).2
  · exact (hc.2 j p u hp (by simpa [Value.cells] using hu)).1
theorem arg_sl {α : Type} {en : α → List PV} {bl : α → Nat} {sz : Nat} {e t : TypeId} {v : Value} {d : DataW H} {ps : List MemPlace} {b : Nat} (ht : Tryz.prog.underlying t = some (.slice e)) (hs : Tryz.prog.cellsOf e = sz) (hl : ∀ a, (en a).length = sz)
    (ho : ∀ (n : Nat) (cs : List Value) (y : DataW H × List MemPlace), DataW.trod enc Tryz.prog W 0 (fun _ => true) true n e cs = some y → ∃ a, CR Gp W (en a) cs ∧ bl a ≤ uptoBulk y.1)
    (hv : Value.okWide Tryz.prog W .any b t v) (h : DataW.Trod enc Tryz.prog W 0 (fun _ => true) true t v d ps) :
    ∃ zs : List α, VRep Gp W N0 [] (.list (zs.map en)) v ∧ (zs.map bl).sum + 1 ≤ uptoBulk d := by
  obtain ⟨hc, A, n, c, rfl⟩ := slice_val ht hv
  obtain ⟨fuel, hf⟩ := h
  obtain ⟨zs, v', h1, h2, _, h4⟩ := open_sl gp (en := en) (bl := bl) ht hs hl (fun n cs y _ hy => ho n cs y hy) hf
  rw [hc] at h1
  simp only [List.cons.injEq, and_true] at h1
  subst h1
  exact ⟨zs, h2 _ _, h4⟩
theorem arg_strs {v : Value} {d : DataW H} {ps : List MemPlace} {b : Nat} (hv : Value.okWide Tryz.prog W .any b 26 v) (h : DataW.Trod enc Tryz.prog W 0 (fun _ => true) true 26 v d ps) :
    ∃ zs : List ByteArray, VRep Gp W N0 [] (.list (strL zs)) v ∧ (zs.map fun s => 1 + s.size).sum + 1 ≤ uptoBulk d :=
  arg_sl (en := fun s : ByteArray => [.s (.string s)]) (bl := fun s : ByteArray => 1 + s.size) u26 c9 (fun _ => rfl) (fun n cs y hy => open_strE n cs y hy) hv h
theorem arg_u8s {v : Value} {d : DataW H} {ps : List MemPlace} {b : Nat} (hv : Value.okWide Tryz.prog W .any b 55 v) (h : DataW.Trod enc Tryz.prog W 0 (fun _ => true) true 55 v d ps) :
    ∃ zs : List {k : Int // 0 ≤ k ∧ k ≤ 255}, VRep Gp W N0 [] (.list (zs.map fun k => [.s (.int .u8 k.1)])) v ∧ (zs.map fun _ => 1).sum + 1 ≤ uptoBulk d :=
  arg_sl (en := fun k : {k : Int // 0 ≤ k ∧ k ≤ 255} => [.s (.int .u8 k.1)]) (bl := fun _ => 1) u55 c5 (fun _ => rfl) (fun n cs y hy => open_u8E n cs y hy) hv h
end
section
variable {P : Program} {H : Type} {enc : TypeId × Value → H} {W : World}
theorem stays (hl : laidOutB P = true) {t : TypeId} (hr : P.readableRec t = true) (hrow : t < P.types.size) {W' : World} {v : Value} {d : DataW H} {ps : List MemPlace}
    (h : DataW.Trod enc P W 0 (fun _ => true) true t v d ps) (hb : Below W.heap.size W W') (hlt : ∀ x ∈ ps, x.block < W.heap.size) :
    DataW.Trod enc P W' 0 (fun b => decide (b < W.heap.size)) true t v d ps := Below.trod hl hr hrow h hb hlt
theorem rd {t : TypeId} (h : (P.readableRec t && decide (t < P.types.size)) = true) : P.readableRec t = true ∧ t < P.types.size := by simpa using h
theorem stays_all (hl : laidOutB P = true) {W' : World} (hb : Below W.heap.size W W') : ∀ {ts : List TypeId} {vs : List Value} {ds : List (DataW H)} {ps : List MemPlace}, (ts.all fun t => P.readableRec t && decide (t < P.types.size)) = true →
    DataW.TrodAll enc P W 0 (fun _ => true) true ts vs ds ps → (∀ x ∈ ps, x.block < W.heap.size) → DataW.TrodAll enc P W' 0 (fun b => decide (b < W.heap.size)) true ts vs ds ps
  | [], [], [], _, _, h, _ => h
  | [], _ :: _, _, _, _, h, _ => h.elim
  | [], [], _ :: _, _, _, h, _ => h.elim
  | _ :: _, [], _, _, _, h, _ => h.elim
  | _ :: _, _ :: _, [], _, _, h, _ => h.elim
  | t :: ts, v :: vs, d :: ds, ps, ht, h, hlt => by
    obtain ⟨p, q, h1, h2, rfl⟩ := h
    simp only [List.all_cons, Bool.and_eq_true] at ht
    obtain ⟨a, b⟩ := rd (t := t) (by simpa using ht.1)
    exact ⟨p, q, stays hl a b h1 hb (fun x hx => hlt x (List.mem_append_left _ hx)), stays_all hl hb (by simpa using ht.2) h2 (fun x hx => hlt x (List.mem_append_right _ hx)), rfl⟩
theorem post_true (hl : laidOutB P = true) (hu4 : P.underlying 4 = some .bool) {fn : Func} {s : ChangeSpec} {args : Array Value} {ds gs : List (DataW H)} {before : List MemPlace} {W' : World} (hvars : s.vars = []) (hres : fn.resultTypes = #[4])
    (ht : (fn.params.toList.all fun t => P.readableRec t && decide (t < P.types.size)) = true) (hs : s.fn H (ds ++ gs) = { results := [.lit (.bool true)], args := ds })
    (hW : DataW.Whole enc P fn.params.toList s.vars false W args.toList ds gs before) (hb : Below W.heap.size W W') :
    s.post enc P fn false true false false W args (.bool true) W' := by
  have hW' := hW
  obtain ⟨p, q, hA, hV, rfl, _, _⟩ := hW
  have hlt : ∀ x ∈ p ++ q, x.block < W.heap.size := fun x hx => by simpa using hW'.lt x hx
  rw [hvars] at hV
  obtain ⟨rfl, rfl⟩ := trodVars_none hV
  refine ⟨ds, [], _, [], p, [], hW', ?_, ?_, ?_, hb.frame _, fun h => by cases h⟩
  · rw [hs, hres]
    exact trodAll_mk1 (shut_bool hu4 _)
  · rw [hs]
    exact stays_all hl hb ht hA (fun x hx => hlt x (List.mem_append_left _ hx))
  · rw [hs, hvars]
    exact rfl
end
noncomputable def laidWorld (os : Os) : World :=
  let w0 := World.holding Tryz.prog os ⟨#[], #[], []⟩
  let put (h : Array Obj) (g : Nat) (cs : Array Value) : Array Obj := h.modify g fun
    | .cells _ t frozen => .cells cs t frozen
    | o => o
  let h1 := put w0.heap 1 (Lib.firstTab.map fun z => Value.int .u8 z).toArray
  let h2 := put h1 2 ((List.range 16).flatMap fun i => [Value.int .u8 (Lib.accLo i), Value.int .u8 (Lib.accHi i)]).toArray
  { w0 with heap := h2 }
theorem laid_met (os : Os) (args : Array Value) : laidMet Tryz.prog laidL ((laidWorld os).forCall (fun _ _ => 0) ⟨#[], args, []⟩).memory :=
  (LaidIn.of_run (l := laidL) [2, 1] 8 (by kernel_rfl) (by kernel_rfl) (by kernel_rfl) (by kernel_rfl)).met
theorem own : ownKnob Tryz.prog.godebug = none := by kernel_rfl
end Go.Proofs.Pm
end

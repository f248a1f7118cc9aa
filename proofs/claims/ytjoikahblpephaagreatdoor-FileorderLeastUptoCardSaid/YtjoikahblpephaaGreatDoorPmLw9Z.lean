/- PROVED: FileorderLeast answers true for every input and leaves its arguments as they were, where what it reads is of bulk at most 1048576. CONDITIONS: the two tables of unicode/utf8 are as the text of the library lays them (the card ties them). -/
import Derived.Test.YtjoikahblpephaaGreatDoorPmLw9P15
import Derived.Test.YtjoikahblpephaaGreatDoorPmLw9P32
import Derived.Test.YtjoikahblpephaaGreatDoorCards
import Derived.Test.YtjoikahblpephaaGreatDoorTie
import Derived.JoinedCond
set_option linter.all false
set_option maxRecDepth 100000
namespace Go.Proofs.YtjoikahblpephaaGreatDoor.fileorderLeast
open Go Go.ChangeShapes Go.WideShapes Go.ChangeAt Go.RowKit Go.Proofs.Pm
theorem pars : Tryz.f9.params.toList = [25, 26, 55] := by kernel_rfl
theorem parsA : Tryz.f9.params = #[25, 26, 55] := by kernel_rfl
theorem ress : Tryz.f9.resultTypes = #[4] := by kernel_rfl
theorem rds : (Tryz.f9.params.toList.all fun t => Tryz.prog.readableRec t && decide (t < Tryz.prog.types.size)) = true := by kernel_rfl
theorem contract (H : Type) (enc : TypeId × Value → H) (W : World) (base : Nat) (args : Array Value) (ds gs : List (DataW H)) (before : List MemPlace)
    (hval : ∀ (j : Nat) t v, Tryz.f9.params[j]? = some t → args[j]? = some v → Value.okWide Tryz.prog W .any base t v)
    (hW : DataW.Whole enc Tryz.prog Tryz.f9.params.toList Rows.fileorderLeastSpec.vars false W args.toList ds gs before) (hk : Rows.uptoSmall H (ds ++ gs) = true) (hL : laidMetH Tryz.prog laidL W) (hS : W.ShapedOpen Tryz.prog) :
    Calls Tryz.prog 9 args W fun e W' => ∃ v, e = .returned v ∧ Rows.fileorderLeastSpec.post enc Tryz.prog Tryz.f9 false true false false W args v W' := by
  have hW' := hW
  obtain ⟨p, q, hA, hV, rfl, _, _⟩ := hW
  rw [pars] at hA
  rw [parsA] at hval
  obtain ⟨v0, vs0, d0, ds0, p0, q0, e0, rfl, rfl, h0, hA⟩ := trodAll_cons hA
  obtain ⟨v1, vs1, d1, ds1, p1, q1, e1, rfl, rfl, h1, hA⟩ := trodAll_cons hA
  obtain ⟨v2, vs2, d2, ds2, p2, q2, e2, rfl, rfl, h2, hA⟩ := trodAll_cons hA
  obtain ⟨e3, rfl, rfl⟩ := trodAll_nil hA
  subst e3 e2 e1
  obtain rfl : args = #[v0, v1, v2] := by cases args; simp_all
  obtain ⟨x0, r0, b0⟩ := arg_node (hval 0 25 v0 rfl rfl) h0
  obtain ⟨x1, r1, b1⟩ := arg_strs (hval 1 26 v1 rfl rfl) h1
  obtain ⟨x2, r2, b2⟩ := arg_u8s (hval 2 55 v2 rfl rfl) h2
  have hk' := (of_decide_eq_true hk : Rows.uptoBulkAll _ ≤ 1048576)
  rw [show (Rows.fileorderLeastSpec.vars) = [] from rfl] at hV
  obtain ⟨rfl, rfl⟩ := trodVars_none hV
  simp only [List.append_nil, List.cons_append, List.nil_append, Rows.uptoBulkAll, Rows.uptoBulk] at hk'
  refine Calls.mono (answers (av := [v0, v1, v2]) (lawLeast x0 x1 x2 (by omega)) (base_of hS hL) (.cons r0 (.cons r1 (.cons r2 .nil)))) (fun e W' h => ?_)
  obtain ⟨rfl, hb⟩ := h
  exact ⟨_, rfl, post_true laidOut u4 rfl ress rds rfl hW' hb⟩
set_option maxHeartbeats 2000000 in
theorem lifted (os : Os) (started : os.Started) (H : Type) (enc : TypeId × Value → H) (F : Stop.Interp) :
    ReturnsInHanded {} Tryz.checked os 9 .any ((Rows.OpenSpec.upto Rows.fileorderLeastSpec).preRow enc Tryz.prog Tryz.f9 Rows.fileorderLeastUptoRow.domain false Rows.fileorderLeastUptoRow.laid) (((Rows.OpenSpec.upto Rows.fileorderLeastSpec).at F).post enc Tryz.prog Tryz.f9 false true false false) := by
  have hw : (DataW.whole enc Tryz.prog ((laidWorld os).forCall (fun _ _ => 0) ⟨#[], #[.agg #[.string .empty, .int .i64 0, .string .empty, .string .empty, .int .i64 0, .int .i64 0, .int .i64 0, .int .i64 0, .int .i64 0, .int .i64 0, .slice none 0 0, .slice none 0 0], .slice none 0 0, .slice none 0 0], []⟩).memory Tryz.f9.params.toList Rows.fileorderLeastSpec.vars false (#[.agg #[.string .empty, .int .i64 0, .string .empty, .string .empty, .int .i64 0, .int .i64 0, .int .i64 0, .int .i64 0, .int .i64 0, .int .i64 0, .slice none 0 0, .slice none 0 0], .slice none 0 0, .slice none 0 0] : Array Value).toList 8).map (fun x => (x.1, x.2.1)) =
      some ([.agg [.lit (.string []), .lit (.int .i64 0), .lit (.string []), .lit (.string []), .lit (.int .i64 0), .lit (.int .i64 0), .lit (.int .i64 0), .lit (.int .i64 0), .lit (.int .i64 0), .lit (.int .i64 0), .nil, .nil], .nil, .nil], []) := by kernel_rfl
  obtain ⟨⟨x1, x2, x3⟩, hx, hx1⟩ := Option.map_eq_some_iff.1 hw
  simp only [Prod.mk.injEq] at hx1
  obtain ⟨rfl, rfl⟩ := hx1
  refine returnsInHanded_of_row (C := Tryz.checked) (s := Rows.OpenSpec.upto Rows.fileorderLeastSpec) own started (by kernel_rfl) Tryz.func9
    (witness_row_atRef (enc := enc) (C := Tryz.checked) false (laidWorld os) #[.agg #[.string .empty, .int .i64 0, .string .empty, .string .empty, .int .i64 0, .int .i64 0, .int .i64 0, .int .i64 0, .int .i64 0, .int .i64 0, .slice none 0 0, .slice none 0 0], .slice none 0 0, .slice none 0 0] rfl (by kernel_rfl) (by kernel_rfl) (by kernel_rfl)
      (OpenSpec.preRow_of_cond 8 hx (by kernel_rfl) (fun k hk => by cases hk; kernel_rfl) (by kernel_rfl) (laid_met os _))) ?_
  intro W base args ds gs before hval hW _ hcond _ hL hS _
  exact contract H enc W base args ds gs before hval hW (hcond _ rfl) hL hS
theorem said : Rows.FileorderLeastUptoSaid :=
  OpenClaim.holds_of_cond 9 Tryz.f9 rfl rfl rfl rfl rfl rfl rfl ⟨rfl, rfl, rfl, rfl, rfl⟩ rfl rfl rfl rfl rfl (by kernel_rfl) Tryz.func9 (by kernel_rfl)
    (of_decide_eq_true (by kernel_rfl)) (by unfold Func.isWrapper; first | (rw [if_pos (by decide +kernel)]; kernel_rfl) | (rw [if_neg (by decide +kernel)]; exact ⟨rfl, rfl⟩))
    (fun os started H enc _ F => by rw [OpenClaim.pre_eq_preRow]; exact lifted os started H enc F)
theorem plain (f : FuncId) (fn : Func) (hf : Tryz.pinned.checked.prog.funcNamed "masterdisc/masterdisclaw47.FileorderLeast" = some f) (hfn : Tryz.pinned.checked.prog.funcs[f]? = some fn) :
    false = Tryz.pinned.checked.prog.looks [] ∧ ∀ (j : Nat) t, fn.params[j]? = some t → Tryz.pinned.checked.prog.wantsStandIn t = false := by
  obtain rfl : f = 9 := Option.some.inj ((show Tryz.prog.funcNamed "masterdisc/masterdisclaw47.FileorderLeast" = some 9 by kernel_rfl).symm.trans hf) |>.symm
  obtain rfl : fn = Tryz.f9 := (Option.some.inj (Tryz.func9.symm.trans hfn)).symm
  refine ⟨by kernel_rfl, fun j t ht => ?_⟩
  rw [parsA] at ht
  have hm := Array.mem_of_getElem? ht
  simp only [List.mem_toArray, List.mem_cons, List.not_mem_nil, or_false] at hm
  rcases hm with rfl | rfl | rfl
  · exact (show Tryz.prog.wantsStandIn 25 = false by kernel_rfl)
  · exact (show Tryz.prog.wantsStandIn 26 = false by kernel_rfl)
  · exact (show Tryz.prog.wantsStandIn 55 = false by kernel_rfl)
end Go.Proofs.YtjoikahblpephaaGreatDoor.fileorderLeast
namespace Go.Proofs.YtjoikahblpephaaGreatDoor
open Go
theorem fileorderLeast_holds : Rows.FileorderLeastUptoCardSaid :=
  Claim7.holds_tied_plain_at .later [] _ _ _ _ fileorderLeast.said (fun _ h => by cases h) (by kernel_rfl) (fun _ h => by cases h) fileorderLeastUpto_row_tie rfl ⟨rfl, rfl⟩ (by kernel_rfl) rfl fileorderLeast.plain (by kernel_rfl)
end Go.Proofs.YtjoikahblpephaaGreatDoor

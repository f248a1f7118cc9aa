/- PROVED: FileorderCosts answers true for every input and leaves its arguments as they were. CONDITIONS: the two tables of unicode/utf8 are as the text of the library lays them (the card ties them). -/
import Derived.Test.YtjoikahblpephaaGreatDoorPmLw5P15
import Derived.Test.YtjoikahblpephaaGreatDoorPmLw5P24
import Derived.Test.YtjoikahblpephaaGreatDoorCards
import Derived.Test.YtjoikahblpephaaGreatDoorTie
import Derived.JoinedCond
set_option linter.all false
set_option maxRecDepth 100000
namespace Go.Proofs.YtjoikahblpephaaGreatDoor.fileorderCosts
open Go Go.ChangeShapes Go.WideShapes Go.ChangeAt Go.RowKit Go.Proofs.Pm
theorem pars : Tryz.f5.params.toList = [37, 26] := by kernel_rfl
theorem parsA : Tryz.f5.params = #[37, 26] := by kernel_rfl
theorem ress : Tryz.f5.resultTypes = #[4] := by kernel_rfl
theorem rds : (Tryz.f5.params.toList.all fun t => Tryz.prog.readableRec t && decide (t < Tryz.prog.types.size)) = true := by kernel_rfl
theorem contract (H : Type) (enc : TypeId × Value → H) (W : World) (base : Nat) (args : Array Value) (ds gs : List (DataW H)) (before : List MemPlace)
    (hval : ∀ (j : Nat) t v, Tryz.f5.params[j]? = some t → args[j]? = some v → Value.okWide Tryz.prog W .any base t v)
    (hW : DataW.Whole enc Tryz.prog Tryz.f5.params.toList Rows.fileorderCostsSpec.vars false W args.toList ds gs before) (hL : laidMetH Tryz.prog laidL W) (hS : W.ShapedOpen Tryz.prog) :
    Calls Tryz.prog 5 args W fun e W' => ∃ v, e = .returned v ∧ Rows.fileorderCostsSpec.post enc Tryz.prog Tryz.f5 false true false false W args v W' := by
  have hW' := hW
  obtain ⟨p, q, hA, hV, rfl, _, _⟩ := hW
  rw [pars] at hA
  rw [parsA] at hval
  obtain ⟨v0, vs0, d0, ds0, p0, q0, e0, rfl, rfl, h0, hA⟩ := trodAll_cons hA
  obtain ⟨v1, vs1, d1, ds1, p1, q1, e1, rfl, rfl, h1, hA⟩ := trodAll_cons hA
  obtain ⟨e2, rfl, rfl⟩ := trodAll_nil hA
  subst e2 e1
  obtain rfl : args = #[v0, v1] := by cases args; simp_all
  obtain ⟨x0, r0, b0⟩ := arg_files (hval 0 37 v0 rfl rfl) h0
  obtain ⟨x1, r1, b1⟩ := arg_strs (hval 1 26 v1 rfl rfl) h1
  rw [show (Rows.fileorderCostsSpec.vars) = [] from rfl] at hV
  obtain ⟨rfl, rfl⟩ := trodVars_none hV
  refine Calls.mono (answers (av := [v0, v1]) (lawCosts x0 x1) (base_of hS hL) (.cons r0 (.cons r1 .nil))) (fun e W' h => ?_)
  obtain ⟨rfl, hb⟩ := h
  exact ⟨_, rfl, post_true laidOut u4 rfl ress rds rfl hW' hb⟩
set_option maxHeartbeats 2000000 in
theorem lifted (os : Os) (started : os.Started) (H : Type) (enc : TypeId × Value → H) (F : Stop.Interp) :
    ReturnsInHanded {} Tryz.checked os 5 .any ((OpenSpec.ofChange Rows.fileorderCostsSpec).preRow enc Tryz.prog Tryz.f5 Rows.fileorderCostsRow.domain false Rows.fileorderCostsRow.laid) (((OpenSpec.ofChange Rows.fileorderCostsSpec).at F).post enc Tryz.prog Tryz.f5 false true false false) := by
  have hw : (DataW.whole enc Tryz.prog ((laidWorld os).forCall (fun _ _ => 0) ⟨#[], #[.slice none 0 0, .slice none 0 0], []⟩).memory Tryz.f5.params.toList Rows.fileorderCostsSpec.vars false (#[.slice none 0 0, .slice none 0 0] : Array Value).toList 8).map (fun x => (x.1, x.2.1)) =
      some ([.nil, .nil], []) := by kernel_rfl
  obtain ⟨⟨x1, x2, x3⟩, hx, hx1⟩ := Option.map_eq_some_iff.1 hw
  simp only [Prod.mk.injEq] at hx1
  obtain ⟨rfl, rfl⟩ := hx1
  refine returnsInHanded_of_row (C := Tryz.checked) (s := OpenSpec.ofChange Rows.fileorderCostsSpec) own started (by kernel_rfl) Tryz.func5
    (witness_row_atRef (enc := enc) (C := Tryz.checked) false (laidWorld os) #[.slice none 0 0, .slice none 0 0] rfl (by kernel_rfl) (by kernel_rfl) (by kernel_rfl)
      (OpenSpec.preRow_of_cond 8 hx (by kernel_rfl) (fun k hk => by cases hk) (by kernel_rfl) (laid_met os _))) ?_
  intro W base args ds gs before hval hW _ hcond _ hL hS _
  exact contract H enc W base args ds gs before hval hW hL hS
theorem said : Rows.FileorderCostsSaid :=
  OpenClaim.holds_of_cond 5 Tryz.f5 rfl rfl rfl rfl rfl rfl rfl ⟨rfl, rfl, rfl, rfl, rfl⟩ rfl rfl rfl rfl rfl (by kernel_rfl) Tryz.func5 (by kernel_rfl)
    (of_decide_eq_true (by kernel_rfl)) (by unfold Func.isWrapper; first | (rw [if_pos (by decide +kernel)]; kernel_rfl) | (rw [if_neg (by decide +kernel)]; exact ⟨rfl, rfl⟩))
    (fun os started H enc _ F => by rw [OpenClaim.pre_eq_preRow]; exact lifted os started H enc F)
theorem plain (f : FuncId) (fn : Func) (hf : Tryz.pinned.checked.prog.funcNamed "masterdisc/masterdisclaw47.FileorderCosts" = some f) (hfn : Tryz.pinned.checked.prog.funcs[f]? = some fn) :
    false = Tryz.pinned.checked.prog.looks [] ∧ ∀ (j : Nat) t, fn.params[j]? = some t → Tryz.pinned.checked.prog.wantsStandIn t = false := by
  obtain rfl : f = 5 := Option.some.inj ((show Tryz.prog.funcNamed "masterdisc/masterdisclaw47.FileorderCosts" = some 5 by kernel_rfl).symm.trans hf) |>.symm
  obtain rfl : fn = Tryz.f5 := (Option.some.inj (Tryz.func5.symm.trans hfn)).symm
  refine ⟨by kernel_rfl, fun j t ht => ?_⟩
  rw [parsA] at ht
  have hm := Array.mem_of_getElem? ht
  simp only [List.mem_toArray, List.mem_cons, List.not_mem_nil, or_false] at hm
  rcases hm with rfl | rfl
  · exact (show Tryz.prog.wantsStandIn 37 = false by kernel_rfl)
  · exact (show Tryz.prog.wantsStandIn 26 = false by kernel_rfl)
end Go.Proofs.YtjoikahblpephaaGreatDoor.fileorderCosts
namespace Go.Proofs.YtjoikahblpephaaGreatDoor
open Go
theorem fileorderCosts_holds : Rows.FileorderCostsCardSaid :=
  Claim7.holds_tied_plain_at .later [] _ _ _ _ fileorderCosts.said (fun _ h => by cases h) (by kernel_rfl) (fun _ h => by cases h) fileorderCosts_row_tie rfl ⟨rfl, rfl⟩ (by kernel_rfl) rfl fileorderCosts.plain (by kernel_rfl)
end Go.Proofs.YtjoikahblpephaaGreatDoor

/- ClearingErrors: for every group that is short enough for a law and that the document's check refuses, Solve and Least return the check's error and no money; and the examples of the chapter hold. Conditions: none but the row's own: the two tables of unicode/utf8 hold what the program's text lays. -/
import Derived.Test.YtdaiaafehfbdfaaGreatDoorCards
import Derived.Test.YtdaiaafehfbdfaaGreatDoorTie
import Derived.Test.YtdaiaafehfbdfaaGreatDoorA11
set_option maxRecDepth 4000
set_option linter.unusedVariables false
set_option linter.unusedSimpArgs false
set_option linter.unnecessarySimpa false
set_option linter.unusedSectionVars false
/-! ClearingErrors: for every group that is short enough for a law and that the document's check refuses, Solve and Least return the check's error and no money; and the examples of the chapter hold. Conditions: none but the row's own: the two tables of unicode/utf8 hold what the program's text lays. -/
namespace Go.Proofs.YtdaiaafehfbdfaaGreatDoor.errs
open Go Go.ChangeShapes Go.WideShapes Go.ChangeAt Go.RowKit Go.Proofs.Vm

theorem plain (f : FuncId) (fn : Func) (hf : Tryz.pinned.checked.prog.funcNamed "insolvency/insolvencylaw19.ClearingErrors" = some f) (hfn : Tryz.pinned.checked.prog.funcs[f]? = some fn) :
    false = Tryz.pinned.checked.prog.looks [] ∧ ∀ (j : Nat) t, fn.params[j]? = some t → Tryz.pinned.checked.prog.wantsStandIn t = false := by
  obtain rfl : f = 5 := Option.some.inj ((show Tryz.prog.funcNamed "insolvency/insolvencylaw19.ClearingErrors" = some 5 by kernel_rfl).symm.trans hf) |>.symm
  obtain rfl : fn = Tryz.f5 := (Option.some.inj (Tryz.func5.symm.trans hfn)).symm
  refine ⟨by kernel_rfl, fun j t ht => ?_⟩
  have hpar : Tryz.f5.params = #[ty_api_Group] := by kernel_rfl
  rw [hpar] at ht
  obtain rfl : t = ty_api_Group := by simpa using Array.mem_of_getElem? ht
  exact (show Tryz.prog.wantsStandIn ty_api_Group = false by kernel_rfl)
end Go.Proofs.YtdaiaafehfbdfaaGreatDoor.errs
namespace Go.Proofs.YtdaiaafehfbdfaaGreatDoor
open Go
theorem errors_card : Rows.ClearingErrorsCardSaid :=
  Claim7.holds_tied_plain_at .later [] _ _ _ _ errs.said (fun _ h => by cases h) (by kernel_rfl) (fun _ h => by cases h) clearingErrors_row_tie rfl ⟨rfl, rfl⟩ (by kernel_rfl) rfl errs.plain (by kernel_rfl)
end Go.Proofs.YtdaiaafehfbdfaaGreatDoor
#print axioms Go.Proofs.YtdaiaafehfbdfaaGreatDoor.errors_card

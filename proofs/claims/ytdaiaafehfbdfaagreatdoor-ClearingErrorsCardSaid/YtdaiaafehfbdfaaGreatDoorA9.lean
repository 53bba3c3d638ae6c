/- A world for the witness. -/
import Derived.Test.YtdaiaafehfbdfaaGreatDoorRows
import Derived.WalkKit
import Derived.ProofKit
import Derived.Deep.DeepHandedRow
import Derived.Lib.LaidTab
import Derived.KernelRfl
import Derived.Test.YtdaiaafehfbdfaaGreatDoorA8
set_option maxRecDepth 4000
set_option linter.unusedVariables false
set_option linter.unusedSimpArgs false
set_option linter.unnecessarySimpa false
set_option linter.unusedSectionVars false
/-! A world for the witness. -/
namespace Go.Proofs.YtdaiaafehfbdfaaGreatDoor.errs
open Go
/-- A block that holds these numbers. -/
def lay (l : List Int) : Obj → Obj
  | .cells _ t frozen => .cells (l.map fun n => Value.int .u8 n).toArray t frozen
  | o => o
def ranges : List Int := [128, 191, 160, 191, 128, 159, 144, 191, 128, 143, 0, 0, 0, 0, 0, 0, 0, 0, 0, 0, 0, 0, 0, 0, 0, 0, 0, 0, 0, 0, 0, 0]
def first : List Int := Go.Pinned.utf8FirstZ.map fun (n : Nat) => (n : Int)
/-- A world for the witness: the two tables of unicode/utf8 hold what their text lays. -/
noncomputable def laidWorld (os : Os) : World := { World.holding Tryz.prog os ⟨#[], #[], []⟩ with heap := ((World.holding Tryz.prog os ⟨#[], #[], []⟩).heap.modify 1 (lay first)).modify 2 (lay ranges) }
noncomputable abbrev arg0 : Value := .agg #[.slice none 0 0, .slice none 0 0]
theorem laid_met (os : Os) : laidMet Tryz.prog Rows.clearingErrorsRow.laid ((laidWorld os).forCall (fun _ _ => 0) ⟨#[], #[arg0], []⟩).memory :=
  laidMet_of_run' 8 (by kernel_rfl) (by kernel_rfl)
theorem reads (os : Os) {H : Type} (enc : TypeId × Value → H) : ∃ places, DataW.whole enc Tryz.prog ((laidWorld os).forCall (fun _ _ => 0) ⟨#[], #[arg0], []⟩).memory Tryz.f5.params.toList Rows.clearingErrorsSpec.vars false #[arg0].toList 8 = some ([.agg [.nil, .nil]], [], places) :=
  ⟨[], by kernel_rfl⟩
theorem w1 (os : Os) : ((laidWorld os).forCall (fun _ _ => 0) ⟨#[], #[arg0], []⟩).variablesB Tryz.prog = true := by kernel_rfl
end Go.Proofs.YtdaiaafehfbdfaaGreatDoor.errs

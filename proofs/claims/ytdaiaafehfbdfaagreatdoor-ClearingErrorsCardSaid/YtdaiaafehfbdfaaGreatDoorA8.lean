/- What the proof asks of the program as a whole; a world for the witness. -/
import Derived.Test.YtdaiaafehfbdfaaGreatDoorRows
import Derived.WalkKit
import Derived.ProofKit
import Derived.WideKeyArgs
import Derived.Deep.DeepHandedRow
import Derived.Lib.LaidTab
import Derived.KernelRfl
import Derived.Test.YtdaiaafehfbdfaaGreatDoorA7
set_option maxRecDepth 4000
set_option linter.unusedVariables false
set_option linter.unusedSimpArgs false
set_option linter.unnecessarySimpa false
set_option linter.unusedSectionVars false
/-! What the proof asks of the program as a whole; a world for the witness. -/
namespace Go.Proofs.YtdaiaafehfbdfaaGreatDoor.facts
open Go
theorem own : ownKnob Tryz.prog.godebug = none := by kernel_rfl
theorem laidOut : laidOutB Tryz.prog = true := by kernel_rfl
end Go.Proofs.YtdaiaafehfbdfaaGreatDoor.facts

/- The closed statement EngineNames answers true: the constants of layer 19 are the numbers of the document. No condition. -/
import Derived.Test.YtfhpgikgjheobaaPEngineNamesx1
namespace Go.Proofs.Ytfhpgikgjheobaa.Pure
open Go.RowKit Go.Proofs.Ytfhpgikgjheobaa.PEngineNames Go.Proofs.YtfhpgikgjheobaaW.PrintWords Go.Proofs.YtfhpgikgjheobaaW.PrintLast

/-- YOURS: eddylaw19_EngineNames.f  = some true
What it reaches (each with k first where it has rounds; `.mono`: more rounds tell the same; `.l0`, ..: its loops, with `.mono_l`): eddylaw19_EngineNames.f -/
theorem EngineNames : eddylaw19_EngineNames.Pure := by
  rfl

end Go.Proofs.Ytfhpgikgjheobaa.Pure

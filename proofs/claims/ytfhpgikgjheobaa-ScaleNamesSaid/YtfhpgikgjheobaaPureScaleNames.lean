/- The closed statement ScaleNames answers true: the constants of layer 20 are the numbers of the document. No condition. -/
import Derived.Test.YtfhpgikgjheobaaPScaleNamesx1
namespace Go.Proofs.Ytfhpgikgjheobaa.Pure
open Go.RowKit Go.Proofs.Ytfhpgikgjheobaa.PScaleNames Go.Proofs.YtfhpgikgjheobaaW.PrintWords Go.Proofs.YtfhpgikgjheobaaW.PrintLast

/-- YOURS: eddylaw20_ScaleNames.f  = some true
What it reaches (each with k first where it has rounds; `.mono`: more rounds tell the same; `.l0`, ..: its loops, with `.mono_l`): eddylaw20_ScaleNames.f -/
theorem ScaleNames : eddylaw20_ScaleNames.Pure := by
  rfl

end Go.Proofs.Ytfhpgikgjheobaa.Pure

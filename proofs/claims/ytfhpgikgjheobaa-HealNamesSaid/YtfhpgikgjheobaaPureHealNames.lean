/- The closed statement HealNames answers true: the constants of layer 17 are the numbers of the document. No condition. -/
import Derived.Test.YtfhpgikgjheobaaPHealNamesx1
namespace Go.Proofs.Ytfhpgikgjheobaa.Pure
open Go.RowKit Go.Proofs.Ytfhpgikgjheobaa.PHealNames Go.Proofs.YtfhpgikgjheobaaW.PrintWords Go.Proofs.YtfhpgikgjheobaaW.PrintLast

/-- YOURS: eddylaw17_HealNames.f  = some true
What it reaches (each with k first where it has rounds; `.mono`: more rounds tell the same; `.l0`, ..: its loops, with `.mono_l`): eddylaw17_HealNames.f -/
theorem HealNames : eddylaw17_HealNames.Pure := by
  rfl

end Go.Proofs.Ytfhpgikgjheobaa.Pure

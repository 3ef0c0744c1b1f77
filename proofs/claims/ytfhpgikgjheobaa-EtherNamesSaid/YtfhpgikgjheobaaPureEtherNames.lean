/- The closed statement EtherNames answers true: the constants of layer 22 are the numbers of the document. No condition. -/
import Derived.Test.YtfhpgikgjheobaaPEtherNamesx1
namespace Go.Proofs.Ytfhpgikgjheobaa.Pure
open Go.RowKit Go.Proofs.Ytfhpgikgjheobaa.PEtherNames Go.Proofs.YtfhpgikgjheobaaW.PrintWords Go.Proofs.YtfhpgikgjheobaaW.PrintLast

/-- YOURS: eddylaw22_EtherNames.f  = some true
What it reaches (each with k first where it has rounds; `.mono`: more rounds tell the same; `.l0`, ..: its loops, with `.mono_l`): eddylaw22_EtherNames.f -/
theorem EtherNames : eddylaw22_EtherNames.Pure := by
  rfl

end Go.Proofs.Ytfhpgikgjheobaa.Pure

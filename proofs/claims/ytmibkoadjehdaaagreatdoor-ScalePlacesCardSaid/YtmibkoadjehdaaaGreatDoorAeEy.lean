/- works() of the scale's statements holds: worked out by the kernel. No condition. -/
import Derived.Test.YtmibkoadjehdaaaGreatDoorAeEx
namespace Go.Ae
open Go.Proofs
theorem works_run : runB 13 40 = true := by kernel_rfl
theorem works_calls {H : AHeap} (hg : ∀ p ∈ globs, H.get p.1 = some (.row p.2)) : ACalls Tryz.prog 13 #[] H fun v H' => v = .bool true ∧ H' = H := closed_calls works_run hg
end Go.Ae

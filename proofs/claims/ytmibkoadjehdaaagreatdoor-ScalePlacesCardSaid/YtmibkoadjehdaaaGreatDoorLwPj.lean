/- ScalePlaces: the closed cells of its row. No condition. -/
import Derived.Test.YtmibkoadjehdaaaGreatDoorRows
import Derived.JoinedOf
import Derived.KernelRfl
namespace Go.Proofs.YtmibkoadjehdaaaGreatDoor.scalePlaces
set_option maxRecDepth 100000
theorem j1 : (Rows.scalePlacesRow.inPlace == Tryz.pinned.checked.prog.inPlace 3) = true := by kernel_rfl
theorem j2 : (Rows.scalePlacesRow.unfollowed == Tryz.pinned.checked.prog.unfollowed 3) = true := by kernel_rfl
theorem j3 : (Rows.scalePlacesRow.recurses == Tryz.pinned.checked.prog.recurses 3) = true := by kernel_rfl
theorem j4 : (Rows.scalePlacesRow.named == Tryz.pinned.checked.prog.varsNamed 3) = true := by kernel_rfl
theorem joined : joinedFacts Tryz.pinned.checked.prog 3 Tryz.f3 Rows.scalePlacesSpec Rows.scalePlacesRow = true := by
  unfold joinedFacts
  rw [j1, j2, j3, j4]
  kernel_rfl
end Go.Proofs.YtmibkoadjehdaaaGreatDoor.scalePlaces

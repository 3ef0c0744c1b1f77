/- ScalePlaces: a world that meets the statement's condition. No condition. -/
import Derived.Test.YtmibkoadjehdaaaGreatDoorRows
import Derived.ProofKit
import Derived.LaidMore
import Derived.Lay
import Derived.Stop.Joined
namespace Go.Proofs.YtmibkoadjehdaaaGreatDoor.scalePlaces
open Go.ChangeShapes Go.WideShapes Go.ChangeAt Go.RowKit
set_option maxRecDepth 100000
noncomputable def w0 (os : Os) : World := World.laidAll Tryz.prog os Rows.scalePlacesRow.laid
noncomputable def args0 : Array Value := #[.string ByteArray.empty, .slice Option.none 0 0]
noncomputable def w1 (os : Os) : World := (w0 os).forCall (fun _ _ => 0) ⟨#[], args0, []⟩
theorem a1 (os : Os) : (w1 os).variablesZipB Tryz.prog = true := by kernel_rfl
theorem a2 (os : Os) : ((w1 os).heap.toList.drop Tryz.prog.globals.size).take ((begin Tryz.prog (fun _ _ => 0) default).world.heap.size - Tryz.prog.globals.size) = (begin Tryz.prog (fun _ _ => 0) default).world.heap.toList.drop Tryz.prog.globals.size := by kernel_rfl
theorem a3 (os : Os) : Input.okWideB Tryz.prog (w1 os) 3 ⟨#[], args0, []⟩ = true := by kernel_rfl
theorem a4 (os : Os) (H : Type) (enc : TypeId × Value → H) : Rows.scalePlacesSpec.preB enc Tryz.prog Tryz.f3 [] false (w1 os).memory args0 8 = true := by kernel_rfl
theorem a5 (os : Os) (H : Type) (enc : TypeId × Value → H) : Rows.scalePlacesSpec.sizedB enc Tryz.prog Tryz.f3 false (w1 os).memory args0 8 = true := by kernel_rfl
theorem a7 (os : Os) : (World.holding Tryz.prog os ⟨#[], #[], []⟩).layFits Tryz.prog Rows.scalePlacesRow.laid [] = true := by kernel_rfl
theorem a8 (os : Os) : (World.holding Tryz.prog os ⟨#[], #[], []⟩).layIfaces Tryz.prog Rows.scalePlacesRow.laid (World.laidAll Tryz.prog os Rows.scalePlacesRow.laid) = true := by kernel_rfl
theorem a6 (os : Os) : laidMetH Tryz.prog Rows.scalePlacesRow.laid (w1 os).memory := by
  rw [MakeChecks.laidMetH_plain _ _ _ (by kernel_rfl)]
  exact laidMet_laidAll _ (a7 os) (a8 os)
theorem witness (os : Os) (H : Type) (enc : TypeId × Value → H) : ∃ (w : World) (tape : Tape) (i : Input), w.os = os ∧ (w.forCall tape i).Shaped Tryz.checked.prog ∧ i.vars = [] ∧ Input.okWide Tryz.checked.prog (w.forCall tape i) .any w.heap.size 3 i ∧
      ((Rows.scalePlacesSpec.pre enc Tryz.checked.prog Tryz.f3 [] false (w.forCall tape i).memory i.args ∧ laidMetH Tryz.prog Rows.scalePlacesRow.laid (w.forCall tape i).memory) ∧ sizedMet enc Tryz.checked.prog Tryz.f3 (OpenSpec.ofChange Rows.scalePlacesSpec) false (w.forCall tape i).memory i.args) ∧
      ({} : Assume).holds Tryz.checked.prog (lone (Frame.enter Tryz.checked.prog 3 i.args .normal) [] (w.forCall tape i)) :=
  ChangeSpec.witness_shaped (enc := enc) (C := Tryz.checked) (os := os) (X := fun w _ => laidMetH Tryz.prog Rows.scalePlacesRow.laid w) false (w0 os) args0 8 (World.laidAll_os _ _ _)
      (World.shaped_of_ZipB (a1 os) (a2 os)) (a3 os) (a4 os H enc) (a5 os H enc) (a6 os)
end Go.Proofs.YtmibkoadjehdaaaGreatDoor.scalePlaces

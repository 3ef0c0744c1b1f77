-- PRINTED BY print.sh 35421559b90ae4d0a3588c463048766b98c2df88dd9212a6774a882060cdf62d: not written by this session
import Derived.Test.YtfhpgikgjheobaaPEngineNamesx0
namespace Go.Proofs.Ytfhpgikgjheobaa.PEngineNames
open Go.RowKit Go.Proofs.YtfhpgikgjheobaaW.PrintWords Go.Proofs.YtfhpgikgjheobaaW.PrintLast Go.Proofs.YtfhpgikgjheobaaW.PrintMore
attribute [local go_sem] max2_int min2_int max_two min_two max_three min_three max_four min_four   -- for this text's walks alone
set_option linter.unusedVariables false
set_option linter.unusedSimpArgs false

/-! ### eddylaw19_EngineNames: function 4 -/
def eddylaw19_EngineNames.f  : Option (Bool) := some true
set_option maxHeartbeats 8000000 in
set_option maxRecDepth 100000 in
theorem eddylaw19_EngineNames.calls  (r : Bool) (w : World) (h : eddylaw19_EngineNames.f  = some r) :
    Calls Try.prog 4 #[] w fun e w' => e = .returned (.bool r) ∧ Drawn0 w w' := by
  have H : (some true) = some r := h
  clear h
  obtain rfl := Option.some.inj H
  go_enter Try.func4, Try.ntmps4
  go_wp2
  go_ret
  exact ⟨by first | rfl | (simp; done) | (simp [*]; done), by repeat (first | exact Drawn0.refl _ | apply Drawn0.step)⟩

/-- THE ONE PURE STATEMENT of eddylaw19_EngineNames: yours. -/
def eddylaw19_EngineNames.Pure : Prop := eddylaw19_EngineNames.f  = some true
theorem eddylaw19_EngineNames.walk (P : eddylaw19_EngineNames.Pure)  (w : World)  :
    Calls Try.prog 4 #[] w fun e w' => e = .returned (.bool true) ∧ Below w.heap.size w w' := by
  have h := P  
  refine (eddylaw19_EngineNames.calls  true w h).mono ?_
  rintro e w' ⟨rfl, hd⟩
  exact ⟨rfl, hd.below⟩

end Go.Proofs.Ytfhpgikgjheobaa.PEngineNames

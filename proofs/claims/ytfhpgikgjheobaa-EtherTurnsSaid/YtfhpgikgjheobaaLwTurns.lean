/- EtherTurns: what is said of the program's statement. Conditions: those of the given statement alone. -/
import Derived.Test.YtfhpgikgjheobaaRows
import Derived.Test.YtfhpgikgjheobaaEtM
import Derived.Test.YtfhpgikgjheobaaAeImp
import Derived.WalkKit
import Derived.ProofKit
import Derived.OpenShut
import Derived.ShutString
import Derived.ChangeOld
import Derived.Below
import Derived.SizedLaws
namespace Go.Proofs.Ytfhpgikgjheobaa.etherTurns
open Go.ChangeShapes Go.WideShapes Go.ChangeAt Go.RowKit
set_option linter.unusedVariables false
theorem laidOut : laidOutB Try.prog = true := by kernel_rfl
theorem own : ownKnob Try.prog.godebug = none := by kernel_rfl
set_option maxRecDepth 100000 in
theorem lifted (os : Os) (started : os.Started) (H : Type) (enc : TypeId × Value → H) :
    ReturnsInHanded {} Try.checked os 12 .any (Rows.etherTurnsSpec.pre6 enc Try.prog Try.f12 Rows.etherTurnsRow.domain false) (Rows.etherTurnsSpec.post enc Try.prog Try.f12 false true false false) := by
  refine returnsInHanded_of_change_sized (C := Try.checked) own started (by kernel_rfl) Try.func12
    (ChangeSpec.witness6 (enc := enc) (C := Try.checked) false ⟨#[], #[.slice none 0 0, .int .i64 0, .int .i64 0], []⟩ 8 (by kernel_rfl) (by kernel_rfl) (by kernel_rfl) (by kernel_rfl)) ?_
  intro W base args ds gs before hval0 hW hcnd hsz0 _
  have hval : ∀ (j : Nat) t v, Try.f12.params[j]? = some t → args[j]? = some v → Value.okWide Try.prog W .any base t v := hval0
  have hW' := hW
  obtain ⟨p, q, hA0, hV, rfl, hfz, hnd⟩ := hW
  have hA : DataW.TrodAll enc Try.prog W 0 (fun _ => true) true Try.f12.params.toList args.toList ds p := hA0
  rw [Try.params12] at hA hval
  obtain ⟨v0, vs0, d0, ds0, p0, q0, hargs, rfl, rfl, h0, r0⟩ := trodAll_cons hA
  obtain ⟨v1, vs1, d1, ds1, p1, q1, rfl, rfl, rfl, h1, r1⟩ := trodAll_cons r0
  obtain ⟨v2, vs2, d2, ds2, p2, q2, rfl, rfl, rfl, h2, r2⟩ := trodAll_cons r1
  obtain ⟨rfl, rfl, rfl⟩ := trodAll_nil r2
  obtain rfl : args = #[v0, v1, v2] := by cases args; simp_all
  obtain ⟨rfl, rfl⟩ := trodVars_none hV
  have k0 := h0
  have lt0 : ∀ x ∈ p0, x.block < W.heap.size := by obtain ⟨m, hm⟩ := k0; exact DataW.trod_lt m _ _ _ hm
  obtain ⟨wd0, _, _⟩ := Ae.weights_three hsz0
  obtain ⟨a1, rfl, rfl, rfl, w1⟩ := open_int Try.underlying3 (hval 1 3 v1 rfl rfl) h1
  obtain ⟨a2, rfl, rfl, rfl, w2⟩ := open_int Try.underlying3 (hval 2 3 v2 rfl rfl) h2
  have b1 := bounds_i64 w1
  have b2 := bounds_i64 w2
  have one0 : v0.cells.toList = [v0] := by obtain ⟨_, _, _, rfl⟩ := okWide_slice Try.underlying23 (hval 0 23 v0 rfl rfl); rfl
  obtain ⟨m0, hm0⟩ := h0
  rw [one0] at hm0
  have I0 := Ae.imp_slice (W := W) (k := 0) (b := 24) Try.underlying23 (by kernel_rfl) (by kernel_rfl) (Ae.imp_bytes Try.underlying29 Try.underlying5 (by kernel_rfl) (by kernel_rfl))
  obtain ⟨ρ1, H1, as0, x0, hH1, hle1, hro1, hk1, hv0, hR0⟩ := I0.imp enc _ _ _ _ _ _ hm0 wd0 (Ae.relH_empty Try.prog W) (by simp)
  obtain ⟨u0, rfl⟩ : ∃ u, as0 = [u] := by obtain ⟨v, _, h, _⟩ := hR0; exact ⟨v, h⟩
  have hcall := Ae.acalls_law hH1 (args := #[u0, .int .i64 a1, .int .i64 a2]) (cargs := #[v0, .int .i64 a1, .int .i64 a2]) (hv0.append (.cons (.int _ _) (.cons (.int _ _) .nil))) hro1 (Ae.turns_calls H1 u0 x0 a1 a2 hR0 b1.1 b1.2 b2.1 b2.2)
  refine hcall.mono fun e W' ⟨he, bel, kept⟩ => ?_
  subst he
  have t0 : DataW.Trod enc Try.prog W' 0 (fun b => decide (b < W.heap.size)) true 23 v0 d0 p0 := DataW.Trod.of_heap (w := { W' with tape := W.tape }) (w' := W') rfl (Below.trod laidOut (by kernel_rfl) (of_decide_eq_true (by kernel_rfl)) k0 bel lt0)
  exact ⟨_, rfl, _, _, _, [], _, [], hW', trodAll_mk1 (shut_bool Try.underlying4 _), trodAll_cons_mk t0 (trodAll_cons_mk (shut_int Try.underlying3 w1) (trodAll_cons_mk (shut_int Try.underlying3 w2) trodAll_mk0)), rfl, kept _, fun h => by cases h⟩
theorem over : Rows.etherTurnsRow.holds Try.pinned (OpenSpec.ofChange Rows.etherTurnsSpec) :=
  OpenClaim.holds_of_wide 12 Try.f12 rfl rfl rfl rfl rfl rfl rfl ⟨rfl, rfl, rfl, rfl, rfl⟩ rfl rfl rfl rfl rfl (by kernel_rfl) Try.func12 (by kernel_rfl)
    (of_decide_eq_true (by kernel_rfl)) (by unfold Func.isWrapper; first | (rw [if_pos (by decide +kernel)]; kernel_rfl) | (rw [if_neg (by decide +kernel)]; exact ⟨rfl, rfl⟩))
    (fun os started H enc _ => lifted os started H enc)
end Go.Proofs.Ytfhpgikgjheobaa.etherTurns
namespace Go.Proofs.Ytfhpgikgjheobaa
/-- The row. -/
theorem etherTurns_holds : Rows.EtherTurnsSaid := etherTurns.over
#print axioms etherTurns_holds
end Go.Proofs.Ytfhpgikgjheobaa

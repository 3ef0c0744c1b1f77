/- EtherApart: what is said of the program's statement. Conditions: those of the given statement alone. -/
import Derived.Test.YtfhpgikgjheobaaRows
import Derived.Test.YtfhpgikgjheobaaEuI
import Derived.Test.YtfhpgikgjheobaaAeImp
import Derived.WalkKit
import Derived.ProofKit
import Derived.OpenShut
import Derived.ShutString
import Derived.ChangeOld
import Derived.Below
import Derived.SizedLaws
namespace Go.Proofs.Ytfhpgikgjheobaa.etherApart
open Go.ChangeShapes Go.WideShapes Go.ChangeAt Go.RowKit
set_option linter.unusedVariables false
theorem laidOut : laidOutB Try.prog = true := by kernel_rfl
theorem own : ownKnob Try.prog.godebug = none := by kernel_rfl
set_option maxRecDepth 100000 in
theorem lifted (os : Os) (started : os.Started) (H : Type) (enc : TypeId × Value → H) :
    ReturnsInHanded {} Try.checked os 9 .any (Rows.etherApartSpec.pre6 enc Try.prog Try.f9 Rows.etherApartRow.domain false) (Rows.etherApartSpec.post enc Try.prog Try.f9 false true false false) := by
  refine returnsInHanded_of_change_sized (C := Try.checked) own started (by kernel_rfl) Try.func9
    (ChangeSpec.witness6 (enc := enc) (C := Try.checked) false ⟨#[], #[.slice none 0 0, .slice none 0 0], []⟩ 8 (by kernel_rfl) (by kernel_rfl) (by kernel_rfl) (by kernel_rfl)) ?_
  intro W base args ds gs before hval0 hW hcnd hsz0 _
  have hval : ∀ (j : Nat) t v, Try.f9.params[j]? = some t → args[j]? = some v → Value.okWide Try.prog W .any base t v := hval0
  have hW' := hW
  obtain ⟨p, q, hA0, hV, rfl, hfz, hnd⟩ := hW
  have hA : DataW.TrodAll enc Try.prog W 0 (fun _ => true) true Try.f9.params.toList args.toList ds p := hA0
  rw [Try.params9] at hA hval
  obtain ⟨v0, vs0, d0, ds0, p0, q0, hargs, rfl, rfl, h0, r0⟩ := trodAll_cons hA
  obtain ⟨v1, vs1, d1, ds1, p1, q1, rfl, rfl, rfl, h1, r1⟩ := trodAll_cons r0
  obtain ⟨rfl, rfl, rfl⟩ := trodAll_nil r1
  obtain rfl : args = #[v0, v1] := by cases args; simp_all
  obtain ⟨rfl, rfl⟩ := trodVars_none hV
  have k0 := h0
  have k1 := h1
  have lt0 : ∀ x ∈ p0, x.block < W.heap.size := by obtain ⟨m, hm⟩ := k0; exact DataW.trod_lt m _ _ _ hm
  have lt1 : ∀ x ∈ p1, x.block < W.heap.size := by obtain ⟨m, hm⟩ := k1; exact DataW.trod_lt m _ _ _ hm
  obtain ⟨wd0, wd1⟩ := Ae.weights_two hsz0
  have one0 : v0.cells.toList = [v0] := by obtain ⟨_, _, _, rfl⟩ := okWide_slice Try.underlying23 (hval 0 23 v0 rfl rfl); rfl
  have one1 : v1.cells.toList = [v1] := by obtain ⟨_, _, _, rfl⟩ := okWide_slice Try.underlying42 (hval 1 42 v1 rfl rfl); rfl
  obtain ⟨m0, hm0⟩ := h0
  obtain ⟨m1, hm1⟩ := h1
  rw [one0] at hm0
  rw [one1] at hm1
  have I0 := Ae.imp_slice (W := W) (k := 0) (b := 24) Try.underlying23 (by kernel_rfl) (by kernel_rfl) (Ae.imp_bytes Try.underlying29 Try.underlying5 (by kernel_rfl) (by kernel_rfl))
  have I1 := Ae.imp_slice (W := W) (k := 0) (b := 8) Try.underlying42 (by kernel_rfl) (by kernel_rfl) (Ae.imp_int (W := W) Try.underlying3)
  obtain ⟨ρ1, H1, as0, x0, hH1, hle1, hro1, hk1, hv0, hR0⟩ := I0.imp enc _ _ _ _ _ _ hm0 wd0 (Ae.relH_empty Try.prog W) (by simp)
  obtain ⟨ρ2, H2, as1, x1, hH2, hle2, hro2, hk2, hv1, hR1⟩ := I1.imp enc _ _ _ _ _ _ hm1 wd1 hH1 hro1
  have hR0' := I0.keep hR0 hk2
  obtain ⟨u0, rfl⟩ : ∃ u, as0 = [u] := by obtain ⟨v, _, h, _⟩ := hR0; exact ⟨v, h⟩
  obtain ⟨u1, rfl⟩ : ∃ u, as1 = [u] := by obtain ⟨v, _, h, _⟩ := hR1; exact ⟨v, h⟩
  have hcall := Ae.acalls_law hH2 (args := #[u0, u1]) (cargs := #[v0, v1]) ((hv0.mono hle2).append hv1) hro2 (Ae.apart_calls H2 u0 u1 x0 x1 hR0' hR1)
  refine hcall.mono fun e W' ⟨he, bel, kept⟩ => ?_
  subst he
  have t0 : DataW.Trod enc Try.prog W' 0 (fun b => decide (b < W.heap.size)) true 23 v0 d0 p0 := DataW.Trod.of_heap (w := { W' with tape := W.tape }) (w' := W') rfl (Below.trod laidOut (by kernel_rfl) (of_decide_eq_true (by kernel_rfl)) k0 bel lt0)
  have t1 : DataW.Trod enc Try.prog W' 0 (fun b => decide (b < W.heap.size)) true 42 v1 d1 p1 := DataW.Trod.of_heap (w := { W' with tape := W.tape }) (w' := W') rfl (Below.trod laidOut (by kernel_rfl) (of_decide_eq_true (by kernel_rfl)) k1 bel lt1)
  exact ⟨_, rfl, _, _, _, [], _, [], hW', trodAll_mk1 (shut_bool Try.underlying4 _), trodAll_cons_mk t0 (trodAll_cons_mk t1 trodAll_mk0), rfl, kept _, fun h => by cases h⟩
theorem over : Rows.etherApartRow.holds Try.pinned (OpenSpec.ofChange Rows.etherApartSpec) :=
  OpenClaim.holds_of_wide 9 Try.f9 rfl rfl rfl rfl rfl rfl rfl ⟨rfl, rfl, rfl, rfl, rfl⟩ rfl rfl rfl rfl rfl (by kernel_rfl) Try.func9 (by kernel_rfl)
    (of_decide_eq_true (by kernel_rfl)) (by unfold Func.isWrapper; first | (rw [if_pos (by decide +kernel)]; kernel_rfl) | (rw [if_neg (by decide +kernel)]; exact ⟨rfl, rfl⟩))
    (fun os started H enc _ => lifted os started H enc)
end Go.Proofs.Ytfhpgikgjheobaa.etherApart
namespace Go.Proofs.Ytfhpgikgjheobaa
/-- The row. -/
theorem etherApart_holds : Rows.EtherApartSaid := etherApart.over
#print axioms etherApart_holds
end Go.Proofs.Ytfhpgikgjheobaa

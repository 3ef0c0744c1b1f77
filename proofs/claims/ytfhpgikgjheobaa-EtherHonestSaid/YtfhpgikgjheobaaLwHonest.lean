/- EtherHonest: what is said of the program's statement. Conditions: those of the given statement alone. -/
import Derived.Test.YtfhpgikgjheobaaRows
import Derived.Test.YtfhpgikgjheobaaEtQ
import Derived.Test.YtfhpgikgjheobaaAeImp
import Derived.WalkKit
import Derived.ProofKit
import Derived.OpenShut
import Derived.ShutString
import Derived.ChangeOld
import Derived.Below
import Derived.SizedLaws
namespace Go.Proofs.Ytfhpgikgjheobaa.etherHonest
open Go.ChangeShapes Go.WideShapes Go.ChangeAt Go.RowKit
set_option linter.unusedVariables false
theorem laidOut : laidOutB Try.prog = true := by kernel_rfl
theorem five {α : Type} (l : List α) (h : l.length = 5) : ∃ a b c d e, l = [a, b, c, d, e] := by
  match l, h with
  | [a, b, c, d, e], _ => exact ⟨a, b, c, d, e, rfl⟩
theorem cells72 : Try.prog.cellsOf 72 = 5 := by kernel_rfl
theorem cells3 : Try.prog.cellsOf 3 = 1 := by kernel_rfl
theorem cells29 : Try.prog.cellsOf 29 = 1 := by kernel_rfl
open Go.Ae in
theorem imp_op (W : World) : Imp Try.prog W 72 OpR where
  keep h hk := h.keep hk
  imp := by
    intro T enc fuel cs d ps ρ H h hw hH hro
    obtain ⟨xs, n, rfl, hx, hl, hxl, hf⟩ := DataW.trod_struct Try.underlying72 h
    simp only [Prod.mk.injEq] at hx
    obtain ⟨rfl, _⟩ := hx
    rw [cells72] at hl
    obtain ⟨c0, c1, c2, c3, c4, rfl⟩ := five cs hl
    obtain ⟨y0, y1, y2, y3, y4, rfl⟩ := five xs hxl
    have g0 : DataW.trod enc Try.prog W 0 (fun _ => true) true n 3 ((List.drop 0 [c0, c1, c2, c3, c4]).take (Try.prog.cellsOf 3)) = some y0 := hf 0 _ rfl
    have g1 : DataW.trod enc Try.prog W 0 (fun _ => true) true n 3 ((List.drop 1 [c0, c1, c2, c3, c4]).take (Try.prog.cellsOf 3)) = some y1 := hf 1 _ rfl
    have g2 : DataW.trod enc Try.prog W 0 (fun _ => true) true n 3 ((List.drop 2 [c0, c1, c2, c3, c4]).take (Try.prog.cellsOf 3)) = some y2 := hf 2 _ rfl
    have g3 : DataW.trod enc Try.prog W 0 (fun _ => true) true n 3 ((List.drop 3 [c0, c1, c2, c3, c4]).take (Try.prog.cellsOf 3)) = some y3 := hf 3 _ rfl
    have g4 : DataW.trod enc Try.prog W 0 (fun _ => true) true n 29 ((List.drop 4 [c0, c1, c2, c3, c4]).take (Try.prog.cellsOf 29)) = some y4 := hf 4 _ rfl
    rw [cells3] at g0 g1 g2 g3
    rw [cells29] at g4
    obtain ⟨n0, e0, _, _⟩ := DataW.trod_int Try.underlying3 (x := y0) g0
    obtain ⟨n1, e1, _, _⟩ := DataW.trod_int Try.underlying3 (x := y1) g1
    obtain ⟨n2, e2, _, _⟩ := DataW.trod_int Try.underlying3 (x := y2) g2
    obtain ⟨n3, e3, _, q3⟩ := DataW.trod_int Try.underlying3 (x := y3) g3
    simp at e0 e1 e2 e3
    subst e0 e1 e2 e3
    simp only [DataW.weights, Try.underlying72, List.map_cons, List.map_nil, DataW.weightsEach, List.all_append, Bool.and_eq_true] at hw
    have g4' : DataW.trod enc Try.prog W 0 (fun _ => true) true n 29 [c4] = some (y4.1, y4.2) := g4
    obtain ⟨ρ1, H1, cs1, x, a1, a2, a3, a4, a5, dv, rfl, a7, a8⟩ := (imp_bytes (W := W) Try.underlying29 Try.underlying5 (by kernel_rfl) (by kernel_rfl)).imp enc n [c4] y4.1 y4.2 ρ H g4' (by first | exact hw.2.2.2.2.1 | exact hw.2.2.2.2) hH hro
    have b3 := bounds_i64 q3
    exact ⟨ρ1, H1, [.int .i64 n0, .int .i64 n1, .int .i64 n2, .int .i64 n3, dv], ⟨n0, n1, n2, n3, x⟩, a1, a2, a3, a4, .cons (.int _ _) (.cons (.int _ _) (.cons (.int _ _) (.cons (.int _ _) a5))), dv, rfl, a7, a8, b3.1, b3.2⟩
theorem own : ownKnob Try.prog.godebug = none := by kernel_rfl
set_option maxRecDepth 100000 in
theorem lifted (os : Os) (started : os.Started) (H : Type) (enc : TypeId × Value → H) :
    ReturnsInHanded {} Try.checked os 10 .any (Rows.etherHonestSpec.pre6 enc Try.prog Try.f10 Rows.etherHonestRow.domain false) (Rows.etherHonestSpec.post enc Try.prog Try.f10 false true false false) := by
  refine returnsInHanded_of_change_sized (C := Try.checked) own started (by kernel_rfl) Try.func10
    (ChangeSpec.witness6 (enc := enc) (C := Try.checked) false ⟨#[], #[.int .i64 0, .slice none 0 0], []⟩ 8 (by kernel_rfl) (by kernel_rfl) (by kernel_rfl) (by kernel_rfl)) ?_
  intro W base args ds gs before hval0 hW hcnd hsz0 _
  have hval : ∀ (j : Nat) t v, Try.f10.params[j]? = some t → args[j]? = some v → Value.okWide Try.prog W .any base t v := hval0
  have hW' := hW
  obtain ⟨p, q, hA0, hV, rfl, hfz, hnd⟩ := hW
  have hA : DataW.TrodAll enc Try.prog W 0 (fun _ => true) true Try.f10.params.toList args.toList ds p := hA0
  rw [Try.params10] at hA hval
  obtain ⟨v0, vs0, d0, ds0, p0, q0, hargs, rfl, rfl, h0, r0⟩ := trodAll_cons hA
  obtain ⟨v1, vs1, d1, ds1, p1, q1, rfl, rfl, rfl, h1, r1⟩ := trodAll_cons r0
  obtain ⟨rfl, rfl, rfl⟩ := trodAll_nil r1
  obtain rfl : args = #[v0, v1] := by cases args; simp_all
  obtain ⟨rfl, rfl⟩ := trodVars_none hV
  obtain ⟨a0, rfl, rfl, rfl, w0⟩ := open_int Try.underlying3 (hval 0 3 v0 rfl rfl) h0
  have k1 := h1
  have lt1 : ∀ x ∈ p1, x.block < W.heap.size := by obtain ⟨m, hm⟩ := k1; exact DataW.trod_lt m _ _ _ hm
  obtain ⟨_, wd1⟩ := Ae.weights_two hsz0
  have one1 : v1.cells.toList = [v1] := by obtain ⟨_, _, _, rfl⟩ := okWide_slice Try.underlying66 (hval 1 66 v1 rfl rfl); rfl
  obtain ⟨m1, hm1⟩ := h1
  rw [one1] at hm1
  have I1 := Ae.imp_slice (W := W) (k := 4) (b := 56) Try.underlying66 (by kernel_rfl) (by kernel_rfl) (imp_op W)
  obtain ⟨ρ1, H1, as1, x1, hH1, hle1, hro1, hk1, hv1, hR1⟩ := I1.imp enc _ _ _ _ _ _ hm1 wd1 (Ae.relH_empty Try.prog W) (by simp)
  obtain ⟨u1, rfl⟩ : ∃ u, as1 = [u] := by obtain ⟨v, _, h, _⟩ := hR1; exact ⟨v, h⟩
  have hcall := Ae.acalls_law hH1 (args := #[.int .i64 a0, u1]) (cargs := #[.int .i64 a0, v1]) (.cons (.int _ _) hv1) hro1 (Ae.honest_calls H1 a0 u1 x1 hR1)
  refine hcall.mono fun e W' ⟨he, bel, kept⟩ => ?_
  subst he
  have t1 : DataW.Trod enc Try.prog W' 0 (fun b => decide (b < W.heap.size)) true 66 v1 d1 p1 := DataW.Trod.of_heap (w := { W' with tape := W.tape }) (w' := W') rfl (Below.trod laidOut (by kernel_rfl) (of_decide_eq_true (by kernel_rfl)) k1 bel lt1)
  exact ⟨_, rfl, _, _, _, [], _, [], hW', trodAll_mk1 (shut_bool Try.underlying4 _), trodAll_cons_mk (shut_int Try.underlying3 w0) (trodAll_cons_mk t1 trodAll_mk0), rfl, kept _, fun h => by cases h⟩
theorem over : Rows.etherHonestRow.holds Try.pinned (OpenSpec.ofChange Rows.etherHonestSpec) :=
  OpenClaim.holds_of_wide 10 Try.f10 rfl rfl rfl rfl rfl rfl rfl ⟨rfl, rfl, rfl, rfl, rfl⟩ rfl rfl rfl rfl rfl (by kernel_rfl) Try.func10 (by kernel_rfl)
    (of_decide_eq_true (by kernel_rfl)) (by unfold Func.isWrapper; first | (rw [if_pos (by decide +kernel)]; kernel_rfl) | (rw [if_neg (by decide +kernel)]; exact ⟨rfl, rfl⟩))
    (fun os started H enc _ => lifted os started H enc)
end Go.Proofs.Ytfhpgikgjheobaa.etherHonest
namespace Go.Proofs.Ytfhpgikgjheobaa
/-- The row. -/
theorem etherHonest_holds : Rows.EtherHonestSaid := etherHonest.over
#print axioms etherHonest_holds
end Go.Proofs.Ytfhpgikgjheobaa

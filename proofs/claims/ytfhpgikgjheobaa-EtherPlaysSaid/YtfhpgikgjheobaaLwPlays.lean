/- EtherPlays: what is said of the program's statement. Conditions: those of the given statement alone. -/
import Derived.Test.YtfhpgikgjheobaaRows
import Derived.Test.YtfhpgikgjheobaaEtPl
import Derived.Test.YtfhpgikgjheobaaAeImp
import Derived.WalkKit
import Derived.ProofKit
import Derived.OpenShut
import Derived.ShutString
import Derived.ChangeOld
import Derived.Below
import Derived.SizedLaws
namespace Go.Proofs.Ytfhpgikgjheobaa.etherPlays
open Go.ChangeShapes Go.WideShapes Go.ChangeAt Go.RowKit
set_option linter.unusedVariables false
theorem laidOut : laidOutB Try.prog = true := by kernel_rfl
theorem five {α : Type} (l : List α) (h : l.length = 5) : ∃ a b c d e, l = [a, b, c, d, e] := by
  match l, h with
  | [a, b, c, d, e], _ => exact ⟨a, b, c, d, e, rfl⟩
theorem cells72 : Try.prog.cellsOf 72 = 5 := by kernel_rfl
theorem cells3 : Try.prog.cellsOf 3 = 1 := by kernel_rfl
theorem cells29 : Try.prog.cellsOf 29 = 1 := by kernel_rfl
open Go.Ae in
theorem imp_op (W : World) : Imp Try.prog W 72 OpR2 where
  keep h hk := h.keep hk
  imp := by
    intro T enc fuel cs d ps ρ H h hw hH hro
    obtain ⟨xs, n, rfl, hx, hl, hxl, hf⟩ := DataW.trod_struct Try.underlying72 h
    simp only [Prod.mk.injEq] at hx
    obtain ⟨rfl, _⟩ := hx
    rw [cells72] at hl
    obtain ⟨c0, c1, c2, c3, c4, rfl⟩ := five cs hl
    obtain ⟨y0, y1, y2, y3, y4, rfl⟩ := five xs hxl
    have g0 : DataW.trod enc Try.prog W 0 (fun _ => true) true n 3 ((List.drop 0 [c0, c1, c2, c3, c4]).take (Try.prog.cellsOf 3)) = some y0 := hf 0 _ rfl
    have g1 : DataW.trod enc Try.prog W 0 (fun _ => true) true n 3 ((List.drop 1 [c0, c1, c2, c3, c4]).take (Try.prog.cellsOf 3)) = some y1 := hf 1 _ rfl
    have g2 : DataW.trod enc Try.prog W 0 (fun _ => true) true n 3 ((List.drop 2 [c0, c1, c2, c3, c4]).take (Try.prog.cellsOf 3)) = some y2 := hf 2 _ rfl
    have g3 : DataW.trod enc Try.prog W 0 (fun _ => true) true n 3 ((List.drop 3 [c0, c1, c2, c3, c4]).take (Try.prog.cellsOf 3)) = some y3 := hf 3 _ rfl
    have g4 : DataW.trod enc Try.prog W 0 (fun _ => true) true n 29 ((List.drop 4 [c0, c1, c2, c3, c4]).take (Try.prog.cellsOf 29)) = some y4 := hf 4 _ rfl
    rw [cells3] at g0 g1 g2 g3
    rw [cells29] at g4
    obtain ⟨n0, e0, _, _⟩ := DataW.trod_int Try.underlying3 (x := y0) g0
    obtain ⟨n1, e1, _, _⟩ := DataW.trod_int Try.underlying3 (x := y1) g1
    obtain ⟨n2, e2, _, q2⟩ := DataW.trod_int Try.underlying3 (x := y2) g2
    obtain ⟨n3, e3, _, q3⟩ := DataW.trod_int Try.underlying3 (x := y3) g3
    simp at e0 e1 e2 e3
    subst e0 e1 e2 e3
    simp only [DataW.weights, Try.underlying72, List.map_cons, List.map_nil, DataW.weightsEach, List.all_append, Bool.and_eq_true] at hw
    have g4' : DataW.trod enc Try.prog W 0 (fun _ => true) true n 29 [c4] = some (y4.1, y4.2) := g4
    obtain ⟨ρ1, H1, cs1, x, a1, a2, a3, a4, a5, dv, rfl, a7, a8⟩ := (imp_bytes (W := W) Try.underlying29 Try.underlying5 (by kernel_rfl) (by kernel_rfl)).imp enc n [c4] y4.1 y4.2 ρ H g4' (by first | exact hw.2.2.2.2.1 | exact hw.2.2.2.2) hH hro
    have b3 := bounds_i64 q3
    have b2 := bounds_i64 q2
    exact ⟨ρ1, H1, [.int .i64 n0, .int .i64 n1, .int .i64 n2, .int .i64 n3, dv], ⟨n0, n1, n2, n3, x⟩, a1, a2, a3, a4, .cons (.int _ _) (.cons (.int _ _) (.cons (.int _ _) (.cons (.int _ _) a5))), dv, rfl, a7, a8, ⟨b3.1, b3.2⟩, b2.1, b2.2⟩
theorem own : ownKnob Try.prog.godebug = none := by kernel_rfl
set_option maxRecDepth 100000 in
theorem lifted (os : Os) (started : os.Started) (H : Type) (enc : TypeId × Value → H) :
    ReturnsInHanded {} Try.checked os 11 .any (Rows.etherPlaysSpec.pre6 enc Try.prog Try.f11 Rows.etherPlaysRow.domain false) (Rows.etherPlaysSpec.post enc Try.prog Try.f11 false true false false) := by
  refine returnsInHanded_of_change_sized (C := Try.checked) own started (by kernel_rfl) Try.func11
    (ChangeSpec.witness6 (enc := enc) (C := Try.checked) false ⟨#[], #[.int .i64 0, .int .i64 0, .slice none 0 0], []⟩ 8 (by kernel_rfl) (by kernel_rfl) (by kernel_rfl) (by kernel_rfl)) ?_
  intro W base args ds gs before hval0 hW hcnd hsz0 _
  have hval : ∀ (j : Nat) t v, Try.f11.params[j]? = some t → args[j]? = some v → Value.okWide Try.prog W .any base t v := hval0
  have hW' := hW
  obtain ⟨p, q, hA0, hV, rfl, hfz, hnd⟩ := hW
  have hA : DataW.TrodAll enc Try.prog W 0 (fun _ => true) true Try.f11.params.toList args.toList ds p := hA0
  rw [Try.params11] at hA hval
  obtain ⟨v0, vs0, d0, ds0, p0, q0, hargs, rfl, rfl, h0, r0⟩ := trodAll_cons hA
  obtain ⟨v2, vs2, d2, ds2, p2, q2, rfl, rfl, rfl, h2, r2⟩ := trodAll_cons r0
  obtain ⟨v1, vs1, d1, ds1, p1, q1, rfl, rfl, rfl, h1, r1⟩ := trodAll_cons r2
  obtain ⟨rfl, rfl, rfl⟩ := trodAll_nil r1
  obtain rfl : args = #[v0, v2, v1] := by cases args; simp_all
  obtain ⟨rfl, rfl⟩ := trodVars_none hV
  obtain ⟨a0, rfl, rfl, rfl, w0⟩ := open_int Try.underlying3 (hval 0 3 v0 rfl rfl) h0
  obtain ⟨a2, rfl, rfl, rfl, w2⟩ := open_int Try.underlying3 (hval 1 3 v2 rfl rfl) h2
  have k1 := h1
  have lt1 : ∀ x ∈ p1, x.block < W.heap.size := by obtain ⟨m, hm⟩ := k1; exact DataW.trod_lt m _ _ _ hm
  obtain ⟨_, _, wd1⟩ := Ae.weights_three hsz0
  have one1 : v1.cells.toList = [v1] := by obtain ⟨_, _, _, rfl⟩ := okWide_slice Try.underlying66 (hval 2 66 v1 rfl rfl); rfl
  obtain ⟨m1, hm1⟩ := h1
  rw [one1] at hm1
  have I1 := Ae.imp_slice (W := W) (k := 4) (b := 56) Try.underlying66 (by kernel_rfl) (by kernel_rfl) (imp_op W)
  obtain ⟨ρ1, H1, as1, x1, hH1, hle1, hro1, hk1, hv1, hR1⟩ := I1.imp enc _ _ _ _ _ _ hm1 wd1 (Ae.relH_empty Try.prog W) (by simp)
  obtain ⟨u1, rfl⟩ : ∃ u, as1 = [u] := by obtain ⟨v, _, h, _⟩ := hR1; exact ⟨v, h⟩
  have hcall := Ae.acalls_law hH1 (args := #[.int .i64 a0, .int .i64 a2, u1]) (cargs := #[.int .i64 a0, .int .i64 a2, v1]) (.cons (.int _ _) (.cons (.int _ _) hv1)) hro1 (Ae.plays_calls H1 a0 a2 u1 x1 hR1)
  refine hcall.mono fun e W' ⟨he, bel, kept⟩ => ?_
  subst he
  have t1 : DataW.Trod enc Try.prog W' 0 (fun b => decide (b < W.heap.size)) true 66 v1 d1 p1 := DataW.Trod.of_heap (w := { W' with tape := W.tape }) (w' := W') rfl (Below.trod laidOut (by kernel_rfl) (of_decide_eq_true (by kernel_rfl)) k1 bel lt1)
  exact ⟨_, rfl, _, _, _, [], _, [], hW', trodAll_mk1 (shut_bool Try.underlying4 _), trodAll_cons_mk (shut_int Try.underlying3 w0) (trodAll_cons_mk (shut_int Try.underlying3 w2) (trodAll_cons_mk t1 trodAll_mk0)), rfl, kept _, fun h => by cases h⟩
theorem over : Rows.etherPlaysRow.holds Try.pinned (OpenSpec.ofChange Rows.etherPlaysSpec) :=
  OpenClaim.holds_of_wide 11 Try.f11 rfl rfl rfl rfl rfl rfl rfl ⟨rfl, rfl, rfl, rfl, rfl⟩ rfl rfl rfl rfl rfl (by kernel_rfl) Try.func11 (by kernel_rfl)
    (of_decide_eq_true (by kernel_rfl)) (by unfold Func.isWrapper; first | (rw [if_pos (by decide +kernel)]; kernel_rfl) | (rw [if_neg (by decide +kernel)]; exact ⟨rfl, rfl⟩))
    (fun os started H enc _ => lifted os started H enc)
end Go.Proofs.Ytfhpgikgjheobaa.etherPlays
namespace Go.Proofs.Ytfhpgikgjheobaa
/-- The row. -/
theorem etherPlays_holds : Rows.EtherPlaysSaid := etherPlays.over
#print axioms etherPlays_holds
end Go.Proofs.Ytfhpgikgjheobaa

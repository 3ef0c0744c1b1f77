/- ScalePlaces: what is said of the program's statement. Conditions: those of the given statement alone. -/
import Derived.Test.YtmibkoadjehdaaaGreatDoorRows
import Derived.Test.YtmibkoadjehdaaaGreatDoorSpL
import Derived.Test.YtmibkoadjehdaaaGreatDoorLwPw
import Derived.Test.YtmibkoadjehdaaaGreatDoorLwPj
import Derived.Test.YtmibkoadjehdaaaGreatDoorAeImp
import Derived.Test.YtmibkoadjehdaaaGreatDoorAeGl
import Derived.WalkKit
import Derived.ProofKit
import Derived.OpenShut
import Derived.ShutString
import Derived.ChangeOld
import Derived.Below
import Derived.SizedLaws
import Derived.LaidMore
import Derived.Stop.Joined
import Derived.Test.YtmibkoadjehdaaaGreatDoorCards
import Derived.Test.YtmibkoadjehdaaaGreatDoorTie
namespace Go.Ae
open Go.Proofs
def StrR (_ : AHeap) (cells : List Value) (b : List UInt8) : Prop := cells = [.string (strB b)]
theorem imp_string {P : Program} {W : World} {t : TypeId} (ht : P.underlying t = some .string) : Imp P W t StrR where
  keep h _ := h
  imp := by
    intro T enc fuel cs d ps ρ H h _ hH hro
    obtain ⟨s, rfl, _, _⟩ := DataW.trod_string ht h
    exact ⟨ρ, H, [.string s], s.data.toList, hH, Ren.le_refl ρ, hro, Keep.refl, .cons (.string s) .nil, rfl⟩
theorem texts_of {H : AHeap} {v : Value} {ss : List (List UInt8)} (h : SlR 1 16 StrR H [v] ss) : SR2 H (fun _ => True) v ss ∧ ss.length * 16 ≤ reachBytes := by
  obtain ⟨v', cells, he, h1, h2, h3⟩ := h
  obtain rfl : v = v' := by simpa using he
  refine ⟨?_, h2⟩
  have hc : cells = strV ss := by
    apply List.ext_getElem?
    intro i
    have hl := h1.length
    rw [Nat.mul_one] at hl
    by_cases hi : i < ss.length
    · have h4 := h3 i ss[i] (List.getElem?_eq_getElem hi)
      rw [Nat.mul_one] at h4
      have h5 : (cells.drop i).take 1 = [.string (strB ss[i])] := h4
      rw [List.drop_eq_getElem_cons (by omega)] at h5
      simp only [List.take_succ_cons, List.take_zero, List.cons.injEq, and_true] at h5
      rw [List.getElem?_eq_getElem (by omega), h5]
      simp [strV, hi]
    · rw [List.getElem?_eq_none (by omega), List.getElem?_eq_none (by rw [strV_length]; omega)]
  rw [hc] at h1
  exact h1
end Go.Ae
namespace Go.Proofs.YtmibkoadjehdaaaGreatDoor.scalePlaces
open Go.ChangeShapes Go.WideShapes Go.ChangeAt Go.RowKit
set_option linter.unusedVariables false
/-- The world's shape beside what the statement names. -/
theorem returns_shaped {H : Type} {enc : TypeId × Value → H} {a : Assume} {C : Checked} {os : Os} {f : FuncId} {fn : Func} {s : ChangeSpec} {conds : List PathCond} {apart fresh handsOn again : Bool} {X : World → Array Value → Prop}
    (hX : ∀ (w w' : World) (args : Array Value), w.heap = w'.heap → X w args → X w' args) (own : ownKnob C.prog.godebug = Option.none) (started : os.Started) (noInit : C.prog.inits.idxOf? f = Option.none) (hfn : C.prog.funcs[f]? = some fn)
    (witness : ∃ (w : World) (tape : Tape) (i : Input), w.os = os ∧ (w.forCall tape i).Shaped C.prog ∧ i.vars = [] ∧ Input.okWide C.prog (w.forCall tape i) .any w.heap.size f i ∧
      ((s.pre enc C.prog fn conds apart (w.forCall tape i).memory i.args ∧ X (w.forCall tape i).memory i.args) ∧ sizedMet enc C.prog fn (OpenSpec.ofChange s) apart (w.forCall tape i).memory i.args) ∧ a.holds C.prog (lone (Frame.enter C.prog f i.args .normal) [] (w.forCall tape i)))
    (contract : ∀ (W : World) (base : Nat) (args : Array Value) (ds gs : List (DataW H)) (before : List MemPlace), W.ShapedOpen C.prog →
      (∀ (j : Nat) t v, fn.params[j]? = some t → args[j]? = some v → Value.okWide C.prog W .any base t v) →
      DataW.Whole enc C.prog fn.params.toList s.vars apart W args.toList ds gs before →
      (DataW.weightsEach C.prog (fn.params.toList ++ s.plain.varTypes C.prog) (ds ++ gs)).all (· ≤ reachBytes) = true → X W args →
      Calls C.prog f args W fun e W' => ∃ v, e = .returned v ∧ s.post enc C.prog fn apart fresh handsOn again W args v W') :
    ReturnsInHanded a C os f .any (fun w args => (s.pre enc C.prog fn conds apart w args ∧ X w args) ∧ sizedMet enc C.prog fn (OpenSpec.ofChange s) apart w args) (s.post enc C.prog fn apart fresh handsOn again) := by
  refine returnsInHanded_of_calls own started noInit witness ?_
  intro w tape i _ hshape _ hok hpre hholds
  obtain ⟨_, _, _, fn', hfn', _, _, _, _, hval⟩ := hok
  have e : fn' = fn := Option.some.inj (hfn'.symm.trans hfn)
  subst e
  obtain ⟨⟨⟨ds, gs, before, hw, hc⟩, hx⟩, hz⟩ := hpre
  have hw' := DataW.Whole.of_heap (w' := w.forCall tape i) (by rfl) hw
  refine (contract (w.forCall tape i) w.heap.size i.args ds gs before hshape hval hw' (hz.weights hw) (hX _ _ _ (by rfl) hx)).mono fun e W' ⟨v, he, hp⟩ => ?_
  subst he
  exact ChangeSpec.post_blind hp
theorem plainL (W : World) : laidMetH Tryz.prog Rows.scalePlacesRow.laid W = laidMet Tryz.prog Rows.scalePlacesRow.laid W := MakeChecks.laidMetH_plain _ _ _ (by kernel_rfl)
theorem holdsG {W : World} (hshape : W.ShapedOpen Tryz.prog) (hL : laidMetH Tryz.prog Rows.scalePlacesRow.laid W) : ∀ p ∈ Ae.globs, Ae.HoldsG W p := by
  rw [plainL] at hL
  obtain ⟨lps, hLV, _, _⟩ := hL
  exact Ae.globs_hold hshape hLV (.tail _ (.tail _ (.tail _ (.tail _ (.tail _ (.tail _ (.tail _ (.head _)))))))) (.tail _ (.tail _ (.tail _ (.tail _ (.tail _ (.tail _ (.tail _ (.tail _ (.head _))))))))) (.tail _ (.tail _ (.tail _ (.tail _ (.tail _ (.tail _ (.head _))))))) (.tail _ (.tail _ (.head _))) (.tail _ (.tail _ (.tail _ (.head _)))) (.head _) (.tail _ (.head _))
theorem laidOut : laidOutB Tryz.prog = true := by kernel_rfl
theorem own : ownKnob Tryz.prog.godebug = Option.none := by kernel_rfl
set_option maxRecDepth 100000 in
theorem lifted (os : Os) (started : os.Started) (H : Type) (enc : TypeId × Value → H) :
    ReturnsInHanded {} Tryz.checked os 3 .any (fun w args => (Rows.scalePlacesSpec.pre enc Tryz.prog Tryz.f3 [] false w args ∧ laidMetH Tryz.prog Rows.scalePlacesRow.laid w) ∧ sizedMet enc Tryz.prog Tryz.f3 (OpenSpec.ofChange Rows.scalePlacesSpec) false w args)
      (Rows.scalePlacesSpec.post enc Tryz.prog Tryz.f3 false true false false) := by
  refine returns_shaped (C := Tryz.checked) (X := fun w _ => laidMetH Tryz.prog Rows.scalePlacesRow.laid w) (fun _ _ _ hh h => h.of_heap hh) own started (by kernel_rfl) Tryz.func3
    (witness os H enc) ?_
  intro W base args ds gs before hshape hval0 hW hsz0 hL
  have hval : ∀ (j : Nat) t v, Tryz.f3.params[j]? = some t → args[j]? = some v → Value.okWide Tryz.prog W .any base t v := hval0
  have hW' := hW
  obtain ⟨p, q, hA0, hV, rfl, hfz, hnd⟩ := hW
  have hA : DataW.TrodAll enc Tryz.prog W 0 (fun _ => true) true Tryz.f3.params.toList args.toList ds p := hA0
  rw [Tryz.params3] at hA hval
  obtain ⟨v0, vs0, d0, ds0, p0, q0, hargs, rfl, rfl, h0, r0⟩ := trodAll_cons hA
  obtain ⟨v1, vs1, d1, ds1, p1, q1, rfl, rfl, rfl, h1, r1⟩ := trodAll_cons r0
  obtain ⟨rfl, rfl, rfl⟩ := trodAll_nil r1
  obtain rfl : args = #[v0, v1] := by cases args; simp_all
  obtain ⟨rfl, rfl⟩ := trodVars_none hV
  have k0 := h0
  have k1 := h1
  have lt0 : ∀ x ∈ p0, x.block < W.heap.size := by obtain ⟨m, hm⟩ := k0; exact DataW.trod_lt m _ _ _ hm
  have lt1 : ∀ x ∈ p1, x.block < W.heap.size := by obtain ⟨m, hm⟩ := k1; exact DataW.trod_lt m _ _ _ hm
  obtain ⟨wd0, wd1⟩ := Ae.weights_two hsz0
  have one0 : v0.cells.toList = [v0] := by obtain ⟨_, rfl⟩ := okWide_string Tryz.underlying9 (hval 0 9 v0 rfl rfl); rfl
  have one1 : v1.cells.toList = [v1] := by obtain ⟨_, _, _, rfl⟩ := okWide_slice Tryz.underlying22 (hval 1 22 v1 rfl rfl); rfl
  obtain ⟨m0, hm0⟩ := h0
  obtain ⟨m1, hm1⟩ := h1
  rw [one0] at hm0
  rw [one1] at hm1
  have hG := holdsG hshape hL
  obtain ⟨hHG, hgG, hroG⟩ := Ae.relH_globs hG
  have I0 := Ae.imp_string (P := Tryz.prog) (W := W) Tryz.underlying9
  have I1 := Ae.imp_slice (W := W) (k := 0) (b := 16) Tryz.underlying22 (by kernel_rfl) (by kernel_rfl) (Ae.imp_string (W := W) Tryz.underlying9)
  obtain ⟨ρ1, H1, as0, x0, hH1, hle1, hro1, hk1, hv0, hR0⟩ := I0.imp enc _ _ _ _ _ _ hm0 wd0 hHG hroG
  obtain ⟨ρ2, H2, as1, x1, hH2, hle2, hro2, hk2, hv1, hR1⟩ := I1.imp enc _ _ _ _ _ _ hm1 wd1 hH1 hro1
  obtain rfl : as0 = [.string (Ae.strB x0)] := hR0
  obtain ⟨u1, rfl⟩ : ∃ u, as1 = [u] := by obtain ⟨v, _, h, _⟩ := hR1; exact ⟨v, h⟩
  obtain ⟨hs1, hl1⟩ := Ae.texts_of hR1
  have hk12 := hk1.after hk2
  have hcall := Ae.acalls_law hH2 (args := #[.string (Ae.strB x0), u1]) (cargs := #[v0, v1]) ((hv0.mono hle2).append hv1) hro2
    (Ae.places_calls hs1 (by unfold reachBytes at hl1; omega) (fun p hp => hk12.row0 (hgG p hp) (Ae.glob_lt p hp)) hk12.1)
  refine hcall.mono fun e W' ⟨he, bel, kept⟩ => ?_
  subst he
  have t0 : DataW.Trod enc Tryz.prog W' 0 (fun b => decide (b < W.heap.size)) true 9 v0 d0 p0 := DataW.Trod.of_heap (w := { W' with tape := W.tape }) (w' := W') rfl (Below.trod laidOut (by kernel_rfl) (of_decide_eq_true (by kernel_rfl)) k0 bel lt0)
  have t1 : DataW.Trod enc Tryz.prog W' 0 (fun b => decide (b < W.heap.size)) true 22 v1 d1 p1 := DataW.Trod.of_heap (w := { W' with tape := W.tape }) (w' := W') rfl (Below.trod laidOut (by kernel_rfl) (of_decide_eq_true (by kernel_rfl)) k1 bel lt1)
  exact ⟨_, rfl, _, _, _, [], _, [], hW', trodAll_mk1 (shut_bool Tryz.underlying4 _), trodAll_cons_mk t0 (trodAll_cons_mk t1 trodAll_mk0), rfl, kept _, fun h => by cases h⟩
theorem over : Rows.scalePlacesRow.holds Tryz.pinned (OpenSpec.ofChange Rows.scalePlacesSpec) :=
  OpenClaim.holds_of_wide 3 Tryz.f3 rfl rfl rfl rfl rfl rfl rfl ⟨rfl, rfl, rfl, rfl, rfl⟩ rfl rfl rfl rfl rfl (by kernel_rfl) Tryz.func3 joined
    (of_decide_eq_true (by kernel_rfl)) (by unfold Func.isWrapper; first | (rw [if_pos (by decide +kernel)]; kernel_rfl) | (rw [if_neg (by decide +kernel)]; exact ⟨rfl, rfl⟩))
    (fun os started H enc _ => lifted os started H enc)
end Go.Proofs.YtmibkoadjehdaaaGreatDoor.scalePlaces
namespace Go.Proofs.YtmibkoadjehdaaaGreatDoor
/-- The row. -/
theorem scalePlaces_row : Rows.ScalePlacesSaid := scalePlaces.over
end Go.Proofs.YtmibkoadjehdaaaGreatDoor
namespace Go.Proofs.YtmibkoadjehdaaaGreatDoor
set_option maxRecDepth 100000
theorem scalePlaces_holds : Rows.ScalePlacesCardSaid :=
  Claim7.holds_tied_plain_at .later [] [.data, .data, .data, .data, .sentinel, .sentinel, .data, .data, .data, .pinned] true (true, "653f9deed83ac69c75abfcafecd18475790b64580cfbba805c0469f100b29fd7") true
    scalePlaces_row (fun _ h => by cases h) (by kernel_rfl) (fun _ h => by cases h) scalePlaces_row_tie rfl ⟨rfl, rfl⟩ (by kernel_rfl) rfl
    (fun f fn hf hfn => by
      obtain rfl : f = 3 := Option.some.inj ((show Tryz.prog.funcNamed "eddy/eddylaw20.ScalePlaces" = some 3 by kernel_rfl).symm.trans hf) |>.symm
      obtain rfl : fn = Tryz.f3 := (Option.some.inj (Tryz.func3.symm.trans hfn)).symm
      exact ⟨by kernel_rfl, fun j t ht => by
        rw [Tryz.params3] at ht
        have h3 : t = 9 ∨ t = 22 := by
          rcases j with _ | _ | j
          · exact .inl (by simpa using ht.symm)
          · exact .inr (by simpa using ht.symm)
          · simp at ht
        rcases h3 with rfl | rfl
        · exact (show Tryz.prog.wantsStandIn 9 = false by kernel_rfl)
        · exact (show Tryz.prog.wantsStandIn 22 = false by kernel_rfl)⟩)
    (by kernel_rfl)
#print axioms scalePlaces_holds
end Go.Proofs.YtmibkoadjehdaaaGreatDoor

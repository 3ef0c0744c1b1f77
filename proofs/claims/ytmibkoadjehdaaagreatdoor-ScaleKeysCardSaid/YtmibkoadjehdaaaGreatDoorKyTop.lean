/- ScaleKeys: what is said of the program's statement. Conditions: those of the given statement alone. -/
import Derived.Test.YtmibkoadjehdaaaGreatDoorRows
import Derived.Test.YtmibkoadjehdaaaGreatDoorKy42
import Derived.Test.YtmibkoadjehdaaaGreatDoorKy46
import Derived.Test.YtmibkoadjehdaaaGreatDoorKy47
import Derived.Test.YtmibkoadjehdaaaGreatDoorKy15
import Derived.WalkKit
import Derived.ProofKit
import Derived.OpenShut
import Derived.ShutString
import Derived.ChangeOld
import Derived.Below
import Derived.SizedLaws
import Derived.LaidMore
import Derived.Stop.Joined
import Derived.Test.YtmibkoadjehdaaaGreatDoorCards
import Derived.Test.YtmibkoadjehdaaaGreatDoorTie
set_option linter.unusedVariables false
set_option linter.unusedSimpArgs false
namespace Go.Ae
open Go.Proofs
theorem keys_all {X : List UInt8 → List UInt8} (hX : PrOk X) (hLong : LongOk) {bs : List (List UInt8)} {z : Option Addr} {c : Nat} {e : TypeId} (hz : bs ≠ [] → z = some ⟨14, 0, none⟩) (hl : bs.length ≤ 8796093022000) {key : List UInt8} {H : AHeap} (hH : IsH (strV bs) e H) :
    ACalls Tryz.prog 6 #[.string (strB key), .slice z bs.length c] H fun v _ => v = .bool true := by
  by_cases hR : Ris bs
  · have hne : bs ≠ [] := fun h => by have := hR.1; rw [h] at this; simp at this
    rw [hz hne]
    by_cases hT : (textK bs).length ≤ 100
    · exact keys_ok hX hLong hl hH hR hT
    · exact keys_long hX hLong hl hH hR (by omega)
  · exact keys_bad hX hLong hz hl hH hR
theorem isH_start (bs : List (List UInt8)) (e : TypeId) : IsH (strV bs) e (heapG.push (.row ⟨strV bs, e, 0, false⟩)) := by
  refine ⟨rfl, by rw [AHeap.push_get]; exact if_pos rfl, fun p hp => ?_, fun j hj h14 => ?_⟩
  · have h1 := glob_lt p hp
    rw [AHeap.push_get, if_neg (show p.1 ≠ heapG.next by show p.1 ≠ 14; omega)]
    show (rowG p.1).map AObj.row = _
    rw [rowG_mem p hp]
    rfl
  · rw [AHeap.push_get, if_neg (show j ≠ heapG.next from h14)]
    show (rowG j).map AObj.row = none
    cases hr : rowG j with
    | none => rfl
    | some r =>
      obtain ⟨p, hp, h1, _⟩ := rowG_some hr
      exact absurd h1 (hj p hp)
end Go.Ae
namespace Go.Proofs.YtmibkoadjehdaaaGreatDoor.scaleKeys
open Go.ChangeShapes Go.WideShapes Go.ChangeAt Go.RowKit
set_option linter.unusedVariables false
/-- The world's shape beside what the statement names. -/
theorem returns_shaped {H : Type} {enc : TypeId × Value → H} {a : Assume} {C : Checked} {os : Os} {f : FuncId} {fn : Func} {s : ChangeSpec} {conds : List PathCond} {apart fresh handsOn again : Bool} {X : World → Array Value → Prop}
    (hX : ∀ (w w' : World) (args : Array Value), w.heap = w'.heap → X w args → X w' args) (own : ownKnob C.prog.godebug = Option.none) (started : os.Started) (noInit : C.prog.inits.idxOf? f = Option.none) (hfn : C.prog.funcs[f]? = some fn)
    (witness : ∃ (w : World) (tape : Tape) (i : Input), w.os = os ∧ (w.forCall tape i).Shaped C.prog ∧ i.vars = [] ∧ Input.okWide C.prog (w.forCall tape i) .any w.heap.size f i ∧
      ((s.pre enc C.prog fn conds apart (w.forCall tape i).memory i.args ∧ X (w.forCall tape i).memory i.args) ∧ sizedMet enc C.prog fn (OpenSpec.ofChange s) apart (w.forCall tape i).memory i.args) ∧ a.holds C.prog (lone (Frame.enter C.prog f i.args .normal) [] (w.forCall tape i)))
    (contract : ∀ (W : World) (base : Nat) (args : Array Value) (ds gs : List (DataW H)) (before : List MemPlace), W.ShapedOpen C.prog →
      (∀ (j : Nat) t v, fn.params[j]? = some t → args[j]? = some v → Value.okWide C.prog W .any base t v) →
      DataW.Whole enc C.prog fn.params.toList s.vars apart W args.toList ds gs before →
      (DataW.weightsEach C.prog (fn.params.toList ++ s.plain.varTypes C.prog) (ds ++ gs)).all (· ≤ reachBytes) = true → X W args →
      Calls C.prog f args W fun e W' => ∃ v, e = .returned v ∧ s.post enc C.prog fn apart fresh handsOn again W args v W') :
    ReturnsInHanded a C os f .any (fun w args => (s.pre enc C.prog fn conds apart w args ∧ X w args) ∧ sizedMet enc C.prog fn (OpenSpec.ofChange s) apart w args) (s.post enc C.prog fn apart fresh handsOn again) := by
  refine returnsInHanded_of_calls own started noInit witness ?_
  intro w tape i _ hshape _ hok hpre hholds
  obtain ⟨_, _, _, fn', hfn', _, _, _, _, hval⟩ := hok
  have e : fn' = fn := Option.some.inj (hfn'.symm.trans hfn)
  subst e
  obtain ⟨⟨⟨ds, gs, before, hw, hc⟩, hx⟩, hz⟩ := hpre
  have hw' := DataW.Whole.of_heap (w' := w.forCall tape i) (by rfl) hw
  refine (contract (w.forCall tape i) w.heap.size i.args ds gs before hshape hval hw' (hz.weights hw) (hX _ _ _ (by rfl) hx)).mono fun e W' ⟨v, he, hp⟩ => ?_
  subst he
  exact ChangeSpec.post_blind hp
theorem plainL (W : World) : laidMetH Tryz.prog Rows.scaleKeysRow.laid W = laidMet Tryz.prog Rows.scaleKeysRow.laid W := MakeChecks.laidMetH_plain _ _ _ (by kernel_rfl)
theorem holdsG {W : World} (hshape : W.ShapedOpen Tryz.prog) (hL : laidMetH Tryz.prog Rows.scaleKeysRow.laid W) : ∀ p ∈ Ae.globs, Ae.HoldsG W p := by
  rw [plainL] at hL
  obtain ⟨lps, hLV, _, _⟩ := hL
  exact Ae.globs_hold hshape hLV (.tail _ (.tail _ (.tail _ (.tail _ (.tail _ (.tail _ (.tail _ (.head _)))))))) (.tail _ (.tail _ (.tail _ (.tail _ (.tail _ (.tail _ (.tail _ (.tail _ (.head _))))))))) (.tail _ (.tail _ (.tail _ (.tail _ (.tail _ (.tail _ (.head _))))))) (.tail _ (.tail _ (.head _))) (.tail _ (.tail _ (.tail _ (.tail _ (.tail _ (.tail _ (.tail _ (.tail _ (.tail _ (.head _)))))))))) (.tail _ (.tail _ (.tail _ (.head _)))) (.head _) (.tail _ (.head _))
theorem laidOut : laidOutB Tryz.prog = true := by kernel_rfl
theorem own : ownKnob Tryz.prog.godebug = Option.none := by kernel_rfl
set_option maxRecDepth 100000 in
theorem lifted {X : List UInt8 → List UInt8} (hX : Ae.PrOk X) (hLong : Ae.LongOk) (os : Os) (started : os.Started) (H : Type) (enc : TypeId × Value → H) :
    ReturnsInHanded {} Tryz.checked os 6 .any (fun w args => (Rows.scaleKeysSpec.pre enc Tryz.prog Tryz.f6 [] false w args ∧ laidMetH Tryz.prog Rows.scaleKeysRow.laid w) ∧ sizedMet enc Tryz.prog Tryz.f6 (OpenSpec.ofChange Rows.scaleKeysSpec) false w args)
      (Rows.scaleKeysSpec.post enc Tryz.prog Tryz.f6 false true false false) := by
  refine returns_shaped (C := Tryz.checked) (X := fun w _ => laidMetH Tryz.prog Rows.scaleKeysRow.laid w) (fun _ _ _ hh h => h.of_heap hh) own started (by kernel_rfl) Tryz.func6
    (witness os H enc) ?_
  intro W base args ds gs before hshape hval0 hW hsz0 hL
  have hval : ∀ (j : Nat) t v, Tryz.f6.params[j]? = some t → args[j]? = some v → Value.okWide Tryz.prog W .any base t v := hval0
  have hW' := hW
  obtain ⟨p, q, hA0, hV, rfl, hfz, hnd⟩ := hW
  have hA : DataW.TrodAll enc Tryz.prog W 0 (fun _ => true) true Tryz.f6.params.toList args.toList ds p := hA0
  rw [Tryz.params6] at hA hval
  obtain ⟨v0, vs0, d0, ds0, p0, q0, hargs, rfl, rfl, h0, r0⟩ := trodAll_cons hA
  obtain ⟨v1, vs1, d1, ds1, p1, q1, rfl, rfl, rfl, h1, r1⟩ := trodAll_cons r0
  obtain ⟨rfl, rfl, rfl⟩ := trodAll_nil r1
  obtain rfl : args = #[v0, v1] := by cases args; simp_all
  obtain ⟨rfl, rfl⟩ := trodVars_none hV
  have k0 := h0
  have k1 := h1
  have lt0 : ∀ x ∈ p0, x.block < W.heap.size := by obtain ⟨m, hm⟩ := k0; exact DataW.trod_lt m _ _ _ hm
  have lt1 : ∀ x ∈ p1, x.block < W.heap.size := by obtain ⟨m, hm⟩ := k1; exact DataW.trod_lt m _ _ _ hm
  obtain ⟨wd0, wd1⟩ := Ae.weights_two hsz0
  have one0 : v0.cells.toList = [v0] := by obtain ⟨_, rfl⟩ := okWide_string Tryz.underlying9 (hval 0 9 v0 rfl rfl); rfl
  have one1 : v1.cells.toList = [v1] := by obtain ⟨_, _, _, rfl⟩ := okWide_slice Tryz.underlying22 (hval 1 22 v1 rfl rfl); rfl
  obtain ⟨m0, hm0⟩ := h0
  obtain ⟨m1, hm1⟩ := h1
  rw [one0] at hm0
  rw [one1] at hm1
  have hG := holdsG hshape hL
  obtain ⟨hHG, hgG, hroG⟩ := Ae.relH_globs hG
  obtain ⟨s0, hs0, _, _⟩ := DataW.trod_string Tryz.underlying9 hm0
  have hv0e : v0 = .string s0 := by simpa using hs0
  have hstr : Ae.strB s0.data.toList = s0 := by obtain ⟨⟨l⟩⟩ := s0; rfl
  obtain ⟨ρ2, bs, z, c, e', hH2, hle2, hro2, hv1, hl1, hz⟩ := Ae.imp_texts (b := 16) Tryz.underlying22 Tryz.underlying9 (by kernel_rfl) (by kernel_rfl) enc hm1 wd1 hHG hroG
  have hcall := Ae.acalls_law hH2 (args := #[.string (Ae.strB s0.data.toList), .slice z bs.length c]) (cargs := #[v0, v1]) (by rw [hstr, hv0e]; exact .cons (.string s0) hv1) hro2
    (Ae.keys_all hX hLong hz (by unfold reachBytes at hl1; omega) (Ae.isH_start bs e'))
  refine hcall.mono fun e W' ⟨he, bel, kept⟩ => ?_
  subst he
  have t0 : DataW.Trod enc Tryz.prog W' 0 (fun b => decide (b < W.heap.size)) true 9 v0 d0 p0 := DataW.Trod.of_heap (w := { W' with tape := W.tape }) (w' := W') rfl (Below.trod laidOut (by kernel_rfl) (of_decide_eq_true (by kernel_rfl)) k0 bel lt0)
  have t1 : DataW.Trod enc Tryz.prog W' 0 (fun b => decide (b < W.heap.size)) true 22 v1 d1 p1 := DataW.Trod.of_heap (w := { W' with tape := W.tape }) (w' := W') rfl (Below.trod laidOut (by kernel_rfl) (of_decide_eq_true (by kernel_rfl)) k1 bel lt1)
  exact ⟨_, rfl, _, _, _, [], _, [], hW', trodAll_mk1 (shut_bool Tryz.underlying4 _), trodAll_cons_mk t0 (trodAll_cons_mk t1 trodAll_mk0), rfl, kept _, fun h => by cases h⟩
theorem over {X : List UInt8 → List UInt8} (hX : Ae.PrOk X) (hLong : Ae.LongOk) : Rows.scaleKeysRow.holds Tryz.pinned (OpenSpec.ofChange Rows.scaleKeysSpec) :=
  OpenClaim.holds_of_wide 6 Tryz.f6 rfl rfl rfl rfl rfl rfl rfl ⟨rfl, rfl, rfl, rfl, rfl⟩ rfl rfl rfl rfl rfl (by kernel_rfl) Tryz.func6 joined
    (of_decide_eq_true (by kernel_rfl)) (by unfold Func.isWrapper; first | (rw [if_pos (by decide +kernel)]; kernel_rfl) | (rw [if_neg (by decide +kernel)]; exact ⟨rfl, rfl⟩))
    (fun os started H enc _ => lifted hX hLong os started H enc)
end Go.Proofs.YtmibkoadjehdaaaGreatDoor.scaleKeys
namespace Go.Proofs.YtmibkoadjehdaaaGreatDoor
/-- The row. -/
theorem scaleKeys_row {X : List UInt8 → List UInt8} (hX : Ae.PrOk X) (hLong : Ae.LongOk) : Rows.ScaleKeysSaid := scaleKeys.over hX hLong
end Go.Proofs.YtmibkoadjehdaaaGreatDoor
namespace Go.Proofs.YtmibkoadjehdaaaGreatDoor
set_option maxRecDepth 100000
theorem scaleKeys_holds : Rows.ScaleKeysCardSaid :=
  Claim7.holds_tied_plain_at .later [] [.data, .data, .data, .data, .sentinel, .sentinel, .data, .data, .data, .pinned] true (true, "653f9deed83ac69c75abfcafecd18475790b64580cfbba805c0469f100b29fd7") true
    (scaleKeys_row Ae.prOk Ae.longOk) (fun _ h => by cases h) (by kernel_rfl) (fun _ h => by cases h) scaleKeys_row_tie rfl ⟨rfl, rfl⟩ (by kernel_rfl) rfl
    (fun f fn hf hfn => by
      obtain rfl : f = 6 := Option.some.inj ((show Tryz.prog.funcNamed "eddy/eddylaw20.ScaleKeys" = some 6 by kernel_rfl).symm.trans hf) |>.symm
      obtain rfl : fn = Tryz.f6 := (Option.some.inj (Tryz.func6.symm.trans hfn)).symm
      exact ⟨by kernel_rfl, fun j t ht => by
        rw [Tryz.params6] at ht
        have h3 : t = 9 ∨ t = 22 := by
          rcases j with _ | _ | j
          · exact .inl (by simpa using ht.symm)
          · exact .inr (by simpa using ht.symm)
          · simp at ht
        rcases h3 with rfl | rfl
        · exact (show Tryz.prog.wantsStandIn 9 = false by kernel_rfl)
        · exact (show Tryz.prog.wantsStandIn 22 = false by kernel_rfl)⟩)
    (by kernel_rfl)
#print axioms scaleKeys_holds
end Go.Proofs.YtmibkoadjehdaaaGreatDoor

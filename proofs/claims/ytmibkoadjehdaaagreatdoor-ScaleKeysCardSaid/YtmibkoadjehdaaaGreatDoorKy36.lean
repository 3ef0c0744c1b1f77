/- The evaluator over this seat's program is sound. Closed runs whose answer is a value without an address. -/
import Derived.Test.YtmibkoadjehdaaaGreatDoorKy35
import Derived.Test.YtmibkoadjehdaaaGreatDoorKy22
import Derived.Test.YtmibkoadjehdaaaGreatDoorRows
import Derived.KernelRfl
import Derived.Test.YtmibkoadjehdaaaGreatDoorKy16
set_option linter.unusedVariables false
set_option linter.unusedSimpArgs false
namespace Go.Ae
open Go.Proofs Go.Proofs.YtmibkoadjehdaaaGreatDoor
set_option maxRecDepth 100000
/-- The functions in X are asked for. -/
noncomputable def cfgX (X : List FuncId) (Z : List (FuncId × List Tmp)) : Cfg := ⟨Tryz.prog, tbls, [86, 221], 156, X, Z⟩
noncomputable def cfg : Cfg := cfgX [] []
noncomputable def okX (f : FuncId) : Bool := match Tryz.prog.funcs[f]? with
  | some fn => !(fn.name == "runtime.NumGoroutine") && !fn.body.isNone
  | none => false
noncomputable def okAt (f : Nat) : Bool := match Tryz.prog.funcs[f]?, getB tbls f with
  | some fn, some tb => okF tb fn
  | _, _ => true
theorem size3 : Tryz.prog.funcs.size = 378 := by kernel_rfl
theorem okAll0 : (List.range' 0 100).all okAt = true := by kernel_rfl
theorem okAll1 : (List.range' 100 100).all okAt = true := by kernel_rfl
theorem okAll2 : (List.range' 200 100).all okAt = true := by kernel_rfl
theorem okAll3 : (List.range' 300 78).all okAt = true := by kernel_rfl
theorem okAt_all {f : Nat} (h : f < 378) : okAt f = true := by
  by_cases h1 : f < 100
  · exact List.all_eq_true.1 okAll0 f (by rw [List.mem_range'_1]; omega)
  · by_cases h2 : f < 200
    · exact List.all_eq_true.1 okAll1 f (by rw [List.mem_range'_1]; omega)
    · by_cases h3 : f < 300
      · exact List.all_eq_true.1 okAll2 f (by rw [List.mem_range'_1]; omega)
      · exact List.all_eq_true.1 okAll3 f (by rw [List.mem_range'_1]; omega)
theorem ne3 : isNoEscape Tryz.prog 156 = true := by kernel_rfl
theorem cfgXOk {X : List FuncId} {Z : List (FuncId × List Tmp)} (hX : X.all okX = true) : CfgOk (cfgX X Z) where
  mixed := follows3
  fn := fun f fn tb hf ht => by
    have hlt : f < 378 := by
      rw [← size3]
      exact (Array.getElem?_eq_some_iff.1 hf).1
    have h := okAt_all hlt
    have hf' : Tryz.prog.funcs[f]? = some fn := hf
    have ht' : getB tbls f = some tb := ht
    unfold okAt at h
    rw [hf', ht'] at h
    exact h
  noop := fun g hg => by
    have hg' : g = 86 ∨ g = 221 := by simpa [cfgX] using hg
    rcases hg' with rfl | rfl
    · exact noop86
    · exact noop221
  ne := ne3
  x := fun f hf => by
    have h := List.all_eq_true.1 hX f hf
    unfold okX at h
    split at h
    · rename_i fn hfn
      simp only [Bool.and_eq_true, Bool.not_eq_true'] at h
      exact ⟨fn, hfn, h.1, h.2⟩
    · cases h
theorem cfgOk : CfgOk cfg := cfgXOk rfl
/-! ### What the program begins with -/
def flatD : Nat → DataW Unit → List Value
  | _, .lit (.int k n) => [.int k n] | _, .lit (.bool b) => [.bool b] | _, .lit (.string l) => [.string ⟨l.toArray⟩] | _, .lit _ => [.nilIface]
  | n + 1, .agg l => l.flatMap (flatD n)
  | _, _ => [.nilIface]
def globs : List (Nat × Row) := [(0, ⟨[], 259, 0, false⟩), (1, ⟨[], 259, 0, false⟩), (2, ⟨[], 308, 0, false⟩), (3, ⟨flatD 5 Rows.laid_eddy_expr_signs, 330, 0, false⟩), (4, ⟨flatD 5 Rows.laid_eddy_shape_needs, 343, 0, false⟩), (5, ⟨flatD 5 Rows.laid_eddy_expr_words, 382, 0, false⟩),
  (6, ⟨flatD 5 Rows.laid_internal_strconv_uint64pow10, 388, 0, false⟩), (7, ⟨flatD 5 Rows.laid_unicode_utf8_first, 407, 0, false⟩), (8, ⟨flatD 5 Rows.laid_unicode_utf8_acceptRanges, 410, 0, false⟩), (9, ⟨flatD 5 Rows.laid_math_bits_deBruijn32tab, 417, 0, false⟩), (10, ⟨flatD 5 Rows.laid_math_bits_deBruijn64tab, 418, 0, false⟩),
  (11, ⟨[], 3, 0, false⟩), (12, ⟨[], 77, 0, false⟩), (13, ⟨[], 77, 0, false⟩)]
noncomputable def startK (l : List (Nat × Row)) : TO → (TO → Rs) → Rs := List.rec (motive := fun _ => TO → (TO → Rs) → Rs) (fun t K => K t) (fun p _ ih t K => setO t (.row p.2) p.1 fun t => ih t K) l
theorem startK_spec : ∀ (l : List (Nat × Row)) (t : TO) (K : TO → Rs), startK l t K = .bad ∨ ∃ t', startK l t K = K t' ∧ ∀ j, ((∀ p ∈ l, p.1 ≠ j) ∧ getO t' j = getO t j) ∨ ∃ p ∈ l, p.1 = j ∧ getO t' j = some (.row p.2)
  | [], t, K => .inr ⟨t, rfl, fun j => .inl ⟨by simp, rfl⟩⟩
  | p :: l, t, K => by
    have e : startK (p :: l) t K = setO t (.row p.2) p.1 fun t => startK l t K := rfl
    rw [e]
    rcases setO_spec t (.row p.2) p.1 (fun t => startK l t K) with e | ⟨t1, e, h1⟩
    · exact .inl e
    rw [e]
    rcases startK_spec l t1 K with e | ⟨t2, e, h2⟩
    · exact .inl e
    refine .inr ⟨t2, e, fun j => ?_⟩
    rcases h2 j with ⟨hn, hj⟩ | ⟨q, hq, hj1, hj2⟩
    · rw [h1 j] at hj
      by_cases hp : j = p.1
      · rw [if_pos hp] at hj
        exact .inr ⟨p, by simp, hp.symm, hj⟩
      · rw [if_neg hp] at hj
        refine .inl ⟨fun q hq => ?_, hj⟩
        rcases List.mem_cons.1 hq with rfl | hq
        · exact fun h => hp h.symm
        · exact hn q hq
    · exact .inr ⟨q, List.mem_cons_of_mem _ hq, hj1, hj2⟩
noncomputable def isTrueK (v : Value) (h : CH) : Rs := boolK v fun b => ifB b (.ok .normal .e [] h none)
noncomputable def okR (r : Rs) : Bool := Rs.rec (motive := fun _ => Bool) false (fun _ _ _ _ _ => true) (fun _ _ _ _ _ => false) (fun _ _ _ => false) (fun _ _ _ _ => false) r
theorem okR_ok {r : Rs} (hr : okR r = true) : ∃ e fr df h y, r = .ok e fr df h y := by
  cases r with
  | ok e fr df h y => exact ⟨e, fr, df, h, y, rfl⟩
  | _ => cases hr
noncomputable def runB (f : FuncId) (n : Nat) : Bool := okR (startK globs .e fun t => funcE cfg n noY f [] ⟨t, 14⟩ isTrueK)
theorem simple_globs : globs.all (fun p => p.2.cells.all simpleV) = true := by kernel_rfl
/-- A run that ends in true. -/
theorem runB_calls {f : FuncId} {n : Nat} (h : runB f n = true) : ∃ H0 : AHeap, H0.next = 14 ∧ (∀ j, ((∀ p ∈ globs, p.1 ≠ j) ∧ H0.get j = none) ∨ ∃ p ∈ globs, p.1 = j ∧ H0.get j = some (.row p.2)) ∧ ACalls Tryz.prog f #[] H0 fun v _ => v = .bool true := by
  unfold runB at h
  rcases startK_spec globs .e (fun t => funcE cfg n noY f [] ⟨t, 14⟩ isTrueK) with e | ⟨t, e, ht⟩
  · rw [e] at h; cases h
  rw [e] at h
  obtain ⟨e1, fr1, df1, h1, y1, hr⟩ := okR_ok h
  obtain ⟨_, v, h', hA, hv⟩ := funcE_ok cfgOk n noY (fun _ _ _ _ _ h => by cases h) f [] ⟨t, 14⟩ isTrueK _ (Res.of hr)
  have hv' : v = .bool true := by
    unfold isTrueK at hv
    rcases boolK_spec v (fun b => ifB b (.ok .normal .e [] h' none)) with e1 | ⟨b, rfl, e1⟩
    · rw [e1] at hv; cases hv
    · rw [e1] at hv
      rw [(ifB_ok hv).1]
  subst hv'
  exact ⟨toH ⟨t, 14⟩, rfl, fun j => ht j, hA.mono fun v H' ⟨e, _⟩ => e⟩
/-! ### A heap that holds more -/
theorem RelH.same {P : Program} {ρ : Ren} {H : AHeap} {w w' : World} (hH : RelH P ρ H w) (hs : w.heap.size ≤ w'.heap.size) (h : ∀ b, b < w.heap.size → w'.heap[b]? = w.heap[b]?) : RelH P ρ H w' where
  wf := hH.wf
  dom := fun i v s hr => ⟨(hH.dom i v s hr).1, Nat.lt_of_lt_of_le (hH.dom i v s hr).2 hs⟩
  apart := hH.apart
  row := fun i r hg s hr => (hH.row i r hg s hr).mono (Ren.le_refl ρ) (h _ (hH.dom i _ s hr).2)
  obj := fun i o hg ho s hr => (hH.obj i o hg ho s hr).mono (Ren.le_refl ρ) (h _ (hH.dom i _ s hr).2)
  future := hH.future
  glob := hH.glob
theorem closed_calls {f : FuncId} {n : Nat} (hb : runB f n = true) {H : AHeap} (hg : ∀ p ∈ globs, H.get p.1 = some (.row p.2)) : ACalls Tryz.prog f #[] H fun v H' => v = .bool true ∧ H' = H := by
  obtain ⟨H0, hn0, hget, hcall⟩ := runB_calls hb
  intro ρ w cargs hH hargs
  have hkeys : ∀ g, g < 14 → ∃ p ∈ globs, p.1 = g := by
    intro g hg
    have : globs.map (·.1) = [0, 1, 2, 3, 4, 5, 6, 7, 8, 9, 10, 11, 12, 13] := rfl
    have hm : g ∈ globs.map (·.1) := by rw [this]; simp; omega
    obtain ⟨p, hp, e⟩ := List.mem_map.1 hm
    exact ⟨p, hp, e⟩
  have hlow : ∀ p ∈ globs, p.1 < 14 := by
    intro p hp
    have : globs.map (·.1) = [0, 1, 2, 3, 4, 5, 6, 7, 8, 9, 10, 11, 12, 13] := rfl
    have hm : p.1 ∈ globs.map (·.1) := List.mem_map.2 ⟨p, hp, rfl⟩
    rw [this] at hm
    simp at hm
    omega
  have hver : ∀ p ∈ globs, p.2.ver = 0 ∧ p.2.rw = false := by
    have : globs.all (fun p => p.2.ver == 0 && !p.2.rw) = true := rfl
    intro p hp
    have := List.all_eq_true.1 this p hp
    simpa using this
  have hsimple : ∀ p ∈ globs, p.2.cells.all simpleV = true := fun p hp => List.all_eq_true.1 simple_globs p hp
  have hget0 : ∀ g, g < 14 → ∃ p ∈ globs, p.1 = g ∧ H0.get g = some (.row p.2) := by
    intro g hg
    rcases hget g with ⟨hn, _⟩ | h
    · obtain ⟨p, hp, e⟩ := hkeys g hg
      exact absurd e (hn p hp)
    · exact h
  have hbig : ∀ g, 14 ≤ g → H0.get g = none := by
    intro g hg
    rcases hget g with ⟨_, h⟩ | ⟨p, hp, e, _⟩
    · exact h
    · have := hlow p hp; omega
  have hgG : (14 : Nat) = globN := rfl
  -- names below 14 stand for the blocks of the same numbers
  have hname : ∀ i v s, i < 14 → ρ i v = some s → v = 0 ∧ s.blk = i := by
    intro i v s hi hr
    obtain ⟨p, hp, rfl, _⟩ := hget0 i hi
    have hv : v = 0 := by
      by_cases h0 : v = 0
      · exact h0
      · have := hH.future p.1 p.2 v (hg p hp) (by rw [(hver p hp).1]; omega)
        rw [this] at hr; cases hr
    subst hv
    obtain ⟨s', h1, h2, _⟩ := hH.glob p.1 (by rw [← hgG]; exact hi)
    rw [h1] at hr
    obtain rfl := Option.some.inj hr
    exact ⟨rfl, h2⟩
  let ρc : Ren := fun i v => if i < 14 then ρ i v else none
  have hc : ∀ {i v s}, ρc i v = some s → i < 14 ∧ ρ i v = some s := by
    intro i v s h
    have h' : (if i < 14 then ρ i v else none) = some s := h
    split at h'
    · exact ⟨‹_›, h'⟩
    · cases h'
  have hR : RelH Tryz.prog ρc H0 w := by
    refine ⟨fun i hi => hbig i (by rw [hn0] at hi; exact hi), fun i v s h => ⟨by rw [hn0]; exact (hc h).1, (hH.dom i v s (hc h).2).2⟩, fun i j u v s t h1 h2 he => .inl ?_, fun i r hr s h => ?_, fun i o ho hne s h => ?_, fun i r v hr hv => ?_, fun g hgl => ?_⟩
    · have a := (hname i u s (hc h1).1 (hc h1).2).2
      have b := (hname j v t (hc h2).1 (hc h2).2).2
      omega
    · obtain ⟨p, hp, e, h0⟩ := hget0 i (hc h).1
      rw [hr] at h0
      obtain rfl : r = p.2 := by simpa using h0
      subst e
      obtain ⟨a1, a2, a3, c, fz, a4, a5, a6, a7, a8⟩ := hH.row p.1 p.2 (hg p hp) s (hc h).2
      refine ⟨a1, a2, a3, c, fz, a4, a5, a6, fun i x hi hx => ?_, a8⟩
      obtain ⟨y, hy, hv⟩ := a7 i x hi hx
      have hsx := List.all_eq_true.1 (hsimple p hp) x (List.mem_of_getElem? hx)
      have hyx := VR.simple_eq hsx hv
      subst hyx
      exact ⟨_, hy, VR.of_simple hsx⟩
    · exfalso
      by_cases hi : i < 14
      · obtain ⟨p, hp, e, h0⟩ := hget0 i hi
        rw [ho] at h0
        obtain rfl := Option.some.inj h0
        cases hne
      · rw [hbig i (by omega)] at ho; cases ho
    · by_cases hi : i < 14
      · obtain ⟨p, hp, e, h0⟩ := hget0 i hi
        rw [hr] at h0
        obtain rfl : r = p.2 := by simpa using h0
        subst e
        show (if p.1 < 14 then ρ p.1 v else none) = none
        rw [if_pos hi]
        exact hH.future p.1 p.2 v (hg p hp) hv
      · show (if i < 14 then ρ i v else none) = none
        rw [if_neg hi]
    · obtain ⟨s, h1, h2⟩ := hH.glob g hgl
      refine ⟨s, ?_, h2⟩
      show (if g < 14 then ρ g 0 else none) = some s
      rw [if_pos (by rw [hgG]; exact hgl)]
      exact h1
  have hargs' : VRs ρc (#[] : Array Value).toList cargs.toList := by
    have h0 : cargs.toList = [] := by
      have := hargs.length
      exact List.eq_nil_of_length_eq_zero this.symm
    rw [h0]
    exact .nil
  refine (hcall ρc w cargs hR hargs').mono fun e w' ⟨v, cv, ρ', H', he, hq, hv, hr', hx⟩ => ?_
  subst hq
  have hcv : cv = .bool true := by cases hv; rfl
  subst hcv
  have same : ∀ b, b < w.heap.size → w'.heap[b]? = w.heap[b]? := by
    intro b hb
    by_cases hex : ∃ i v s, ρc i v = some s ∧ s.blk = b
    · obtain ⟨i, v, s, hs, rfl⟩ := hex
      obtain ⟨p, hp, e, h0⟩ := hget0 i (hc hs).1
      exact (hx.ro i p.2 (by rw [hn0]; exact (hc hs).1) h0 (hver p hp).2).2 v s hs
    · exact hx.frame b hb fun i v s hs he => hex ⟨i, v, s, hs, he⟩
  exact ⟨.bool true, .bool true, ρ, H, he, ⟨rfl, rfl⟩, .bool _, hH.same hx.size same, ⟨Ren.le_refl ρ, hx.size, Nat.le_refl _, fun b hb _ => same b hb, fun i v s h => .inl ⟨i, v, s, h, rfl⟩, fun _ _ h => ⟨rfl, h⟩, fun i r _ h _ => ⟨h, fun v s hs => same _ (hH.dom i v s hs).2⟩, hx.os, hx.out⟩⟩
end Go.Ae
namespace Go.Ae
open Go.Proofs Go.Proofs.YtmibkoadjehdaaaGreatDoor
set_option maxRecDepth 100000
noncomputable def runV (f : FuncId) (args : List Value) (n : Nat) : Option Value :=
  Rs.rec (motive := fun _ => Option Value) none (fun _ fr _ _ _ => getV fr 0) (fun _ _ _ _ _ => none) (fun _ _ _ => none) (fun _ _ _ _ => none) (startK globs .e fun t => funcE cfg n noY f args ⟨t, 14⟩ fun v h => .ok .normal (.n .e (some v) .e) [] h none)
theorem runV_calls {f : FuncId} {n : Nat} {args : List Value} {v0 : Value} (h : runV f args n = some v0) : ∃ H0 : AHeap, H0.next = 14 ∧ (∀ j, ((∀ p ∈ globs, p.1 ≠ j) ∧ H0.get j = none) ∨ ∃ p ∈ globs, p.1 = j ∧ H0.get j = some (.row p.2)) ∧ ACalls Tryz.prog f args.toArray H0 fun v _ => v = v0 := by
  unfold runV at h
  rcases startK_spec globs .e (fun t => funcE cfg n noY f args ⟨t, 14⟩ fun v h => .ok .normal (.n .e (some v) .e) [] h none) with e | ⟨t, e, ht⟩
  · rw [e] at h; cases h
  rw [e] at h
  cases hq : funcE cfg n noY f args ⟨t, 14⟩ fun v h => .ok .normal (.n .e (some v) .e) [] h none with
  | bad => rw [hq] at h; cases h
  | ask f' a' h' k' => rw [hq] at h; cases h
  | cas v' k' => rw [hq] at h; cases h
  | eqv v1 v2 r' => rw [hq] at h; cases h
  | ok e1 fr1 df1 h1 y1 =>
    rw [hq] at h
    have h2 : getV fr1 0 = some v0 := h
    obtain ⟨_, v, h', hA, hv⟩ := funcE_ok cfgOk n noY (fun _ _ _ _ _ h => by cases h) f args ⟨t, 14⟩ (fun v h => .ok .normal (.n .e (some v) .e) [] h none) _ (Res.of hq)
    obtain ⟨_, rfl, _, _, _⟩ := Res.inj hv
    rw [getV_zero] at h2
    obtain rfl := Option.some.inj h2
    exact ⟨toH ⟨t, 14⟩, rfl, fun j => ht j, hA.mono fun v H' ⟨e, _⟩ => e⟩
theorem flat_of_simple {v : Value} (h : simpleV v = true) : flatV v = true := by
  cases v <;> first | exact h | (simp [simpleV] at h)
/-- From the heap of the globals alone to each that holds them. -/
theorem closed_of2 {f : FuncId} {args : List Value} {v0 : Value} (hb : ∃ H0 : AHeap, H0.next = 14 ∧ (∀ j, ((∀ p ∈ globs, p.1 ≠ j) ∧ H0.get j = none) ∨ ∃ p ∈ globs, p.1 = j ∧ H0.get j = some (.row p.2)) ∧ ACalls Tryz.prog f args.toArray H0 fun v _ => v = v0) (ha : args.all flatV = true) (hv0 : flat2V v0 = true) {H : AHeap} (hg : ∀ p ∈ globs, H.get p.1 = some (.row p.2)) : ACalls Tryz.prog f args.toArray H fun v H' => v = v0 ∧ H' = H := by
  obtain ⟨H0, hn0, hget, hcall⟩ := hb
  intro ρ w cargs hH hargs
  have hkeys : ∀ g, g < 14 → ∃ p ∈ globs, p.1 = g := by
    intro g hg
    have : globs.map (·.1) = [0, 1, 2, 3, 4, 5, 6, 7, 8, 9, 10, 11, 12, 13] := rfl
    have hm : g ∈ globs.map (·.1) := by rw [this]; simp; omega
    obtain ⟨p, hp, e⟩ := List.mem_map.1 hm
    exact ⟨p, hp, e⟩
  have hlow : ∀ p ∈ globs, p.1 < 14 := by
    intro p hp
    have : globs.map (·.1) = [0, 1, 2, 3, 4, 5, 6, 7, 8, 9, 10, 11, 12, 13] := rfl
    have hm : p.1 ∈ globs.map (·.1) := List.mem_map.2 ⟨p, hp, rfl⟩
    rw [this] at hm
    simp at hm
    omega
  have hver : ∀ p ∈ globs, p.2.ver = 0 ∧ p.2.rw = false := by
    have : globs.all (fun p => p.2.ver == 0 && !p.2.rw) = true := rfl
    intro p hp
    have := List.all_eq_true.1 this p hp
    simpa using this
  have hsimple : ∀ p ∈ globs, p.2.cells.all simpleV = true := fun p hp => List.all_eq_true.1 simple_globs p hp
  have hget0 : ∀ g, g < 14 → ∃ p ∈ globs, p.1 = g ∧ H0.get g = some (.row p.2) := by
    intro g hg
    rcases hget g with ⟨hn, _⟩ | h
    · obtain ⟨p, hp, e⟩ := hkeys g hg
      exact absurd e (hn p hp)
    · exact h
  have hbig : ∀ g, 14 ≤ g → H0.get g = none := by
    intro g hg
    rcases hget g with ⟨_, h⟩ | ⟨p, hp, e, _⟩
    · exact h
    · have := hlow p hp; omega
  have hgG : (14 : Nat) = globN := rfl
  -- names below 14 stand for the blocks of the same numbers
  have hname : ∀ i v s, i < 14 → ρ i v = some s → v = 0 ∧ s.blk = i := by
    intro i v s hi hr
    obtain ⟨p, hp, rfl, _⟩ := hget0 i hi
    have hv : v = 0 := by
      by_cases h0 : v = 0
      · exact h0
      · have := hH.future p.1 p.2 v (hg p hp) (by rw [(hver p hp).1]; omega)
        rw [this] at hr; cases hr
    subst hv
    obtain ⟨s', h1, h2, _⟩ := hH.glob p.1 (by rw [← hgG]; exact hi)
    rw [h1] at hr
    obtain rfl := Option.some.inj hr
    exact ⟨rfl, h2⟩
  let ρc : Ren := fun i v => if i < 14 then ρ i v else none
  have hc : ∀ {i v s}, ρc i v = some s → i < 14 ∧ ρ i v = some s := by
    intro i v s h
    have h' : (if i < 14 then ρ i v else none) = some s := h
    split at h'
    · exact ⟨‹_›, h'⟩
    · cases h'
  have hR : RelH Tryz.prog ρc H0 w := by
    refine ⟨fun i hi => hbig i (by rw [hn0] at hi; exact hi), fun i v s h => ⟨by rw [hn0]; exact (hc h).1, (hH.dom i v s (hc h).2).2⟩, fun i j u v s t h1 h2 he => .inl ?_, fun i r hr s h => ?_, fun i o ho hne s h => ?_, fun i r v hr hv => ?_, fun g hgl => ?_⟩
    · have a := (hname i u s (hc h1).1 (hc h1).2).2
      have b := (hname j v t (hc h2).1 (hc h2).2).2
      omega
    · obtain ⟨p, hp, e, h0⟩ := hget0 i (hc h).1
      rw [hr] at h0
      obtain rfl : r = p.2 := by simpa using h0
      subst e
      obtain ⟨a1, a2, a3, c, fz, a4, a5, a6, a7, a8⟩ := hH.row p.1 p.2 (hg p hp) s (hc h).2
      refine ⟨a1, a2, a3, c, fz, a4, a5, a6, fun i x hi hx => ?_, a8⟩
      obtain ⟨y, hy, hv⟩ := a7 i x hi hx
      have hsx := List.all_eq_true.1 (hsimple p hp) x (List.mem_of_getElem? hx)
      have hyx := VR.simple_eq hsx hv
      subst hyx
      exact ⟨_, hy, VR.of_simple hsx⟩
    · exfalso
      by_cases hi : i < 14
      · obtain ⟨p, hp, e, h0⟩ := hget0 i hi
        rw [ho] at h0
        obtain rfl := Option.some.inj h0
        cases hne
      · rw [hbig i (by omega)] at ho; cases ho
    · by_cases hi : i < 14
      · obtain ⟨p, hp, e, h0⟩ := hget0 i hi
        rw [hr] at h0
        obtain rfl : r = p.2 := by simpa using h0
        subst e
        show (if p.1 < 14 then ρ p.1 v else none) = none
        rw [if_pos hi]
        exact hH.future p.1 p.2 v (hg p hp) hv
      · show (if i < 14 then ρ i v else none) = none
        rw [if_neg hi]
    · obtain ⟨s, h1, h2⟩ := hH.glob g hgl
      refine ⟨s, ?_, h2⟩
      show (if g < 14 then ρ g 0 else none) = some s
      rw [if_pos (by rw [hgG]; exact hgl)]
      exact h1
  have hargs' : VRs ρc args.toArray.toList cargs.toList := by
    have key : ∀ (l : List Value) (m : List Value), l.all flatV = true → VRs ρ l m → VRs ρc l m := by
      intro l
      induction l with
      | nil => intro m _ h; cases h; exact .nil
      | cons x l ih =>
        intro m hs h
        cases h with | cons h1 h2 =>
        simp only [List.all_cons, Bool.and_eq_true] at hs
        have := VR.flat_eq hs.1 h1
        subst this
        exact .cons (VR.of_flat hs.1) (ih _ hs.2 h2)
    exact key _ _ (by simpa using ha) hargs
  refine (hcall ρc w cargs hR hargs').mono fun e w' ⟨v, cv, ρ', H', he, hq, hv, hr', hx⟩ => ?_
  subst hq
  have hcv : cv = v := VR.flat2_eq hv0 hv
  subst hcv
  have same : ∀ b, b < w.heap.size → w'.heap[b]? = w.heap[b]? := by
    intro b hb
    by_cases hex : ∃ i v s, ρc i v = some s ∧ s.blk = b
    · obtain ⟨i, v, s, hs, rfl⟩ := hex
      obtain ⟨p, hp, e, h0⟩ := hget0 i (hc hs).1
      exact (hx.ro i p.2 (by rw [hn0]; exact (hc hs).1) h0 (hver p hp).2).2 v s hs
    · exact hx.frame b hb fun i v s hs he => hex ⟨i, v, s, hs, he⟩
  exact ⟨cv, cv, ρ, H, he, ⟨rfl, rfl⟩, VR.of_flat2 hv0, hH.same hx.size same, ⟨Ren.le_refl ρ, hx.size, Nat.le_refl _, fun b hb _ => same b hb, fun i v s h => .inl ⟨i, v, s, h, rfl⟩, fun _ _ h => ⟨rfl, h⟩, fun i r _ h _ => ⟨h, fun v s hs => same _ (hH.dom i v s hs).2⟩, hx.os, hx.out⟩⟩
theorem flat2_of {v : Value} (h : flatV v = true) : flat2V v = true := by
  cases v with
  | tuple cs =>
    refine Array.all_eq_true_iff_forall_mem.2 fun x hx => flat_of_simple (Array.all_eq_true_iff_forall_mem.1 h x hx)
  | _ => exact h
theorem closed_of {f : FuncId} {args : List Value} {v0 : Value} (hb : ∃ H0 : AHeap, H0.next = 14 ∧ (∀ j, ((∀ p ∈ globs, p.1 ≠ j) ∧ H0.get j = none) ∨ ∃ p ∈ globs, p.1 = j ∧ H0.get j = some (.row p.2)) ∧ ACalls Tryz.prog f args.toArray H0 fun v _ => v = v0) (ha : args.all flatV = true) (hv0 : flatV v0 = true) {H : AHeap} (hg : ∀ p ∈ globs, H.get p.1 = some (.row p.2)) : ACalls Tryz.prog f args.toArray H fun v H' => v = v0 ∧ H' = H :=
  closed_of2 hb ha (flat2_of hv0) hg
theorem closed_v {f : FuncId} {n : Nat} {args : List Value} {v0 : Value} (hb : runV f args n = some v0) (ha : args.all simpleV = true) (hv0 : flatV v0 = true) {H : AHeap} (hg : ∀ p ∈ globs, H.get p.1 = some (.row p.2)) : ACalls Tryz.prog f args.toArray H fun v H' => v = v0 ∧ H' = H :=
  closed_of (runV_calls hb) (List.all_eq_true.2 fun x hx => flat_of_simple (List.all_eq_true.1 ha x hx)) hv0 hg
end Go.Ae

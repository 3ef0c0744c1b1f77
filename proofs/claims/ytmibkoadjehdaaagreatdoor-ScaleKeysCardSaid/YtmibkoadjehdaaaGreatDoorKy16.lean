/- What is new and spoken of no more is forgotten. Calls that are deferred and, where nothing panics, do nothing. -/
import Derived.Test.YtmibkoadjehdaaaGreatDoorKy13
import Derived.Below
import Derived.Test.YtmibkoadjehdaaaGreatDoorKy10
import Derived.Recover
import Derived.ScopeJumps
set_option linter.unusedVariables false
set_option linter.unusedSimpArgs false
namespace Go.Ae

theorem Ren.le.eq {ρ ρ' : Ren} (h : ρ.le ρ') {i v : Nat} {s t : Seg} (h1 : ρ i v = some s) (h2 : ρ' i v = some t) : s = t := by
  rw [h i v s h1] at h2
  exact Option.some.inj h2
theorem PR.back {ρ ρ' : Ren} (h : ρ.le ρ') {a b b' : Addr} (h1 : PR ρ a b) (h2 : PR ρ' a b') : PR ρ a b' := by
  obtain ⟨s, a1, a2, a3⟩ := h1
  obtain ⟨t, b1, b2, b3⟩ := h2
  obtain rfl := h.eq a1 b1
  exact ⟨s, a1, b2, b3⟩
theorem SR.back {ρ ρ' : Ren} (h : ρ.le ρ') {a b b' : Addr} {len cap c c' : Nat} (h1 : SR ρ a len cap b c) (h2 : SR ρ' a len cap b' c') : SR ρ a len cap b' c' := by
  rcases h2 with ⟨a1, a2, a3⟩ | ⟨a1, a2, a3⟩ | ⟨a1, s, a2, a3, a4, a5, a6⟩
  · refine .inl ⟨a1, a2, ?_⟩
    rcases a3 with a3 | ⟨s, a3, a4, a5, a6⟩
    · exact .inl a3
    · rcases h1 with ⟨_, _, b3 | ⟨t, b3, b4, b5, b6⟩⟩ | ⟨b1, _⟩ | ⟨b1, t, b2, b3, b4, b5, b6⟩
      · exact .inl b3
      · exact .inr ⟨t, b3, b4, b5, b6⟩
      · omega
      · obtain rfl := h.eq b2 a3
        exact .inr ⟨t, b2, a4, a5, a6⟩
  · rcases h1 with ⟨b0, _, b3 | ⟨t, b3, b4, b5, b6⟩⟩ | ⟨b1, b2, b3⟩ | ⟨b1, _⟩
    · exact .inl ⟨b0, by omega, .inl b3⟩
    · omega
    · exact .inr (.inl ⟨a1, a2, b3.back h a3⟩)
    · omega
  · rcases h1 with ⟨_, _, b3 | ⟨t, b3, b4, b5, b6⟩⟩ | ⟨b1, _⟩ | ⟨b1, t, b2, b3, b4, b5, b6⟩
    · omega
    · obtain rfl := h.eq b3 a2
      exact .inr (.inr ⟨a1, t, b3, a3, a4, a5, a6⟩)
    · omega
    · obtain rfl := h.eq b2 a2
      exact .inr (.inr ⟨a1, t, b2, a3, a4, a5, a6⟩)
theorem VR.back {ρ ρ' : Ren} (h : ρ.le ρ') {v v0 : Value} (h1 : VR ρ v v0) : ∀ {v' : Value}, VR ρ' v v' → VR ρ v v' := by
  have arr : ∀ {xs ys zs : Array Value}, xs.size = ys.size → (∀ (i : Nat) (x y : Value), xs[i]? = some x → ys[i]? = some y → ∀ {v' : Value}, VR ρ' x v' → VR ρ x v') → xs.size = zs.size → (∀ (i : Nat) (x y : Value), xs[i]? = some x → zs[i]? = some y → VR ρ' x y) →
      ∀ (i : Nat) (x y : Value), xs[i]? = some x → zs[i]? = some y → VR ρ x y := by
    intro xs ys zs e1 ih _ hz i x y hx hy
    have hi := (Array.getElem?_eq_some_iff.1 hx).1
    exact ih i x ys[i] hx (by simp) (hz i x y hx hy)
  induction h1 with
  | bool b => intro v' h2; cases h2; exact .bool b
  | int k n => intro v' h2; cases h2; exact .int k n
  | float k n => intro v' h2; cases h2; exact .float k n
  | complex k m n => intro v' h2; cases h2; exact .complex k m n
  | string s => intro v' h2; cases h2; exact .string s
  | nilptr => intro v' h2; cases h2; exact .nilptr
  | ptr hp => intro v' h2; cases h2 with | ptr hq => exact .ptr (hp.back h hq)
  | nilslice n c => intro v' h2; cases h2; exact .nilslice n c
  | slice hp => intro v' h2; cases h2 with | slice hq => exact .slice (hp.back h hq)
  | nilmap => intro v' h2; cases h2; exact .nilmap
  | map hp => intro v' h2; cases h2 with | map hq => obtain rfl := h.eq hp hq; exact .map hp
  | func fn hx _ hu _ ih1 ih2 => intro v' h2; cases h2 with | func _ a1 a2 a3 a4 => exact .func fn a1 (arr hx ih1 a1 a2) a3 (arr hu ih2 a3 a4)
  | yield hp => intro v' h2; cases h2 with | yield hq => obtain rfl := h.eq hp hq; exact .yield hp
  | nilFunc => intro v' h2; cases h2; exact .nilFunc
  | nilIface => intro v' h2; cases h2; exact .nilIface
  | iface t _ ih => intro v' h2; cases h2 with | iface _ hq => exact .iface t (ih hq)
  | agg hx _ ih => intro v' h2; cases h2 with | agg a1 a2 => exact .agg a1 (arr hx ih a1 a2)
  | tuple hx _ ih => intro v' h2; cases h2 with | tuple a1 a2 => exact .tuple a1 (arr hx ih a1 a2)
theorem VRs.back {ρ ρ' : Ren} (h : ρ.le ρ') : ∀ {xs ys zs : List Value}, VRs ρ xs ys → VRs ρ' xs zs → VRs ρ xs zs
  | _, _, _, .nil, .nil => .nil
  | _, _, _, .cons a1 a2, .cons b1 b2 => .cons (a1.back h b1) (VRs.back h a2 b2)
theorem RowOk.back {P : Program} {ρ ρ' : Ren} (h : ρ.le ρ') {r : Row} {s : Seg} {w w' : World} (h1 : RowOk P ρ r s w) (h2 : RowOk P ρ' r s w') : RowOk P ρ r s w' := by
  obtain ⟨a1, a2, a3, c, fz, a4, a5, a6, a7, a8⟩ := h1
  obtain ⟨b1, b2, b3, d, gz, b4, b5, b6, b7, b8⟩ := h2
  refine ⟨b1, b2, b3, d, gz, b4, b5, b6, fun i x hi hx => ?_, b8⟩
  obtain ⟨y, hy, hv⟩ := b7 i x hi hx
  obtain ⟨z, hz, hu⟩ := a7 i x hi hx
  exact ⟨y, hy, hu.back h hv⟩
theorem ObjOk.back {P : Program} {ρ ρ' : Ren} (h : ρ.le ρ') {o : AObj} {s : Seg} {w w' : World} (h1 : ObjOk P ρ o s w) (h2 : ObjOk P ρ' o s w') : ObjOk P ρ o s w' := by
  cases o with
  | row r => trivial
  | map es cl =>
    obtain ⟨es0, _, a2⟩ := h1
    obtain ⟨es1, b1, b2⟩ := h2
    refine ⟨es1, b1, ?_⟩
    have key : ∀ {xs ys zs : List MapEntry}, All2 (EntryR ρ) xs ys → All2 (EntryR ρ') xs zs → All2 (EntryR ρ) xs zs := by
      intro xs
      induction xs with
      | nil => intro ys zs h1 h2; cases h2; exact .nil
      | cons x xs ih =>
        intro ys zs h1 h2
        cases h1 with | cons c1 c2 =>
        cases h2 with | cons d1 d2 =>
        exact .cons ⟨c1.1.back h d1.1, c1.2.1.back h d1.2.1, d1.2.2⟩ (ih c2 d2)
    exact key a2 b2
  | iter b q => exact h2
  | loop ts k st pe =>
    obtain ⟨L, q, a1, a2, a3⟩ := h1
    obtain ⟨M, p, b1, b2, b3⟩ := h2
    exact ⟨M, p, b1, a2.back h b2, b3⟩
  | opq o => exact h2
/-- The rows that there were are as they were: the world holds them under their old names. -/
theorem RelH.forget {P : Program} {ρ ρ' : Ren} {H H' : AHeap} {w w' : World} (hH : RelH P ρ H w) (hH' : RelH P ρ' H' w') (hx : Ext ρ H w ρ' H' w') (hk : Keep No H H') : RelH P ρ H w' where
  wf := hH.wf
  dom := fun i v s h => ⟨(hH.dom i v s h).1, Nat.lt_of_lt_of_le (hH.dom i v s h).2 hx.size⟩
  apart := hH.apart
  row := fun i r hg s hr => (hH.row i r hg s hr).back hx.mono (hH'.row i r (hk.get0 hg (hH.dom i _ s hr).1) s (hx.mono i _ s hr))
  obj := fun i o hg ho s hr => (hH.obj i o hg ho s hr).back hx.mono (hH'.obj i o (hk.get0 hg (hH.dom i _ s hr).1) ho s (hx.mono i _ s hr))
  future := hH.future
  glob := hH.glob
theorem Ext.forget {P : Program} {ρ ρ' : Ren} {H H' : AHeap} {w w' : World} (hH : RelH P ρ H w) (hx : Ext ρ H w ρ' H' w') : Ext ρ H w ρ H w' where
  mono := Ren.le_refl ρ
  size := hx.size
  next := Nat.le_refl _
  frame := hx.frame
  fresh := fun i v s h => .inl ⟨i, v, s, h, rfl⟩
  phantom := fun _ _ h => ⟨rfl, h⟩
  ro := fun i r hi h hrw => ⟨h, (hx.ro i r hi h hrw).2⟩
  os := hx.os
  out := hx.out
theorem VR.flat_eq {ρ : Ren} {v v' : Value} (h : flatV v = true) (hv : VR ρ v v') : v' = v := by
  have arr : ∀ {xs ys : Array Value}, xs.all simpleV = true → xs.size = ys.size → (∀ (i : Nat) (x y : Value), xs[i]? = some x → ys[i]? = some y → VR ρ x y) → ys = xs := by
    intro xs ys ha hs hX
    apply Array.ext hs.symm
    intro i h1 h2
    exact VR.simple_eq (Array.all_eq_true_iff_forall_mem.1 ha _ (Array.getElem_mem h2)) (hX i _ _ (Array.getElem?_eq_getElem h2) (Array.getElem?_eq_getElem h1))
  cases hv with
  | agg h1 h2 => rw [arr h h1 h2]
  | tuple h1 h2 => rw [arr h h1 h2]
  | iface t h1 => rw [VR.simple_eq h h1]
  | _ => first | rfl | (simp [flatV, simpleV] at h)
/-- A call that leaves nothing behind but a value without an address. -/
theorem ACalls.forget {P : Program} {f : FuncId} {args : Array Value} {H : AHeap} {Q : Value → Prop} (h : ACalls P f args H fun v H' => Q v ∧ flatV v = true ∧ Keep No H H') : ACalls P f args H fun v H' => Q v ∧ H' = H :=
  fun ρ w cargs h1 h2 => (h ρ w cargs h1 h2).mono fun _ _ ⟨v, cv, ρ', H', a, ⟨b1, b2, b3⟩, c, d, e⟩ => ⟨v, cv, ρ, H, a, ⟨b1, rfl⟩, by
    have : cv = v := VR.flat_eq b2 c
    subst this
    exact VR.of_flat b2, h1.forget d e b3, Ext.forget h1 e⟩
/-- All that was is as it was, but for one row, which holds no address. -/
theorem RelH.forget1 {P : Program} {ρ ρ' : Ren} {H H' : AHeap} {w w' : World} {q : Nat} {r r' : Row} (hH : RelH P ρ H w) (hH' : RelH P ρ' H' w') (hx : Ext ρ H w ρ' H' w') (hk : Keep (fun i => i = q) H H') (hq : q < H.next) (hr : H.get q = some (.row r)) (hr' : H'.get q = some (.row r'))
    (hv : r'.ver = r.ver) (hrw : r.rw = true) (hrw' : r'.rw = true) (hs : r'.cells.all simpleV = true) : RelH P ρ (H.put q (.row r')) w' := by
  have hro : ∀ i, H.ro i → (H.put q (.row r')).ro i := fun i h => AHeap.ro_put hr hrw h
  refine ⟨fun i hi => ?_, fun i v s h => ⟨(hH.dom i v s h).1, Nat.lt_of_lt_of_le (hH.dom i v s h).2 hx.size⟩, fun i j u v s t h1 h2 he => ?_, fun i ri hg s h => ?_, fun i o hg ho s h => ?_, fun i ri v hg h => ?_, hH.glob⟩
  · rw [AHeap.put_next] at hi
    rw [AHeap.put_get, if_neg (by omega)]
    exact hH.wf i hi
  · exact (hH.apart i j u v s t h1 h2 he).imp id fun h => ⟨hro _ h.1, hro _ h.2⟩
  · rw [AHeap.put_get] at hg
    split at hg
    · rename_i e
      subst e
      simp only [Option.some.injEq, AObj.row.injEq] at hg
      subst hg
      obtain ⟨b1, b2, b3, d, gz, b4, b5, b6, b7, b8⟩ := hH'.row i r' hr' s (hx.mono i _ s h)
      refine ⟨b1, b2, b3, d, gz, b4, b5, b6, fun j x hj hjx => ?_, b8⟩
      obtain ⟨y, hy, hvr⟩ := b7 j x hj hjx
      have hsx := List.all_eq_true.1 hs x (List.mem_of_getElem? hjx)
      have := VR.simple_eq hsx hvr
      subst this
      exact ⟨_, hy, VR.of_simple hsx⟩
    · rename_i hne
      exact (hH.row i ri hg s h).back hx.mono (hH'.row i ri (hk.get hg (hH.dom i _ s h).1 hne) s (hx.mono i _ s h))
  · rw [AHeap.put_get] at hg
    split at hg
    · simp only [Option.some.injEq] at hg; subst hg; cases ho
    · rename_i hne
      exact (hH.obj i o hg ho s h).back hx.mono (hH'.obj i o (hk.get hg (hH.dom i _ s h).1 hne) ho s (hx.mono i _ s h))
  · rw [AHeap.put_get] at hg
    split at hg
    · rename_i e
      subst e
      simp only [Option.some.injEq, AObj.row.injEq] at hg
      subst hg
      exact hH.future i r v hr (by omega)
    · exact hH.future i ri v hg h
theorem Ext.forget1 {P : Program} {ρ ρ' : Ren} {H H' : AHeap} {w w' : World} {q : Nat} {r r' : Row} (hH : RelH P ρ H w) (hx : Ext ρ H w ρ' H' w') (hq : q < H.next) (hr : H.get q = some (.row r)) (hr' : H'.get q = some (.row r')) (hrw : r.rw = true) : Ext ρ H w ρ (H.put q (.row r')) w' where
  mono := Ren.le_refl ρ
  size := hx.size
  next := Nat.le_refl _
  frame := hx.frame
  fresh := fun i v s h => .inl ⟨i, v, s, h, rfl⟩
  phantom := fun i hi h => by
    refine ⟨?_, h⟩
    rw [AHeap.put_get]
    split
    · rename_i e
      subst e
      rw [← hr', (hx.phantom i hi h).1]
    · rfl
  ro := fun i ri hi h hrwi => by
    refine ⟨?_, (hx.ro i ri hi h hrwi).2⟩
    rw [AHeap.put_get, if_neg]
    · exact h
    · rintro rfl
      rw [hr] at h
      simp only [Option.some.injEq, AObj.row.injEq] at h
      subst h
      rw [hrw] at hrwi
      cases hrwi
  os := hx.os
  out := hx.out
/-- A call that leaves a value without an address, and one row written. -/
theorem ACalls.forget1 {P : Program} {f : FuncId} {args : Array Value} {H : AHeap} {q : Nat} {r : Row} {Q : Value → Row → Prop} (hq : q < H.next) (hr : H.get q = some (.row r)) (hrw : r.rw = true)
    (h : ACalls P f args H fun v H' => flatV v = true ∧ Keep (fun i => i = q) H H' ∧ ∃ r', Q v r' ∧ H'.get q = some (.row r') ∧ r'.ver = r.ver ∧ r'.rw = true ∧ r'.cells.all simpleV = true) :
    ACalls P f args H fun v H' => ∃ r', Q v r' ∧ H' = H.put q (.row r') :=
  fun ρ w cargs h1 h2 => (h ρ w cargs h1 h2).mono fun _ _ ⟨v, cv, ρ', H', a, ⟨b2, b3, r', b4, b5, b6, b7, b8⟩, c, d, e⟩ => ⟨v, cv, ρ, H.put q (.row r'), a, ⟨r', b4, rfl⟩, by
    have : cv = v := VR.flat_eq b2 c
    subst this
    exact VR.of_flat b2, h1.forget1 d e b3 hq hr b5 b6 hrw b7 b8, Ext.forget1 h1 e hq hr b5 hrw⟩
/-- A call of the model's own, that does nothing but answer a value without an address. -/
theorem ACalls.of_calls {P : Program} {f : FuncId} {args : List Value} {H : AHeap} {v : Value} (ha : args.all simpleV = true) (hv : flatV v = true) (h : ∀ (ρ : Ren) (w : World), RelH P ρ H w → Calls P f args.toArray w fun e w' => e = .returned v ∧ Go.RowKit.Below w.heap.size w w') :
    ACalls P f args.toArray H fun v' H' => v' = v ∧ H' = H := by
  intro ρ w cargs h1 h2
  have hc : cargs = args.toArray := by
    have key : ∀ (l m : List Value), l.all simpleV = true → VRs ρ l m → m = l := by
      intro l
      induction l with
      | nil => intro m _ h; cases h; rfl
      | cons x l ih =>
        intro m hs h
        cases h with | cons a1 a2 =>
        simp only [List.all_cons, Bool.and_eq_true] at hs
        rw [VR.simple_eq hs.1 a1, ih _ hs.2 a2]
    have := key args cargs.toList ha (by simpa using h2)
    rw [← this]
  subst hc
  refine (h ρ w h1).mono fun e w' ⟨he, hb⟩ => ?_
  have same : ∀ b, b < w.heap.size → w'.heap[b]? = w.heap[b]? := hb.block
  refine ⟨v, v, ρ, H, he, ⟨rfl, rfl⟩, VR.of_flat hv, ?_, ⟨Ren.le_refl ρ, hb.size, Nat.le_refl _, fun b hb' _ => same b hb', fun i v s h => .inl ⟨i, v, s, h, rfl⟩, fun _ _ h => ⟨rfl, h⟩, fun i r _ h _ => ⟨h, fun v s hs => same _ (h1.dom i v s hs).2⟩, hb.os, hb.output⟩⟩
  exact ⟨h1.wf, fun i v s hr => ⟨(h1.dom i v s hr).1, Nat.lt_of_lt_of_le (h1.dom i v s hr).2 hb.size⟩, h1.apart, fun i r hg s hr => (h1.row i r hg s hr).mono (Ren.le_refl ρ) (same _ (h1.dom i _ s hr).2), fun i o hg ho s hr => (h1.obj i o hg ho s hr).mono (Ren.le_refl ρ) (same _ (h1.dom i _ s hr).2), h1.future, h1.glob⟩
end Go.Ae
namespace Go.Ae

/-- What an operation defers. -/
def deferA (a : Act) (o : Oper) : Option Deferred :=
  match o.op with
  | .defer c => match c.callee with
    | .value f => match a.eval f with
      | .func fn first cap => some { target := .fn fn cap, args := first ++ c.args.map a.eval }
      | _ => none
    | _ => none
  | _ => none
def wpQ (P : Program) (ops : Array Oper) (K : Act → AHeap → Prop) : List Oper → Act → AHeap → Prop
  | [], a, H => K a H
  | o :: rest, a, H =>
    if Region.wanted o (yielded ops a.tmps) then match deferA a o with
      | some d => wpQ P ops K rest ({ a with defers := d :: a.defers }.put o.dst undef) H
      | none => step1 P a H o (fun v H' => wpQ P ops K rest (a.put o.dst v) H')
    else wpQ P ops K rest (a.put o.dst undef) H
theorem deferA_sim {P : Program} {ρ : Ren} {a b : Act} {o : Oper} {d : Deferred} (h : deferA a o = some d) (hv : ∀ x ∈ o.op.operands, VR ρ (a.eval x) (b.eval x)) (w : World) :
    ∃ d', (execOp b.eval o).run P w = .ok (.defer d') w ∧ DfR ρ d d' := by
  obtain ⟨dst, op, type, pos, after, guard⟩ := o
  unfold deferA at h
  split at h
  case h_2 => cases h
  rename_i c heq
  dsimp only at heq; subst heq
  split at h
  case h_2 => cases h
  rename_i f hc
  split at h
  case h_2 => cases h
  rename_i fn first cap hf
  obtain rfl := Option.some.inj h
  have hfv := hv f (by simp [Op.operands, Call.operands, hc])
  rw [hf] at hfv
  generalize hz : b.eval f = z at hfv
  cases hfv
  rename_i ys vs hx hX hu hU
  refine ⟨{ target := .fn fn vs, args := ys ++ c.args.map b.eval }, by simp [execOp, resolve, hc, hz, Deferred.ofValue], .inl ⟨fn, cap, vs, rfl, rfl, VRs.of_agg hu hU, ?_⟩⟩
  simp only [Array.toList_append, Array.toList_map]
  refine (VRs.of_agg hx hX).append (VRs.map _ fun x hx => hv x ?_)
  simp only [Op.operands, Call.operands, hc, Array.mem_append]
  exact .inr (by simpa using hx)
theorem wpQ_sim {P : Program} {ops : Array Oper} {K : Act → AHeap → Prop} {Q : Exit → Act → World → Prop} : ∀ (l : List Nat) (os : List Oper) (ρ : Ren) (a b : Act) (H : AHeap) (w : World),
    os.map some = l.map (ops[·]?) → (∀ o ∈ os, operandsOk o = true) → wpQ P ops K os a H → TR ρ a b → RelH P ρ H w →
    (∀ b' w', After P ρ H w K b' w' → Q .normal b' w') → wpOps P ops Q l b w
  | [], [], ρ, a, b, H, w, _, _, h, hT, hH, hQ => hQ b w ⟨a, H, ρ, h, hT, hH, ExtN.refl _ _ _ _⟩
  | [], _ :: _, _, _, _, _, _, he, _, _, _, _, _ => by simp at he
  | _ :: _, [], _, _, _, _, _, he, _, _, _, _, _ => by simp at he
  | i :: l, o :: os, ρ, a, b, H, w, he, hok, h, hT, hH, hQ => by
    simp only [List.map_cons, List.cons.injEq] at he
    obtain ⟨ho, he⟩ := he
    have hok' : ∀ o ∈ os, operandsOk o = true := fun o ho => hok o (by simp [ho])
    have next : ∀ v v' H' ρ' w', wpQ P ops K os (a.put o.dst v) H' → VR ρ' v v' → RelH P ρ' H' w' → Ext ρ H w ρ' H' w' → wpOps P ops Q l (b.put o.dst v') w' := fun v v' H' ρ' w' hs hvr hr hx =>
      wpQ_sim l os ρ' _ _ H' w' he hok' hs ((hT.mono hx.mono).put o.dst hvr) hr fun b' w'' ⟨a', H'', ρ'', h1, h2, h3, h4⟩ => hQ b' w'' ⟨a', H'', ρ'', h1, h2, h3, Ext.trans hx h4⟩
    simp only [wpOps, ← ho]
    simp only [wpQ] at h
    rw [hT.yielded ops] at h
    split at h
    · rename_i hw
      rw [if_pos hw]
      refine .inl ?_
      have hv := hT.operands (hok o (by simp))
      split at h
      · rename_i d hd
        obtain ⟨d', h1, h2⟩ := deferA_sim (P := P) hd hv w
        unfold Oper.wp
        rw [h1, Oper.upon_defer]
        have hT' : TR ρ { a with defers := d :: a.defers } { b with defers := d' :: b.defers } := ⟨hT.tmps, .cons h2 hT.defs, hT.glob⟩
        exact wpQ_sim l os ρ _ _ H w he hok' h (hT'.put o.dst (.tuple rfl (by simp))) hH fun b' w'' ⟨a', H'', ρ'', h1, h2, h3, h4⟩ => hQ b' w'' ⟨a', H'', ρ'', h1, h2, h3, h4⟩
      · unfold step1 at h
        split at h
        · exact eStep_sim h hH hv next
        · obtain ⟨v, H', hf, hk⟩ := nStep_fact h
          obtain ⟨v', ρ', w', h1, h2, h3, h4⟩ := nFact_sim hf hH hv
          unfold Oper.wp
          rw [h1, Oper.upon_value]
          exact next v v' H' ρ' w' hk h2 h3 h4
    · rename_i hw
      rw [if_neg hw]
      exact next undef undef H ρ w h (.tuple rfl (by simp)) hH (ExtN.refl _ _ _ _)
theorem aw_regionQ {P : Program} {Q : Exit → Act → AHeap → Prop} {a : Act} {H : AHeap} {id : Nat} {ops : Array Oper} (hok : ops.toList.all operandsOk = true) (h : wpQ P ops (fun a H => Q .normal a H) ops.toList a H) : aw P (.region id ops false) Q a H := by
  intro ρ b w hT hH
  refine wp_region (wpQ_sim (List.range ops.size) ops.toList ρ a b H w ?_ (fun o ho => List.all_eq_true.1 hok o ho) h hT hH fun b' w' ⟨a', H', ρ', q, r⟩ => ⟨a', H', ρ', q, r⟩)
  apply List.ext_getElem?
  intro i
  simp only [List.getElem?_map, Array.getElem?_toList]
  by_cases hi : i < ops.size
  · simp [hi]
  · simp [hi]

/-- A function that, called as a deferred one while nothing panics, does nothing. -/
def NoopD (P : Program) (g : FuncId) : Prop :=
  (∃ fn, P.funcs[g]? = some fn ∧ (fn.name == "runtime.NumGoroutine") = false ∧ fn.body.isNone = false) ∧
  ∀ (ρ : Ren) (H : AHeap) (w : World) (args cargs : Array Value), RelH P ρ H w → VRs ρ args.toList cargs.toList →
    CallsD P g cargs .returning w fun e u' w' => (∃ v, e = .returned v) ∧ u' = .returning ∧ ∃ ρ', RelH P ρ' H w' ∧ Ext ρ H w ρ' H w'
def DfIn (D : List FuncId) (d : Deferred) : Prop := ∃ g cap, d.target = .fn (.func g) cap ∧ g ∈ D
theorem leaves_noop {P : Program} {D : List FuncId} (hD : ∀ g ∈ D, NoopD P g) {fn : Func} {tmps : Array Value} {R : Ending → World → Prop} : ∀ {ds ds' : List Deferred} {ρ : Ren} {H : AHeap} {w : World},
    DfsR ρ ds ds' → (∀ d ∈ ds, DfIn D d) → RelH P ρ H w →
    (∀ ρ' w', RelH P ρ' H w' → Ext ρ H w ρ' H w' → ∃ v, (results fn tmps).run P w' = .ok v w' ∧ R (.returned v) w') → Leaves P fn tmps R ds' .returning w
  | _, _, ρ, H, w, All2.nil, _, hH, hR => hR ρ w hH (ExtN.refl _ _ _ _)
  | _, _, ρ, H, w, All2.cons (x := d) (y := d') h1 h2, hin, hH, hR => by
    obtain ⟨g, cap0, ht0, hg⟩ := hin d (by simp)
    obtain ⟨fnv, cap, cap', e1, e2, e3, e4⟩ : ∃ fn cap cap', d.target = .fn fn cap ∧ d'.target = .fn fn cap' ∧ VRs ρ cap.toList cap'.toList ∧ VRs ρ d.args.toList d'.args.toList := by
      rcases h1 with h1 | ⟨i, s, e, _⟩
      · exact h1
      · rw [ht0] at e; cases e
    rw [ht0] at e1
    simp only [Target.fn.injEq] at e1
    obtain ⟨rfl, rfl⟩ := e1
    obtain ⟨⟨fn', hf, hn, hb⟩, hcall⟩ := hD g hg
    have hn' : ¬ (fn'.name == "runtime.NumGoroutine") = true := by rw [hn]; decide
    have hb' : ¬ fn'.body.isNone = true := by rw [hb]; decide
    refine ⟨by simp, .func g, cap', g, d'.args ++ cap', e2, ?_, ?_⟩
    · rw [e2]
      simp only [invoke, callFunc, Sem.run_bind, run_program, Result.andThen_ok, hf, if_neg hn', if_neg hb', Sem.run_pure]
    · refine (hcall ρ H w (d.args ++ cap0) (d'.args ++ cap') hH (by simp only [Array.toList_append]; exact VRs.append e4 e3)).mono fun e u' w' ⟨⟨v, hv⟩, hu, ρ', hr, hx⟩ => ?_
      subst hv hu
      exact leaves_noop hD (DfsR.mono hx.mono h2) (fun d hd => hin d (by simp [hd])) hr fun ρ'' w'' hr' hx' => hR ρ'' w'' hr' (Ext.trans hx hx')

def bodyAD (P : Program) (D : List FuncId) (rs : List ResultVar) (Q : Value → AHeap → Prop) (e : Exit) (a : Act) (H : AHeap) : Prop :=
  (e = .normal ∨ e = .ret) ∧ (∀ d ∈ a.defers, DfIn D d) ∧ ∃ l, resL P a H rs = some l ∧ Q (retV l) H
theorem acalls_of_awD {P : Program} {D : List FuncId} (hD : ∀ g ∈ D, NoopD P g) {f : FuncId} {fn : Func} {c : Code} {args : Array Value} {H : AHeap} {Q : Value → AHeap → Prop} (hf : P.funcs[f]? = some fn) (hb : fn.body = some c)
    (h : aw P c (bodyAD P D fn.results.toList Q) { tmps := args ++ Array.replicate (fn.ntmps - args.size) undef, defers := [] } H) : ACalls P f args H Q := by
  intro ρ w cargs hH hargs
  have hsz : args.size = cargs.size := by simpa using hargs.length
  refine calls_of_wp_defers hf hb (wp_mono (h ρ { tmps := cargs ++ Array.replicate (fn.ntmps - cargs.size) undef, defers := [] } w ⟨?_, All2.nil, hH.glob⟩ hH) fun e b' w' ⟨a', H', ρ', ⟨he, hdf, l, hl, hq⟩, hT', hH', hx⟩ => ?_)
  · simp only [Array.toList_append, Array.toList_replicate, hsz]
    exact hargs.append (VRs.refl_undef _)
  · have hL : Leaves P fn b'.tmps (fun e w'' => ∃ v cv ρ' H', e = .returned cv ∧ Q v H' ∧ VR ρ' v cv ∧ RelH P ρ' H' w'' ∧ Ext ρ H w ρ' H' w'') b'.defers .returning w' := by
      refine leaves_noop hD hT'.defs hdf hH' fun ρ'' w'' hr hx' => ?_
      obtain ⟨l', h1, h2⟩ := resL_sim (hT'.mono hx'.mono) hr _ l hl
      have hres : (results fn b'.tmps).run P w'' = .ok (retV l') w'' := by
        have hfun : results fn b'.tmps = (do let vs ← fn.results.mapM (resOne b'); pure (if h : vs.size = 1 then vs[0] else .tuple vs)) := by
          unfold results
          congr 1
        rw [hfun, Array.mapM_eq_mapM_toList]
        simp only [Sem.run_bind, Sem.run_map, h2, Result.andThen_ok, Sem.run_pure]
        rw [retV_eq]
      exact ⟨_, hres, retV l, retV l', ρ'', H', rfl, hq, VR.retV h1, hr, Ext.trans hx hx'⟩
    rcases he with rfl | rfl
    · exact hL
    · exact hL
end Go.Ae
namespace Go.Ae
/-- Code within a scope, with at most n jumps. -/
def inScA (P : Program) (c : Code) (Q : Exit → Act → AHeap → Prop) : Nat → Code → Act → AHeap → Prop
  | 0, _, _, _ => False
  | n + 1, x, a, H => aw P x (fun e a H => match e with
      | .goto l => match findLabel c l with
        | some rest => inScA P c Q n rest a H
        | none => False
      | e => Q e a H) a H
theorem inScA_sim {P : Program} {c : Code} {Q : Exit → Act → AHeap → Prop} : ∀ (n : Nat) (x : Code) (ρ : Ren) (a : Act) (H : AHeap) (b : Act) (w : World), TR ρ a b → RelH P ρ H w → inScA P c Q n x a H →
    ∀ (f : Frame) (k : List Item) (cs : List Frame), ∃ e b' w', AfterX P ρ H w Q e b' w' ∧ Arrives P (lone (f.at b (.code x :: .inScope c :: k)) cs w) f k cs e b' w'
  | 0, _, _, _, _, _, _, _, _, h => h.elim
  | n + 1, x, ρ, a, H, b, w, hT, hH, h => by
    intro f k cs
    obtain ⟨e, b₁, w₁, ⟨a', H', ρ', q, hT', hH', hx⟩, harr⟩ := h ρ b w hT hH f (.inScope c :: k) cs
    cases e with
    | normal => exact ⟨.normal, b₁, w₁, ⟨a', H', ρ', q, hT', hH', hx⟩, Steps.trans harr (.one step_inScope)⟩
    | exit id => exact ⟨.exit id, b₁, w₁, ⟨a', H', ρ', q, hT', hH', hx⟩, fun k' hk => harr k' (by simp [exitTo, hk])⟩
    | goto l =>
      dsimp only at q
      split at q
      · rename_i rest hf
        obtain ⟨e₂, b₂, w₂, ⟨a'', H'', ρ'', q', hT'', hH'', hx'⟩, harr₂⟩ := inScA_sim n rest ρ' a' H' b₁ w₁ hT' hH' q f k cs
        have hg : gotoIn l (.inScope c :: k) = some (.code rest :: .inScope c :: k) := by simp [gotoIn, hf]
        exact ⟨e₂, b₂, w₂, ⟨a'', H'', ρ'', q', hT'', hH'', Ext.trans hx hx'⟩, .of_steps (harr _ hg) harr₂⟩
      · exact q.elim
    | ret => exact ⟨_, b₁, w₁, ⟨a', H', ρ', q, hT', hH', hx⟩, harr⟩
    | panic ch => exact ⟨_, b₁, w₁, ⟨a', H', ρ', q, hT', hH', hx⟩, harr⟩
    | outgrown => exact ⟨_, b₁, w₁, ⟨a', H', ρ', q, hT', hH', hx⟩, harr⟩
theorem aw_scope {P : Program} {c : Code} {Q : Exit → Act → AHeap → Prop} {a : Act} {H : AHeap} (n : Nat) (h : inScA P c Q n c a H) : aw P (.scope c) Q a H := by
  intro ρ b w hT hH f k cs
  obtain ⟨e, b', w', hq, harr⟩ := inScA_sim n c ρ a H b w hT hH h f k cs
  exact ⟨e, b', w', hq, .of_steps (.one step_scope) harr⟩
end Go.Ae

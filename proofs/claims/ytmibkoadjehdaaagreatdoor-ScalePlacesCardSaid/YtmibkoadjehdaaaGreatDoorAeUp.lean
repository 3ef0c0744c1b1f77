/- The evaluator's heap after an operation that changes one object, or makes one. No condition. -/
import Derived.Test.YtmibkoadjehdaaaGreatDoorAeArm
namespace Go.Ae
/-- One object at most is another, or new. -/
def OneUp (H : AHeap) (b : Nat) (H' : AHeap) : Prop := H' = H ∨ (∃ o, H' = H.push o) ∨ ∃ o, H' = H.put b o
noncomputable def upK (h : CH) (b : Nat) (H' : AHeap) (K : CH → Rs) : Rs :=
  Bool.rec (motive := fun _ => Rs) (optK (H'.get h.next) fun o => pushRow h o K) (Option.rec (motive := fun _ => Rs) (K h) (fun o => putRow h b o K) (H'.get b)) (Nat.beq H'.next h.next)
theorem put_same {H : AHeap} {b : Nat} {o : AObj} (h : H.get b = some o) : H.put b o = H := by
  obtain ⟨g, n⟩ := H
  simp only [AHeap.put]
  congr 1
  funext j
  split
  · rename_i e; subst e; exact h.symm
  · rfl
theorem upK_spec {h : CH} {b : Nat} {H' : AHeap} (hs : OneUp (toH h) b H') (K : CH → Rs) : upK h b H' K = .bad ∨ ∃ h', upK h b H' K = K h' ∧ toH h' = H' := by
  have next : (toH h).next = h.next := rfl
  rcases hs with rfl | ⟨o, rfl⟩ | ⟨o, rfl⟩
  · have hb : Nat.beq (toH h).next h.next = true := Nat.beq_refl _
    unfold upK
    rw [hb]
    cases hg : (toH h).get b with
    | none => exact .inr ⟨h, rfl, rfl⟩
    | some o =>
      show putRow h b o K = .bad ∨ _
      exact (putRow_spec h b o K).imp id fun ⟨h', e, hh⟩ => ⟨h', e, by rw [hh, put_same hg]⟩
  · have hb : Nat.beq ((toH h).push o).next h.next = false := by
      rw [AHeap.push_next, next]
      cases hbb : Nat.beq (h.next + 1) h.next with
      | false => rfl
      | true => have := Nat.eq_of_beq_eq_true hbb; omega
    have hg : ((toH h).push o).get h.next = some o := by rw [AHeap.push_get, if_pos next.symm]
    unfold upK
    rw [hb, hg]
    show pushRow h o K = .bad ∨ _
    exact (pushRow_spec h o K).imp id fun ⟨h', e, hh⟩ => ⟨h', e, hh⟩
  · have hb : Nat.beq ((toH h).put b o).next h.next = true := Nat.beq_refl _
    have hg : ((toH h).put b o).get b = some o := by rw [AHeap.put_get, if_pos rfl]
    unfold upK
    rw [hb, hg]
    show putRow h b o K = .bad ∨ _
    exact (putRow_spec h b o K).imp id fun ⟨h', e, hh⟩ => ⟨h', e, hh⟩
def blkOf : Value → Nat
  | .slice (some a) _ _ => a.block
  | .pointer (some a) => a.block
  | .map (some r) => r
  | _ => 0
theorem setCells_up {H H' : AHeap} {a : Addr} {vs : List Value} (h : H.setCells a vs = some H') : ∃ o, H' = H.put a.block o := by
  unfold AHeap.setCells at h
  simp only [Option.bind_eq_some_iff] at h
  obtain ⟨r, _, h⟩ := h
  split at h
  · exact ⟨_, (Option.some.inj h).symm⟩
  · cases h
theorem appendA_up {P : Program} {H H' : AHeap} {t u : TypeId} {s x v : Value} (h : appendA P H t u s x = some (v, H')) : OneUp H (blkOf s) H' := by
  unfold appendA at h
  split at h
  case h_2 => cases h
  split at h
  case h_2 => cases h
  split at h
  · cases h
  split at h
  · split at h
    · simp only [Option.some.injEq, Prod.mk.injEq] at h; exact .inl h.2.symm
    · cases h
  split at h
  case isFalse => cases h
  split at h
  · split at h
    · simp only [Option.some.injEq, Prod.mk.injEq] at h; exact .inr (.inl ⟨_, h.2.symm⟩)
    · cases h
  · split at h
    · split at h
      · simp only [Option.map_eq_some_iff, Prod.mk.injEq] at h
        obtain ⟨H1, hs, _, rfl⟩ := h
        exact .inr (.inr (setCells_up (a := aadd _ _) hs))
      · simp only [Option.map_eq_some_iff, Prod.mk.injEq] at h
        obtain ⟨l, _, _, rfl⟩ := h
        exact .inr (.inl ⟨_, rfl⟩)
    · split at h
      case isFalse => cases h
      split at h
      · cases h
      · split at h
        case isFalse => cases h
        split at h
        · simp only [Option.some.injEq, Prod.mk.injEq] at h; exact .inr (.inr ⟨_, h.2.symm⟩)
        · simp only [Option.map_eq_some_iff, Prod.mk.injEq] at h
          obtain ⟨H1, hs, _, rfl⟩ := h
          exact .inr (.inr (setCells_up (a := aadd _ _) hs))
theorem copyA_up {P : Program} {H H' : AHeap} {t : TypeId} {d x v : Value} (h : copyA P H t d x = some (v, H')) : OneUp H (blkOf d) H' := by
  unfold copyA at h
  split at h
  case h_2 => cases h
  split at h
  case h_2 => cases h
  split at h
  · simp only [Option.some.injEq, Prod.mk.injEq] at h; exact .inl h.2.symm
  · split at h
    case h_2 => cases h
    simp only [Option.map_eq_some_iff, Prod.mk.injEq] at h
    obtain ⟨H1, hs, _, rfl⟩ := h
    exact .inr (.inr (setCells_up hs))
theorem sliceData_up {H H' : AHeap} {x v : Value} {b : Nat} (h : sliceDataA H x = some (v, H')) : OneUp H b H' := by
  unfold sliceDataA at h
  split at h
  · simp only [Option.some.injEq, Prod.mk.injEq] at h; exact .inl h.2.symm
  · split at h
    · simp only [Option.some.injEq, Prod.mk.injEq] at h; exact .inl h.2.symm
    · cases h
  · cases h
theorem unsafeStr_up {P : Program} {H H' : AHeap} {ts : List TypeId} {p n v : Value} (h : unsafeStrA P H ts p n = some (v, H')) : OneUp H (blkOf p) H' := by
  unfold unsafeStrA at h
  split at h
  · simp only [Option.some.injEq, Prod.mk.injEq] at h; exact .inl h.2.symm
  · split at h
    case h_2 => cases h
    split at h
    · simp only [Option.map_eq_some_iff, Prod.mk.injEq] at h
      obtain ⟨ns, _, _, rfl⟩ := h
      exact .inr (.inr ⟨_, rfl⟩)
    · cases h
  · cases h
theorem noEsc_up {P : Program} {H H' : AHeap} {f x v : Value} {b : Nat} (h : noEscA P H f x = some (v, H')) : OneUp H b H' := by
  unfold noEscA at h
  split at h
  · split at h
    · simp only [Option.some.injEq, Prod.mk.injEq] at h; exact .inl h.2.symm
    · cases h
  · cases h
theorem mapPut_up {P : Program} {H H' : AHeap} {t : TypeId} {m k x : Value} (h : mapPutA P H t m k x = some H') : OneUp H (blkOf m) H' := by
  unfold mapPutA at h
  split at h
  case h_2 => cases h
  split at h
  case h_2 => cases h
  split at h
  case isFalse => cases h
  split at h
  · exact .inr (.inr ⟨_, (Option.some.inj h).symm⟩)
  · exact .inr (.inr ⟨_, (Option.some.inj h).symm⟩)
  · cases h
theorem next_up {H H' : AHeap} {it v : Value} {s : Bool} (h : nextA H it s = some (v, H')) : OneUp H (blkOf it) H' := by
  unfold nextA at h
  split at h
  case h_2 => cases h
  split at h
  case h_2 => cases h
  split at h
  case isFalse => cases h
  split at h
  · simp only [Option.some.injEq, Prod.mk.injEq] at h; exact .inr (.inr ⟨_, h.2.symm⟩)
  · simp only [Option.some.injEq, Prod.mk.injEq] at h; exact .inl h.2.symm
theorem range_up {P : Program} {H H' : AHeap} {t : TypeId} {x v : Value} {b : Nat} (h : rangeA P H t x = some (v, H')) : OneUp H b H' := by
  unfold rangeA at h
  split at h
  · simp only [Option.some.injEq, Prod.mk.injEq] at h; exact .inr (.inl ⟨_, h.2.symm⟩)
  · cases h
theorem makeMap_up {P : Program} {H H' : AHeap} {t : TypeId} {r : Option Value} {v : Value} {b : Nat} (h : makeMapA P H t r = some (v, H')) : OneUp H b H' := by
  unfold makeMapA at h
  split at h
  · simp only [Option.some.injEq, Prod.mk.injEq] at h; exact .inr (.inl ⟨_, h.2.symm⟩)
  · split at h
    · split at h
      · simp only [Option.some.injEq, Prod.mk.injEq] at h; exact .inr (.inl ⟨_, h.2.symm⟩)
      · cases h
    · cases h
end Go.Ae
namespace Go.Ae
/-- By the abstract heap's own operation. -/
noncomputable def aUp (f : Program → (Operand → Value) → AHeap → Option (Value × AHeap)) (b : (Operand → Value) → Nat) : Arm := fun d P E fr df h s K =>
  optK (f P (fun x => evX x fr) (toH h)) fun q => upK h (b fun x => evX x fr) q.2 fun h' => fin E.N d q.1 fr fun fr => K fr df h' s
theorem aUp_ok {P : Program} {f : Program → (Operand → Value) → AHeap → Option (Value × AHeap)} {b : (Operand → Value) → Nat} {op : Op} (hE : ∀ d ty p af g, isE ⟨d, op, ty, p, af, g⟩ = true) (hc : ∀ (a : Act) d ty p af g v H H', f P a.eval H = some (v, H') → acall P a.eval ⟨d, op, ty, p, af, g⟩ = none)
    (hn : ∀ (a : Act) (H : AHeap) d ty p af g, aE P a.eval H ⟨d, op, ty, p, af, g⟩ = f P a.eval H) (hu : ∀ (a : Act) (H H' : AHeap) v, f P a.eval H = some (v, H') → OneUp H (b a.eval) H') : ArmOk P (aUp f b) op := fun E fr a df h y K d ty p af g _ hf => by
  unfold aUp
  rw [hf.fn]
  rcases optK_spec (f P a.eval (toH h)) (fun q => upK h (b a.eval) q.2 fun h' => fin E.N d q.1 fr fun fr => K fr df h' y) with e | ⟨q, hq, e⟩
  · exact .inl e
  rw [e]
  rcases upK_spec (hu a (toH h) q.2 q.1 hq) (fun h' => fin E.N d q.1 fr fun fr => K fr df h' y) with e | ⟨h', e, hh⟩
  · exact .inl e
  exact arm_fin hf e (.e (hE ..) (hc a d ty p af g _ _ _ hq) (by rw [hn, hh]; exact hq))
theorem aMapPut_ok {P : Program} (t : TypeId) (m k x : Operand) : ArmOk P (aUp (fun P ev H => (mapPutA P H t (ev m) (ev k) (ev x)).map fun H' => (undef, H')) fun ev => blkOf (ev m)) (.mapUpdate t m k x) :=
  aUp_ok (fun _ _ _ _ _ => rfl) (fun _ _ _ _ _ _ _ _ _ _ => rfl) (fun _ _ _ _ _ _ _ => rfl) fun a H H' v h => by
    simp only [Option.map_eq_some_iff, Prod.mk.injEq] at h
    obtain ⟨H1, hs, _, rfl⟩ := h
    exact mapPut_up hs
theorem aInsert_ok {P : Program} (t : TypeId) (m k x : Operand) : ArmOk P (aUp (fun P ev H => (mapPutA P H t (ev m) (ev k) (ev x)).map fun H' => (undef, H')) fun ev => blkOf (ev m)) (.insert t m k x) :=
  aUp_ok (fun _ _ _ _ _ => rfl) (fun _ _ _ _ _ _ _ _ _ _ => rfl) (fun _ _ _ _ _ _ _ => rfl) fun a H H' v h => by
    simp only [Option.map_eq_some_iff, Prod.mk.injEq] at h
    obtain ⟨H1, hs, _, rfl⟩ := h
    exact mapPut_up hs
theorem aLookup_ok {P : Program} (t : TypeId) (m k : Operand) (ok : Bool) : ArmOk P (aUp (fun P ev H => (lookA P H t (ev m) (ev k) ok).map fun v => (v, H)) fun _ => 0) (.lookup t m k ok) :=
  aUp_ok (fun _ _ _ _ _ => rfl) (fun _ _ _ _ _ _ _ _ _ _ => rfl) (fun _ _ _ _ _ _ _ => rfl) fun a H H' v h => by
    simp only [Option.map_eq_some_iff, Prod.mk.injEq] at h
    obtain ⟨v1, hs, _, rfl⟩ := h
    exact .inl rfl
theorem aMakeMap_ok {P : Program} (t : TypeId) (r : Option Operand) : ArmOk P (aUp (fun P ev H => makeMapA P H t (r.map ev)) fun _ => 0) (.makeMap t r) :=
  aUp_ok (fun _ _ _ _ _ => rfl) (fun _ _ _ _ _ _ _ _ _ _ => rfl) (fun _ _ _ _ _ _ _ => rfl) fun a H H' v h => makeMap_up h
theorem aRange_ok {P : Program} (t : TypeId) (x : Operand) : ArmOk P (aUp (fun P ev H => rangeA P H t (ev x)) fun _ => 0) (.range t x) :=
  aUp_ok (fun _ _ _ _ _ => rfl) (fun _ _ _ _ _ _ _ _ _ _ => rfl) (fun _ _ _ _ _ _ _ => rfl) fun a H H' v h => range_up h
theorem aNext_ok {P : Program} (x : Operand) (s : Bool) : ArmOk P (aUp (fun _ ev H => nextA H (ev x) s) fun ev => blkOf (ev x)) (.next x s) :=
  aUp_ok (fun _ _ _ _ _ => rfl) (fun _ _ _ _ _ _ _ _ _ _ => rfl) (fun _ _ _ _ _ _ _ => rfl) fun a H H' v h => next_up h
/-- The builtins that write. -/
def bltA (b : Builtin) (args : List Operand) (ats : List TypeId) (P : Program) (ev : Operand → Value) (H : AHeap) : Option (Value × AHeap) :=
  match b, args, ats with
  | .append, [s, x], [t, u] => appendA P H t u (ev s) (ev x)
  | .copy, [d, x], [t, _] => copyA P H t (ev d) (ev x)
  | .unsafeSliceData, [x], _ => sliceDataA H (ev x)
  | .unsafeString, [p, n], ts => unsafeStrA P H ts (ev p) (ev n)
  | _, _, _ => none
def headBlk (args : List Operand) (ev : Operand → Value) : Nat := match args with
  | x :: _ => blkOf (ev x)
  | [] => 0
theorem bltA_up {b : Builtin} {args : List Operand} {ats : List TypeId} {P : Program} {ev : Operand → Value} {H H' : AHeap} {v : Value} (h : bltA b args ats P ev H = some (v, H')) : OneUp H (headBlk args ev) H' := by
  unfold bltA at h
  split at h
  · exact appendA_up h
  · exact copyA_up h
  · exact sliceData_up h
  · exact unsafeStr_up h
  · cases h
end Go.Ae

/- copy, and the operations that write gathered: 'aE'. No condition. -/
import Derived.Test.YtmibkoadjehdaaaGreatDoorAeUns
namespace Go.Ae

/-- The first m elements' cells. -/
def srcN (H : AHeap) (k m : Nat) (x : Value) : Option (List Value) :=
  match x with
  | .slice (some a) _ _ => H.cellsAt a (m * k)
  | .string s => if k = 1 then some ((s.extract 0 m).data.toList.map fun b => .int .u8 b.toNat) else none
  | _ => none
def lenV (x : Value) : Option Nat :=
  match x with
  | .slice _ n _ => some n
  | .string s => some s.size
  | _ => none
def copyA (P : Program) (H : AHeap) (t : TypeId) (d x : Value) : Option (Value × AHeap) :=
  match P.underlying t, d, lenV x with
  | some (.slice e), .slice base dLen _, some n =>
    match szT P e with
    | some (k + 1) =>
      if Nat.min n dLen = 0 then some (.int .i64 0, H)
      else match base, srcN H (k + 1) (Nat.min n dLen) x with
        | some a, some l => (H.setCells a l).map fun H' => (.int .i64 (Nat.min n dLen), H')
        | _, _ => none
    | _ => none
  | _, _, _ => none

theorem copyA_sim {P : Program} {ρ : Ren} {H H' : AHeap} {w : World} (hH : RelH P ρ H w) {t u ty : TypeId} {d d' x x' v : Value} (h : copyA P H t d x = some (v, H')) (hd : VR ρ d d') (hx : VR ρ x x') :
    ∃ w', (Builtin.copy_ #[t, u] ty #[d', x']).run P w = .ok v w' ∧ VR ρ v v ∧ RelH P ρ H' w' ∧ Ext ρ H w ρ H' w' := by
  unfold copyA at h
  split at h
  case h_2 => cases h
  rename_i e base dLen dCap n hu hn
  split at h
  case h_2 => cases h
  rename_i k hs
  have hlen : ∀ w1, (Builtin.lenOf x').run P w1 = .ok n w1 := by
    intro w1
    unfold lenV at hn
    split at hn <;> simp only [Option.some.injEq, reduceCtorEq] at hn <;> subst hn <;> cases hx <;> simp [Builtin.lenOf]
  split at h
  · rename_i h0
    simp only [Option.some.injEq, Prod.mk.injEq] at h
    obtain ⟨rfl, rfl⟩ := h
    have hf : (Builtin.firstCells (k + 1) 0 x').run P w = .ok #[] w := by
      unfold lenV at hn
      split at hn <;> simp only [Option.some.injEq, reduceCtorEq] at hn <;> cases hx <;> simp [Builtin.firstCells, loadCells, loadCellsFrom]
    refine ⟨w, ?_, .int _ _, hH, ExtN.refl _ _ _ _⟩
    cases hd with
    | nilslice => simp [Builtin.copy_, run_underlying hu, run_sizeT hs, hlen, h0, hf, goInt]
    | slice hp => simp [Builtin.copy_, run_underlying hu, run_sizeT hs, hlen, h0, hf, goInt, storeCells]
  · rename_i h0
    split at h
    case h_2 => cases h
    rename_i a l hl
    simp only [Option.map_eq_some_iff, Prod.mk.injEq] at h
    obtain ⟨H1, hset, rfl, rfl⟩ := h
    cases hd with
    | slice hp =>
    rename_i b cap'
    have hmin : Nat.min n dLen ≤ n ∧ Nat.min n dLen ≤ dLen := ⟨Nat.min_le_left _ _, Nat.min_le_right _ _⟩
    have hpr : PR ρ a b := by
      rcases hp with ⟨e1, _⟩ | ⟨_, _, hp⟩ | ⟨_, s, h1, h2, h3, _⟩
      · omega
      · exact hp
      · exact ⟨s, h1, h2, h3⟩
    have hsrc : ∃ l', VRs ρ l l' ∧ (Builtin.firstCells (k + 1) (Nat.min n dLen) x').run P w = .ok l'.toArray w := by
      unfold srcN at hl
      unfold lenV at hn
      split at hl
      · rename_i ax m cx
        simp only [Option.some.injEq] at hn
        subst hn
        cases hx with
        | slice hq =>
          rename_i bx cx'
          have hqr : PR ρ ax bx := by
            rcases hq with ⟨e1, _⟩ | ⟨_, _, hp⟩ | ⟨_, s, h1, h2, h3, _⟩
            · omega
            · exact hp
            · exact ⟨s, h1, h2, h3⟩
          obtain ⟨hn1, l', hv, hc⟩ := cellsAt_sim hH hqr hl
          have hr := run_loadCells_list (P := P) w bx l' hc
          rw [← hv.length, hn1] at hr
          exact ⟨l', hv, by simpa [Builtin.firstCells] using hr⟩
      · rename_i s
        split at hl
        case isFalse => cases hl
        rename_i hk
        simp only [Option.some.injEq] at hl
        subst hl
        cases hx
        refine ⟨_, VRs.of_simple (fun x hx => ?_), ?_⟩
        · simp only [List.mem_map] at hx
          obtain ⟨b, _, rfl⟩ := hx
          rfl
        · simp only [Builtin.firstCells, Sem.run_pure]
          congr 1
          apply Array.ext'
          simp
      · cases hl
    obtain ⟨l', hv, hr⟩ := hsrc
    obtain ⟨w', h1, h2, h3⟩ := setCells_sim hH hpr hset hv
    exact ⟨w', by simp [Builtin.copy_, run_underlying hu, run_sizeT hs, hlen, hr, goInt, h1], .int _ _, h2, h3⟩

def noEscA (P : Program) (H : AHeap) (f x : Value) : Option (Value × AHeap) :=
  match f with
  | .func (.func g) ⟨[]⟩ ⟨[]⟩ => if isNoEscape P g then some (x, H) else none
  | _ => none
/-- The operations that write. -/
def aE (P : Program) (ev : Operand → Value) (H : AHeap) (o : Oper) : Option (Value × AHeap) :=
  match o.op with
  | .store t x v => (storeA P H t (ev x) (ev v)).map fun H' => (undef, H')
  | .call c => match c.callee, c.args.toList, c.argTypes.toList with
    | .builtin .append, [s, x], [t, u] => appendA P H t u (ev s) (ev x)
    | .builtin .copy, [d, x], [t, _] => copyA P H t (ev d) (ev x)
    | .builtin .unsafeSliceData, [x], _ => sliceDataA H (ev x)
    | .builtin .unsafeString, [p, n], ts => unsafeStrA P H ts (ev p) (ev n)
    | .value f, [x], _ => noEscA P H (ev f) (ev x)
    | _, _, _ => none
  | _ => aO P ev H o
theorem aE_sim {P : Program} {ρ : Ren} {H H' : AHeap} {w : World} (hH : RelH P ρ H w) {ev ev' : Operand → Value} {o : Oper} {v : Value} (h : aE P ev H o = some (v, H'))
    (hv : ∀ x ∈ o.op.operands, VR ρ (ev x) (ev' x)) :
    ∃ v' ρ' w', ((execOp ev' o).run P w = .ok (.value v') w' ∨ (v' = undef ∧ (execOp ev' o).run P w = .ok .skip w')) ∧ VR ρ' v v' ∧ RelH P ρ' H' w' ∧ Ext ρ H w ρ' H' w' := by
  obtain ⟨dst, op, type, pos, after, guard⟩ := o
  unfold aE at h
  split at h
  · rename_i t x y heq
    dsimp only at heq; subst heq
    simp only [Option.map_eq_some_iff, Prod.mk.injEq] at h
    obtain ⟨H1, hst, rfl, rfl⟩ := h
    obtain ⟨w', h1, h2, h3⟩ := storeA_sim hH hst (hv x (by simp [Op.operands])) (hv y (by simp [Op.operands]))
    exact ⟨undef, ρ, w', .inr ⟨rfl, by simp [execOp, h1]⟩, .tuple rfl (by simp), h2, h3⟩
  · rename_i c heq
    dsimp only at heq; subst heq
    obtain ⟨callee, args, argTypes⟩ := c
    obtain ⟨args⟩ := args
    obtain ⟨argTypes⟩ := argTypes
    split at h
    · rename_i s x t u hc ha ht
      dsimp only at hc ha ht
      subst hc ha ht
      obtain ⟨v', ρ', w', h1, h2, h3, h4⟩ := appendA_sim (ty := type) hH h (hv s (by simp [Op.operands, Call.operands])) (hv x (by simp [Op.operands, Call.operands]))
      exact ⟨v', ρ', w', .inl (by simp [execOp, resolve, invoke, builtin, h1]), h2, h3, h4⟩
    · rename_i d x t u hc ha ht
      dsimp only at hc ha ht
      subst hc ha ht
      obtain ⟨w', h1, h2, h3, h4⟩ := copyA_sim (u := u) (ty := type) hH h (hv d (by simp [Op.operands, Call.operands])) (hv x (by simp [Op.operands, Call.operands]))
      exact ⟨v, ρ, w', .inl (by simp [execOp, resolve, invoke, builtin, h1]), h2, h3, h4⟩
    · rename_i ts x hc ha
      dsimp only at hc ha
      subst hc ha
      obtain ⟨v', h1, h2, h3⟩ := sliceDataA_sim (ts := ⟨argTypes⟩) (ty := type) hH h (hv x (by simp [Op.operands, Call.operands]))
      have hHH : H' = H := by
        unfold sliceDataA at h
        split at h
        · simp only [Option.some.injEq, Prod.mk.injEq] at h; exact h.2.symm
        · split at h
          · simp only [Option.some.injEq, Prod.mk.injEq] at h; exact h.2.symm
          · cases h
        · cases h
      subst hHH
      exact ⟨v', ρ, w, .inl (by simp [execOp, resolve, invoke, builtin, h1]), h2, h3, ExtN.refl _ _ _ _⟩
    · rename_i ts p n hc ha
      dsimp only at hc ha
      subst hc ha
      obtain ⟨w', h1, h2, h3, h4⟩ := unsafeStrA_sim (ty := type) hH h (hv p (by simp [Op.operands, Call.operands])) (hv n (by simp [Op.operands, Call.operands]))
      exact ⟨v, ρ, w', .inl (by simp [execOp, resolve, invoke, builtin] at h1 ⊢; simp [h1]), h2, h3, h4⟩
    · rename_i ts f x hc ha
      dsimp only at hc ha
      subst hc ha
      unfold noEscA at h
      split at h
      case h_2 => cases h
      rename_i g hf
      split at h
      case isFalse => cases h
      rename_i hg
      simp only [Option.some.injEq, Prod.mk.injEq] at h
      obtain ⟨rfl, rfl⟩ := h
      have hfv := hv f (by simp [Op.operands, Call.operands])
      rw [hf] at hfv
      generalize hz : ev' f = z at hfv
      cases hfv
      rename_i ys vs hx hX hu hU
      obtain rfl : ys = #[] := by simpa using hx.symm
      obtain rfl : vs = #[] := by simpa using hu.symm
      refine ⟨ev' x, ρ, w, .inl ?_, hv x (by simp [Op.operands, Call.operands]), hH, ExtN.refl _ _ _ _⟩
      have := run_noEscape hg (ev' x) w
      simp [execOp, resolve, hz, Deferred.ofValue, invoke, this]
    · cases h
  · exact aO_sim hH h hv

end Go.Ae

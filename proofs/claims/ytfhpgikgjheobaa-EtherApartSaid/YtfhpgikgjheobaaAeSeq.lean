/- A region whose order is given. No condition. -/
import Derived.Test.YtfhpgikgjheobaaAeWp
namespace Go.Ae

theorem TR.size {ρ : Ren} {a b : Act} (h : TR ρ a b) : a.tmps.size = b.tmps.size := by simpa using h.tmps.length
theorem TR.put {ρ : Ren} {a b : Act} (h : TR ρ a b) (d : Option Tmp) {v v' : Value} (hv : VR ρ v v') : TR ρ (a.put d v) (b.put d v') := by
  cases d with
  | none => exact h
  | some d => exact ⟨by simp only [Act.put, Array.toList_setIfInBounds]; exact h.tmps.set d hv, h.defA, h.defB⟩

def boolOf : Value → Option Bool
  | .bool b => some b
  | _ => none
theorem VR.boolOf {ρ : Ren} {x y : Value} (h : VR ρ x y) : boolOf x = boolOf y := by cases h <;> rfl
theorem yielded_eq (ops : Array Oper) (tmps : Array Value) (j : Nat) : yielded ops tmps j = (((ops[j]?).bind (·.dst)).bind (tmps[·]?)).bind boolOf := by
  unfold yielded
  generalize ((ops[j]?).bind (·.dst)).bind (tmps[·]?) = z
  cases z with
  | none => rfl
  | some v => cases v <;> rfl
theorem TR.yielded {ρ : Ren} {a b : Act} (h : TR ρ a b) (ops : Array Oper) : yielded ops a.tmps = yielded ops b.tmps := by
  funext j
  rw [yielded_eq, yielded_eq]
  cases (ops[j]?).bind (·.dst) with
  | none => rfl
  | some t =>
    simp only [Option.bind_some]
    cases hx : a.tmps[t]? with
    | none =>
      have : b.tmps[t]? = none := by
        rw [Array.getElem?_eq_none_iff] at hx ⊢
        rw [← h.size]; exact hx
      rw [this]
    | some x =>
      obtain ⟨y, hy, hv⟩ := h.tmps.get t x (by simpa using hx)
      simp only [Array.getElem?_toList] at hy
      rw [hy]
      exact hv.boolOf

def operandsOk (o : Oper) : Bool := o.op.operands.all okOperand
theorem TR.operands {ρ : Ren} {a b : Act} (h : TR ρ a b) {o : Oper} (ho : operandsOk o = true) : ∀ x ∈ o.op.operands, VR ρ (a.eval x) (b.eval x) :=
  fun x hx => h.eval (Array.all_eq_true_iff_forall_mem.1 ho x hx)

/-- What the code behind comes to. -/
def After (P : Program) (ρ : Ren) (H : AHeap) (w : World) (K : Act → AHeap → Prop) (b' : Act) (w' : World) : Prop :=
  ∃ a' H' ρ', K a' H' ∧ TR ρ' a' b' ∧ RelH P ρ' H' w' ∧ Ext ρ H w ρ' H' w'

/-- An operation that does nothing to what was there. -/
theorem nFact_sim {P : Program} {ρ : Ren} {a : Act} {ev' : Operand → Value} {H H' : AHeap} {w : World} {o : Oper} {v : Value} (h : NFact P a o H v H') (hH : RelH P ρ H w)
    (hv : ∀ x ∈ o.op.operands, VR ρ (a.eval x) (ev' x)) : ∃ v' ρ' w', (execOp ev' o).run P w = .ok (.value v') w' ∧ VR ρ' v v' ∧ RelH P ρ' H' w' ∧ Ext ρ H w ρ' H' w' := by
  cases h with
  | pure h _ =>
    obtain ⟨v', h1, h2⟩ := aP_sim h hv
    exact ⟨v', ρ, w, h2 w, h1, hH, ExtN.refl _ _ _ _⟩
  | read h =>
    obtain ⟨v', h1, h2⟩ := aR_sim hH h hv
    exact ⟨v', ρ, w, h2, h1, hH, ExtN.refl _ _ _ _⟩
  | new r mk h hmk _ =>
    subst hmk
    obtain ⟨v', ρ', w', h1, h2, h3, h4, _⟩ := aA_sim (hH.push (.row r)) h hv (n := H.next) (by simp [AHeap.push_get]) (fun v => hH.noPlace (Nat.le_refl _) v) (by rw [AHeap.push_next]; omega)
    exact ⟨v', ρ', w', h1, h2, h3, (ExtN.push _ _ (Nat.le_refl _)).trans (h4 H.next (Nat.le_refl _))⟩

theorem eStep_sim {P : Program} {ρ : Ren} {a b : Act} {H : AHeap} {w : World} {o : Oper} {K : Value → AHeap → Prop} (h : eStep P a H o K) (hH : RelH P ρ H w) (hv : ∀ x ∈ o.op.operands, VR ρ (a.eval x) (b.eval x))
    {N : Act → World → Prop} {Q : Exit → Act → World → Prop} (hN : ∀ v v' H' ρ' w', K v H' → VR ρ' v v' → RelH P ρ' H' w' → Ext ρ H w ρ' H' w' → N (b.put o.dst v') w') : o.wp P b w N Q := by
  unfold eStep at h
  unfold Oper.wp
  split at h
  · rename_i fa hfa
    obtain ⟨cargs, h1, h2⟩ := acall_sim hfa hv
    rw [h2 w, Oper.upon_enter]
    refine (h ρ w cargs hH h1).mono fun e w' ⟨v, cv, ρ', H', he, hk, hvr, hr, hx⟩ => ?_
    subst he
    exact hN v cv H' ρ' w' hk hvr hr hx
  · split at h
    · rename_i vH hE
      obtain ⟨v', ρ', w', h1, h2, h3, h4⟩ := aE_sim hH hE hv
      rcases h1 with h1 | ⟨rfl, h1⟩
      · rw [h1]; exact hN _ _ _ _ _ h h2 h3 h4
      · rw [h1]; exact hN _ _ _ _ _ h h2 h3 h4
    · exact h.elim

def step1 (P : Program) (a : Act) (H : AHeap) (o : Oper) (K : Value → AHeap → Prop) : Prop := if isE o then eStep P a H o K else nStep P a H o K
def wpSeq (P : Program) (ops : Array Oper) (K : Act → AHeap → Prop) : List Oper → Act → AHeap → Prop
  | [], a, H => K a H
  | o :: rest, a, H =>
    if Region.wanted o (yielded ops a.tmps) then step1 P a H o (fun v H' => wpSeq P ops K rest (a.put o.dst v) H')
    else wpSeq P ops K rest (a.put o.dst undef) H

theorem wpSeq_sim {P : Program} {ops : Array Oper} {K : Act → AHeap → Prop} {Q : Exit → Act → World → Prop} : ∀ (l : List Nat) (os : List Oper) (ρ : Ren) (a b : Act) (H : AHeap) (w : World),
    os.map some = l.map (ops[·]?) → (∀ o ∈ os, operandsOk o = true) → wpSeq P ops K os a H → TR ρ a b → RelH P ρ H w →
    (∀ b' w', After P ρ H w K b' w' → Q .normal b' w') → wpOps P ops Q l b w
  | [], [], ρ, a, b, H, w, _, _, h, hT, hH, hQ => hQ b w ⟨a, H, ρ, h, hT, hH, ExtN.refl _ _ _ _⟩
  | [], _ :: _, _, _, _, _, _, he, _, _, _, _, _ => by simp at he
  | _ :: _, [], _, _, _, _, _, he, _, _, _, _, _ => by simp at he
  | i :: l, o :: os, ρ, a, b, H, w, he, hok, h, hT, hH, hQ => by
    simp only [List.map_cons, List.cons.injEq] at he
    obtain ⟨ho, he⟩ := he
    have hok' : ∀ o ∈ os, operandsOk o = true := fun o ho => hok o (by simp [ho])
    have next : ∀ v v' H' ρ' w', wpSeq P ops K os (a.put o.dst v) H' → VR ρ' v v' → RelH P ρ' H' w' → Ext ρ H w ρ' H' w' → wpOps P ops Q l (b.put o.dst v') w' := fun v v' H' ρ' w' hs hvr hr hx =>
      wpSeq_sim l os ρ' _ _ H' w' he hok' hs ((hT.mono hx.mono).put o.dst hvr) hr fun b' w'' ⟨a', H'', ρ'', h1, h2, h3, h4⟩ => hQ b' w'' ⟨a', H'', ρ'', h1, h2, h3, Ext.trans hx h4⟩
    simp only [wpOps, ← ho]
    simp only [wpSeq] at h
    rw [hT.yielded ops] at h
    split at h
    · rename_i hw
      rw [if_pos hw]
      refine .inl ?_
      have hv := hT.operands (hok o (by simp))
      unfold step1 at h
      split at h
      · exact eStep_sim h hH hv next
      · obtain ⟨v, H', hf, hk⟩ := nStep_fact h
        obtain ⟨v', ρ', w', h1, h2, h3, h4⟩ := nFact_sim hf hH hv
        unfold Oper.wp
        rw [h1, Oper.upon_value]
        exact next v v' H' ρ' w' hk h2 h3 h4
    · rename_i hw
      rw [if_neg hw]
      exact next undef undef H ρ w h (.tuple rfl (by simp)) hH (ExtN.refl _ _ _ _)

end Go.Ae

/- A region whose order is given. No condition. -/
import Derived.Test.YtmibkoadjehdaaaGreatDoorAeWp
namespace Go.Ae

theorem TR.size {ρ : Ren} {a b : Act} (h : TR ρ a b) : a.tmps.size = b.tmps.size := by simpa using h.tmps.length
theorem TR.put {ρ : Ren} {a b : Act} (h : TR ρ a b) (d : Option Tmp) {v v' : Value} (hv : VR ρ v v') : TR ρ (a.put d v) (b.put d v') := by
  cases d with
  | none => exact h
  | some d => exact ⟨by simp only [Act.put, Array.toList_setIfInBounds]; exact h.tmps.set d hv, h.defs, h.glob⟩

def boolOf : Value → Option Bool
  | .bool b => some b
  | _ => none
theorem VR.boolOf {ρ : Ren} {x y : Value} (h : VR ρ x y) : boolOf x = boolOf y := by cases h <;> rfl
theorem yielded_eq (ops : Array Oper) (tmps : Array Value) (j : Nat) : yielded ops tmps j = (((ops[j]?).bind (·.dst)).bind (tmps[·]?)).bind boolOf := by
  unfold yielded
  generalize ((ops[j]?).bind (·.dst)).bind (tmps[·]?) = z
  cases z with
  | none => rfl
  | some v => cases v <;> rfl
theorem TR.yielded {ρ : Ren} {a b : Act} (h : TR ρ a b) (ops : Array Oper) : yielded ops a.tmps = yielded ops b.tmps := by
  funext j
  rw [yielded_eq, yielded_eq]
  cases (ops[j]?).bind (·.dst) with
  | none => rfl
  | some t =>
    simp only [Option.bind_some]
    cases hx : a.tmps[t]? with
    | none =>
      have : b.tmps[t]? = none := by
        rw [Array.getElem?_eq_none_iff] at hx ⊢
        rw [← h.size]; exact hx
      rw [this]
    | some x =>
      obtain ⟨y, hy, hv⟩ := h.tmps.get t x (by simpa using hx)
      simp only [Array.getElem?_toList] at hy
      rw [hy]
      exact hv.boolOf

def operandsOk (o : Oper) : Bool := o.op.operands.all okOperand
theorem TR.operands {ρ : Ren} {a b : Act} (h : TR ρ a b) {o : Oper} (ho : operandsOk o = true) : ∀ x ∈ o.op.operands, VR ρ (a.eval x) (b.eval x) :=
  fun x hx => h.eval (Array.all_eq_true_iff_forall_mem.1 ho x hx)

/-- What the code behind comes to. -/
def After (P : Program) (ρ : Ren) (H : AHeap) (w : World) (K : Act → AHeap → Prop) (b' : Act) (w' : World) : Prop :=
  ∃ a' H' ρ', K a' H' ∧ TR ρ' a' b' ∧ RelH P ρ' H' w' ∧ Ext ρ H w ρ' H' w'

/-- An operation that does nothing to what was there. -/
theorem nFact_sim {P : Program} {ρ : Ren} {a : Act} {ev' : Operand → Value} {H H' : AHeap} {w : World} {o : Oper} {v : Value} (h : NFact P a o H v H') (hH : RelH P ρ H w)
    (hv : ∀ x ∈ o.op.operands, VR ρ (a.eval x) (ev' x)) : ∃ v' ρ' w', (execOp ev' o).run P w = .ok (.value v') w' ∧ VR ρ' v v' ∧ RelH P ρ' H' w' ∧ Ext ρ H w ρ' H' w' := by
  cases h with
  | pure h _ =>
    obtain ⟨v', h1, h2⟩ := aP_sim h hv
    exact ⟨v', ρ, w, h2 w, h1, hH, ExtN.refl _ _ _ _⟩
  | read h =>
    obtain ⟨v', h1, h2⟩ := aR_sim hH h hv
    exact ⟨v', ρ, w, h2, h1, hH, ExtN.refl _ _ _ _⟩
  | new r mk h hmk _ =>
    subst hmk
    obtain ⟨v', ρ', w', h1, h2, h3, h4, _⟩ := aA_sim (hH.push (.row r)) h hv (n := H.next) (by simp [AHeap.push_get]) (fun v => hH.noPlace (Nat.le_refl _) v) (by rw [AHeap.push_next]; omega)
    exact ⟨v', ρ', w', h1, h2, h3, (ExtN.push _ _ (Nat.le_refl _)).trans (h4 H.next (Nat.le_refl _))⟩

theorem eStep_sim {P : Program} {ρ : Ren} {a b : Act} {H : AHeap} {w : World} {o : Oper} {K : Value → AHeap → Prop} (h : eStep P a H o K) (hH : RelH P ρ H w) (hv : ∀ x ∈ o.op.operands, VR ρ (a.eval x) (b.eval x))
    {N : Act → World → Prop} {Q : Exit → Act → World → Prop} (hN : ∀ v v' H' ρ' w', K v H' → VR ρ' v v' → RelH P ρ' H' w' → Ext ρ H w ρ' H' w' → N (b.put o.dst v') w') : o.wp P b w N Q := by
  unfold eStep at h
  unfold Oper.wp
  split at h
  · rename_i fa hfa
    obtain ⟨cargs, h1, h2⟩ := acall_sim hfa hv
    rw [h2 w, Oper.upon_enter]
    refine (h ρ w cargs hH h1).mono fun e w' ⟨v, cv, ρ', H', he, hk, hvr, hr, hx⟩ => ?_
    subst he
    exact hN v cv H' ρ' w' hk hvr hr hx
  · split at h
    · rename_i vH hE
      obtain ⟨v', ρ', w', h1, h2, h3, h4⟩ := aE_sim hH hE hv
      rcases h1 with h1 | ⟨rfl, h1⟩
      · rw [h1]; exact hN _ _ _ _ _ h h2 h3 h4
      · rw [h1]; exact hN _ _ _ _ _ h h2 h3 h4
    · exact h.elim

def step1 (P : Program) (a : Act) (H : AHeap) (o : Oper) (K : Value → AHeap → Prop) : Prop := if isE o then eStep P a H o K else nStep P a H o K
def wpSeq (P : Program) (ops : Array Oper) (K : Act → AHeap → Prop) : List Oper → Act → AHeap → Prop
  | [], a, H => K a H
  | o :: rest, a, H =>
    if Region.wanted o (yielded ops a.tmps) then step1 P a H o (fun v H' => wpSeq P ops K rest (a.put o.dst v) H')
    else wpSeq P ops K rest (a.put o.dst undef) H

theorem wpSeq_sim {P : Program} {ops : Array Oper} {K : Act → AHeap → Prop} {Q : Exit → Act → World → Prop} : ∀ (l : List Nat) (os : List Oper) (ρ : Ren) (a b : Act) (H : AHeap) (w : World),
    os.map some = l.map (ops[·]?) → (∀ o ∈ os, operandsOk o = true) → wpSeq P ops K os a H → TR ρ a b → RelH P ρ H w →
    (∀ b' w', After P ρ H w K b' w' → Q .normal b' w') → wpOps P ops Q l b w
  | [], [], ρ, a, b, H, w, _, _, h, hT, hH, hQ => hQ b w ⟨a, H, ρ, h, hT, hH, ExtN.refl _ _ _ _⟩
  | [], _ :: _, _, _, _, _, _, he, _, _, _, _, _ => by simp at he
  | _ :: _, [], _, _, _, _, _, he, _, _, _, _, _ => by simp at he
  | i :: l, o :: os, ρ, a, b, H, w, he, hok, h, hT, hH, hQ => by
    simp only [List.map_cons, List.cons.injEq] at he
    obtain ⟨ho, he⟩ := he
    have hok' : ∀ o ∈ os, operandsOk o = true := fun o ho => hok o (by simp [ho])
    have next : ∀ v v' H' ρ' w', wpSeq P ops K os (a.put o.dst v) H' → VR ρ' v v' → RelH P ρ' H' w' → Ext ρ H w ρ' H' w' → wpOps P ops Q l (b.put o.dst v') w' := fun v v' H' ρ' w' hs hvr hr hx =>
      wpSeq_sim l os ρ' _ _ H' w' he hok' hs ((hT.mono hx.mono).put o.dst hvr) hr fun b' w'' ⟨a', H'', ρ'', h1, h2, h3, h4⟩ => hQ b' w'' ⟨a', H'', ρ'', h1, h2, h3, Ext.trans hx h4⟩
    simp only [wpOps, ← ho]
    simp only [wpSeq] at h
    rw [hT.yielded ops] at h
    split at h
    · rename_i hw
      rw [if_pos hw]
      refine .inl ?_
      have hv := hT.operands (hok o (by simp))
      unfold step1 at h
      split at h
      · exact eStep_sim h hH hv next
      · obtain ⟨v, H', hf, hk⟩ := nStep_fact h
        obtain ⟨v', ρ', w', h1, h2, h3, h4⟩ := nFact_sim hf hH hv
        unfold Oper.wp
        rw [h1, Oper.upon_value]
        exact next v v' H' ρ' w' hk h2 h3 h4
    · rename_i hw
      rw [if_neg hw]
      exact next undef undef H ρ w h (.tuple rfl (by simp)) hH (ExtN.refl _ _ _ _)

end Go.Ae
namespace Go.Ae

def anc (B : List Nat) (i j : Nat) : Bool := (B.getD j 0).testBit i
def namesOf (ops : Array Oper) (o : Oper) : List Tmp := o.dst.toList ++ o.looksAt ops

structure SchedP (ops : Array Oper) (sched : List Nat) (B : List Nat) : Prop where
  mem : ∀ i, i < ops.size → i ∈ sched
  valid : ∀ i ∈ sched, ∃ o : Oper, ops[i]? = some o
  nodup : sched.Nodup
  edges : ∀ pre i post, sched = pre ++ i :: post → ∀ (o : Oper), ops[i]? = some o → ∀ e ∈ o.after, Region.binds .any e = true → e.on ∈ pre
  eff : ∀ pre i post, sched = pre ++ i :: post → ∀ (o : Oper), ops[i]? = some o → isE o = true → ∀ q ∈ post, anc B i q = true
  temps : ∀ (i j : Nat) (oi oj : Oper), i ≠ j → ops[i]? = some oi → ops[j]? = some oj → ∀ d, oi.dst = some d → d ∈ namesOf ops oj → anc B i j = true ∨ anc B j i = true
  oper : ∀ (i : Nat) (o : Oper), ops[i]? = some o → operandsOk o = true
  ancs : ∀ i j, anc B i j = true → ∃ (o : Oper) (e : Edge), ops[j]? = some o ∧ e ∈ o.after ∧ Region.binds .any e = true ∧ e.on < j ∧ (e.on = i ∨ anc B i e.on = true)

def maskOf (B : List Nat) (j : Nat) : List Edge → Nat
  | [] => 0
  | e :: es => if Region.binds .any e && decide (e.on < j) then 2 ^ e.on ||| B.getD e.on 0 ||| maskOf B j es else maskOf B j es
def ancsOk (B : List Nat) : Nat → List Oper → List Nat → Bool
  | _, [], [] => true
  | j, o :: os, b :: bs => (b ||| maskOf B j o.after.toList == maskOf B j o.after.toList) && ancsOk B (j + 1) os bs
  | _, _, _ => false
def linOk (ops : Array Oper) (B : List Nat) : List Nat → List Nat → Bool
  | [], _ => true
  | i :: rest, seen => (match ops[i]? with
      | some o => o.after.toList.all (fun e => !Region.binds .any e || seen.contains e.on) && (!isE o || rest.all fun q => anc B i q)
      | none => false) && linOk ops B rest (i :: seen)
def tempsOk (ops : Array Oper) (B : List Nat) : Bool :=
  (List.range ops.size).all fun i => match (ops[i]?).bind (·.dst) with
    | none => true
    | some d => (List.range ops.size).all fun j => i == j || anc B i j || anc B j i || match ops[j]? with
      | some oj => !(namesOf ops oj).contains d
      | none => true
def nodupB : List Nat → Bool
  | [] => true
  | x :: xs => !xs.contains x && nodupB xs
def schedOk (ops : Array Oper) (sched : List Nat) (B : List Nat) : Bool :=
  (List.range ops.size).all (fun i => sched.contains i) && nodupB sched && linOk ops B sched [] && tempsOk ops B && ops.toList.all operandsOk && ancsOk B 0 ops.toList B

theorem maskOf_spec {B : List Nat} {j i : Nat} : ∀ {es : List Edge}, (maskOf B j es).testBit i = true → ∃ e ∈ es, Region.binds .any e = true ∧ e.on < j ∧ (e.on = i ∨ anc B i e.on = true)
  | [], h => by simp [maskOf] at h
  | e :: es, h => by
    unfold maskOf at h
    split at h
    · rename_i hc
      simp only [Bool.and_eq_true, decide_eq_true_eq] at hc
      simp only [Nat.testBit_or, Bool.or_eq_true] at h
      rcases h with (h | h) | h
      · refine ⟨e, by simp, hc.1, hc.2, .inl ?_⟩
        simpa [Nat.testBit_two_pow] using h
      · exact ⟨e, by simp, hc.1, hc.2, .inr h⟩
      · obtain ⟨e', he', h'⟩ := maskOf_spec h
        exact ⟨e', by simp [he'], h'⟩
    · obtain ⟨e', he', h'⟩ := maskOf_spec h
      exact ⟨e', by simp [he'], h'⟩
theorem ancsOk_spec {B : List Nat} : ∀ (j : Nat) (os : List Oper) (bs : List Nat), ancsOk B j os bs = true → ∀ k i, (bs.getD k 0).testBit i = true →
    ∃ o, os[k]? = some o ∧ (maskOf B (j + k) o.after.toList).testBit i = true
  | _, [], [], _, k, i, h => by simp at h
  | j, o :: os, b :: bs, h, k, i, hb => by
    simp only [ancsOk, Bool.and_eq_true, beq_iff_eq] at h
    cases k with
    | zero =>
      refine ⟨o, rfl, ?_⟩
      simp only [List.getD_cons_zero] at hb
      rw [Nat.add_zero, ← h.1, Nat.testBit_or, hb, Bool.true_or]
    | succ k =>
      obtain ⟨o', h1, h2⟩ := ancsOk_spec (j + 1) os bs h.2 k i (by simpa using hb)
      refine ⟨o', by simpa using h1, ?_⟩
      rw [show j + (k + 1) = j + 1 + k by omega]
      exact h2
  | _, [], _ :: _, h, _, _, _ => by simp [ancsOk] at h
  | _, _ :: _, [], h, _, _, _ => by simp [ancsOk] at h
theorem linOk_spec {ops : Array Oper} {B : List Nat} : ∀ (l seen : List Nat), linOk ops B l seen = true → ∀ pre i post, l = pre ++ i :: post → ∀ o, ops[i]? = some o →
    (∀ e ∈ o.after, Region.binds .any e = true → e.on ∈ pre ∨ e.on ∈ seen) ∧ (isE o = true → ∀ q ∈ post, anc B i q = true)
  | [], _, _, pre, i, post, he, _, _ => by simp at he
  | x :: l, seen, h, [], i, post, he, o, ho => by
    simp only [List.nil_append, List.cons.injEq] at he
    obtain ⟨rfl, rfl⟩ := he
    simp only [linOk, ho, Bool.and_eq_true] at h
    refine ⟨fun e hm hb => .inr ?_, fun hE q hq => ?_⟩
    · have := List.all_eq_true.1 h.1.1 e (by simpa using hm)
      simpa [hb] using this
    · have := h.1.2
      simp only [hE, Bool.not_true, Bool.false_or] at this
      exact List.all_eq_true.1 this q hq
  | x :: l, seen, h, y :: pre, i, post, he, o, ho => by
    simp only [List.cons_append, List.cons.injEq] at he
    obtain ⟨rfl, rfl⟩ := he
    simp only [linOk, Bool.and_eq_true] at h
    obtain ⟨h1, h2⟩ := linOk_spec _ (x :: seen) h.2 pre i post rfl o ho
    refine ⟨fun e hm hb => ?_, h2⟩
    rcases h1 e hm hb with h | h
    · exact .inl (by simp [h])
    · rcases List.mem_cons.1 h with h | h
      · exact .inl (by simp [h])
      · exact .inr h
theorem linOk_valid {ops : Array Oper} {B : List Nat} : ∀ (l seen : List Nat), linOk ops B l seen = true → ∀ i ∈ l, ∃ o : Oper, ops[i]? = some o
  | [], _, _, i, hi => by simp at hi
  | x :: l, seen, h, i, hi => by
    simp only [linOk, Bool.and_eq_true] at h
    rcases List.mem_cons.1 hi with rfl | hi
    · cases ho : ops[i]? with
      | none => rw [ho] at h; simp at h
      | some o => exact ⟨o, rfl⟩
    · exact linOk_valid l _ h.2 i hi
theorem nodupB_spec : ∀ {l : List Nat}, nodupB l = true → l.Nodup
  | [], _ => List.nodup_nil
  | x :: xs, h => by
    simp only [nodupB, Bool.and_eq_true, Bool.not_eq_true'] at h
    refine List.nodup_cons.2 ⟨fun hm => ?_, nodupB_spec h.2⟩
    have := h.1
    simp [hm] at this
theorem schedOk_spec {ops : Array Oper} {sched B : List Nat} (h : schedOk ops sched B = true) : SchedP ops sched B := by
  simp only [schedOk, Bool.and_eq_true] at h
  obtain ⟨⟨⟨⟨⟨h1, h2⟩, h3⟩, h4⟩, h5⟩, h6⟩ := h
  refine ⟨fun i hi => ?_, linOk_valid _ _ h3, nodupB_spec h2, fun pre i post he o ho e hm hb => ?_, fun pre i post he o ho hE => (linOk_spec _ _ h3 pre i post he o ho).2 hE, fun i j oi oj hne hi hj d hd hm => ?_, fun i o ho => ?_, fun i j hij => ?_⟩
  · simpa using List.all_eq_true.1 h1 i (List.mem_range.2 hi)
  · rcases (linOk_spec _ _ h3 pre i post he o ho).1 e hm hb with h | h
    · exact h
    · simp at h
  · have hil := (Array.getElem?_eq_some_iff.1 hi).1
    have hjl := (Array.getElem?_eq_some_iff.1 hj).1
    have g1 := List.all_eq_true.1 h4 i (List.mem_range.2 hil)
    simp only [hi, Option.bind_some, hd] at g1
    have g2 := List.all_eq_true.1 g1 j (List.mem_range.2 hjl)
    simp only [hj, Bool.or_eq_true, beq_iff_eq, hne, false_or] at g2
    rcases g2 with (g2 | g2) | g2
    · exact .inl g2
    · exact .inr g2
    · simp [hm] at g2
  · exact List.all_eq_true.1 h5 o (by simpa using Array.mem_of_getElem? ho)
  · obtain ⟨o, h1, h2⟩ := ancsOk_spec 0 _ _ h6 j i hij
    rw [Nat.zero_add] at h2
    obtain ⟨e, g1, g2, g3, g4⟩ := maskOf_spec h2
    exact ⟨o, e, by simpa using h1, by simpa using g1, g2, g3, g4⟩

/-- Whoever is done, or may be done next, has his ancestors behind him. -/
theorem anc_listed {ops : Array Oper} {sched B : List Nat} (hs : SchedP ops sched B) {D : Nat → Bool} (hclosed : ∀ (j : Nat) (o : Oper), ops[j]? = some o → D j = true → ∀ e ∈ o.after, Region.binds .any e = true → D e.on = true)
    {j : Nat} (hj : D j = true ∨ ∀ o, ops[j]? = some o → ∀ e ∈ o.after, Region.binds .any e = true → D e.on = true) : ∀ i, anc B i j = true → D i = true := by
  induction j using Nat.strongRecOn with
  | _ j ih =>
    intro i hi
    obtain ⟨o, e, ho, he, hb, hlt, h⟩ := hs.ancs i j hi
    have hD : D e.on = true := by
      rcases hj with hj | hj
      · exact hclosed j o ho hj e he hb
      · exact hj o ho e he hb
    rcases h with rfl | h
    · exact hD
    · exact ih e.on hlt (.inl hD) i h

end Go.Ae

/- What a region, a call, a piece of code comes to over the abstract heap, whatever the order that the model draws. A region whose order is given. -/
import Derived.Test.YtmibkoadjehdaaaGreatDoorKy07
set_option linter.unusedVariables false
set_option linter.unusedSimpArgs false
namespace Go.Ae

/-! ### Calls -/

/-- In every world that holds H: the call returns, and the world behind it holds an H' of which Q speaks. -/
def ACalls (P : Program) (f : FuncId) (args : Array Value) (H : AHeap) (Q : Value → AHeap → Prop) : Prop :=
  ∀ (ρ : Ren) (w : World) (cargs : Array Value), RelH P ρ H w → VRs ρ args.toList cargs.toList →
    Calls P f cargs w fun e w' => ∃ v cv ρ' H', e = .returned cv ∧ Q v H' ∧ VR ρ' v cv ∧ RelH P ρ' H' w' ∧ Ext ρ H w ρ' H' w'
theorem ACalls.mono {P : Program} {f : FuncId} {args : Array Value} {H : AHeap} {Q Q' : Value → AHeap → Prop} (h : ACalls P f args H Q) (hq : ∀ v H', Q v H' → Q' v H') : ACalls P f args H Q' :=
  fun ρ w cargs h1 h2 => (h ρ w cargs h1 h2).mono fun _ _ ⟨v, cv, ρ', H', a, b, c⟩ => ⟨v, cv, ρ', H', a, hq _ _ b, c⟩

/-- The method of a pointer type that stands with the type itself. -/
def methA (P : Program) (t : TypeId) (name : String) : Option FuncId := match P.info? t with
  | some i => match i.methods.find? (·.name == name) with
    | some m => match m.path.isEmpty, m.func, P.underlying t with
      | true, some (f, true), some (.pointer _) => some f
      | _, _, _ => none
    | none => none
  | none => none
theorem methA_run {P : Program} {t : TypeId} {name : String} {f : FuncId} (h : methA P t name = some f) (v : Value) (w : World) : (method (P.types.size + Made.depth) t v name).run P w = .ok (f, v) w := by
  obtain ⟨n, hn⟩ : ∃ n, P.types.size + Made.depth = n + 1 := ⟨P.types.size + 99, rfl⟩
  rw [hn]
  unfold methA at h
  split at h
  case h_2 => cases h
  rename_i i hi
  split at h
  case h_2 => cases h
  rename_i m hm
  split at h
  case h_2 => cases h
  rename_i f' elem hp hf hu
  simp only [Option.some.injEq] at h
  subst h
  have hp' : m.path.toList = [] := by
    have := Array.isEmpty_iff.1 hp
    rw [this]
  simp only [method, Sem.run_bind, typeInfo, run_program, Result.andThen_ok, hi, Sem.run_pure, hm, hp', follow, hf, receiverAt, underlying, hu, Place.get]
/-- Which function a call enters, with which arguments. -/
def acall (P : Program) (ev : Operand → Value) (o : Oper) : Option (FuncId × Array Value) :=
  match o.op with
  | .call c => match c.callee with
    | .value f => match ev f with
      | .func (.func g) first captured => match P.funcs[g]? with
        | some fn => if fn.name == "runtime.NumGoroutine" || fn.body.isNone then none else some (g, first ++ c.args.map ev ++ captured)
        | none => none
      | _ => none
    | .invoke recv name => match ev recv with
      | .iface t v => match methA P t name with
        | some g => match P.funcs[g]? with
          | some fn => if fn.name == "runtime.NumGoroutine" || fn.body.isNone then none else some (g, #[v] ++ c.args.map ev)
          | none => none
        | none => none
      | _ => none
    | _ => none
  | _ => none
theorem VRs.map {ρ : Ren} {ev ev' : Operand → Value} : ∀ (l : List Operand), (∀ x ∈ l, VR ρ (ev x) (ev' x)) → VRs ρ (l.map ev) (l.map ev')
  | [], _ => .nil
  | x :: l, h => .cons (h x (by simp)) (VRs.map l fun y hy => h y (by simp [hy]))
theorem acall_sim {P : Program} {ρ : Ren} {ev ev' : Operand → Value} {o : Oper} {g : FuncId} {args : Array Value} (h : acall P ev o = some (g, args)) (hv : ∀ x ∈ o.op.operands, VR ρ (ev x) (ev' x)) :
    ∃ cargs, VRs ρ args.toList cargs.toList ∧ ∀ w, (execOp ev' o).run P w = .ok (.enter g cargs) w := by
  obtain ⟨dst, op, type, pos, after, guard⟩ := o
  unfold acall at h
  split at h
  case h_2 => cases h
  rename_i c heq
  dsimp only at heq; subst heq
  split at h
  case h_3 => cases h
  · rename_i f hc
    split at h
    case h_2 => cases h
    rename_i g' first captured hf
    split at h
    case h_2 => cases h
    rename_i fn hfn
    split at h
    · cases h
    rename_i hcond
    simp only [Option.some.injEq, Prod.mk.injEq] at h
    obtain ⟨rfl, rfl⟩ := h
    have hfv := hv f (by simp [Op.operands, Call.operands, hc])
    rw [hf] at hfv
    generalize hz : ev' f = z at hfv
    cases hfv
    rename_i ys vs hx hX hu hU
    refine ⟨ys ++ c.args.map ev' ++ vs, ?_, fun w => ?_⟩
    · simp only [Array.toList_append, Array.toList_map]
      refine ((VRs.of_agg hx hX).append (VRs.map _ fun x hx => hv x ?_)).append (VRs.of_agg hu hU)
      simp only [Op.operands, Call.operands, hc, Array.mem_append]
      exact .inr (by simpa using hx)
    · simp only [Bool.or_eq_true, not_or, Bool.not_eq_true] at hcond
      have hb : ¬ fn.body.isNone = true := by simp [hcond.2]
      have hn : ¬ (fn.name == "runtime.NumGoroutine") = true := by simp only [Bool.not_eq_true]; exact hcond.1
      simp only [execOp, resolve, hc, hz, Deferred.ofValue, Sem.run_bind, Sem.run_pure, Result.andThen_ok, invoke, callFunc, run_program, hfn, if_neg hn, if_neg hb]
  · rename_i recv name hc
    split at h
    case h_2 => cases h
    rename_i t v hf
    split at h
    case h_2 => cases h
    rename_i g' hm
    split at h
    case h_2 => cases h
    rename_i fn hfn
    split at h
    · cases h
    rename_i hcond
    simp only [Option.some.injEq, Prod.mk.injEq] at h
    obtain ⟨rfl, rfl⟩ := h
    have hfv := hv recv (by simp [Op.operands, Call.operands, hc])
    rw [hf] at hfv
    generalize hz : ev' recv = z at hfv
    cases hfv
    rename_i v' hvv
    refine ⟨#[v'] ++ c.args.map ev', ?_, fun w => ?_⟩
    · simp only [Array.toList_append, Array.toList_map]
      refine VRs.append (.cons hvv .nil) (VRs.map _ fun x hx => hv x ?_)
      simp only [Op.operands, Call.operands, hc, Array.mem_append]
      exact .inr (by simpa using hx)
    · simp only [Bool.or_eq_true, not_or, Bool.not_eq_true] at hcond
      have hb : ¬ fn.body.isNone = true := by simp [hcond.2]
      have hn : ¬ (fn.name == "runtime.NumGoroutine") = true := by simp only [Bool.not_eq_true]; exact hcond.1
      have h0 : (#[Value.iface t v'] ++ c.args.map ev')[0]? = some (.iface t v') := by rw [Array.getElem?_append_left (by simp)]; rfl
      have h1 : (#[Value.iface t v'] ++ c.args.map ev').extract 1 (#[Value.iface t v'] ++ c.args.map ev').size = c.args.map ev' := by
        apply Array.ext'
        simp
        rw [List.take_of_length_le (by simp)]
      simp only [execOp, resolve, hc, hz, Sem.run_bind, Sem.run_pure, Result.andThen_ok, invoke, h0, h1, callMethod, run_program, methA_run hm, callFunc, hfn, if_neg hn, if_neg hb]

/-! ### One operation -/

def isE (o : Oper) : Bool :=
  match o.op with
  | .move _ | .assign _ | .pick .. | .alloc _ | .box .. | .build .. | .buildSlice .. | .load .. | .nilCheck _ | .binOp .. | .unOp .. | .convert .. | .makeInterface .. | .makeFunc ..
  | .makeSlice .. | .slice .. | .fieldAddr .. | .field .. | .indexAddr .. | .index .. | .typeAssert .. | .extract .. => false
  | .call c => match c.callee with
    | .builtin .len | .builtin .cap | .builtin .min | .builtin .max => false
    | _ => true
  | _ => true

def nRes (P : Program) (a : Act) (H : AHeap) (o : Oper) : Option (Value × AHeap) :=
  match o.op with
  | .load .. => (aR P a.eval H o).map fun v => (v, H)
  | .alloc _ | .box .. | .buildSlice .. | .makeSlice .. => (aA P a.eval o).map fun rm => (rm.2 H.next, H.push (.row rm.1))
  | .convert .. => match aR P a.eval H o with
    | some v => some (v, H)
    | none => match aA P a.eval o with
      | some rm => some (rm.2 H.next, H.push (.row rm.1))
      | none => (aP P a.eval o).map fun v => (v, H)
  | _ => (aP P a.eval o).map fun v => (v, H)
def nStep (P : Program) (a : Act) (H : AHeap) (o : Oper) (K : Value → AHeap → Prop) : Prop :=
  match nRes P a H o with
  | some vH => K vH.1 vH.2
  | none => False
def eStep (P : Program) (a : Act) (H : AHeap) (o : Oper) (K : Value → AHeap → Prop) : Prop :=
  match acall P a.eval o with
  | some fa => ACalls P fa.1 fa.2 H K
  | none => match aE P a.eval H o with
    | some vH => K vH.1 vH.2
    | none => False

/-- What was done, canonically: nothing but a value; a read; a new row. -/
inductive NFact (P : Program) (a : Act) (o : Oper) (H : AHeap) (v : Value) : AHeap → Prop
  | pure (h : aP P a.eval o = some v) (hr : aR P a.eval H o = none) : NFact P a o H v H
  | read (h : aR P a.eval H o = some v) : NFact P a o H v H
  | new (r : Row) (mk : Nat → Value) (h : aA P a.eval o = some (r, mk)) (hv : v = mk H.next) (hr : ∀ H, aR P a.eval H o = none) : NFact P a o H v (H.push (.row r))
theorem aA_noRead {P : Program} {ev : Operand → Value} {src dst : TypeId} {x : Operand} {d : Option Tmp} {ty : TypeId} {pos : String} {af : Array Edge} {g : Option (Nat × Bool)} {rm : Row × (Nat → Value)}
    (h : aA P ev ⟨d, .convert src dst x, ty, pos, af, g⟩ = some rm) (H : AHeap) : aR P ev H ⟨d, .convert src dst x, ty, pos, af, g⟩ = none := by
  unfold aA at h
  dsimp only at h
  split at h
  · rename_i e str hus hud hx
    simp [aR, toStrA, uptrA, hus, hud]
  · cases h
theorem nRes_fact {P : Program} {a : Act} {H H' : AHeap} {o : Oper} {v : Value} (h : nRes P a H o = some (v, H')) : NFact P a o H v H' := by
  obtain ⟨dst, op, type, pos, after, guard⟩ := o
  have nr : ∀ (op : Op), (∀ t x, op ≠ .load t x) → (∀ s d x, op ≠ .convert s d x) → ∀ H, aR P a.eval H ⟨dst, op, type, pos, after, guard⟩ = none := by
    intro op h1 h2 H
    unfold aR
    split
    · rename_i t x he; exact absurd he (h1 t x)
    · rename_i s d x he; exact absurd he (h2 s d x)
    · rfl
  unfold nRes at h
  split at h
  · simp only [Option.map_eq_some_iff, Prod.mk.injEq] at h
    obtain ⟨v', hv, rfl, rfl⟩ := h
    exact .read hv
  case h_6 src dst' x heq =>
    dsimp only at heq
    subst heq
    split at h
    · rename_i v' hv
      simp only [Option.some.injEq, Prod.mk.injEq] at h
      obtain ⟨rfl, rfl⟩ := h
      exact .read hv
    · rename_i hn
      split at h
      · rename_i rm hrm
        simp only [Option.some.injEq, Prod.mk.injEq] at h
        obtain ⟨rfl, rfl⟩ := h
        exact .new rm.1 rm.2 hrm rfl (aA_noRead hrm)
      · simp only [Option.map_eq_some_iff, Prod.mk.injEq] at h
        obtain ⟨v', hv, rfl, rfl⟩ := h
        exact .pure hv hn
  case h_7 h1 _ _ _ _ h2 =>
    simp only [Option.map_eq_some_iff, Prod.mk.injEq] at h
    obtain ⟨v', hv, rfl, rfl⟩ := h
    exact .pure hv (nr _ (fun t x e => h1 t x e) (fun s d x e => h2 s d x e) H)
  all_goals
    rename_i heq
    dsimp only at heq
    subst heq
    simp only [Option.map_eq_some_iff, Prod.mk.injEq] at h
    obtain ⟨rm, hv, rfl, rfl⟩ := h
    exact .new rm.1 rm.2 hv rfl (nr _ (by simp) (by simp))
theorem nStep_fact {P : Program} {a : Act} {H : AHeap} {o : Oper} {K : Value → AHeap → Prop} (h : nStep P a H o K) : ∃ v H', NFact P a o H v H' ∧ K v H' := by
  unfold nStep at h
  split at h
  · rename_i vH hn
    exact ⟨vH.1, vH.2, nRes_fact hn, h⟩
  · exact h.elim
theorem nStep_of {P : Program} {a : Act} {H H' : AHeap} {o : Oper} {v : Value} {K : Value → AHeap → Prop} (h : nRes P a H o = some (v, H')) (hk : K v H') : nStep P a H o K := by
  unfold nStep
  rw [h]
  exact hk

end Go.Ae
namespace Go.Ae

theorem TR.size {ρ : Ren} {a b : Act} (h : TR ρ a b) : a.tmps.size = b.tmps.size := by simpa using h.tmps.length
theorem TR.put {ρ : Ren} {a b : Act} (h : TR ρ a b) (d : Option Tmp) {v v' : Value} (hv : VR ρ v v') : TR ρ (a.put d v) (b.put d v') := by
  cases d with
  | none => exact h
  | some d => exact ⟨by simp only [Act.put, Array.toList_setIfInBounds]; exact h.tmps.set d hv, h.defs, h.glob⟩

def boolOf : Value → Option Bool
  | .bool b => some b
  | _ => none
theorem VR.boolOf {ρ : Ren} {x y : Value} (h : VR ρ x y) : boolOf x = boolOf y := by cases h <;> rfl
theorem yielded_eq (ops : Array Oper) (tmps : Array Value) (j : Nat) : yielded ops tmps j = (((ops[j]?).bind (·.dst)).bind (tmps[·]?)).bind boolOf := by
  unfold yielded
  generalize ((ops[j]?).bind (·.dst)).bind (tmps[·]?) = z
  cases z with
  | none => rfl
  | some v => cases v <;> rfl
theorem TR.yielded {ρ : Ren} {a b : Act} (h : TR ρ a b) (ops : Array Oper) : yielded ops a.tmps = yielded ops b.tmps := by
  funext j
  rw [yielded_eq, yielded_eq]
  cases (ops[j]?).bind (·.dst) with
  | none => rfl
  | some t =>
    simp only [Option.bind_some]
    cases hx : a.tmps[t]? with
    | none =>
      have : b.tmps[t]? = none := by
        rw [Array.getElem?_eq_none_iff] at hx ⊢
        rw [← h.size]; exact hx
      rw [this]
    | some x =>
      obtain ⟨y, hy, hv⟩ := h.tmps.get t x (by simpa using hx)
      simp only [Array.getElem?_toList] at hy
      rw [hy]
      exact hv.boolOf

def operandsOk (o : Oper) : Bool := o.op.operands.all okOperand
theorem TR.operands {ρ : Ren} {a b : Act} (h : TR ρ a b) {o : Oper} (ho : operandsOk o = true) : ∀ x ∈ o.op.operands, VR ρ (a.eval x) (b.eval x) :=
  fun x hx => h.eval (Array.all_eq_true_iff_forall_mem.1 ho x hx)

/-- What the code behind comes to. -/
def After (P : Program) (ρ : Ren) (H : AHeap) (w : World) (K : Act → AHeap → Prop) (b' : Act) (w' : World) : Prop :=
  ∃ a' H' ρ', K a' H' ∧ TR ρ' a' b' ∧ RelH P ρ' H' w' ∧ Ext ρ H w ρ' H' w'

/-- An operation that does nothing to what was there. -/
theorem nFact_sim {P : Program} {ρ : Ren} {a : Act} {ev' : Operand → Value} {H H' : AHeap} {w : World} {o : Oper} {v : Value} (h : NFact P a o H v H') (hH : RelH P ρ H w)
    (hv : ∀ x ∈ o.op.operands, VR ρ (a.eval x) (ev' x)) : ∃ v' ρ' w', (execOp ev' o).run P w = .ok (.value v') w' ∧ VR ρ' v v' ∧ RelH P ρ' H' w' ∧ Ext ρ H w ρ' H' w' := by
  cases h with
  | pure h _ =>
    obtain ⟨v', h1, h2⟩ := aP_sim h hv
    exact ⟨v', ρ, w, h2 w, h1, hH, ExtN.refl _ _ _ _⟩
  | read h =>
    obtain ⟨v', h1, h2⟩ := aR_sim hH h hv
    exact ⟨v', ρ, w, h2, h1, hH, ExtN.refl _ _ _ _⟩
  | new r mk h hmk _ =>
    subst hmk
    obtain ⟨v', ρ', w', h1, h2, h3, h4, _⟩ := aA_sim (hH.push (.row r)) h hv (n := H.next) (by simp [AHeap.push_get]) (fun v => hH.noPlace (Nat.le_refl _) v) (by rw [AHeap.push_next]; omega)
    exact ⟨v', ρ', w', h1, h2, h3, (ExtN.push _ _ (Nat.le_refl _)).trans (h4 H.next (Nat.le_refl _))⟩

theorem eStep_sim {P : Program} {ρ : Ren} {a b : Act} {H : AHeap} {w : World} {o : Oper} {K : Value → AHeap → Prop} (h : eStep P a H o K) (hH : RelH P ρ H w) (hv : ∀ x ∈ o.op.operands, VR ρ (a.eval x) (b.eval x))
    {N : Act → World → Prop} {Q : Exit → Act → World → Prop} (hN : ∀ v v' H' ρ' w', K v H' → VR ρ' v v' → RelH P ρ' H' w' → Ext ρ H w ρ' H' w' → N (b.put o.dst v') w') : o.wp P b w N Q := by
  unfold eStep at h
  unfold Oper.wp
  split at h
  · rename_i fa hfa
    obtain ⟨cargs, h1, h2⟩ := acall_sim hfa hv
    rw [h2 w, Oper.upon_enter]
    refine (h ρ w cargs hH h1).mono fun e w' ⟨v, cv, ρ', H', he, hk, hvr, hr, hx⟩ => ?_
    subst he
    exact hN v cv H' ρ' w' hk hvr hr hx
  · split at h
    · rename_i vH hE
      obtain ⟨v', ρ', w', h1, h2, h3, h4⟩ := aE_sim hH hE hv
      rcases h1 with h1 | ⟨rfl, h1⟩
      · rw [h1]; exact hN _ _ _ _ _ h h2 h3 h4
      · rw [h1]; exact hN _ _ _ _ _ h h2 h3 h4
    · exact h.elim

def step1 (P : Program) (a : Act) (H : AHeap) (o : Oper) (K : Value → AHeap → Prop) : Prop := if isE o then eStep P a H o K else nStep P a H o K
def wpSeq (P : Program) (ops : Array Oper) (K : Act → AHeap → Prop) : List Oper → Act → AHeap → Prop
  | [], a, H => K a H
  | o :: rest, a, H =>
    if Region.wanted o (yielded ops a.tmps) then step1 P a H o (fun v H' => wpSeq P ops K rest (a.put o.dst v) H')
    else wpSeq P ops K rest (a.put o.dst undef) H

theorem wpSeq_sim {P : Program} {ops : Array Oper} {K : Act → AHeap → Prop} {Q : Exit → Act → World → Prop} : ∀ (l : List Nat) (os : List Oper) (ρ : Ren) (a b : Act) (H : AHeap) (w : World),
    os.map some = l.map (ops[·]?) → (∀ o ∈ os, operandsOk o = true) → wpSeq P ops K os a H → TR ρ a b → RelH P ρ H w →
    (∀ b' w', After P ρ H w K b' w' → Q .normal b' w') → wpOps P ops Q l b w
  | [], [], ρ, a, b, H, w, _, _, h, hT, hH, hQ => hQ b w ⟨a, H, ρ, h, hT, hH, ExtN.refl _ _ _ _⟩
  | [], _ :: _, _, _, _, _, _, he, _, _, _, _, _ => by simp at he
  | _ :: _, [], _, _, _, _, _, he, _, _, _, _, _ => by simp at he
  | i :: l, o :: os, ρ, a, b, H, w, he, hok, h, hT, hH, hQ => by
    simp only [List.map_cons, List.cons.injEq] at he
    obtain ⟨ho, he⟩ := he
    have hok' : ∀ o ∈ os, operandsOk o = true := fun o ho => hok o (by simp [ho])
    have next : ∀ v v' H' ρ' w', wpSeq P ops K os (a.put o.dst v) H' → VR ρ' v v' → RelH P ρ' H' w' → Ext ρ H w ρ' H' w' → wpOps P ops Q l (b.put o.dst v') w' := fun v v' H' ρ' w' hs hvr hr hx =>
      wpSeq_sim l os ρ' _ _ H' w' he hok' hs ((hT.mono hx.mono).put o.dst hvr) hr fun b' w'' ⟨a', H'', ρ'', h1, h2, h3, h4⟩ => hQ b' w'' ⟨a', H'', ρ'', h1, h2, h3, Ext.trans hx h4⟩
    simp only [wpOps, ← ho]
    simp only [wpSeq] at h
    rw [hT.yielded ops] at h
    split at h
    · rename_i hw
      rw [if_pos hw]
      refine .inl ?_
      have hv := hT.operands (hok o (by simp))
      unfold step1 at h
      split at h
      · exact eStep_sim h hH hv next
      · obtain ⟨v, H', hf, hk⟩ := nStep_fact h
        obtain ⟨v', ρ', w', h1, h2, h3, h4⟩ := nFact_sim hf hH hv
        unfold Oper.wp
        rw [h1, Oper.upon_value]
        exact next v v' H' ρ' w' hk h2 h3 h4
    · rename_i hw
      rw [if_neg hw]
      exact next undef undef H ρ w h (.tuple rfl (by simp)) hH (ExtN.refl _ _ _ _)

end Go.Ae
namespace Go.Ae

def anc (B : List Nat) (i j : Nat) : Bool := (B.getD j 0).testBit i
def namesOf (ops : Array Oper) (o : Oper) : List Tmp := o.dst.toList ++ o.looksAt ops

structure SchedP (ops : Array Oper) (sched : List Nat) (B : List Nat) : Prop where
  mem : ∀ i, i < ops.size → i ∈ sched
  valid : ∀ i ∈ sched, ∃ o : Oper, ops[i]? = some o
  nodup : sched.Nodup
  edges : ∀ pre i post, sched = pre ++ i :: post → ∀ (o : Oper), ops[i]? = some o → ∀ e ∈ o.after, Region.binds .any e = true → e.on ∈ pre
  eff : ∀ pre i post, sched = pre ++ i :: post → ∀ (o : Oper), ops[i]? = some o → isE o = true → ∀ q ∈ post, anc B i q = true
  temps : ∀ (i j : Nat) (oi oj : Oper), i ≠ j → ops[i]? = some oi → ops[j]? = some oj → ∀ d, oi.dst = some d → d ∈ namesOf ops oj → anc B i j = true ∨ anc B j i = true
  oper : ∀ (i : Nat) (o : Oper), ops[i]? = some o → operandsOk o = true
  ancs : ∀ i j, anc B i j = true → ∃ (o : Oper) (e : Edge), ops[j]? = some o ∧ e ∈ o.after ∧ Region.binds .any e = true ∧ e.on < j ∧ (e.on = i ∨ anc B i e.on = true)

def maskOf (B : List Nat) (j : Nat) : List Edge → Nat
  | [] => 0
  | e :: es => if Region.binds .any e && decide (e.on < j) then 2 ^ e.on ||| B.getD e.on 0 ||| maskOf B j es else maskOf B j es
def ancsOk (B : List Nat) : Nat → List Oper → List Nat → Bool
  | _, [], [] => true
  | j, o :: os, b :: bs => (b ||| maskOf B j o.after.toList == maskOf B j o.after.toList) && ancsOk B (j + 1) os bs
  | _, _, _ => false
def linOk (ops : Array Oper) (B : List Nat) : List Nat → List Nat → Bool
  | [], _ => true
  | i :: rest, seen => (match ops[i]? with
      | some o => o.after.toList.all (fun e => !Region.binds .any e || seen.contains e.on) && (!isE o || rest.all fun q => anc B i q)
      | none => false) && linOk ops B rest (i :: seen)
def tempsOk (ops : Array Oper) (B : List Nat) : Bool :=
  (List.range ops.size).all fun i => match (ops[i]?).bind (·.dst) with
    | none => true
    | some d => (List.range ops.size).all fun j => i == j || anc B i j || anc B j i || match ops[j]? with
      | some oj => !(namesOf ops oj).contains d
      | none => true
def nodupB : List Nat → Bool
  | [] => true
  | x :: xs => !xs.contains x && nodupB xs
def schedOk (ops : Array Oper) (sched : List Nat) (B : List Nat) : Bool :=
  (List.range ops.size).all (fun i => sched.contains i) && nodupB sched && linOk ops B sched [] && tempsOk ops B && ops.toList.all operandsOk && ancsOk B 0 ops.toList B

theorem maskOf_spec {B : List Nat} {j i : Nat} : ∀ {es : List Edge}, (maskOf B j es).testBit i = true → ∃ e ∈ es, Region.binds .any e = true ∧ e.on < j ∧ (e.on = i ∨ anc B i e.on = true)
  | [], h => by simp [maskOf] at h
  | e :: es, h => by
    unfold maskOf at h
    split at h
    · rename_i hc
      simp only [Bool.and_eq_true, decide_eq_true_eq] at hc
      simp only [Nat.testBit_or, Bool.or_eq_true] at h
      rcases h with (h | h) | h
      · refine ⟨e, by simp, hc.1, hc.2, .inl ?_⟩
        simpa [Nat.testBit_two_pow] using h
      · exact ⟨e, by simp, hc.1, hc.2, .inr h⟩
      · obtain ⟨e', he', h'⟩ := maskOf_spec h
        exact ⟨e', by simp [he'], h'⟩
    · obtain ⟨e', he', h'⟩ := maskOf_spec h
      exact ⟨e', by simp [he'], h'⟩
theorem ancsOk_spec {B : List Nat} : ∀ (j : Nat) (os : List Oper) (bs : List Nat), ancsOk B j os bs = true → ∀ k i, (bs.getD k 0).testBit i = true →
    ∃ o, os[k]? = some o ∧ (maskOf B (j + k) o.after.toList).testBit i = true
  | _, [], [], _, k, i, h => by simp at h
  | j, o :: os, b :: bs, h, k, i, hb => by
    simp only [ancsOk, Bool.and_eq_true, beq_iff_eq] at h
    cases k with
    | zero =>
      refine ⟨o, rfl, ?_⟩
      simp only [List.getD_cons_zero] at hb
      rw [Nat.add_zero, ← h.1, Nat.testBit_or, hb, Bool.true_or]
    | succ k =>
      obtain ⟨o', h1, h2⟩ := ancsOk_spec (j + 1) os bs h.2 k i (by simpa using hb)
      refine ⟨o', by simpa using h1, ?_⟩
      rw [show j + (k + 1) = j + 1 + k by omega]
      exact h2
  | _, [], _ :: _, h, _, _, _ => by simp [ancsOk] at h
  | _, _ :: _, [], h, _, _, _ => by simp [ancsOk] at h
theorem linOk_spec {ops : Array Oper} {B : List Nat} : ∀ (l seen : List Nat), linOk ops B l seen = true → ∀ pre i post, l = pre ++ i :: post → ∀ o, ops[i]? = some o →
    (∀ e ∈ o.after, Region.binds .any e = true → e.on ∈ pre ∨ e.on ∈ seen) ∧ (isE o = true → ∀ q ∈ post, anc B i q = true)
  | [], _, _, pre, i, post, he, _, _ => by simp at he
  | x :: l, seen, h, [], i, post, he, o, ho => by
    simp only [List.nil_append, List.cons.injEq] at he
    obtain ⟨rfl, rfl⟩ := he
    simp only [linOk, ho, Bool.and_eq_true] at h
    refine ⟨fun e hm hb => .inr ?_, fun hE q hq => ?_⟩
    · have := List.all_eq_true.1 h.1.1 e (by simpa using hm)
      simpa [hb] using this
    · have := h.1.2
      simp only [hE, Bool.not_true, Bool.false_or] at this
      exact List.all_eq_true.1 this q hq
  | x :: l, seen, h, y :: pre, i, post, he, o, ho => by
    simp only [List.cons_append, List.cons.injEq] at he
    obtain ⟨rfl, rfl⟩ := he
    simp only [linOk, Bool.and_eq_true] at h
    obtain ⟨h1, h2⟩ := linOk_spec _ (x :: seen) h.2 pre i post rfl o ho
    refine ⟨fun e hm hb => ?_, h2⟩
    rcases h1 e hm hb with h | h
    · exact .inl (by simp [h])
    · rcases List.mem_cons.1 h with h | h
      · exact .inl (by simp [h])
      · exact .inr h
theorem linOk_valid {ops : Array Oper} {B : List Nat} : ∀ (l seen : List Nat), linOk ops B l seen = true → ∀ i ∈ l, ∃ o : Oper, ops[i]? = some o
  | [], _, _, i, hi => by simp at hi
  | x :: l, seen, h, i, hi => by
    simp only [linOk, Bool.and_eq_true] at h
    rcases List.mem_cons.1 hi with rfl | hi
    · cases ho : ops[i]? with
      | none => rw [ho] at h; simp at h
      | some o => exact ⟨o, rfl⟩
    · exact linOk_valid l _ h.2 i hi
theorem nodupB_spec : ∀ {l : List Nat}, nodupB l = true → l.Nodup
  | [], _ => List.nodup_nil
  | x :: xs, h => by
    simp only [nodupB, Bool.and_eq_true, Bool.not_eq_true'] at h
    refine List.nodup_cons.2 ⟨fun hm => ?_, nodupB_spec h.2⟩
    have := h.1
    simp [hm] at this
theorem schedOk_spec {ops : Array Oper} {sched B : List Nat} (h : schedOk ops sched B = true) : SchedP ops sched B := by
  simp only [schedOk, Bool.and_eq_true] at h
  obtain ⟨⟨⟨⟨⟨h1, h2⟩, h3⟩, h4⟩, h5⟩, h6⟩ := h
  refine ⟨fun i hi => ?_, linOk_valid _ _ h3, nodupB_spec h2, fun pre i post he o ho e hm hb => ?_, fun pre i post he o ho hE => (linOk_spec _ _ h3 pre i post he o ho).2 hE, fun i j oi oj hne hi hj d hd hm => ?_, fun i o ho => ?_, fun i j hij => ?_⟩
  · simpa using List.all_eq_true.1 h1 i (List.mem_range.2 hi)
  · rcases (linOk_spec _ _ h3 pre i post he o ho).1 e hm hb with h | h
    · exact h
    · simp at h
  · have hil := (Array.getElem?_eq_some_iff.1 hi).1
    have hjl := (Array.getElem?_eq_some_iff.1 hj).1
    have g1 := List.all_eq_true.1 h4 i (List.mem_range.2 hil)
    simp only [hi, Option.bind_some, hd] at g1
    have g2 := List.all_eq_true.1 g1 j (List.mem_range.2 hjl)
    simp only [hj, Bool.or_eq_true, beq_iff_eq, hne, false_or] at g2
    rcases g2 with (g2 | g2) | g2
    · exact .inl g2
    · exact .inr g2
    · simp [hm] at g2
  · exact List.all_eq_true.1 h5 o (by simpa using Array.mem_of_getElem? ho)
  · obtain ⟨o, h1, h2⟩ := ancsOk_spec 0 _ _ h6 j i hij
    rw [Nat.zero_add] at h2
    obtain ⟨e, g1, g2, g3, g4⟩ := maskOf_spec h2
    exact ⟨o, e, by simpa using h1, by simpa using g1, g2, g3, g4⟩

/-- Whoever is done, or may be done next, has his ancestors behind him. -/
theorem anc_listed {ops : Array Oper} {sched B : List Nat} (hs : SchedP ops sched B) {D : Nat → Bool} (hclosed : ∀ (j : Nat) (o : Oper), ops[j]? = some o → D j = true → ∀ e ∈ o.after, Region.binds .any e = true → D e.on = true)
    {j : Nat} (hj : D j = true ∨ ∀ o, ops[j]? = some o → ∀ e ∈ o.after, Region.binds .any e = true → D e.on = true) : ∀ i, anc B i j = true → D i = true := by
  induction j using Nat.strongRecOn with
  | _ j ih =>
    intro i hi
    obtain ⟨o, e, ho, he, hb, hlt, h⟩ := hs.ancs i j hi
    have hD : D e.on = true := by
      rcases hj with hj | hj
      · exact hclosed j o ho hj e he hb
      · exact hj o ho e he hb
    rcases h with rfl | h
    · exact hD
    · exact ih e.on hlt (.inl hD) i h

end Go.Ae

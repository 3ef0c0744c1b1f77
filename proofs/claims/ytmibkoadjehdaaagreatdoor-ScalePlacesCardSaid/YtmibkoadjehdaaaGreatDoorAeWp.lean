/- What a region, a call, a piece of code comes to over the abstract heap, whatever the order that the model draws. No condition. -/
import Derived.Test.YtmibkoadjehdaaaGreatDoorAeCopy
namespace Go.Ae

/-! ### Calls -/

/-- In every world that holds H: the call returns, and the world behind it holds an H' of which Q speaks. -/
def ACalls (P : Program) (f : FuncId) (args : Array Value) (H : AHeap) (Q : Value → AHeap → Prop) : Prop :=
  ∀ (ρ : Ren) (w : World) (cargs : Array Value), RelH P ρ H w → VRs ρ args.toList cargs.toList →
    Calls P f cargs w fun e w' => ∃ v cv ρ' H', e = .returned cv ∧ Q v H' ∧ VR ρ' v cv ∧ RelH P ρ' H' w' ∧ Ext ρ H w ρ' H' w'
theorem ACalls.mono {P : Program} {f : FuncId} {args : Array Value} {H : AHeap} {Q Q' : Value → AHeap → Prop} (h : ACalls P f args H Q) (hq : ∀ v H', Q v H' → Q' v H') : ACalls P f args H Q' :=
  fun ρ w cargs h1 h2 => (h ρ w cargs h1 h2).mono fun _ _ ⟨v, cv, ρ', H', a, b, c⟩ => ⟨v, cv, ρ', H', a, hq _ _ b, c⟩

/-- Which function a call enters, with which arguments. -/
def acall (P : Program) (ev : Operand → Value) (o : Oper) : Option (FuncId × Array Value) :=
  match o.op with
  | .call c => match c.callee with
    | .value f => match ev f with
      | .func (.func g) first captured => match P.funcs[g]? with
        | some fn => if fn.name == "runtime.NumGoroutine" || fn.body.isNone then none else some (g, first ++ c.args.map ev ++ captured)
        | none => none
      | _ => none
    | _ => none
  | _ => none
theorem VRs.map {ρ : Ren} {ev ev' : Operand → Value} : ∀ (l : List Operand), (∀ x ∈ l, VR ρ (ev x) (ev' x)) → VRs ρ (l.map ev) (l.map ev')
  | [], _ => .nil
  | x :: l, h => .cons (h x (by simp)) (VRs.map l fun y hy => h y (by simp [hy]))
theorem acall_sim {P : Program} {ρ : Ren} {ev ev' : Operand → Value} {o : Oper} {g : FuncId} {args : Array Value} (h : acall P ev o = some (g, args)) (hv : ∀ x ∈ o.op.operands, VR ρ (ev x) (ev' x)) :
    ∃ cargs, VRs ρ args.toList cargs.toList ∧ ∀ w, (execOp ev' o).run P w = .ok (.enter g cargs) w := by
  obtain ⟨dst, op, type, pos, after, guard⟩ := o
  unfold acall at h
  split at h
  case h_2 => cases h
  rename_i c heq
  dsimp only at heq; subst heq
  split at h
  case h_2 => cases h
  rename_i f hc
  split at h
  case h_2 => cases h
  rename_i g' first captured hf
  split at h
  case h_2 => cases h
  rename_i fn hfn
  split at h
  · cases h
  rename_i hcond
  simp only [Option.some.injEq, Prod.mk.injEq] at h
  obtain ⟨rfl, rfl⟩ := h
  have hfv := hv f (by simp [Op.operands, Call.operands, hc])
  rw [hf] at hfv
  generalize hz : ev' f = z at hfv
  cases hfv
  rename_i ys vs hx hX hu hU
  refine ⟨ys ++ c.args.map ev' ++ vs, ?_, fun w => ?_⟩
  · simp only [Array.toList_append, Array.toList_map]
    refine ((VRs.of_agg hx hX).append (VRs.map _ fun x hx => hv x ?_)).append (VRs.of_agg hu hU)
    simp only [Op.operands, Call.operands, hc, Array.mem_append]
    exact .inr (by simpa using hx)
  · simp only [Bool.or_eq_true, not_or, Bool.not_eq_true] at hcond
    have hb : ¬ fn.body.isNone = true := by simp [hcond.2]
    have hn : ¬ (fn.name == "runtime.NumGoroutine") = true := by simp only [Bool.not_eq_true]; exact hcond.1
    simp only [execOp, resolve, hc, hz, Deferred.ofValue, Sem.run_bind, Sem.run_pure, Result.andThen_ok, invoke, callFunc, run_program, hfn, if_neg hn, if_neg hb]

/-! ### One operation -/

def isE (o : Oper) : Bool :=
  match o.op with
  | .move _ | .assign _ | .pick .. | .alloc _ | .box .. | .build .. | .buildSlice .. | .load .. | .nilCheck _ | .binOp .. | .unOp .. | .convert .. | .makeInterface .. | .makeFunc ..
  | .makeSlice .. | .slice .. | .fieldAddr .. | .field .. | .indexAddr .. | .index .. | .typeAssert .. | .extract .. => false
  | .call c => match c.callee with
    | .builtin .len | .builtin .cap | .builtin .min | .builtin .max => false
    | _ => true
  | _ => true

def nRes (P : Program) (a : Act) (H : AHeap) (o : Oper) : Option (Value × AHeap) :=
  match o.op with
  | .load .. => (aR P a.eval H o).map fun v => (v, H)
  | .alloc _ | .box .. | .buildSlice .. | .makeSlice .. => (aA P a.eval o).map fun rm => (rm.2 H.next, H.push (.row rm.1))
  | .convert .. => match aR P a.eval H o with
    | some v => some (v, H)
    | none => match aA P a.eval o with
      | some rm => some (rm.2 H.next, H.push (.row rm.1))
      | none => (aP P a.eval o).map fun v => (v, H)
  | _ => (aP P a.eval o).map fun v => (v, H)
def nStep (P : Program) (a : Act) (H : AHeap) (o : Oper) (K : Value → AHeap → Prop) : Prop :=
  match nRes P a H o with
  | some vH => K vH.1 vH.2
  | none => False
def eStep (P : Program) (a : Act) (H : AHeap) (o : Oper) (K : Value → AHeap → Prop) : Prop :=
  match acall P a.eval o with
  | some fa => ACalls P fa.1 fa.2 H K
  | none => match aE P a.eval H o with
    | some vH => K vH.1 vH.2
    | none => False

/-- What was done, canonically: nothing but a value; a read; a new row. -/
inductive NFact (P : Program) (a : Act) (o : Oper) (H : AHeap) (v : Value) : AHeap → Prop
  | pure (h : aP P a.eval o = some v) (hr : aR P a.eval H o = none) : NFact P a o H v H
  | read (h : aR P a.eval H o = some v) : NFact P a o H v H
  | new (r : Row) (mk : Nat → Value) (h : aA P a.eval o = some (r, mk)) (hv : v = mk H.next) (hr : ∀ H, aR P a.eval H o = none) : NFact P a o H v (H.push (.row r))
theorem aA_noRead {P : Program} {ev : Operand → Value} {src dst : TypeId} {x : Operand} {d : Option Tmp} {ty : TypeId} {pos : String} {af : Array Edge} {g : Option (Nat × Bool)} {rm : Row × (Nat → Value)}
    (h : aA P ev ⟨d, .convert src dst x, ty, pos, af, g⟩ = some rm) (H : AHeap) : aR P ev H ⟨d, .convert src dst x, ty, pos, af, g⟩ = none := by
  unfold aA at h
  dsimp only at h
  split at h
  · rename_i e str hus hud hx
    simp [aR, toStrA, uptrA, hus, hud]
  · cases h
theorem nRes_fact {P : Program} {a : Act} {H H' : AHeap} {o : Oper} {v : Value} (h : nRes P a H o = some (v, H')) : NFact P a o H v H' := by
  obtain ⟨dst, op, type, pos, after, guard⟩ := o
  have nr : ∀ (op : Op), (∀ t x, op ≠ .load t x) → (∀ s d x, op ≠ .convert s d x) → ∀ H, aR P a.eval H ⟨dst, op, type, pos, after, guard⟩ = none := by
    intro op h1 h2 H
    unfold aR
    split
    · rename_i t x he; exact absurd he (h1 t x)
    · rename_i s d x he; exact absurd he (h2 s d x)
    · rfl
  unfold nRes at h
  split at h
  · simp only [Option.map_eq_some_iff, Prod.mk.injEq] at h
    obtain ⟨v', hv, rfl, rfl⟩ := h
    exact .read hv
  case h_6 src dst' x heq =>
    dsimp only at heq
    subst heq
    split at h
    · rename_i v' hv
      simp only [Option.some.injEq, Prod.mk.injEq] at h
      obtain ⟨rfl, rfl⟩ := h
      exact .read hv
    · rename_i hn
      split at h
      · rename_i rm hrm
        simp only [Option.some.injEq, Prod.mk.injEq] at h
        obtain ⟨rfl, rfl⟩ := h
        exact .new rm.1 rm.2 hrm rfl (aA_noRead hrm)
      · simp only [Option.map_eq_some_iff, Prod.mk.injEq] at h
        obtain ⟨v', hv, rfl, rfl⟩ := h
        exact .pure hv hn
  case h_7 h1 _ _ _ _ h2 =>
    simp only [Option.map_eq_some_iff, Prod.mk.injEq] at h
    obtain ⟨v', hv, rfl, rfl⟩ := h
    exact .pure hv (nr _ (fun t x e => h1 t x e) (fun s d x e => h2 s d x e) H)
  all_goals
    rename_i heq
    dsimp only at heq
    subst heq
    simp only [Option.map_eq_some_iff, Prod.mk.injEq] at h
    obtain ⟨rm, hv, rfl, rfl⟩ := h
    exact .new rm.1 rm.2 hv rfl (nr _ (by simp) (by simp))
theorem nStep_fact {P : Program} {a : Act} {H : AHeap} {o : Oper} {K : Value → AHeap → Prop} (h : nStep P a H o K) : ∃ v H', NFact P a o H v H' ∧ K v H' := by
  unfold nStep at h
  split at h
  · rename_i vH hn
    exact ⟨vH.1, vH.2, nRes_fact hn, h⟩
  · exact h.elim
theorem nStep_of {P : Program} {a : Act} {H H' : AHeap} {o : Oper} {v : Value} {K : Value → AHeap → Prop} (h : nRes P a H o = some (v, H')) (hk : K v H') : nStep P a H o K := by
  unfold nStep
  rw [h]
  exact hk

end Go.Ae

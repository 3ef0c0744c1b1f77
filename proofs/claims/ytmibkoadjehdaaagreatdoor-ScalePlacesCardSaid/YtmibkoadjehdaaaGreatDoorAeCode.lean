/- Code over the abstract heap: the rules. No condition. -/
import Derived.Test.YtmibkoadjehdaaaGreatDoorAeDraw
namespace Go.Ae

def AfterX (P : Program) (ρ : Ren) (H : AHeap) (w : World) (Q : Exit → Act → AHeap → Prop) (e : Exit) (b' : Act) (w' : World) : Prop :=
  ∃ a' H' ρ', Q e a' H' ∧ TR ρ' a' b' ∧ RelH P ρ' H' w' ∧ Ext ρ H w ρ' H' w'
def aw (P : Program) (c : Code) (Q : Exit → Act → AHeap → Prop) (a : Act) (H : AHeap) : Prop :=
  ∀ (ρ : Ren) (b : Act) (w : World), TR ρ a b → RelH P ρ H w → c.wp P (AfterX P ρ H w Q) b w
def thenA (next : Act → AHeap → Prop) (Q : Exit → Act → AHeap → Prop) : Exit → Act → AHeap → Prop
  | .normal, a, H => next a H
  | e, a, H => Q e a H
def inBlockA (id : Nat) (Q : Exit → Act → AHeap → Prop) : Exit → Act → AHeap → Prop
  | .exit id', a, H => if id' = id then Q .normal a H else Q (.exit id') a H
  | e, a, H => Q e a H

section
variable {P : Program} {Q : Exit → Act → AHeap → Prop} {a : Act} {H : AHeap}

theorem aw_mono {c : Code} {Q' : Exit → Act → AHeap → Prop} (h : aw P c Q a H) (hq : ∀ e a H, Q e a H → Q' e a H) : aw P c Q' a H :=
  fun ρ b w hT hH => wp_mono (h ρ b w hT hH) fun e _ _ ⟨a', H', ρ', q, r⟩ => ⟨a', H', ρ', hq e a' H' q, r⟩
theorem aw_skip (h : Q .normal a H) : aw P .skip Q a H := fun ρ _ _ hT hH => wp_skip ⟨a, H, ρ, h, hT, hH, ExtN.refl _ _ _ _⟩
theorem aw_label {l : Nat} (h : Q .normal a H) : aw P (.label l) Q a H := fun ρ _ _ hT hH => wp_label ⟨a, H, ρ, h, hT, hH, ExtN.refl _ _ _ _⟩
theorem aw_exit {id : Nat} (h : Q (.exit id) a H) : aw P (.exit id) Q a H := fun ρ _ _ hT hH => wp_exit ⟨a, H, ρ, h, hT, hH, ExtN.refl _ _ _ _⟩
theorem aw_goto {l : Nat} (h : Q (.goto l) a H) : aw P (.goto l) Q a H := fun ρ _ _ hT hH => wp_goto ⟨a, H, ρ, h, hT, hH, ExtN.refl _ _ _ _⟩
theorem aw_ret (h : Q .ret a H) : aw P .ret Q a H := fun ρ _ _ hT hH => wp_ret ⟨a, H, ρ, h, hT, hH, ExtN.refl _ _ _ _⟩
theorem aw_seq {x y : Code} (h : aw P x (thenA (aw P y Q) Q) a H) : aw P (.seq x y) Q a H := by
  intro ρ b w hT hH
  refine wp_seq (wp_mono (h ρ b w hT hH) fun e b' w' ⟨a', H', ρ', q, hT', hH', hx⟩ => ?_)
  cases e with
  | normal => exact wp_mono (q ρ' b' w' hT' hH') fun e b'' w'' ⟨a'', H'', ρ'', q', hT'', hH'', hx'⟩ => ⟨a'', H'', ρ'', q', hT'', hH'', Ext.trans hx hx'⟩
  | exit id => exact ⟨a', H', ρ', q, hT', hH', hx⟩
  | goto l => exact ⟨a', H', ρ', q, hT', hH', hx⟩
  | ret => exact ⟨a', H', ρ', q, hT', hH', hx⟩
  | panic c => exact ⟨a', H', ρ', q, hT', hH', hx⟩
  | outgrown => exact ⟨a', H', ρ', q, hT', hH', hx⟩
theorem aw_cond {c : Operand} {x y : Code} {t : Bool} (hc : a.eval c = .bool t) (hok : okOperand c = true) (h : aw P (if t then x else y) Q a H) : aw P (.cond c x y) Q a H := by
  intro ρ b w hT hH
  have hv := hT.eval hok
  rw [hc] at hv
  have hb : b.eval c = .bool t := by generalize b.eval c = z at hv; cases hv; rfl
  exact wp_cond hb (h ρ b w hT hH)
theorem aw_block {id : Nat} {c : Code} (h : aw P c (inBlockA id Q) a H) : aw P (.block id c) Q a H := by
  intro ρ b w hT hH
  refine wp_block (wp_mono (h ρ b w hT hH) fun e b' w' ⟨a', H', ρ', q, r⟩ => ?_)
  cases e with
  | exit id' =>
    simp only [inBlockA] at q
    simp only [Exit.inBlock]
    split
    · rename_i he; rw [if_pos he] at q; exact ⟨a', H', ρ', q, r⟩
    · rename_i he; rw [if_neg he] at q; exact ⟨a', H', ρ', q, r⟩
  | normal => exact ⟨a', H', ρ', q, r⟩
  | goto l => exact ⟨a', H', ρ', q, r⟩
  | ret => exact ⟨a', H', ρ', q, r⟩
  | panic c => exact ⟨a', H', ρ', q, r⟩
  | outgrown => exact ⟨a', H', ρ', q, r⟩

theorem aw_loop {c : Code} (I : Nat → Act → AHeap → Prop) (n : Nat) (h0 : I n a H) (round : ∀ n a H, I n a H → aw P c (thenA (fun a' H' => ∃ m, m < n ∧ I m a' H') Q) a H) : aw P (.loop c) Q a H := by
  intro ρ b w hT hH f k cs
  have key : ∀ n a H ρ b w, TR ρ a b → RelH P ρ H w → I n a H →
      ∃ e b' w', AfterX P ρ H w Q e b' w' ∧ Arrives P (lone (f.at b (.code c :: .inLoop c :: k)) cs w) f k cs e b' w' := by
    intro n
    induction n using Nat.strongRecOn with
    | _ n ih =>
      intro a H ρ b w hT hH hI
      obtain ⟨e, b₁, w₁, ⟨a', H', ρ', q, hT', hH', hx⟩, harr⟩ := round n a H hI ρ b w hT hH f (.inLoop c :: k) cs
      cases e with
      | normal =>
        obtain ⟨m, hm, hI'⟩ := q
        obtain ⟨e₂, b₂, w₂, ⟨a'', H'', ρ'', q', hT'', hH'', hx'⟩, harr₂⟩ := ih m hm a' H' ρ' b₁ w₁ hT' hH' hI'
        exact ⟨e₂, b₂, w₂, ⟨a'', H'', ρ'', q', hT'', hH'', Ext.trans hx hx'⟩, .of_steps (Steps.trans harr (.one step_inLoop)) harr₂⟩
      | exit id => exact ⟨_, b₁, w₁, ⟨a', H', ρ', q, hT', hH', hx⟩, .pass (x := .inLoop c) rfl (fun _ _ => .inl (by simp)) harr⟩
      | goto l => exact ⟨_, b₁, w₁, ⟨a', H', ρ', q, hT', hH', hx⟩, .pass (x := .inLoop c) rfl (fun _ _ => .inl (by simp)) harr⟩
      | ret => exact ⟨_, b₁, w₁, ⟨a', H', ρ', q, hT', hH', hx⟩, .pass (x := .inLoop c) rfl (fun _ _ => .inl (by simp)) harr⟩
      | panic ch => exact ⟨_, b₁, w₁, ⟨a', H', ρ', q, hT', hH', hx⟩, .pass (x := .inLoop c) rfl (fun _ _ => .inl (by simp)) harr⟩
      | outgrown => exact ⟨_, b₁, w₁, ⟨a', H', ρ', q, hT', hH', hx⟩, .pass (x := .inLoop c) rfl (fun _ _ => .inl (by simp)) harr⟩
  obtain ⟨e, b', w', hq, harr⟩ := key n a H ρ b w hT hH h0
  exact ⟨e, b', w', hq, .of_steps (.one step_loop) harr⟩

theorem aw_region {id : Nat} {ops : Array Oper} (hok : ops.toList.all operandsOk = true) (h : wpSeq P ops (fun a H => Q .normal a H) ops.toList a H) : aw P (.region id ops false) Q a H := by
  intro ρ b w hT hH
  refine wp_region (wpSeq_sim (List.range ops.size) ops.toList ρ a b H w ?_ (fun o ho => List.all_eq_true.1 hok o ho) h hT hH fun b' w' ⟨a', H', ρ', q, r⟩ => ⟨a', H', ρ', q, r⟩)
  apply List.ext_getElem?
  intro i
  simp only [List.getElem?_map, Array.getElem?_toList]
  by_cases hi : i < ops.size
  · simp [hi]
  · simp [hi]
theorem aw_draw {id : Nat} {ops : Array Oper} {sched B : List Nat} (hm : P.follows .mixedOrders = true) (hs : schedOk ops sched B = true) (h : wpS P ops B (fun a H => Q .normal a H) sched a H []) : aw P (.region id ops true) Q a H :=
  fun _ _ _ hT hH => draw_sim hm (schedOk_spec hs) h hT hH fun _ _ ⟨a', H', ρ', q, r⟩ => ⟨a', H', ρ', q, r⟩

end

/-! ### Results -/

def resL (P : Program) (a : Act) (H : AHeap) : List ResultVar → Option (List Value)
  | [] => some []
  | .tmp t :: rs => (resL P a H rs).map fun l => a.tmps.getD t undef :: l
  | .cell t ty :: rs => match loadA P H ty (a.tmps.getD t undef), resL P a H rs with
    | some v, some l => some (v :: l)
    | _, _ => none
def retV : List Value → Value
  | [v] => v
  | l => .tuple l.toArray
theorem retV_eq (l : List Value) : retV l = (if h : l.toArray.size = 1 then l.toArray[0] else .tuple l.toArray) := by
  cases l with
  | nil => rfl
  | cons x l =>
    cases l with
    | nil => rfl
    | cons y l => simp [retV]
def resOne (b : Act) : ResultVar → Sem Value
  | .tmp t => pure (b.tmps.getD t undef)
  | .cell x t => do loadVar t (← asAddr (b.tmps.getD x undef))
theorem resL_sim {P : Program} {ρ : Ren} {a b : Act} {H : AHeap} {w : World} (hT : TR ρ a b) (hH : RelH P ρ H w) : ∀ (rs : List ResultVar) (l : List Value), resL P a H rs = some l →
    ∃ l', VRs ρ l l' ∧ (rs.mapM (resOne b)).run P w = .ok l' w
  | [], l, h => by simp [resL] at h; subst h; exact ⟨[], .nil, by simp⟩
  | .tmp t :: rs, l, h => by
    simp only [resL, Option.map_eq_some_iff] at h
    obtain ⟨l0, h0, rfl⟩ := h
    obtain ⟨l', h1, h2⟩ := resL_sim hT hH rs l0 h0
    exact ⟨_, .cons (hT.eval (x := .tmp t) rfl) h1, by simp only [List.mapM_cons, resOne, Sem.run_bind, Sem.run_pure, Result.andThen_ok, h2]; rfl⟩
  | .cell t ty :: rs, l, h => by
    simp only [resL] at h
    split at h
    · rename_i v l0 hv h0
      obtain rfl := Option.some.inj h
      obtain ⟨l', h1, h2⟩ := resL_sim hT hH rs l0 h0
      obtain ⟨v', g1, q, g2, g3⟩ := loadA_run hH hv (hT.eval (x := .tmp t) rfl)
      have g2' : b.tmps.getD t undef = .pointer (some q) := g2
      exact ⟨_, .cons g1 h1, by simp only [List.mapM_cons, resOne, Sem.run_bind, Sem.run_pure, Result.andThen_ok, h2, g2', asAddr, g3]⟩
    · cases h
theorem VR.retV {ρ : Ren} {l l' : List Value} (h : VRs ρ l l') : VR ρ (retV l) (retV l') := by
  cases h with
  | nil => exact .tuple rfl (by simp)
  | cons h1 h2 =>
    cases h2 with
    | nil => exact h1
    | cons h2 h3 => exact VR.tuple' (by simpa using All2.cons h1 (All2.cons h2 h3))

def bodyA (P : Program) (rs : List ResultVar) (Q : Value → AHeap → Prop) (e : Exit) (a : Act) (H : AHeap) : Prop :=
  (e = .normal ∨ e = .ret) ∧ a.defers = [] ∧ ∃ l, resL P a H rs = some l ∧ Q (retV l) H

theorem VRs.refl_undef {ρ : Ren} (n : Nat) : VRs ρ (List.replicate n undef) (List.replicate n undef) := by
  induction n with
  | zero => exact .nil
  | succ n ih => rw [List.replicate_succ]; exact .cons (.tuple rfl (by simp)) ih

theorem acalls_of_aw {P : Program} {f : FuncId} {fn : Func} {c : Code} {args : Array Value} {H : AHeap} {Q : Value → AHeap → Prop} (hf : P.funcs[f]? = some fn) (hb : fn.body = some c)
    (h : aw P c (bodyA P fn.results.toList Q) { tmps := args ++ Array.replicate (fn.ntmps - args.size) undef, defers := [] } H) : ACalls P f args H Q := by
  intro ρ w cargs hH hargs
  have hsz : args.size = cargs.size := by simpa using hargs.length
  refine calls_of_wp hf hb (wp_mono (h ρ { tmps := cargs ++ Array.replicate (fn.ntmps - cargs.size) undef, defers := [] } w ⟨?_, All2.nil, hH.glob⟩ hH) fun e b' w' ⟨a', H', ρ', ⟨he, hdf, l, hl, hq⟩, hT', hH', hx⟩ => ?_)
  · simp only [Array.toList_append, Array.toList_replicate, hsz]
    exact hargs.append (VRs.refl_undef _)
  · obtain ⟨l', h1, h2⟩ := resL_sim hT' hH' _ l hl
    have hres : (results fn b'.tmps).run P w' = .ok (retV l') w' := by
      have hfun : results fn b'.tmps = (do let vs ← fn.results.mapM (resOne b'); pure (if h : vs.size = 1 then vs[0] else .tuple vs)) := by
        unfold results
        congr 1
      rw [hfun, Array.mapM_eq_mapM_toList]
      simp only [Sem.run_bind, Sem.run_map, h2, Result.andThen_ok, Sem.run_pure]
      rw [retV_eq]
    have hR : bodyPost P fn (fun e w'' => ∃ v cv ρ' H', e = .returned cv ∧ Q v H' ∧ VR ρ' v cv ∧ RelH P ρ' H' w'' ∧ Ext ρ H w ρ' H' w'') .ret b' w' :=
      ⟨by have := hT'.defs; rw [hdf] at this; exact this.nil, _, hres, retV l, retV l', ρ', H', rfl, hq, VR.retV h1, hH', hx⟩
    rcases he with rfl | rfl
    · exact hR
    · exact hR

end Go.Ae

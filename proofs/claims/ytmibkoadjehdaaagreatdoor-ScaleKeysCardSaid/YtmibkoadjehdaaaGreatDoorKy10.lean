/- Code over the abstract heap: the rules. Code over the abstract heap, as one formula to be worked out. -/
import Derived.Test.YtmibkoadjehdaaaGreatDoorKy09
set_option linter.unusedVariables false
set_option linter.unusedSimpArgs false
namespace Go.Ae

def AfterX (P : Program) (ρ : Ren) (H : AHeap) (w : World) (Q : Exit → Act → AHeap → Prop) (e : Exit) (b' : Act) (w' : World) : Prop :=
  ∃ a' H' ρ', Q e a' H' ∧ TR ρ' a' b' ∧ RelH P ρ' H' w' ∧ Ext ρ H w ρ' H' w'
def aw (P : Program) (c : Code) (Q : Exit → Act → AHeap → Prop) (a : Act) (H : AHeap) : Prop :=
  ∀ (ρ : Ren) (b : Act) (w : World), TR ρ a b → RelH P ρ H w → c.wp P (AfterX P ρ H w Q) b w
def thenA (next : Act → AHeap → Prop) (Q : Exit → Act → AHeap → Prop) : Exit → Act → AHeap → Prop
  | .normal, a, H => next a H
  | e, a, H => Q e a H
def inBlockA (id : Nat) (Q : Exit → Act → AHeap → Prop) : Exit → Act → AHeap → Prop
  | .exit id', a, H => if id' = id then Q .normal a H else Q (.exit id') a H
  | e, a, H => Q e a H

section
variable {P : Program} {Q : Exit → Act → AHeap → Prop} {a : Act} {H : AHeap}

theorem aw_mono {c : Code} {Q' : Exit → Act → AHeap → Prop} (h : aw P c Q a H) (hq : ∀ e a H, Q e a H → Q' e a H) : aw P c Q' a H :=
  fun ρ b w hT hH => wp_mono (h ρ b w hT hH) fun e _ _ ⟨a', H', ρ', q, r⟩ => ⟨a', H', ρ', hq e a' H' q, r⟩
theorem aw_skip (h : Q .normal a H) : aw P .skip Q a H := fun ρ _ _ hT hH => wp_skip ⟨a, H, ρ, h, hT, hH, ExtN.refl _ _ _ _⟩
theorem aw_label {l : Nat} (h : Q .normal a H) : aw P (.label l) Q a H := fun ρ _ _ hT hH => wp_label ⟨a, H, ρ, h, hT, hH, ExtN.refl _ _ _ _⟩
theorem aw_exit {id : Nat} (h : Q (.exit id) a H) : aw P (.exit id) Q a H := fun ρ _ _ hT hH => wp_exit ⟨a, H, ρ, h, hT, hH, ExtN.refl _ _ _ _⟩
theorem aw_goto {l : Nat} (h : Q (.goto l) a H) : aw P (.goto l) Q a H := fun ρ _ _ hT hH => wp_goto ⟨a, H, ρ, h, hT, hH, ExtN.refl _ _ _ _⟩
theorem aw_ret (h : Q .ret a H) : aw P .ret Q a H := fun ρ _ _ hT hH => wp_ret ⟨a, H, ρ, h, hT, hH, ExtN.refl _ _ _ _⟩
theorem aw_seq {x y : Code} (h : aw P x (thenA (aw P y Q) Q) a H) : aw P (.seq x y) Q a H := by
  intro ρ b w hT hH
  refine wp_seq (wp_mono (h ρ b w hT hH) fun e b' w' ⟨a', H', ρ', q, hT', hH', hx⟩ => ?_)
  cases e with
  | normal => exact wp_mono (q ρ' b' w' hT' hH') fun e b'' w'' ⟨a'', H'', ρ'', q', hT'', hH'', hx'⟩ => ⟨a'', H'', ρ'', q', hT'', hH'', Ext.trans hx hx'⟩
  | exit id => exact ⟨a', H', ρ', q, hT', hH', hx⟩
  | goto l => exact ⟨a', H', ρ', q, hT', hH', hx⟩
  | ret => exact ⟨a', H', ρ', q, hT', hH', hx⟩
  | panic c => exact ⟨a', H', ρ', q, hT', hH', hx⟩
  | outgrown => exact ⟨a', H', ρ', q, hT', hH', hx⟩
theorem aw_cond {c : Operand} {x y : Code} {t : Bool} (hc : a.eval c = .bool t) (hok : okOperand c = true) (h : aw P (if t then x else y) Q a H) : aw P (.cond c x y) Q a H := by
  intro ρ b w hT hH
  have hv := hT.eval hok
  rw [hc] at hv
  have hb : b.eval c = .bool t := by generalize b.eval c = z at hv; cases hv; rfl
  exact wp_cond hb (h ρ b w hT hH)
theorem aw_block {id : Nat} {c : Code} (h : aw P c (inBlockA id Q) a H) : aw P (.block id c) Q a H := by
  intro ρ b w hT hH
  refine wp_block (wp_mono (h ρ b w hT hH) fun e b' w' ⟨a', H', ρ', q, r⟩ => ?_)
  cases e with
  | exit id' =>
    simp only [inBlockA] at q
    simp only [Exit.inBlock]
    split
    · rename_i he; rw [if_pos he] at q; exact ⟨a', H', ρ', q, r⟩
    · rename_i he; rw [if_neg he] at q; exact ⟨a', H', ρ', q, r⟩
  | normal => exact ⟨a', H', ρ', q, r⟩
  | goto l => exact ⟨a', H', ρ', q, r⟩
  | ret => exact ⟨a', H', ρ', q, r⟩
  | panic c => exact ⟨a', H', ρ', q, r⟩
  | outgrown => exact ⟨a', H', ρ', q, r⟩

theorem aw_loop {c : Code} (I : Nat → Act → AHeap → Prop) (n : Nat) (h0 : I n a H) (round : ∀ n a H, I n a H → aw P c (thenA (fun a' H' => ∃ m, m < n ∧ I m a' H') Q) a H) : aw P (.loop c) Q a H := by
  intro ρ b w hT hH f k cs
  have key : ∀ n a H ρ b w, TR ρ a b → RelH P ρ H w → I n a H →
      ∃ e b' w', AfterX P ρ H w Q e b' w' ∧ Arrives P (lone (f.at b (.code c :: .inLoop c :: k)) cs w) f k cs e b' w' := by
    intro n
    induction n using Nat.strongRecOn with
    | _ n ih =>
      intro a H ρ b w hT hH hI
      obtain ⟨e, b₁, w₁, ⟨a', H', ρ', q, hT', hH', hx⟩, harr⟩ := round n a H hI ρ b w hT hH f (.inLoop c :: k) cs
      cases e with
      | normal =>
        obtain ⟨m, hm, hI'⟩ := q
        obtain ⟨e₂, b₂, w₂, ⟨a'', H'', ρ'', q', hT'', hH'', hx'⟩, harr₂⟩ := ih m hm a' H' ρ' b₁ w₁ hT' hH' hI'
        exact ⟨e₂, b₂, w₂, ⟨a'', H'', ρ'', q', hT'', hH'', Ext.trans hx hx'⟩, .of_steps (Steps.trans harr (.one step_inLoop)) harr₂⟩
      | exit id => exact ⟨_, b₁, w₁, ⟨a', H', ρ', q, hT', hH', hx⟩, .pass (x := .inLoop c) rfl (fun _ _ => .inl (by simp)) harr⟩
      | goto l => exact ⟨_, b₁, w₁, ⟨a', H', ρ', q, hT', hH', hx⟩, .pass (x := .inLoop c) rfl (fun _ _ => .inl (by simp)) harr⟩
      | ret => exact ⟨_, b₁, w₁, ⟨a', H', ρ', q, hT', hH', hx⟩, .pass (x := .inLoop c) rfl (fun _ _ => .inl (by simp)) harr⟩
      | panic ch => exact ⟨_, b₁, w₁, ⟨a', H', ρ', q, hT', hH', hx⟩, .pass (x := .inLoop c) rfl (fun _ _ => .inl (by simp)) harr⟩
      | outgrown => exact ⟨_, b₁, w₁, ⟨a', H', ρ', q, hT', hH', hx⟩, .pass (x := .inLoop c) rfl (fun _ _ => .inl (by simp)) harr⟩
  obtain ⟨e, b', w', hq, harr⟩ := key n a H ρ b w hT hH h0
  exact ⟨e, b', w', hq, .of_steps (.one step_loop) harr⟩

theorem aw_region {id : Nat} {ops : Array Oper} (hok : ops.toList.all operandsOk = true) (h : wpSeq P ops (fun a H => Q .normal a H) ops.toList a H) : aw P (.region id ops false) Q a H := by
  intro ρ b w hT hH
  refine wp_region (wpSeq_sim (List.range ops.size) ops.toList ρ a b H w ?_ (fun o ho => List.all_eq_true.1 hok o ho) h hT hH fun b' w' ⟨a', H', ρ', q, r⟩ => ⟨a', H', ρ', q, r⟩)
  apply List.ext_getElem?
  intro i
  simp only [List.getElem?_map, Array.getElem?_toList]
  by_cases hi : i < ops.size
  · simp [hi]
  · simp [hi]
theorem aw_draw {id : Nat} {ops : Array Oper} {sched B : List Nat} (hm : P.follows .mixedOrders = true) (hs : schedOk ops sched B = true) (h : wpS P ops B (fun a H => Q .normal a H) sched a H []) : aw P (.region id ops true) Q a H :=
  fun _ _ _ hT hH => draw_sim hm (schedOk_spec hs) h hT hH fun _ _ ⟨a', H', ρ', q, r⟩ => ⟨a', H', ρ', q, r⟩

end

/-! ### Results -/

def resL (P : Program) (a : Act) (H : AHeap) : List ResultVar → Option (List Value)
  | [] => some []
  | .tmp t :: rs => (resL P a H rs).map fun l => a.tmps.getD t undef :: l
  | .cell t ty :: rs => match loadA P H ty (a.tmps.getD t undef), resL P a H rs with
    | some v, some l => some (v :: l)
    | _, _ => none
def retV : List Value → Value
  | [v] => v
  | l => .tuple l.toArray
theorem retV_eq (l : List Value) : retV l = (if h : l.toArray.size = 1 then l.toArray[0] else .tuple l.toArray) := by
  cases l with
  | nil => rfl
  | cons x l =>
    cases l with
    | nil => rfl
    | cons y l => simp [retV]
def resOne (b : Act) : ResultVar → Sem Value
  | .tmp t => pure (b.tmps.getD t undef)
  | .cell x t => do loadVar t (← asAddr (b.tmps.getD x undef))
theorem resL_sim {P : Program} {ρ : Ren} {a b : Act} {H : AHeap} {w : World} (hT : TR ρ a b) (hH : RelH P ρ H w) : ∀ (rs : List ResultVar) (l : List Value), resL P a H rs = some l →
    ∃ l', VRs ρ l l' ∧ (rs.mapM (resOne b)).run P w = .ok l' w
  | [], l, h => by simp [resL] at h; subst h; exact ⟨[], .nil, by simp⟩
  | .tmp t :: rs, l, h => by
    simp only [resL, Option.map_eq_some_iff] at h
    obtain ⟨l0, h0, rfl⟩ := h
    obtain ⟨l', h1, h2⟩ := resL_sim hT hH rs l0 h0
    exact ⟨_, .cons (hT.eval (x := .tmp t) rfl) h1, by simp only [List.mapM_cons, resOne, Sem.run_bind, Sem.run_pure, Result.andThen_ok, h2]; rfl⟩
  | .cell t ty :: rs, l, h => by
    simp only [resL] at h
    split at h
    · rename_i v l0 hv h0
      obtain rfl := Option.some.inj h
      obtain ⟨l', h1, h2⟩ := resL_sim hT hH rs l0 h0
      obtain ⟨v', g1, q, g2, g3⟩ := loadA_run hH hv (hT.eval (x := .tmp t) rfl)
      have g2' : b.tmps.getD t undef = .pointer (some q) := g2
      exact ⟨_, .cons g1 h1, by simp only [List.mapM_cons, resOne, Sem.run_bind, Sem.run_pure, Result.andThen_ok, h2, g2', asAddr, g3]⟩
    · cases h
theorem VR.retV {ρ : Ren} {l l' : List Value} (h : VRs ρ l l') : VR ρ (retV l) (retV l') := by
  cases h with
  | nil => exact .tuple rfl (by simp)
  | cons h1 h2 =>
    cases h2 with
    | nil => exact h1
    | cons h2 h3 => exact VR.tuple' (by simpa using All2.cons h1 (All2.cons h2 h3))

def bodyA (P : Program) (rs : List ResultVar) (Q : Value → AHeap → Prop) (e : Exit) (a : Act) (H : AHeap) : Prop :=
  (e = .normal ∨ e = .ret) ∧ a.defers = [] ∧ ∃ l, resL P a H rs = some l ∧ Q (retV l) H

theorem VRs.refl_undef {ρ : Ren} (n : Nat) : VRs ρ (List.replicate n undef) (List.replicate n undef) := by
  induction n with
  | zero => exact .nil
  | succ n ih => rw [List.replicate_succ]; exact .cons (.tuple rfl (by simp)) ih

theorem acalls_of_aw {P : Program} {f : FuncId} {fn : Func} {c : Code} {args : Array Value} {H : AHeap} {Q : Value → AHeap → Prop} (hf : P.funcs[f]? = some fn) (hb : fn.body = some c)
    (h : aw P c (bodyA P fn.results.toList Q) { tmps := args ++ Array.replicate (fn.ntmps - args.size) undef, defers := [] } H) : ACalls P f args H Q := by
  intro ρ w cargs hH hargs
  have hsz : args.size = cargs.size := by simpa using hargs.length
  refine calls_of_wp hf hb (wp_mono (h ρ { tmps := cargs ++ Array.replicate (fn.ntmps - cargs.size) undef, defers := [] } w ⟨?_, All2.nil, hH.glob⟩ hH) fun e b' w' ⟨a', H', ρ', ⟨he, hdf, l, hl, hq⟩, hT', hH', hx⟩ => ?_)
  · simp only [Array.toList_append, Array.toList_replicate, hsz]
    exact hargs.append (VRs.refl_undef _)
  · obtain ⟨l', h1, h2⟩ := resL_sim hT' hH' _ l hl
    have hres : (results fn b'.tmps).run P w' = .ok (retV l') w' := by
      have hfun : results fn b'.tmps = (do let vs ← fn.results.mapM (resOne b'); pure (if h : vs.size = 1 then vs[0] else .tuple vs)) := by
        unfold results
        congr 1
      rw [hfun, Array.mapM_eq_mapM_toList]
      simp only [Sem.run_bind, Sem.run_map, h2, Result.andThen_ok, Sem.run_pure]
      rw [retV_eq]
    have hR : bodyPost P fn (fun e w'' => ∃ v cv ρ' H', e = .returned cv ∧ Q v H' ∧ VR ρ' v cv ∧ RelH P ρ' H' w'' ∧ Ext ρ H w ρ' H' w'') .ret b' w' :=
      ⟨by have := hT'.defs; rw [hdf] at this; exact this.nil, _, hres, retV l, retV l', ρ', H', rfl, hq, VR.retV h1, hH', hx⟩
    rcases he with rfl | rfl
    · exact hR
    · exact hR

end Go.Ae
namespace Go.Ae

abbrev Tbl := List (Nat × List Nat × List Nat)
def getT : Tbl → Nat → List Nat × List Nat
  | [], _ => ([], [])
  | (i, s) :: l, j => if i = j then s else getT l j
def codeOk (tbl : Tbl) : Code → Bool
  | .region id ops d => if d then schedOk ops (getT tbl id).1 (getT tbl id).2 else ops.toList.all operandsOk
  | .seq a b => codeOk tbl a && codeOk tbl b
  | .cond c a b => okOperand c && codeOk tbl a && codeOk tbl b
  | .block _ c => codeOk tbl c
  | .loop c => codeOk tbl c
  | .scope c => codeOk tbl c
  | .skip | .label _ | .goto _ | .exit _ | .ret | .refuse _ => true
  | _ => false
def awC (P : Program) (tbl : Tbl) : Code → (Exit → Act → AHeap → Prop) → Act → AHeap → Prop
  | .skip, Q, a, H => Q .normal a H
  | .label _, Q, a, H => Q .normal a H
  | .exit id, Q, a, H => Q (.exit id) a H
  | .goto l, Q, a, H => Q (.goto l) a H
  | .ret, Q, a, H => Q .ret a H
  | .seq x y, Q, a, H => awC P tbl x (thenA (awC P tbl y Q) Q) a H
  | .block id c, Q, a, H => awC P tbl c (inBlockA id Q) a H
  | .cond c x y, Q, a, H => match a.eval c with
    | .bool true => awC P tbl x Q a H
    | .bool false => awC P tbl y Q a H
    | _ => False
  | .region id ops d, Q, a, H => if d then wpS P ops (getT tbl id).2 (fun a H => Q .normal a H) (getT tbl id).1 a H [] else wpSeq P ops (fun a H => Q .normal a H) ops.toList a H
  | .loop c, Q, a, H => aw P (.loop c) Q a H
  | .scope c, Q, a, H => aw P (.scope c) Q a H
  | _, _, _, _ => False

theorem awC_sound {P : Program} {tbl : Tbl} (hm : P.follows .mixedOrders = true) : ∀ (c : Code) (Q : Exit → Act → AHeap → Prop) (a : Act) (H : AHeap), codeOk tbl c = true → awC P tbl c Q a H → aw P c Q a H
  | .skip, _, _, _, _, h => aw_skip h
  | .label _, _, _, _, _, h => aw_label h
  | .exit _, _, _, _, _, h => aw_exit h
  | .goto _, _, _, _, _, h => aw_goto h
  | .ret, _, _, _, _, h => aw_ret h
  | .seq x y, Q, a, H, hok, h => by
    simp only [codeOk, Bool.and_eq_true] at hok
    refine aw_seq (aw_mono (awC_sound hm x _ a H hok.1 h) fun e a' H' q => ?_)
    cases e with
    | normal => exact awC_sound hm y Q a' H' hok.2 q
    | exit id => exact q
    | goto l => exact q
    | ret => exact q
    | panic c => exact q
    | outgrown => exact q
  | .block id c, Q, a, H, hok, h => aw_block (awC_sound hm c _ a H hok h)
  | .cond c x y, Q, a, H, hok, h => by
    simp only [codeOk, Bool.and_eq_true] at hok
    simp only [awC] at h
    split at h
    · rename_i hc
      exact aw_cond (t := true) hc hok.1.1 (awC_sound hm x Q a H hok.1.2 h)
    · rename_i hc
      exact aw_cond (t := false) hc hok.1.1 (awC_sound hm y Q a H hok.2 h)
    · exact h.elim
  | .region id ops d, Q, a, H, hok, h => by
    simp only [codeOk] at hok
    simp only [awC] at h
    cases d with
    | true =>
      rw [if_pos rfl] at hok h
      exact aw_draw hm hok h
    | false =>
      rw [if_neg (by simp)] at hok h
      exact aw_region hok h
  | .loop c, _, _, _, _, h => h
  | .rangeFunc .., _, _, _, hok, _ => by simp [codeOk] at hok
  | .scope _, _, _, _, _, h => h
  | .refuse _, _, _, _, _, h => h.elim

/-- A function's frame as it is entered: its arguments, and whatever else. -/
theorem acalls_of {P : Program} {f : FuncId} {fn : Func} {c : Code} {args : Array Value} {H : AHeap} {Q : Value → AHeap → Prop} (tbl : Tbl) (hf : P.funcs[f]? = some fn) (hb : fn.body = some c)
    (hm : P.follows .mixedOrders = true) (hok : codeOk tbl c = true) (hle : args.size ≤ fn.ntmps)
    (h : ∀ a : Act, a.tmps.size = fn.ntmps → a.defers = [] → (∀ i v, args[i]? = some v → a.eval (.tmp i) = v) → awC P tbl c (bodyA P fn.results.toList Q) a H) : ACalls P f args H Q := by
  refine acalls_of_aw hf hb (awC_sound hm c _ _ H hok (h _ ?_ rfl fun i v hi => ?_))
  · simp; omega
  · have hlt := (Array.getElem?_eq_some_iff.1 hi).1
    simp only [Act.eval, Array.getD_eq_getD_getElem?]
    rw [Array.getElem?_append_left hlt, hi]
    rfl

theorem Act.eval_put_tmp (a : Act) (d t : Nat) (v : Value) : (a.put (some d) v).eval (.tmp t) = if t = d ∧ d < a.tmps.size then v else a.eval (.tmp t) := by
  simp only [Act.eval, Act.put]
  by_cases h : t = d
  · subst h
    by_cases hl : t < a.tmps.size
    · simp [hl]
    · simp [hl]
  · rw [if_neg (fun c => h c.1)]
    simp [Array.getElem?_setIfInBounds_ne (Ne.symm h)]
theorem Act.eval_const (a : Act) (v : Value) : a.eval (.const v) = v := rfl
theorem Act.eval_func (a : Act) (f : FuncId) : a.eval (.func f) = .func (.func f) #[] #[] := rfl
theorem Act.size_put (a : Act) (d : Option Tmp) (v : Value) : (a.put d v).tmps.size = a.tmps.size := Ae.size_put a d v
theorem getD_eval (a : Act) (t : Nat) : a.tmps.getD t undef = a.eval (.tmp t) := rfl
theorem getElem?_eval (a : Act) (t : Nat) : (a.tmps[t]?).bind boolOf = if t < a.tmps.size then boolOf (a.eval (.tmp t)) else none := by
  by_cases h : t < a.tmps.size
  · simp [h, Act.eval, Array.getD_eq_getD_getElem?]
  · simp [h]
/-- Is an operation wanted: its guard read in the frame. -/
theorem wanted_none {o : Oper} {y : Nat → Option Bool} (h : o.guard = none) : Region.wanted o y = true := by simp [Region.wanted, h]

end Go.Ae
namespace Go.Ae

theorem wanted_eval {ops : Array Oper} {a : Act} {o : Oper} {j : Nat} {want : Bool} {t : Tmp} {v : Value} (hg : o.guard = some (j, want)) (hd : (ops[j]?).bind (·.dst) = some t) (hv : a.eval (.tmp t) = v)
    (ht : t < a.tmps.size) : Region.wanted o (yielded ops a.tmps) = (boolOf v == some want) := by
  unfold Region.wanted
  rw [hg]
  dsimp only
  rw [yielded_eq, hd, Option.bind_some, getElem?_eval, if_pos ht, hv]

section
variable {P : Program} {ops : Array Oper} {B : List Nat} {K : Act → AHeap → Prop} {a : Act} {H H' : AHeap} {v : Value} {o : Oper}

/-! ### In the given order -/

theorem q_nil (h : K a H) : wpSeq P ops K [] a H := h
theorem q_n {rest : List Oper} (hw : Region.wanted o (yielded ops a.tmps) = true) (hE : isE o = false) (hn : nRes P a H o = some (v, H')) (h : wpSeq P ops K rest (a.put o.dst v) H') : wpSeq P ops K (o :: rest) a H := by
  simp only [wpSeq, hw, if_true, step1, hE, Bool.false_eq_true, if_false]
  exact nStep_of hn h
theorem q_skip {rest : List Oper} (hw : Region.wanted o (yielded ops a.tmps) = false) (h : wpSeq P ops K rest (a.put o.dst undef) H) : wpSeq P ops K (o :: rest) a H := by
  simp only [wpSeq, hw, Bool.false_eq_true, if_false]
  exact h
theorem q_e {rest : List Oper} (hw : Region.wanted o (yielded ops a.tmps) = true) (hE : isE o = true) (hc : acall P a.eval o = none) (he : aE P a.eval H o = some (v, H')) (h : wpSeq P ops K rest (a.put o.dst v) H') :
    wpSeq P ops K (o :: rest) a H := by
  simp only [wpSeq, hw, if_true, step1, hE, eStep, hc, he]
  exact h
theorem q_call {rest : List Oper} {f : FuncId} {args : Array Value} (hw : Region.wanted o (yielded ops a.tmps) = true) (hE : isE o = true) (hc : acall P a.eval o = some (f, args))
    (h : ACalls P f args H fun v H' => wpSeq P ops K rest (a.put o.dst v) H') : wpSeq P ops K (o :: rest) a H := by
  simp only [wpSeq, hw, if_true, step1, hE, eStep, hc]
  exact h

/-! ### In a drawn order -/

abbrev Log := List (Nat × (AHeap → Prop))

theorem wpS_log : ∀ {sched : List Nat} {a : Act} {H : AHeap} {log log' : Log}, (∀ p ∈ log, ∃ q ∈ log', q.1 = p.1 ∧ ∀ H', q.2 H' → p.2 H') → wpS P ops B K sched a H log' → wpS P ops B K sched a H log
  | [], _, _, _, _, _, h => h
  | i :: rest, a, H, log, log', hl, h => by
    simp only [wpS] at h ⊢
    split at h
    · exact h
    · rename_i o ho
      split at h
      · rename_i hw
        rw [if_pos hw]
        split at h
        · rename_i hE
          rw [if_pos hE]
          have up : ∀ v H', ((∀ p ∈ log', anc B p.1 i = true ∨ p.2 H') ∧ wpS P ops B K rest (a.put o.dst v) H' log') → ((∀ p ∈ log, anc B p.1 i = true ∨ p.2 H') ∧ wpS P ops B K rest (a.put o.dst v) H' log) := by
            intro v H' ⟨h1, h2⟩
            refine ⟨fun p hp => ?_, wpS_log hl h2⟩
            obtain ⟨q, hq, e, himp⟩ := hl p hp
            rcases h1 q hq with h3 | h3
            · exact .inl (e ▸ h3)
            · exact .inr (himp H' h3)
          unfold eStep at h ⊢
          split at h
          · exact h.mono up
          · split at h
            · exact up _ _ h
            · exact h.elim
        · rename_i hE
          rw [if_neg hE]
          have more : ∀ p ∈ (if isRead o then (i, fun H' => aR P a.eval H' o = aR P a.eval H o) :: log else log), ∃ q ∈ (if isRead o then (i, fun H' => aR P a.eval H' o = aR P a.eval H o) :: log' else log'), q.1 = p.1 ∧ ∀ H', q.2 H' → p.2 H' := by
            intro p hp
            split at hp
            · rename_i hr
              rw [if_pos hr]
              rcases List.mem_cons.1 hp with rfl | hp
              · exact ⟨_, List.mem_cons_self, rfl, fun _ h => h⟩
              · obtain ⟨q, hq, h1⟩ := hl p hp
                exact ⟨q, List.mem_cons_of_mem _ hq, h1⟩
            · rename_i hr
              rw [if_neg hr]
              exact hl p hp
          unfold nStep at h ⊢
          split at h
          · exact wpS_log more h
          · exact h.elim
      · rename_i hw
        rw [if_neg hw]
        exact wpS_log hl h

variable {i : Nat} {rest : List Nat} {log : Log}

theorem s_n (ho : ops[i]? = some o) (hw : Region.wanted o (yielded ops a.tmps) = true) (hE : isE o = false) (hr : isRead o = false) (hn : nRes P a H o = some (v, H')) (h : wpS P ops B K rest (a.put o.dst v) H' log) :
    wpS P ops B K (i :: rest) a H log := by
  simp only [wpS, ho, hw, if_true, hE, Bool.false_eq_true, if_false, hr]
  exact nStep_of hn h
theorem s_skip (ho : ops[i]? = some o) (hw : Region.wanted o (yielded ops a.tmps) = false) (h : wpS P ops B K rest (a.put o.dst undef) H log) : wpS P ops B K (i :: rest) a H log := by
  simp only [wpS, ho, hw, Bool.false_eq_true, if_false]
  exact h
/-- A load: what it owes is that its cells stay. -/
theorem s_load {t : TypeId} {x : Operand} {ad : Addr} {n : Nat} (ho : ops[i]? = some o) (hw : Region.wanted o (yielded ops a.tmps) = true) (hop : o.op = .load t x) (hx : a.eval x = .pointer (some ad))
    (hsz : szT P t = some n) (hag : isAggT P t = some false ∧ n = 1 ∨ isAggT P t = some true) (hn : nRes P a H o = some (v, H'))
    (h : wpS P ops B K rest (a.put o.dst v) H ((i, fun H' => H'.cellsAt ad n = H.cellsAt ad n) :: log)) : wpS P ops B K (i :: rest) a H log := by
  have hE : isE o = false := by simp [isE, hop]
  have hr : isRead o = true := by simp [isRead, hop]
  have hH : H' = H := by
    unfold nRes at hn
    rw [hop] at hn
    simp only [Option.map_eq_some_iff, Prod.mk.injEq] at hn
    obtain ⟨_, _, _, h⟩ := hn
    exact h.symm
  subst hH
  simp only [wpS, ho, hw, if_true, hE, Bool.false_eq_true, if_false, hr]
  refine nStep_of hn (wpS_log (fun p hp => ?_) h)
  rcases List.mem_cons.1 hp with rfl | hp
  · refine ⟨_, List.mem_cons_self, rfl, fun H1 h1 => ?_⟩
    dsimp only at h1 ⊢
    unfold aR
    rw [hop]
    dsimp only
    unfold loadA
    rw [hx]
    rcases hag with ⟨hag, rfl⟩ | hag
    · simp only [hsz, hag, h1]
    · simp only [hsz, hag, h1]
  · exact ⟨p, List.mem_cons_of_mem _ hp, rfl, fun _ h => h⟩
theorem s_e (ho : ops[i]? = some o) (hw : Region.wanted o (yielded ops a.tmps) = true) (hE : isE o = true) (hc : acall P a.eval o = none) (he : aE P a.eval H o = some (v, H'))
    (hl : ∀ p ∈ log, anc B p.1 i = true ∨ p.2 H') (h : wpS P ops B K rest (a.put o.dst v) H' log) : wpS P ops B K (i :: rest) a H log := by
  simp only [wpS, ho, hw, if_true, hE, eStep, hc, he]
  exact ⟨hl, h⟩
theorem s_call {f : FuncId} {args : Array Value} (ho : ops[i]? = some o) (hw : Region.wanted o (yielded ops a.tmps) = true) (hE : isE o = true) (hc : acall P a.eval o = some (f, args))
    (h : ACalls P f args H fun v H' => (∀ p ∈ log, anc B p.1 i = true ∨ p.2 H') ∧ wpS P ops B K rest (a.put o.dst v) H' log) : wpS P ops B K (i :: rest) a H log := by
  simp only [wpS, ho, hw, if_true, hE, eStep, hc]
  exact h
end

/-! ### Code -/

section
variable {P : Program} {tbl : Tbl} {Q : Exit → Act → AHeap → Prop} {a : Act} {H : AHeap}
theorem c_seq {x y : Code} (h : awC P tbl x (thenA (awC P tbl y Q) Q) a H) : awC P tbl (.seq x y) Q a H := h
theorem c_skip (h : Q .normal a H) : awC P tbl .skip Q a H := h
theorem c_ret (h : Q .ret a H) : awC P tbl .ret Q a H := h
theorem c_exit {id : Nat} (h : Q (.exit id) a H) : awC P tbl (.exit id) Q a H := h
theorem c_block {id : Nat} {c : Code} (h : awC P tbl c (inBlockA id Q) a H) : awC P tbl (.block id c) Q a H := h
theorem c_true {c : Operand} {x y : Code} (hc : a.eval c = .bool true) (h : awC P tbl x Q a H) : awC P tbl (.cond c x y) Q a H := by simp only [awC, hc]; exact h
theorem c_false {c : Operand} {x y : Code} (hc : a.eval c = .bool false) (h : awC P tbl y Q a H) : awC P tbl (.cond c x y) Q a H := by simp only [awC, hc]; exact h
theorem c_region {id : Nat} {ops : Array Oper} (h : wpSeq P ops (fun a H => Q .normal a H) ops.toList a H) : awC P tbl (.region id ops false) Q a H := by simp only [awC, Bool.false_eq_true, if_false]; exact h
theorem c_draw {id : Nat} {ops : Array Oper} {sched B : List Nat} (ht : getT tbl id = (sched, B)) (h : wpS P ops B (fun a H => Q .normal a H) sched a H []) : awC P tbl (.region id ops true) Q a H := by
  simp only [awC, if_true, ht]; exact h
end

end Go.Ae

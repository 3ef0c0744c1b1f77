/- Calls that are deferred and, where nothing panics, do nothing. No condition. -/
import Derived.Test.YtmibkoadjehdaaaGreatDoorAeRun
import Derived.Recover
import Derived.ScopeJumps
namespace Go.Ae

/-- What an operation defers. -/
def deferA (a : Act) (o : Oper) : Option Deferred :=
  match o.op with
  | .defer c => match c.callee with
    | .value f => match a.eval f with
      | .func fn first cap => some { target := .fn fn cap, args := first ++ c.args.map a.eval }
      | _ => none
    | _ => none
  | _ => none
def wpQ (P : Program) (ops : Array Oper) (K : Act → AHeap → Prop) : List Oper → Act → AHeap → Prop
  | [], a, H => K a H
  | o :: rest, a, H =>
    if Region.wanted o (yielded ops a.tmps) then match deferA a o with
      | some d => wpQ P ops K rest ({ a with defers := d :: a.defers }.put o.dst undef) H
      | none => step1 P a H o (fun v H' => wpQ P ops K rest (a.put o.dst v) H')
    else wpQ P ops K rest (a.put o.dst undef) H
theorem deferA_sim {P : Program} {ρ : Ren} {a b : Act} {o : Oper} {d : Deferred} (h : deferA a o = some d) (hv : ∀ x ∈ o.op.operands, VR ρ (a.eval x) (b.eval x)) (w : World) :
    ∃ d', (execOp b.eval o).run P w = .ok (.defer d') w ∧ DfR ρ d d' := by
  obtain ⟨dst, op, type, pos, after, guard⟩ := o
  unfold deferA at h
  split at h
  case h_2 => cases h
  rename_i c heq
  dsimp only at heq; subst heq
  split at h
  case h_2 => cases h
  rename_i f hc
  split at h
  case h_2 => cases h
  rename_i fn first cap hf
  obtain rfl := Option.some.inj h
  have hfv := hv f (by simp [Op.operands, Call.operands, hc])
  rw [hf] at hfv
  generalize hz : b.eval f = z at hfv
  cases hfv
  rename_i ys vs hx hX hu hU
  refine ⟨{ target := .fn fn vs, args := ys ++ c.args.map b.eval }, by simp [execOp, resolve, hc, hz, Deferred.ofValue], .inl ⟨fn, cap, vs, rfl, rfl, VRs.of_agg hu hU, ?_⟩⟩
  simp only [Array.toList_append, Array.toList_map]
  refine (VRs.of_agg hx hX).append (VRs.map _ fun x hx => hv x ?_)
  simp only [Op.operands, Call.operands, hc, Array.mem_append]
  exact .inr (by simpa using hx)
theorem wpQ_sim {P : Program} {ops : Array Oper} {K : Act → AHeap → Prop} {Q : Exit → Act → World → Prop} : ∀ (l : List Nat) (os : List Oper) (ρ : Ren) (a b : Act) (H : AHeap) (w : World),
    os.map some = l.map (ops[·]?) → (∀ o ∈ os, operandsOk o = true) → wpQ P ops K os a H → TR ρ a b → RelH P ρ H w →
    (∀ b' w', After P ρ H w K b' w' → Q .normal b' w') → wpOps P ops Q l b w
  | [], [], ρ, a, b, H, w, _, _, h, hT, hH, hQ => hQ b w ⟨a, H, ρ, h, hT, hH, ExtN.refl _ _ _ _⟩
  | [], _ :: _, _, _, _, _, _, he, _, _, _, _, _ => by simp at he
  | _ :: _, [], _, _, _, _, _, he, _, _, _, _, _ => by simp at he
  | i :: l, o :: os, ρ, a, b, H, w, he, hok, h, hT, hH, hQ => by
    simp only [List.map_cons, List.cons.injEq] at he
    obtain ⟨ho, he⟩ := he
    have hok' : ∀ o ∈ os, operandsOk o = true := fun o ho => hok o (by simp [ho])
    have next : ∀ v v' H' ρ' w', wpQ P ops K os (a.put o.dst v) H' → VR ρ' v v' → RelH P ρ' H' w' → Ext ρ H w ρ' H' w' → wpOps P ops Q l (b.put o.dst v') w' := fun v v' H' ρ' w' hs hvr hr hx =>
      wpQ_sim l os ρ' _ _ H' w' he hok' hs ((hT.mono hx.mono).put o.dst hvr) hr fun b' w'' ⟨a', H'', ρ'', h1, h2, h3, h4⟩ => hQ b' w'' ⟨a', H'', ρ'', h1, h2, h3, Ext.trans hx h4⟩
    simp only [wpOps, ← ho]
    simp only [wpQ] at h
    rw [hT.yielded ops] at h
    split at h
    · rename_i hw
      rw [if_pos hw]
      refine .inl ?_
      have hv := hT.operands (hok o (by simp))
      split at h
      · rename_i d hd
        obtain ⟨d', h1, h2⟩ := deferA_sim (P := P) hd hv w
        unfold Oper.wp
        rw [h1, Oper.upon_defer]
        have hT' : TR ρ { a with defers := d :: a.defers } { b with defers := d' :: b.defers } := ⟨hT.tmps, .cons h2 hT.defs, hT.glob⟩
        exact wpQ_sim l os ρ _ _ H w he hok' h (hT'.put o.dst (.tuple rfl (by simp))) hH fun b' w'' ⟨a', H'', ρ'', h1, h2, h3, h4⟩ => hQ b' w'' ⟨a', H'', ρ'', h1, h2, h3, h4⟩
      · unfold step1 at h
        split at h
        · exact eStep_sim h hH hv next
        · obtain ⟨v, H', hf, hk⟩ := nStep_fact h
          obtain ⟨v', ρ', w', h1, h2, h3, h4⟩ := nFact_sim hf hH hv
          unfold Oper.wp
          rw [h1, Oper.upon_value]
          exact next v v' H' ρ' w' hk h2 h3 h4
    · rename_i hw
      rw [if_neg hw]
      exact next undef undef H ρ w h (.tuple rfl (by simp)) hH (ExtN.refl _ _ _ _)
theorem aw_regionQ {P : Program} {Q : Exit → Act → AHeap → Prop} {a : Act} {H : AHeap} {id : Nat} {ops : Array Oper} (hok : ops.toList.all operandsOk = true) (h : wpQ P ops (fun a H => Q .normal a H) ops.toList a H) : aw P (.region id ops false) Q a H := by
  intro ρ b w hT hH
  refine wp_region (wpQ_sim (List.range ops.size) ops.toList ρ a b H w ?_ (fun o ho => List.all_eq_true.1 hok o ho) h hT hH fun b' w' ⟨a', H', ρ', q, r⟩ => ⟨a', H', ρ', q, r⟩)
  apply List.ext_getElem?
  intro i
  simp only [List.getElem?_map, Array.getElem?_toList]
  by_cases hi : i < ops.size
  · simp [hi]
  · simp [hi]

/-- A function that, called as a deferred one while nothing panics, does nothing. -/
def NoopD (P : Program) (g : FuncId) : Prop :=
  (∃ fn, P.funcs[g]? = some fn ∧ (fn.name == "runtime.NumGoroutine") = false ∧ fn.body.isNone = false) ∧
  ∀ (ρ : Ren) (H : AHeap) (w : World) (args cargs : Array Value), RelH P ρ H w → VRs ρ args.toList cargs.toList →
    CallsD P g cargs .returning w fun e u' w' => (∃ v, e = .returned v) ∧ u' = .returning ∧ ∃ ρ', RelH P ρ' H w' ∧ Ext ρ H w ρ' H w'
def DfIn (D : List FuncId) (d : Deferred) : Prop := ∃ g cap, d.target = .fn (.func g) cap ∧ g ∈ D
theorem leaves_noop {P : Program} {D : List FuncId} (hD : ∀ g ∈ D, NoopD P g) {fn : Func} {tmps : Array Value} {R : Ending → World → Prop} : ∀ {ds ds' : List Deferred} {ρ : Ren} {H : AHeap} {w : World},
    DfsR ρ ds ds' → (∀ d ∈ ds, DfIn D d) → RelH P ρ H w →
    (∀ ρ' w', RelH P ρ' H w' → Ext ρ H w ρ' H w' → ∃ v, (results fn tmps).run P w' = .ok v w' ∧ R (.returned v) w') → Leaves P fn tmps R ds' .returning w
  | _, _, ρ, H, w, All2.nil, _, hH, hR => hR ρ w hH (ExtN.refl _ _ _ _)
  | _, _, ρ, H, w, All2.cons (x := d) (y := d') h1 h2, hin, hH, hR => by
    obtain ⟨g, cap0, ht0, hg⟩ := hin d (by simp)
    obtain ⟨fnv, cap, cap', e1, e2, e3, e4⟩ : ∃ fn cap cap', d.target = .fn fn cap ∧ d'.target = .fn fn cap' ∧ VRs ρ cap.toList cap'.toList ∧ VRs ρ d.args.toList d'.args.toList := by
      rcases h1 with h1 | ⟨i, s, e, _⟩
      · exact h1
      · rw [ht0] at e; cases e
    rw [ht0] at e1
    simp only [Target.fn.injEq] at e1
    obtain ⟨rfl, rfl⟩ := e1
    obtain ⟨⟨fn', hf, hn, hb⟩, hcall⟩ := hD g hg
    have hn' : ¬ (fn'.name == "runtime.NumGoroutine") = true := by rw [hn]; decide
    have hb' : ¬ fn'.body.isNone = true := by rw [hb]; decide
    refine ⟨by simp, .func g, cap', g, d'.args ++ cap', e2, ?_, ?_⟩
    · rw [e2]
      simp only [invoke, callFunc, Sem.run_bind, run_program, Result.andThen_ok, hf, if_neg hn', if_neg hb', Sem.run_pure]
    · refine (hcall ρ H w (d.args ++ cap0) (d'.args ++ cap') hH (by simp only [Array.toList_append]; exact VRs.append e4 e3)).mono fun e u' w' ⟨⟨v, hv⟩, hu, ρ', hr, hx⟩ => ?_
      subst hv hu
      exact leaves_noop hD (DfsR.mono hx.mono h2) (fun d hd => hin d (by simp [hd])) hr fun ρ'' w'' hr' hx' => hR ρ'' w'' hr' (Ext.trans hx hx')

def bodyAD (P : Program) (D : List FuncId) (rs : List ResultVar) (Q : Value → AHeap → Prop) (e : Exit) (a : Act) (H : AHeap) : Prop :=
  (e = .normal ∨ e = .ret) ∧ (∀ d ∈ a.defers, DfIn D d) ∧ ∃ l, resL P a H rs = some l ∧ Q (retV l) H
theorem acalls_of_awD {P : Program} {D : List FuncId} (hD : ∀ g ∈ D, NoopD P g) {f : FuncId} {fn : Func} {c : Code} {args : Array Value} {H : AHeap} {Q : Value → AHeap → Prop} (hf : P.funcs[f]? = some fn) (hb : fn.body = some c)
    (h : aw P c (bodyAD P D fn.results.toList Q) { tmps := args ++ Array.replicate (fn.ntmps - args.size) undef, defers := [] } H) : ACalls P f args H Q := by
  intro ρ w cargs hH hargs
  have hsz : args.size = cargs.size := by simpa using hargs.length
  refine calls_of_wp_defers hf hb (wp_mono (h ρ { tmps := cargs ++ Array.replicate (fn.ntmps - cargs.size) undef, defers := [] } w ⟨?_, All2.nil, hH.glob⟩ hH) fun e b' w' ⟨a', H', ρ', ⟨he, hdf, l, hl, hq⟩, hT', hH', hx⟩ => ?_)
  · simp only [Array.toList_append, Array.toList_replicate, hsz]
    exact hargs.append (VRs.refl_undef _)
  · have hL : Leaves P fn b'.tmps (fun e w'' => ∃ v cv ρ' H', e = .returned cv ∧ Q v H' ∧ VR ρ' v cv ∧ RelH P ρ' H' w'' ∧ Ext ρ H w ρ' H' w'') b'.defers .returning w' := by
      refine leaves_noop hD hT'.defs hdf hH' fun ρ'' w'' hr hx' => ?_
      obtain ⟨l', h1, h2⟩ := resL_sim (hT'.mono hx'.mono) hr _ l hl
      have hres : (results fn b'.tmps).run P w'' = .ok (retV l') w'' := by
        have hfun : results fn b'.tmps = (do let vs ← fn.results.mapM (resOne b'); pure (if h : vs.size = 1 then vs[0] else .tuple vs)) := by
          unfold results
          congr 1
        rw [hfun, Array.mapM_eq_mapM_toList]
        simp only [Sem.run_bind, Sem.run_map, h2, Result.andThen_ok, Sem.run_pure]
        rw [retV_eq]
      exact ⟨_, hres, retV l, retV l', ρ'', H', rfl, hq, VR.retV h1, hr, Ext.trans hx hx'⟩
    rcases he with rfl | rfl
    · exact hL
    · exact hL
end Go.Ae
namespace Go.Ae
/-- Code within a scope, with at most n jumps. -/
def inScA (P : Program) (c : Code) (Q : Exit → Act → AHeap → Prop) : Nat → Code → Act → AHeap → Prop
  | 0, _, _, _ => False
  | n + 1, x, a, H => aw P x (fun e a H => match e with
      | .goto l => match findLabel c l with
        | some rest => inScA P c Q n rest a H
        | none => False
      | e => Q e a H) a H
theorem inScA_sim {P : Program} {c : Code} {Q : Exit → Act → AHeap → Prop} : ∀ (n : Nat) (x : Code) (ρ : Ren) (a : Act) (H : AHeap) (b : Act) (w : World), TR ρ a b → RelH P ρ H w → inScA P c Q n x a H →
    ∀ (f : Frame) (k : List Item) (cs : List Frame), ∃ e b' w', AfterX P ρ H w Q e b' w' ∧ Arrives P (lone (f.at b (.code x :: .inScope c :: k)) cs w) f k cs e b' w'
  | 0, _, _, _, _, _, _, _, _, h => h.elim
  | n + 1, x, ρ, a, H, b, w, hT, hH, h => by
    intro f k cs
    obtain ⟨e, b₁, w₁, ⟨a', H', ρ', q, hT', hH', hx⟩, harr⟩ := h ρ b w hT hH f (.inScope c :: k) cs
    cases e with
    | normal => exact ⟨.normal, b₁, w₁, ⟨a', H', ρ', q, hT', hH', hx⟩, Steps.trans harr (.one step_inScope)⟩
    | exit id => exact ⟨.exit id, b₁, w₁, ⟨a', H', ρ', q, hT', hH', hx⟩, fun k' hk => harr k' (by simp [exitTo, hk])⟩
    | goto l =>
      dsimp only at q
      split at q
      · rename_i rest hf
        obtain ⟨e₂, b₂, w₂, ⟨a'', H'', ρ'', q', hT'', hH'', hx'⟩, harr₂⟩ := inScA_sim n rest ρ' a' H' b₁ w₁ hT' hH' q f k cs
        have hg : gotoIn l (.inScope c :: k) = some (.code rest :: .inScope c :: k) := by simp [gotoIn, hf]
        exact ⟨e₂, b₂, w₂, ⟨a'', H'', ρ'', q', hT'', hH'', Ext.trans hx hx'⟩, .of_steps (harr _ hg) harr₂⟩
      · exact q.elim
    | ret => exact ⟨_, b₁, w₁, ⟨a', H', ρ', q, hT', hH', hx⟩, harr⟩
    | panic ch => exact ⟨_, b₁, w₁, ⟨a', H', ρ', q, hT', hH', hx⟩, harr⟩
    | outgrown => exact ⟨_, b₁, w₁, ⟨a', H', ρ', q, hT', hH', hx⟩, harr⟩
theorem aw_scope {P : Program} {c : Code} {Q : Exit → Act → AHeap → Prop} {a : Act} {H : AHeap} (n : Nat) (h : inScA P c Q n c a H) : aw P (.scope c) Q a H := by
  intro ρ b w hT hH f k cs
  obtain ⟨e, b', w', hq, harr⟩ := inScA_sim n c ρ a H b w hT hH h f k cs
  exact ⟨e, b', w', hq, .of_steps (.one step_scope) harr⟩
end Go.Ae

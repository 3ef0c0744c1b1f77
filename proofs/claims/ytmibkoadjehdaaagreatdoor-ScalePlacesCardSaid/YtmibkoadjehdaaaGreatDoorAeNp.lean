/- Deferred calls that ask recover() first: they do nothing while nothing panics. No condition. -/
import Derived.Test.YtmibkoadjehdaaaGreatDoorAeDf
namespace Go.Ae

theorem wpSeqS_sim {P : Program} {ops : Array Oper} {K : Act → AHeap → Prop} {Q : Exit → Act → List Frame → World → Prop} {cs : List Frame} : ∀ (l : List Nat) (os : List Oper) (ρ : Ren) (a b : Act) (H : AHeap) (w : World),
    os.map some = l.map (ops[·]?) → (∀ o ∈ os, operandsOk o = true) → wpSeq P ops K os a H → TR ρ a b → RelH P ρ H w →
    (∀ b' w', After P ρ H w K b' w' → Q .normal b' cs w') → wpOpsS P ops Q l b cs w
  | [], [], ρ, a, b, H, w, _, _, h, hT, hH, hQ => hQ b w ⟨a, H, ρ, h, hT, hH, ExtN.refl _ _ _ _⟩
  | [], _ :: _, _, _, _, _, _, he, _, _, _, _, _ => by simp at he
  | _ :: _, [], _, _, _, _, _, he, _, _, _, _, _ => by simp at he
  | i :: l, o :: os, ρ, a, b, H, w, he, hok, h, hT, hH, hQ => by
    simp only [List.map_cons, List.cons.injEq] at he
    obtain ⟨ho, he⟩ := he
    have hok' : ∀ o ∈ os, operandsOk o = true := fun o ho => hok o (by simp [ho])
    have next : ∀ v v' H' ρ' w', wpSeq P ops K os (a.put o.dst v) H' → VR ρ' v v' → RelH P ρ' H' w' → Ext ρ H w ρ' H' w' → wpOpsS P ops Q l (b.put o.dst v') cs w' := fun v v' H' ρ' w' hs hvr hr hx =>
      wpSeqS_sim l os ρ' _ _ H' w' he hok' hs ((hT.mono hx.mono).put o.dst hvr) hr fun b' w'' ⟨a', H'', ρ'', h1, h2, h3, h4⟩ => hQ b' w'' ⟨a', H'', ρ'', h1, h2, h3, Ext.trans hx h4⟩
    simp only [wpOpsS, ← ho]
    simp only [wpSeq] at h
    rw [hT.yielded ops] at h
    have key : ∀ {r : Result Next}, (∀ w', r ≠ .ok .recover w') → o.upon P b (fun a' w' => wpOpsS P ops Q l a' cs w') (fun e a' w' => Q e a' cs w') r →
        (match r with
        | .ok .recover w' => match recoverD cs with
          | some (v, cs') => wpOpsS P ops Q l (b.put o.dst v) cs' w'
          | none => wpOpsS P ops Q l (b.put o.dst .nilIface) cs w'
        | r => o.upon P b (fun a' w' => wpOpsS P ops Q l a' cs w') (fun e a' w' => Q e a' cs w') r) := by
      intro r hr hu
      split
      · rename_i w'; exact absurd rfl (hr w')
      · exact hu
    split at h
    · rename_i hw
      rw [if_pos hw]
      have hv := hT.operands (hok o (by simp))
      unfold step1 at h
      split at h
      · have := eStep_sim (N := fun a' w' => wpOpsS P ops Q l a' cs w') (Q := fun e a' w' => Q e a' cs w') h hH hv next
        unfold Oper.wp at this
        refine key (fun w' e => ?_) this
        rw [e] at this
        exact this
      · obtain ⟨v, H', hf, hk⟩ := nStep_fact h
        obtain ⟨v', ρ', w', h1, h2, h3, h4⟩ := nFact_sim hf hH hv
        rw [h1]
        exact next v v' H' ρ' w' hk h2 h3 h4
    · rename_i hw
      rw [if_neg hw]
      exact next undef undef H ρ w h (.tuple rfl (by simp)) hH (ExtN.refl _ _ _ _)

def isRecover (o : Oper) : Bool := o.guard.isNone && match o.op with
  | .call c => match c.callee with
    | .builtin .recover => true
    | _ => false
  | _ => false
/-- A function that begins with recover(). -/
theorem noop_of {P : Program} {g : FuncId} {fn : Func} {id : Nat} {o : Oper} {os : List Oper} {rest : Code} (hf : P.funcs[g]? = some fn) (hn : (fn.name == "runtime.NumGoroutine") = false)
    (hb : fn.body = some (.seq (.region id ⟨o :: os⟩ false) rest)) (hr : fn.results = #[]) (ho : isRecover o = true) (hok : os.all operandsOk = true)
    (h : ∀ (a : Act) (H : AHeap), a.defers = [] → fn.ntmps ≤ a.tmps.size → wpSeq P ⟨o :: os⟩ (fun a' H' => aw P rest (fun e a'' H'' => (e = .normal ∨ e = .ret) ∧ a''.defers = [] ∧ H'' = H) a' H') os (a.put o.dst .nilIface) H) : NoopD P g := by
  refine ⟨⟨fn, hf, hn, by rw [hb]; rfl⟩, fun ρ H w args cargs hH hargs => ?_⟩
  refine callsD_of_wpS hf hb fun c₀ cs hc => ?_
  have hsz : args.size = cargs.size := by simpa using hargs.length
  have hT : TR ρ { tmps := args ++ Array.replicate (fn.ntmps - args.size) undef, defers := [] } { tmps := cargs ++ Array.replicate (fn.ntmps - cargs.size) undef, defers := [] } := by
    refine ⟨?_, All2.nil, hH.glob⟩
    simp only [Array.toList_append, Array.toList_replicate, hsz]
    exact hargs.append (VRs.refl_undef _)
  refine wpS_seq (wpS_region ?_)
  have hrange : List.range (⟨o :: os⟩ : Array Oper).size = 0 :: (List.range os.length).map (· + 1) := by
    show List.range (os.length + 1) = _
    rw [List.range_succ_eq_map]
  rw [hrange]
  have hrun : ∀ b : Act, (execOp b.eval o).run P w = .ok .recover w := by
    intro b
    obtain ⟨dst, op, type, pos, after, guard⟩ := o
    unfold isRecover at ho
    simp only [Bool.and_eq_true] at ho
    obtain ⟨_, ho⟩ := ho
    split at ho
    · rename_i c
      split at ho
      · rename_i hce
        obtain ⟨callee, args, ats⟩ := c
        subst hce
        simp [execOp, resolve, invoke, builtin]
      · cases ho
    · cases ho
  have hgu : o.guard = none := by
    unfold isRecover at ho
    simp only [Bool.and_eq_true, Option.isNone_iff_eq_none] at ho
    exact ho.1
  have h0 : (⟨o :: os⟩ : Array Oper)[0]? = some o := rfl
  have hw0 : ∀ y, Region.wanted o y = true := fun y => by simp [Region.wanted, hgu]
  simp only [wpOpsS, h0, hw0, if_true, hrun]
  have hrec : recoverD (c₀ :: cs) = none := by
    simp only [recoverD, hc]
  simp only [hrec]
  refine wpSeqS_sim _ os ρ _ _ H w ?_ (fun o ho => List.all_eq_true.1 hok o ho) (h _ H rfl (by simp; omega)) (hT.put o.dst .nilIface) hH fun b' w' ⟨a', H', ρ', q, hT', hH', hx⟩ => ?_
  · apply List.ext_getElem?
    intro i
    simp only [List.getElem?_map]
    by_cases hi : i < os.length
    · simp [hi]
    · simp [hi]
  · refine wpS_of_wp (wp_mono (q ρ' b' w' hT' hH') fun e b'' w'' ⟨a'', H'', ρ'', ⟨he, hdf, hHH⟩, hT'', hH'', hx'⟩ => ?_)
    subst hHH
    have hres : (results fn b''.tmps).run P w'' = .ok (.tuple #[]) w'' := by
      unfold results
      rw [hr]
      simp
    have hd' : b''.defers = [] := by have := hT''.defs; rw [hdf] at this; exact this.nil
    have fin : ∃ u', c₀ :: cs = { c₀ with mode := u' } :: cs ∧ ∃ v, (results fn b''.tmps).run P w'' = .ok v w'' ∧ ((∃ v', Ending.returned v = .returned v') ∧ u' = .returning ∧ ∃ ρ', RelH P ρ' H'' w'' ∧ Ext ρ H'' w ρ' H'' w'') :=
      ⟨.returning, by rw [← hc], _, hres, ⟨_, rfl⟩, rfl, ρ'', hH'', Ext.trans hx hx'⟩
    rcases he with rfl | rfl
    · exact ⟨hd', fin⟩
    · exact ⟨hd', fin⟩
/-- A function that is one region, recover() first. -/
theorem noop_of1 {P : Program} {g : FuncId} {fn : Func} {id : Nat} {o : Oper} {os : List Oper} (hf : P.funcs[g]? = some fn) (hn : (fn.name == "runtime.NumGoroutine") = false)
    (hb : fn.body = some (.region id ⟨o :: os⟩ false)) (hr : fn.results = #[]) (ho : isRecover o = true) (hok : os.all operandsOk = true)
    (h : ∀ (a : Act) (H : AHeap), a.defers = [] → fn.ntmps ≤ a.tmps.size → wpSeq P ⟨o :: os⟩ (fun a' H' => a'.defers = [] ∧ H' = H) os (a.put o.dst .nilIface) H) : NoopD P g := by
  refine ⟨⟨fn, hf, hn, by rw [hb]; rfl⟩, fun ρ H w args cargs hH hargs => ?_⟩
  refine callsD_of_wpS hf hb fun c₀ cs hc => ?_
  have hsz : args.size = cargs.size := by simpa using hargs.length
  have hT : TR ρ { tmps := args ++ Array.replicate (fn.ntmps - args.size) undef, defers := [] } { tmps := cargs ++ Array.replicate (fn.ntmps - cargs.size) undef, defers := [] } := by
    refine ⟨?_, All2.nil, hH.glob⟩
    simp only [Array.toList_append, Array.toList_replicate, hsz]
    exact hargs.append (VRs.refl_undef _)
  refine wpS_region ?_
  have hrange : List.range (⟨o :: os⟩ : Array Oper).size = 0 :: (List.range os.length).map (· + 1) := by
    show List.range (os.length + 1) = _
    rw [List.range_succ_eq_map]
  rw [hrange]
  have hrun : ∀ b : Act, (execOp b.eval o).run P w = .ok .recover w := by
    intro b
    obtain ⟨dst, op, type, pos, after, guard⟩ := o
    unfold isRecover at ho
    simp only [Bool.and_eq_true] at ho
    obtain ⟨_, ho⟩ := ho
    split at ho
    · rename_i c
      split at ho
      · rename_i hce
        obtain ⟨callee, args, ats⟩ := c
        subst hce
        simp [execOp, resolve, invoke, builtin]
      · cases ho
    · cases ho
  have hgu : o.guard = none := by
    unfold isRecover at ho
    simp only [Bool.and_eq_true, Option.isNone_iff_eq_none] at ho
    exact ho.1
  have h0 : (⟨o :: os⟩ : Array Oper)[0]? = some o := rfl
  have hw0 : ∀ y, Region.wanted o y = true := fun y => by simp [Region.wanted, hgu]
  simp only [wpOpsS, h0, hw0, if_true, hrun]
  have hrec : recoverD (c₀ :: cs) = none := by
    simp only [recoverD, hc]
  simp only [hrec]
  refine wpSeqS_sim _ os ρ _ _ H w ?_ (fun o ho => List.all_eq_true.1 hok o ho) (h _ H rfl (by simp; omega)) (hT.put o.dst .nilIface) hH fun b' w' ⟨a', H', ρ', q, hT', hH', hx⟩ => ?_
  · apply List.ext_getElem?
    intro i
    simp only [List.getElem?_map]
    by_cases hi : i < os.length
    · simp [hi]
    · simp [hi]
  · obtain ⟨hdf, hHH⟩ := q
    subst hHH
    have hres : (results fn b'.tmps).run P w' = .ok (.tuple #[]) w' := by
      unfold results
      rw [hr]
      simp
    have hd' : b'.defers = [] := by have := hT'.defs; rw [hdf] at this; exact this.nil
    exact ⟨hd', .returning, by rw [← hc], _, hres, ⟨_, rfl⟩, rfl, ρ', hH', hx⟩
end Go.Ae

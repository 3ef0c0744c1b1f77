/- Loops over functions: the call of a loop's body, the statement, the function's end. No condition. -/
import Derived.Test.YtmibkoadjehdaaaGreatDoorKy30
set_option linter.unusedVariables false
set_option linter.unusedSimpArgs false
namespace Go.Ae
/-! ### A call of a loop's body -/
def yieldA (a : Act) (o : Oper) : Option (Nat × List Value) :=
  match o.op with
  | .call c => match c.callee with
    | .value f => match a.eval f with
      | .chan (some i) => some (i, c.args.toList.map a.eval)
      | _ => none
    | _ => none
  | _ => none
def putPsA (ts : Array Value) (ps : List Tmp) (args : List Value) : Array Value := (ps.zip args).foldl (fun ts p => ts.setIfInBounds p.1 p.2) ts
def codeOf : Exit → Option Code
  | .ret => some .ret
  | .exit id => some (.exit id)
  | .goto l => some (.goto l)
  | _ => none
def roundA (i : Nat) (Q : Value → AHeap → Prop) (e : Exit) (_ : Act) (H : AHeap) : Prop :=
  ∃ ts k st pe, H.get i = some (.loop ts k st pe) ∧ ((e = .normal ∧ Q (.bool true) (H.put i (.loop ts k .ready none))) ∨ ∃ c, codeOf e = some c ∧ Q (.bool false) (H.put i (.loop ts k .done (some c))))
def YieldsA (P : Program) (i : Nat) (args : List Value) (H : AHeap) (Q : Value → AHeap → Prop) : Prop :=
  ∃ ts k ps asv bd, H.get i = some (.loop ts k .ready none) ∧ rfP P k = some (ps, asv, bd) ∧ args.length = ps.size ∧ ∀ l, awF (some l) P asv (fun e a1 H1 => e = .normal ∧ ∃ ts k, H1.get i = some (.loop ts k .ready none) ∧
    awF (some l) P bd (roundA i Q) a1 (H1.put i (.loop ts k .busy none))) { tmps := putPsA ts.toArray ps.toList args, defers := [] } H
theorem roundA_mono {i : Nat} {Q Q' : Value → AHeap → Prop} (hq : ∀ v H, Q v H → Q' v H) {e : Exit} {a : Act} {H : AHeap} (h : roundA i Q e a H) : roundA i Q' e a H := by
  obtain ⟨ts, k, st, pe, h1, h2⟩ := h
  exact ⟨ts, k, st, pe, h1, h2.imp (fun ⟨e, q⟩ => ⟨e, hq _ _ q⟩) fun ⟨c, e, q⟩ => ⟨c, e, hq _ _ q⟩⟩
theorem YieldsA.mono {P : Program} {i : Nat} {args : List Value} {H : AHeap} {Q Q' : Value → AHeap → Prop} (h : YieldsA P i args H Q) (hq : ∀ v H, Q v H → Q' v H) : YieldsA P i args H Q' := by
  obtain ⟨ts, k, ps, asv, bd, h1, h0, h2, h3⟩ := h
  exact ⟨ts, k, ps, asv, bd, h1, h0, h2, fun l => awF_mono (h3 l) fun e a H ⟨h4, ts', k', h5, h6⟩ => ⟨h4, ts', k', h5, awF_mono h6 fun e a H h => roundA_mono hq h⟩⟩
theorem putPs_sim {ρ : Ren} : ∀ (ps : List Tmp) (args cargs : List Value) (ts cts : Array Value), VRs ρ args cargs → VRs ρ ts.toList cts.toList → VRs ρ (putPsA ts ps args).toList (putPsA cts ps cargs).toList
  | [], _, _, _, _, _, h => by simpa [putPsA] using h
  | p :: ps, [], _, _, _, .nil, h => by simpa [putPsA] using h
  | p :: ps, x :: xs, _, ts, cts, .cons h1 h2, h => by
    simp only [putPsA, List.zip_cons_cons, List.foldl_cons]
    exact putPs_sim ps xs _ _ _ h2 (by simp only [Array.toList_setIfInBounds]; exact h.set p h1)
/-- The loop's object becomes another state of it. -/
theorem loop_put {P : Program} {ρ : Ren} {H : AHeap} {w : World} (hH : RelH P ρ H w) {i : Nat} {ts : List Value} {k : FuncId} {st : LoopState} {pe : Option Code} (hg : H.get i = some (.loop ts k st pe)) {s : Seg} (hs : ρ i 0 = some s) (st' : LoopState) (pe' : Option Code) :
    ∃ (L : Loop) (q : Array Tmp × Code × Code), w.heap[s.blk]? = some (.loop L) ∧ VRs ρ ts L.tmps.toList ∧ rfP P k = some q ∧ L.params = q.1 ∧ L.assign = q.2.1 ∧ L.body = q.2.2 ∧ L.state = st ∧ L.pending = pe ∧
      RelH P ρ (H.put i (.loop ts k st' pe')) (w.putObj s.blk (.loop { L with state := st', pending := pe' })) ∧ Ext ρ H w ρ (H.put i (.loop ts k st' pe')) (w.putObj s.blk (.loop { L with state := st', pending := pe' })) := by
  obtain ⟨L, q, h1, h2, h0, h3, h4, h5, h6, h7⟩ := hH.obj i _ hg rfl s hs
  have := put_obj (P := P) hH hg rfl (o' := .loop ts k st' pe') rfl hs (ob := .loop { L with state := st', pending := pe' }) fun w' hw => ⟨_, q, hw, h2, h0, h3, h4, h5, rfl, rfl⟩
  exact ⟨L, q, h1, h2, h0, h3, h4, h5, h6, h7, this.1, this.2⟩
theorem roundA_sim {P : Program} {ρ : Ren} {i : Nat} {Q : Value → AHeap → Prop} {e : Exit} {a b : Act} {H : AHeap} {w : World} {s : Seg} (hs : ρ i 0 = some s) (hH : RelH P ρ H w) (h : roundA i Q e a H)
    {R : Ending → World → Prop} (hR : ∀ v H' w', Q v H' → VR ρ v v → RelH P ρ H' w' → Ext ρ H w ρ H' w' → R (.returned v) w') : roundPost P s.blk R e b w := by
  obtain ⟨ts, k, st, pe, hg, h⟩ := h
  rcases h with ⟨rfl, q⟩ | ⟨c, hc, q⟩
  · obtain ⟨L, q0, h1, h2, h0, h3, h4, h5, h6, h7, h8, h9⟩ := loop_put hH hg hs .ready none
    exact ⟨.bool true, _, run_endRound none h1, hR _ _ _ q (.bool _) h8 h9⟩
  · obtain ⟨L, q0, h1, h2, h0, h3, h4, h5, h6, h7, h8, h9⟩ := loop_put hH hg hs .done (some c)
    have := run_endRound (P := P) (some c) h1
    cases e with
    | ret => obtain rfl := Option.some.inj hc; exact ⟨.bool false, _, this, hR _ _ _ q (.bool _) h8 h9⟩
    | exit id => obtain rfl := Option.some.inj hc; exact ⟨.bool false, _, this, hR _ _ _ q (.bool _) h8 h9⟩
    | goto l => obtain rfl := Option.some.inj hc; exact ⟨.bool false, _, this, hR _ _ _ q (.bool _) h8 h9⟩
    | normal => cases hc
    | panic _ => cases hc
    | outgrown => cases hc
theorem yield_sim {P : Program} {ρ : Ren} {a b : Act} {H : AHeap} {w : World} {o : Oper} {i : Nat} {args : List Value} {K : Value → AHeap → Prop} (h : yieldA a o = some (i, args)) (hY : YieldsA P i args H K) (hT : TR ρ a b) (hH : RelH P ρ H w) (hv : ∀ x ∈ o.op.operands, VR ρ (a.eval x) (b.eval x))
    {r : Option Nat} {N : Act → World → Prop} {Q : Exit → Act → World → Prop} (hN : ∀ v v' H' ρ' w', K v H' → VR ρ' v v' → RelH P ρ' H' w' → Ext ρ H w ρ' H' w' → N (b.put o.dst v') w') : o.wpIn (fenceR r) 0 P b w N Q := by
  obtain ⟨dst, op, type, pos, after, guard⟩ := o
  unfold yieldA at h
  split at h
  case h_2 => cases h
  rename_i c heq
  dsimp only at heq; subst heq
  split at h
  case h_2 => cases h
  rename_i f hc
  split at h
  case h_2 => cases h
  rename_i i' hf
  simp only [Option.some.injEq, Prod.mk.injEq] at h
  obtain ⟨rfl, rfl⟩ := h
  have hfv := hv f (by simp [Op.operands, Call.operands, hc])
  rw [hf] at hfv
  generalize hz : b.eval f = z at hfv
  cases hfv with
  | yield hs =>
  rename_i s
  obtain ⟨ts, k, ps, asv, bd, hg, hrf, hlen, hround⟩ := hY
  obtain ⟨L, q0, h1, h2, h0, h3, h4, h5, h6, h7, h8, h9⟩ := loop_put hH hg hs .busy none
  rw [hrf] at h0
  obtain rfl := Option.some.inj h0
  dsimp only at h3 h4 h5
  have hargs : VRs ρ (c.args.toList.map a.eval) (c.args.map b.eval).toList := by
    simp only [Array.toList_map]
    refine VRs.map _ fun x hx => hv x ?_
    simp only [Op.operands, Call.operands, hc, Array.mem_append]
    exact .inr (by simpa using hx)
  have hsz : (c.args.map b.eval).size = L.params.size := by
    have := hargs.length
    rw [h3, ← hlen, this]
    simp
  have hrun : (execOp b.eval ⟨dst, .call c, type, pos, after, guard⟩).run P w = .ok (.round s.blk L.fn ((L.params.zip (c.args.map b.eval)).foldl (fun tmps (t, a) => tmps.setIfInBounds t a) L.tmps) L.assign L.body) w := by
    simp only [execOp, resolve, hc, hz, Deferred.ofValue, Sem.run_bind, Sem.run_pure, Result.andThen_ok, invoke]
    have := run_yield (P := P) (args := c.args.map b.eval) h1 hsz
    simpa using this
  have hts : VRs ρ (putPsA ts.toArray ps.toList (c.args.toList.map a.eval)).toList ((L.params.zip (c.args.map b.eval)).foldl (fun tmps (t, a) => tmps.setIfInBounds t a) L.tmps).toList := by
    have := putPs_sim ps.toList _ _ ts.toArray L.tmps hargs (by simpa using h2)
    rw [h3, ← Array.foldl_toList, Array.toList_zip]
    exact this
  refine ⟨fun _ _ => trivial, ?_⟩
  have hsem : (Oper.semAt (fenceR r).round b.eval ⟨dst, .call c, type, pos, after, guard⟩) = execOp b.eval ⟨dst, .call c, type, pos, after, guard⟩ := Oper.semAt_eq _ _ _ (by simp)
  rw [hsem, hrun, Oper.uponIn_round]
  refine ⟨fun h => by simp [fenceR, Fence.wide] at h, ?_⟩
  have key : RoundIn Fence.wide 0 P s.blk L.fn ((L.params.zip (c.args.map b.eval)).foldl (fun tmps (t, a) => tmps.setIfInBounds t a) L.tmps) L.assign L.body w fun e w' => ∃ v, e = .returned v ∧ N (b.put dst v) w' := by
    refine roundIn_of_wpIn trivial ?_
    rw [h4, h5]
    have h0 := hround s.blk ρ { tmps := (L.params.zip (c.args.map b.eval)).foldl (fun tmps (t, a) => tmps.setIfInBounds t a) L.tmps, defers := [] } w ⟨hts, All2.nil, hT.glob⟩ hH
    refine wpIn_mono h0 fun e b1 w1 ⟨a1, H1, ρ1, ⟨he, ts1, k1, hg1, hb⟩, hT1, hH1, hx1⟩ => ?_
    subst he
    have hs1 := hx1.mono _ _ _ hs
    obtain ⟨L1, q1, g1, g2, g0, g3, g4, g5, g6, g7, g8, g9⟩ := loop_put hH1 hg1 hs1 .busy none
    refine ⟨_, run_beginRound g1 g6, ?_⟩
    have e1 : ({ L1 with state := .busy } : Loop) = { L1 with state := .busy, pending := none } := by rw [← g7]
    rw [e1]
    refine wpIn_mono (hb ρ1 b1 _ (hT1.mono (Ren.le_refl _)) g8) fun e b2 w2 ⟨a2, H2, ρ2, hr2, hT2, hH2, hx2⟩ => ?_
    have hs2 := hx2.mono _ _ _ hs1
    exact roundA_sim hs2 hH2 hr2 fun v H' w' hq hvr hr hx => ⟨v, rfl, hN v v H' ρ2 w' hq hvr hr (Ext.trans hx1 (Ext.trans g9 (Ext.trans hx2 hx)))⟩
  have key' : RoundIn (fenceR r) 0 P s.blk L.fn ((L.params.zip (c.args.map b.eval)).foldl (fun tmps (t, a) => tmps.setIfInBounds t a) L.tmps) L.assign L.body w fun e w' => ∃ v, e = .returned v ∧ N (b.put dst v) w' := key
  exact key'.mono fun e w' ⟨v, he, hn⟩ => by subst he; exact hn

/-! ### Regions -/
def wpY (P : Program) (ops : Array Oper) (K : Act → AHeap → Prop) : List Oper → Act → AHeap → Prop
  | [], a, H => K a H
  | o :: rest, a, H =>
    if Region.wanted o (yielded ops a.tmps) then match deferA a o with
      | some d => wpY P ops K rest ({ a with defers := d :: a.defers }.put o.dst undef) H
      | none => match yieldA a o with
        | some q => YieldsA P q.1 q.2 H (fun v H' => wpY P ops K rest (a.put o.dst v) H')
        | none => step1 P a H o (fun v H' => wpY P ops K rest (a.put o.dst v) H')
    else wpY P ops K rest (a.put o.dst undef) H
theorem wpY_sim {P : Program} {r : Option Nat} {ops : Array Oper} {K : Act → AHeap → Prop} {Q : Exit → Act → World → Prop} (hdf : r = none ∨ noDefer ops.toList = true) : ∀ (l : List Nat) (os : List Oper) (ρ : Ren) (a b : Act) (H : AHeap) (w : World),
    os.map some = l.map (ops[·]?) → (∀ o ∈ os, operandsOk o = true) → wpY P ops K os a H → TR ρ a b → RelH P ρ H w →
    (∀ b' w', After P ρ H w K b' w' → Q .normal b' w') → wpOpsIn (fenceR r) 0 P ops Q l b w
  | [], [], ρ, a, b, H, w, _, _, h, hT, hH, hQ => hQ b w ⟨a, H, ρ, h, hT, hH, ExtN.refl _ _ _ _⟩
  | [], _ :: _, _, _, _, _, _, he, _, _, _, _, _ => by simp at he
  | _ :: _, [], _, _, _, _, _, he, _, _, _, _, _ => by simp at he
  | i :: l, o :: os, ρ, a, b, H, w, he, hok, h, hT, hH, hQ => by
    simp only [List.map_cons, List.cons.injEq] at he
    obtain ⟨ho, he⟩ := he
    have hok' : ∀ o ∈ os, operandsOk o = true := fun o ho => hok o (by simp [ho])
    have next : ∀ v v' H' ρ' w', wpY P ops K os (a.put o.dst v) H' → VR ρ' v v' → RelH P ρ' H' w' → Ext ρ H w ρ' H' w' → wpOpsIn (fenceR r) 0 P ops Q l (b.put o.dst v') w' := fun v v' H' ρ' w' hs hvr hr hx =>
      wpY_sim hdf l os ρ' _ _ H' w' he hok' hs ((hT.mono hx.mono).put o.dst hvr) hr fun b' w'' ⟨a', H'', ρ'', h1, h2, h3, h4⟩ => hQ b' w'' ⟨a', H'', ρ'', h1, h2, h3, Ext.trans hx h4⟩
    simp only [wpOpsIn, ← ho]
    simp only [wpY] at h
    rw [hT.yielded ops] at h
    have hsem : (o.semAt (fenceR r).round b.eval).run P w = (execOp b.eval o).run P w := by
      rcases hdf with rfl | hd
      · rfl
      · rw [Oper.semAt_eq _ _ _ (noDefer_spec hd ho.symm)]
    split at h
    · rename_i hw
      rw [if_pos hw]
      have hv := hT.operands (hok o (by simp))
      split at h
      · rename_i d hd
        obtain ⟨d', h1, h2⟩ := deferA_sim (P := P) hd hv w
        refine ⟨fun _ _ => trivial, ?_⟩
        rw [hsem, h1, Oper.uponIn_defer]
        have hT' : TR ρ { a with defers := d :: a.defers } { b with defers := d' :: b.defers } := ⟨hT.tmps, .cons h2 hT.defs, hT.glob⟩
        exact wpY_sim hdf l os ρ _ _ H w he hok' h (hT'.put o.dst (.tuple rfl (by simp))) hH fun b' w' ⟨a', H'', ρ'', h1, h2, h3, h4⟩ => hQ b' w' ⟨a', H'', ρ'', h1, h2, h3, h4⟩
      · split at h
        · rename_i q hq
          exact yield_sim hq h hT hH hv next
        · refine ⟨fun _ _ => trivial, ?_⟩
          rw [hsem]
          refine upon_in (next := fun b w => wpOpsIn (fenceR r) 0 P ops Q l b w) (fun _ _ h => h) ?_
          unfold step1 at h
          split at h
          · exact eStep_sim h hH hv next
          · obtain ⟨v, H', hf, hk⟩ := nStep_fact h
            obtain ⟨v', ρ', w', h1, h2, h3, h4⟩ := nFact_sim hf hH hv
            rw [h1, Oper.upon_value]
            exact next v v' H' ρ' w' hk h2 h3 h4
    · rename_i hw
      rw [if_neg hw]
      exact ⟨fun _ _ => trivial, next undef undef H ρ w h (.tuple rfl (by simp)) hH (ExtN.refl _ _ _ _)⟩
theorem awF_regionY {r : Option Nat} {P : Program} {Q : Exit → Act → AHeap → Prop} {a : Act} {H : AHeap} {id : Nat} {ops : Array Oper} (hd : r = none ∨ noDefer ops.toList = true) (hok : ops.toList.all operandsOk = true) (h : wpY P ops (fun a H => Q .normal a H) ops.toList a H) : awF r P (.region id ops false) Q a H := by
  intro ρ b w hT hH
  refine wpIn_region (wpY_sim hd (List.range ops.size) ops.toList ρ a b H w ?_ (fun o ho => List.all_eq_true.1 hok o ho) h hT hH fun b' w' ⟨a', H', ρ', q, s⟩ => ⟨a', H', ρ', q, s⟩)
  apply List.ext_getElem?
  intro i
  simp only [List.getElem?_map, Array.getElem?_toList]
  by_cases hi : i < ops.size
  · simp [hi]
  · simp [hi]

/-! ### The statement -/
def dfObj : AObj := .opq (.deferred (some []))
/-- What the loop leaves: its jump. -/
def leftA (i : Nat) (Q : Exit → Act → AHeap → Prop) (a' : Act) (H : AHeap) : Prop :=
  ∃ ts k st, (st == LoopState.busy) = false ∧ ((H.get i = some (.loop ts k st none) ∧ Q .normal a' (H.put i (.loop ts k .exhausted none))) ∨
    ∃ e c, codeOf e = some c ∧ H.get i = some (.loop ts k st (some c)) ∧ Q e a' (H.put i (.loop ts k .exhausted (some c))))
theorem awF_range {P : Program} {Q : Exit → Act → AHeap → Prop} {a : Act} {H : AHeap} {f : Operand} {ps : Array Tmp} {asv bd : Code} {k : FuncId} {g : FuncId} {first cap : Array Value} (hrf : rfP P k = some (ps, asv, bd)) (hok : okOperand f = true) (hf : a.eval f = .func (.func g) first cap)
    (hg : ∃ fn, P.funcs[g]? = some fn ∧ (fn.name == "runtime.NumGoroutine") = false ∧ fn.body.isNone = false)
    (h : ACalls P g (first ++ #[.chan (some (H.next + 1))] ++ cap) ((H.push dfObj).push (.loop a.tmps.toList k .ready none)) fun _ H' =>
      leftA (H.next + 1) Q { a with defers := { target := .collected H.next, args := #[] } :: a.defers } H') : awF none P (.rangeFunc f ps asv bd) Q a H := by
  intro ρ b w hT hH
  have hfv := hT.eval hok
  rw [hf] at hfv
  generalize hz : b.eval f = z at hfv
  cases hfv
  rename_i cfirst ccap hx hX hu hU
  obtain ⟨fn, hfn, hn1, hn2⟩ := hg
  obtain ⟨ρ1, hR1, hx1, hs1⟩ := push_obj hH (o := dfObj) rfl (ob := .deferred (some [])) fun ρ' w' _ hw => hw
  have hsz1 : ({ w with heap := w.heap.push (.deferred (some [])) } : World).heap.size = w.heap.size + 1 := by simp
  let L (fid : FuncId) : Loop := { state := .ready, pending := none, fn := fid, tmps := b.tmps, params := ps, assign := asv, body := bd, defers := w.heap.size }
  have hH2 : ∀ fid, ∃ ρ', RelH P ρ' ((H.push dfObj).push (.loop a.tmps.toList k .ready none)) ((w.alloc (.deferred (some []))).alloc (.loop (L fid))) ∧
      Ext ρ1 (H.push dfObj) (w.alloc (.deferred (some []))) ρ' ((H.push dfObj).push (.loop a.tmps.toList k .ready none)) ((w.alloc (.deferred (some []))).alloc (.loop (L fid))) ∧ ρ' (H.next + 1) 0 = some ⟨w.heap.size + 1, 0, 0, 0, 0, 0⟩ := fun fid => by
    obtain ⟨ρ2, hR2, hx2, hs2⟩ := push_obj hR1 (o := .loop a.tmps.toList k .ready none) rfl (ob := .loop (L fid)) fun ρ' w' hle hw => ⟨L fid, (ps, asv, bd), hw, hT.tmps.mono (hx1.mono.trans hle), hrf, rfl, rfl, rfl, rfl, rfl⟩
    rw [hsz1] at hs2
    exact ⟨ρ2, hR2, hx2, hs2⟩
  refine wpIn_rangeFunc fun fid _ => ?_
  obtain ⟨ρ2, hR2, hx2, hs2⟩ := hH2 fid
  have hx12 := Ext.trans hx1 hx2
  refine ⟨w.heap.size + 1, [{ target := .collected w.heap.size, args := #[] }], (w.alloc (.deferred (some []))).alloc (.loop (L fid)), { target := .fn (.func g) ccap, args := cfirst ++ #[.func (.yield (w.heap.size + 1)) #[] #[]] }, (w.alloc (.deferred (some []))).alloc (.loop (L fid)), g, cfirst ++ #[.func (.yield (w.heap.size + 1)) #[] #[]] ++ ccap, (w.alloc (.deferred (some []))).alloc (.loop (L fid)),
    run_enterLoop_outer fid b.tmps ps asv bd, ?_, fun _ _ => trivial, ?_, fun h => by simp [fenceR, Fence.wide] at h, ?_⟩
  · have hz' : b.eval f = Value.func (Fn.func g) cfirst ccap := hz
    simp only [resolve, rangeCall, hz', Deferred.ofValue, Sem.run_pure]
    simp [Act.eval]
  · have hb : ¬ fn.body.isNone = true := by simp [hn2]
    have hn : ¬ (fn.name == "runtime.NumGoroutine") = true := by simp only [Bool.not_eq_true]; exact hn1
    simp only [invoke, callFunc, Sem.run_bind, run_program, Result.andThen_ok, hfn, if_neg hn, if_neg hb, Sem.run_pure]
  · rw [fenceR_none]
    refine callsIn_wide.2 ?_
    have hargs : VRs ρ2 (first ++ #[Value.chan (some (H.next + 1))] ++ cap).toList (cfirst ++ #[Value.func (.yield (w.heap.size + 1)) #[] #[]] ++ ccap).toList := by
      simp only [Array.toList_append]
      refine VRs.append (VRs.append ((VRs.of_agg hx hX).mono hx12.mono) (.cons ?_ .nil)) ((VRs.of_agg hu hU).mono hx12.mono)
      exact .yield hs2
    refine (h ρ2 _ _ hR2 hargs).mono fun e w3 ⟨v, cv, ρ3, H3, he, hl, hv, hR3, hx3⟩ => ?_
    subst he
    have hs3 := hx3.mono _ _ _ hs2
    have hTa : TR ρ3 { a with defers := { target := .collected H.next, args := #[] } :: a.defers } { b with defers := [{ target := .collected w.heap.size, args := #[] }] ++ b.defers } := by
      have hle := hx12.mono.trans hx3.mono
      refine ⟨hT.tmps.mono hle, .cons (.inr ⟨H.next, _, rfl, (hx2.mono.trans hx3.mono) _ _ _ hs1, rfl⟩) (hT.defs.mono hle), hT.glob.mono hle⟩
    obtain ⟨ts3, k3, st, hst, ⟨hg3, q⟩ | ⟨e, c, hc, hg3, q⟩⟩ := hl
    · obtain ⟨L3, q3, g1, g2, g0, g3, g4, g5, g6, g7, g8, g9⟩ := loop_put hR3 hg3 hs3 .exhausted none
      have hend := run_endLoop (P := P) g1 (by rw [g6]; intro h; rw [h] at hst; cases hst)
      rw [g7] at hend
      exact ⟨none, _, hend, _, _, ρ3, q, hTa, g8, Ext.trans hx12 (Ext.trans hx3 g9)⟩
    · obtain ⟨L3, q3, g1, g2, g0, g3, g4, g5, g6, g7, g8, g9⟩ := loop_put hR3 hg3 hs3 .exhausted (some c)
      have hend := run_endLoop (P := P) g1 (by rw [g6]; intro h; rw [h] at hst; cases hst)
      rw [g7] at hend
      have fin : AfterX P ρ H w Q e { b with defers := [{ target := .collected w.heap.size, args := #[] }] ++ b.defers } (w3.putObj (w.heap.size + 1) (.loop { L3 with state := .exhausted, pending := some c })) := ⟨_, _, ρ3, q, hTa, g8, Ext.trans hx12 (Ext.trans hx3 g9)⟩
      refine ⟨some c, _, hend, ?_⟩
      cases e with
      | ret => obtain rfl := Option.some.inj hc; exact wpIn_ret fin
      | exit id => obtain rfl := Option.some.inj hc; exact wpIn_exit fin
      | goto l => obtain rfl := Option.some.inj hc; exact wpIn_goto fin
      | normal => cases hc
      | panic _ => cases hc
      | outgrown => cases hc

/-! ### A function's end -/
def leavesA (D : List FuncId) (K : AHeap → Prop) : List Deferred → AHeap → Prop
  | [], H => K H
  | d :: ds, H => (DfIn D d ∧ leavesA D K ds H) ∨ ∃ i, d.target = .collected i ∧ H.get i = some dfObj ∧ leavesA D K ds (H.put i (.opq (.deferred none)))
theorem leavesA_steps {P : Program} {D : List FuncId} (hD : ∀ g ∈ D, NoopD P g) {K : AHeap → Prop} : ∀ {ds ds' : List Deferred} {ρ : Ren} {H : AHeap} {w : World} {fr : Frame} {cs : List Frame},
    DfsR ρ ds ds' → leavesA D K ds H → RelH P ρ H w → fr.mode = .returning → fr.defers = ds' →
    ∃ ρ' H' w', K H' ∧ RelH P ρ' H' w' ∧ Ext ρ H w ρ' H' w' ∧ Steps P (lone fr cs w) (lone { fr with defers := [] } cs w')
  | _, _, ρ, H, w, fr, cs, All2.nil, h, hH, hm, hd => ⟨ρ, H, w, h, hH, ExtN.refl _ _ _ _, by
      have : ({ fr with defers := [] } : Frame) = fr := by rw [← hd]
      rw [this]
      exact Steps.refl P _⟩
  | _, _, ρ, H, w, fr, cs, All2.cons (x := d) (y := d') (ys := ds') h1 h2, h, hH, hm, hd => by
    have hrun : fr.mode ≠ .run := by rw [hm]; simp
    rcases h with ⟨⟨g, cap0, ht0, hg⟩, h⟩ | ⟨i, ht0, hget, h⟩
    · obtain ⟨fnv, cap, cap', e1, e2, e3, e4⟩ : ∃ fn cap cap', d.target = .fn fn cap ∧ d'.target = .fn fn cap' ∧ VRs ρ cap.toList cap'.toList ∧ VRs ρ d.args.toList d'.args.toList := by
        rcases h1 with h1 | ⟨i, s, e, _⟩
        · exact h1
        · rw [ht0] at e; cases e
      rw [ht0] at e1
      simp only [Target.fn.injEq] at e1
      obtain ⟨rfl, rfl⟩ := e1
      obtain ⟨⟨fn', hf, hn, hb⟩, hcall⟩ := hD g hg
      have hn' : ¬ (fn'.name == "runtime.NumGoroutine") = true := by rw [hn]; decide
      have hb' : ¬ fn'.body.isNone = true := by rw [hb]; decide
      have hinv : (invoke d'.target d'.args).run P w = .ok (.enter g (d'.args ++ cap')) w := by
        rw [e2]
        simp only [invoke, callFunc, Sem.run_bind, run_program, Result.andThen_ok, hf, if_neg hn', if_neg hb', Sem.run_pure]
      have s1 := step_defer (cs := cs) hrun hd e2 hinv
      obtain ⟨e, u', w', frX, ⟨⟨v, hv⟩, hu, ρ', hr, hx⟩, hsteps, hkX, hgo⟩ := hcall ρ H w (d.args ++ cap0) (d'.args ++ cap') hH (by simp only [Array.toList_append]; exact VRs.append e4 e3) { fr with defers := ds' } cs hm
      subst hv hu
      have s2 := step_going_returned (c := { { fr with defers := ds' } with mode := .returning }) (cs := cs) hkX hgo
      obtain ⟨ρ'', H'', w'', k1, k2, k3, k4⟩ := leavesA_steps hD (fr := { { { fr with defers := ds' } with mode := .returning } with mode := settle .returning }) (cs := cs) (DfsR.mono hx.mono h2) h hr rfl rfl
      refine ⟨ρ'', H'', w'', k1, k2, Ext.trans hx k3, ?_⟩
      have efr : ({ { { { fr with defers := ds' } with mode := .returning } with mode := settle .returning } with defers := [] } : Frame) = { fr with defers := [] } := by
        show ({ fr with defers := [], mode := .returning } : Frame) = { fr with defers := [] }
        rw [← hm]
      rw [efr] at k4
      exact .head s1 (Steps.trans hsteps (.head s2 k4))
    · obtain ⟨s, e1, e2⟩ : ∃ s, ρ i 0 = some s ∧ d'.target = .collected s.blk := by
        rcases h1 with ⟨fn, cap, cap', e, _⟩ | ⟨j, s, e, e1, e2⟩
        · rw [ht0] at e; cases e
        · rw [ht0] at e
          obtain rfl : i = j := by simpa using e
          exact ⟨s, e1, e2⟩
      have hob := hH.obj i _ hget rfl s e1
      have s1 := step_collected (cs := cs) hrun hd e2 (run_takeDeferred (P := P) hob)
      have hp := put_obj hH hget rfl (o' := .opq (.deferred none)) rfl e1 (ob := .deferred none) fun w' hw => hw
      obtain ⟨ρ'', H'', w'', k1, k2, k3, k4⟩ := leavesA_steps hD (fr := { fr with defers := [] ++ ds' }) (cs := cs) h2 h hp.1 hm rfl
      exact ⟨ρ'', H'', w'', k1, k2, Ext.trans hp.2 k3, .head s1 k4⟩
def bodyAM (P : Program) (D : List FuncId) (rs : List ResultVar) (Q : Value → AHeap → Prop) (e : Exit) (a : Act) (H : AHeap) : Prop :=
  (e = .normal ∨ e = .ret) ∧ leavesA D (fun H' => ∃ l, resL P a H' rs = some l ∧ Q (retV l) H') a.defers H
theorem acalls_of_awM {P : Program} {D : List FuncId} (hD : ∀ g ∈ D, NoopD P g) {f : FuncId} {fn : Func} {c : Code} {args : Array Value} {H : AHeap} {Q : Value → AHeap → Prop} (hf : P.funcs[f]? = some fn) (hb : fn.body = some c)
    (h : aw P c (bodyAM P D fn.results.toList Q) { tmps := args ++ Array.replicate (fn.ntmps - args.size) undef, defers := [] } H) : ACalls P f args H Q := by
  intro ρ w cargs hH hargs cs
  have hsz : args.size = cargs.size := by simpa using hargs.length
  let b : Frame := { (default : Frame) with fn := f, kind := .normal }
  have henter : Frame.enter P f cargs .normal = b.at { tmps := cargs ++ Array.replicate (fn.ntmps - cargs.size) undef, defers := [] } [.code c] := by
    simp [Frame.enter, Frame.at, hf, hb, b]
  obtain ⟨e, b', w', ⟨a', H', ρ', ⟨he, hl⟩, hT', hH', hx⟩, harr⟩ := h ρ { tmps := cargs ++ Array.replicate (fn.ntmps - cargs.size) undef, defers := [] } w ⟨by
    simp only [Array.toList_append, Array.toList_replicate, hsz]
    exact hargs.append (VRs.refl_undef _), All2.nil, hH.glob⟩ hH b [] cs
  rw [← henter] at harr
  have key : ∀ fr : Frame, fr.fn = f → fr.kind = .normal → fr.mode = .returning → fr.defers = b'.defers → fr.tmps = b'.tmps → Steps P (lone (Frame.enter P f cargs .normal) cs w) (lone fr cs w') →
      ∃ e w'' fr', (∃ v cv ρ' H', e = .returned cv ∧ Q v H' ∧ VR ρ' v cv ∧ RelH P ρ' H' w'' ∧ Ext ρ H w ρ' H' w'') ∧ Comes P (lone (Frame.enter P f cargs .normal) cs w) (lone fr' cs w'') e ∧ fr'.fn = f ∧ fr'.leaving P w'' e := by
    intro fr h1 h2 h3 h4 h5 hs
    obtain ⟨ρ2, H2, w2, ⟨l, hres, hq⟩, k2, k3, k4⟩ := leavesA_steps hD (cs := cs) hT'.defs hl hH' h3 h4
    obtain ⟨l', g1, g2⟩ := resL_sim (hT'.mono k3.mono) k2 _ l hres
    have hrs : (results fn b'.tmps).run P w2 = .ok (retV l') w2 := by
      have hfun : results fn b'.tmps = (do let vs ← fn.results.mapM (resOne b'); pure (if h : vs.size = 1 then vs[0] else .tuple vs)) := by
        unfold results
        congr 1
      rw [hfun, Array.mapM_eq_mapM_toList]
      simp only [Sem.run_bind, Sem.run_map, g2, Result.andThen_ok, Sem.run_pure]
      rw [retV_eq]
    exact ⟨.returned (retV l'), w2, { fr with defers := [] }, ⟨retV l, retV l', ρ2, H2, rfl, hq, VR.retV g1, k2, Ext.trans hx k3⟩, Steps.trans hs k4, h1, h3, rfl, h2, fn, by rw [← h1] at hf; exact hf, by rw [← h5] at hrs; exact hrs⟩
  rcases he with rfl | rfl
  · obtain ⟨e, w'', fr', r⟩ := key { b.at b' [] with mode := .returning } rfl rfl rfl rfl rfl (Steps.trans harr (.one step_end))
    exact ⟨e, w'', fr', r⟩
  · obtain ⟨todo, hs⟩ := harr
    obtain ⟨e, w'', fr', r⟩ := key { b.at b' todo with mode := .returning } rfl rfl rfl rfl rfl hs
    exact ⟨e, w'', fr', r⟩
end Go.Ae

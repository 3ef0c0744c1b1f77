/- All operations of the evaluator in one. The evaluator's regions. -/
import Derived.Test.YtmibkoadjehdaaaGreatDoorKy30
import Derived.Test.YtmibkoadjehdaaaGreatDoorKy31
set_option linter.unusedVariables false
set_option linter.unusedSimpArgs false
namespace Go.Ae
def DfOne (d : Deferred) (x : Dfx) : Prop := match x with
  | .fn g => ∃ cap, d.target = .fn (.func g) cap
  | .col i => d.target = .collected i
/-- What one operation does to frame, heap and what is deferred. -/
inductive Stepd (P : Program) (E : Enw) (a : Act) (h : CH) (df : Df) (o : Oper) : Act → Df → CH → Prop
  | did {v : Value} {h' : CH} (hd : deferA a o = none) (hy : yieldA a o = none) (hD : Did P a (toH h) o v (toH h')) : Stepd P E a h df o (a.put o.dst v) df h'
  | defer {d : Deferred} {x : Dfx} (hd : deferA a o = some d) (hx : DfOne d x) : Stepd P E a h df o ({ a with defers := d :: a.defers }.put o.dst undef) (x :: df) h
  | yield {i : Nat} {args : List Value} {b : Bool} {h' : CH} (hd : deferA a o = none) (hy : yieldA a o = some (i, args)) (hY : E.Y i args h = some (b, h')) : Stepd P E a h df o (a.put o.dst (.bool b)) df h'
def OpOk (P : Program) (A : Arm) (op : Op) : Prop :=
  ∀ (E : Enw) (fr : TV) (a : Act) (df : Df) (h : CH) (y : YS) (K : KF) (d : Option Tmp) (ty : TypeId) (p : String) (af : Array Edge) (g : Option (Nat × Bool)), EOk P E → FR E.N fr a →
    ∀ o, Res P (A d P E fr df h y K) o → ∃ fr' df' h' a', Res P (K fr' df' h' y) o ∧ FR E.N fr' a' ∧ Stepd P E a h df ⟨d, op, ty, p, af, g⟩ a' df' h'
theorem OpOk.ofR {P : Program} {A : Arm} {op : Op} (h : ArmRes P A op) (hd : ∀ a d ty p af g, deferA a ⟨d, op, ty, p, af, g⟩ = none := by intros; rfl) (hy : ∀ a d ty p af g, yieldA a ⟨d, op, ty, p, af, g⟩ = none := by intros; rfl) : OpOk P A op :=
  fun E fr a df h' y K d ty p af g hE hf o hr => by
    obtain ⟨fr', h2, v, e, hf', hD⟩ := h E fr a df h' y K d ty p af g o hE hf hr
    exact ⟨fr', df, h2, a.put d v, e, hf', .did (hd ..) (hy ..) hD⟩
theorem OpOk.of {P : Program} {A : Arm} {op : Op} (h : ArmOk P A op) (hd : ∀ a d ty p af g, deferA a ⟨d, op, ty, p, af, g⟩ = none := by intros; rfl) (hy : ∀ a d ty p af g, yieldA a ⟨d, op, ty, p, af, g⟩ = none := by intros; rfl) : OpOk P A op := .ofR h.res hd hy
theorem OpOk.bad {P : Program} {op : Op} : OpOk P (fun _ _ _ _ _ _ _ _ => .bad) op := fun _ _ _ _ _ _ _ _ _ _ _ _ _ _ _ hr => by cases hr
theorem did_noYield {P : Program} {a : Act} {H H' : AHeap} {c : Call} {d : Option Tmp} {ty : TypeId} {p : String} {af : Array Edge} {g : Option (Nat × Bool)} {v : Value} (h : Did P a H ⟨d, .call c, ty, p, af, g⟩ v H') : yieldA a ⟨d, .call c, ty, p, af, g⟩ = none := by
  obtain ⟨callee, ⟨args⟩, ⟨ats⟩⟩ := c
  cases callee with
  | value f =>
    cases hv : a.eval f with
    | chan r =>
      exfalso
      cases h with
      | n hE _ => simp [isE] at hE
      | e hE hc h =>
        simp only [aE] at h
        rcases args with _ | ⟨x, _ | ⟨z, args⟩⟩
        · cases h
        · simp [noEscA, hv] at h
        · cases h
      | call hE f args hc h => simp [acall, hv] at hc
    | _ => simp [yieldA, hv]
  | _ => rfl
/-- The loop's name that a value is. -/
noncomputable def chanK (v : Value) : Rs → (Nat → Rs) → Rs :=
  Value.rec (motive_1 := fun _ => Rs → (Nat → Rs) → Rs) (motive_2 := fun _ => PUnit) (motive_3 := fun _ => PUnit)
    (fun _ z _ => z) (fun _ _ z _ => z) (fun _ _ z _ => z) (fun _ _ _ z _ => z) (fun _ z _ => z)
    (fun _ z _ => z)
    (fun _ _ _ z _ => z) (fun _ z _ => z) (fun r z K => Option.rec (motive := fun _ => Rs) z K r) (fun _ _ _ _ _ z _ => z) (fun z _ => z) (fun _ _ _ z _ => z) (fun z _ => z)
    (fun _ _ z _ => z) (fun _ _ z _ => z) (fun _ _ => ⟨⟩) ⟨⟩ (fun _ _ _ _ => ⟨⟩) v
theorem chanK_spec (v : Value) (z : Rs) (K : Nat → Rs) : chanK v z K = z ∨ ∃ i, v = .chan (some i) ∧ chanK v z K = K i := by
  cases v with
  | chan r => cases r with
    | none => exact .inl rfl
    | some i => exact .inr ⟨i, rfl, rfl⟩
  | _ => exact .inl rfl
noncomputable def aCallF (f : Operand) (args : List Operand) : Arm := fun d P E fr df h s K =>
  chanK (evX f fr) (aCallV f args d P E fr df h s K) fun i => argsK args fr [] fun l => optK (E.Y i l h) fun q => fin E.N d (.bool q.1) fr fun fr => K fr df q.2 s
noncomputable def aCallA (c : Call) : Arm :=
  Call.rec (motive := fun _ => Arm) (fun callee args ats => Callee.rec (motive := fun _ => Array Operand → Array TypeId → Arm) (fun f args _ => aCallF f args.toList) (fun x name args _ => aInv x name args.toList) (fun b args ats => aBuilt b args.toList ats.toList) callee args ats) c
theorem aCallA_ok {P : Program} (c : Call) : OpOk P (aCallA c) (.call c) := fun E fr a df h y K d ty p af g hE hf o hr => by
  have plain : ∀ A : Arm, ArmRes P A (.call c) → Res P (A d P E fr df h y K) o → ∃ fr' df' h' a', Res P (K fr' df' h' y) o ∧ FR E.N fr' a' ∧ Stepd P E a h df ⟨d, .call c, ty, p, af, g⟩ a' df' h' := fun A hA hr => by
    obtain ⟨fr', h2, v, e, hf', hD⟩ := hA E fr a df h y K d ty p af g o hE hf hr
    exact ⟨fr', df, h2, a.put d v, e, hf', .did rfl (did_noYield hD) hD⟩
  obtain ⟨callee, ⟨args⟩, ⟨ats⟩⟩ := c
  cases callee with
  | value f =>
    have hr1 : Res P (aCallF f args d P E fr df h y K) o := hr
    unfold aCallF at hr1
    rcases chanK_spec (evX f fr) (aCallV f args d P E fr df h y K) (fun i => argsK args fr [] fun l => optK (E.Y i l h) fun q => fin E.N d (.bool q.1) fr fun fr => K fr df q.2 y) with e | ⟨i, hv, e⟩
    · rw [e] at hr1
      exact plain (aCallV f args) (aCallV_ok f args ⟨ats⟩) hr1
    · have hfe := hf.eval f
      rw [hv] at hfe
      rw [e, argsK_eq] at hr1
      rcases optK_spec (E.Y i (args.map (fun x => evX x fr) ++ []) h) (fun q => fin E.N d (.bool q.1) fr fun fr => K fr df q.2 y) with e | ⟨q, hq, e⟩
      · rw [e] at hr1; cases hr1
      rw [e] at hr1
      rcases fin_spec hf d (.bool q.1) (fun fr => K fr df q.2 y) with e' | ⟨fr', hf', e'⟩
      · rw [e'] at hr1; cases hr1
      rw [e'] at hr1
      refine ⟨fr', df, q.2, a.put d (.bool q.1), hr1, hf', .yield (i := i) (args := args.map (fun x => evX x fr) ++ []) rfl ?_ hq⟩
      simp [yieldA, ← hfe, hf.fn]
  | builtin b => exact plain (aBuilt b args ats) (aBuilt_ok b args ats).res hr
  | invoke x name => exact plain (aInv x name args) (aInv_ok x name args ⟨ats⟩) hr
noncomputable def aDefer (c : Call) : Arm :=
  Call.rec (motive := fun _ => Arm) (fun callee _ _ => Callee.rec (motive := fun _ => Arm) (fun f d _ E fr df h y K => funK (evX f fr) (fun g _ _ => fin E.N d undef fr fun fr => K fr (.fn g :: df) h y) .bad)
    (fun _ _ _ _ _ _ _ _ _ _ => .bad) (fun _ _ _ _ _ _ _ _ _ => .bad) callee) c
theorem aDefer_ok {P : Program} (c : Call) : OpOk P (aDefer c) (.defer c) := fun E fr a df h y K d ty p af g hE hf o hr => by
  obtain ⟨callee, ⟨args⟩, ⟨ats⟩⟩ := c
  cases callee with
  | value f =>
    have e0 : aDefer ⟨.value f, ⟨args⟩, ⟨ats⟩⟩ d P E fr df h y K = funK (evX f fr) (fun g _ _ => fin E.N d undef fr fun fr => K fr (.fn g :: df) h y) .bad := rfl
    rw [e0] at hr
    rcases funK_spec (evX f fr) (fun g _ _ => fin E.N d undef fr fun fr => K fr (.fn g :: df) h y) .bad with e | ⟨g', first, cap, hv, e⟩ | ⟨l, x, c, _, e⟩
    · rw [e] at hr; cases hr
    · rw [e] at hr
      rcases fin_spec hf d undef (fun fr => K fr (.fn g' :: df) h y) with e' | ⟨fr', hf', e'⟩
      · rw [e'] at hr; cases hr
      rw [e'] at hr
      rw [hf.eval] at hv
      refine ⟨fr', .fn g' :: df, h, { a with defers := ⟨.fn (.func g') cap, first ++ (⟨args⟩ : Array Operand).map a.eval⟩ :: a.defers }.put d undef, hr, ⟨?_, fun t => ?_⟩, .defer (d := ⟨.fn (.func g') cap, first ++ (⟨args⟩ : Array Operand).map a.eval⟩) (x := .fn g') (by simp [deferA, hv]) ⟨cap, rfl⟩⟩
      · have := hf'.size
        rw [Act.size_put] at this ⊢
        exact this
      · have := hf'.val t
        rw [this]
        cases d <;> rfl
    · rw [e] at hr; cases hr
  | _ => cases hr
noncomputable def aBad : Arm := fun _ _ _ _ _ _ _ _ => .bad
noncomputable def opD (o : Op) : Arm :=
  Op.rec (motive := fun _ => Arm) aVal aVal aPick aAlloc aBox
    (fun t ps => aOpt fun P ev => builtA P t (ps.toList.map fun p => (p.1, ev p.2)))
    (fun t n ps => aRow fun P ev => aA P ev ⟨none, .buildSlice t n ps, 0, "", #[], none⟩)
    (fun t m k x => aUp (fun P ev H => (mapPutA P H t (ev m) (ev k) (ev x)).map fun H' => (undef, H')) fun ev => blkOf (ev m))
    aLoad aStore (fun _ => aBad) (fun _ => aBad) (fun x => aOpt fun _ ev => nilE (ev x)) aBin
    (fun o t x => aOpt fun P ev => aP P ev ⟨none, .unOp o t x, 0, "", #[], none⟩)
    aConv (fun _ _ => aBad)
    (fun t x => aOpt fun P ev => mkIfaceE P t (ev x))
    (fun fn x c => aOpt fun _ ev => some (.func fn ⟨x.toList.map ev⟩ ⟨c.toList.map ev⟩))
    (fun t r => aUp (fun P ev H => makeMapA P H t (r.map ev)) fun _ => 0) (fun _ _ => aBad)
    (fun t l c => aRow fun P ev => aA P ev ⟨none, .makeSlice t l c, 0, "", #[], none⟩)
    (fun t x l u m => aOpt fun P ev => aP P ev ⟨none, .slice t x l u m, 0, "", #[], none⟩)
    aFld (fun t x f => aOpt fun P ev => fieldA P t (ev x) f) aIdx (fun t x i => aOpt fun P ev => aP P ev ⟨none, .index t x i, 0, "", #[], none⟩)
    (fun t m k ok => aUp (fun P ev H => (lookA P H t (ev m) (ev k) ok).map fun v => (v, H)) fun _ => 0)
    (fun t m k x => aUp (fun P ev H => (mapPutA P H t (ev m) (ev k) (ev x)).map fun H' => (undef, H')) fun ev => blkOf (ev m))
    (fun _ _ _ => aBad) (fun _ _ _ _ => aBad)
    (fun t x => aUp (fun P ev H => rangeA P H t (ev x)) fun _ => 0)
    (fun x s => aUp (fun _ ev H => nextA H (ev x) s) fun ev => blkOf (ev x))
    (fun _ => aBad)
    (fun x _ t ok => aOpt fun P ev => assertA P (ev x) t ok) (fun x i => aOpt fun _ ev => extractA (ev x) i)
    aCallA (fun _ => aBad) aDefer (fun _ => aBad) (fun _ _ => aBad) (fun _ _ _ => aBad) (fun _ _ => aBad) o
theorem opD_ok {P : Program} (op : Op) : OpOk P (opD op) op := by
  cases op with
  | move x => exact .of (aVal_move x)
  | assign x => exact .of (aVal_assign x)
  | pick c x z => exact .of (aPick_ok c x z)
  | alloc t => exact .of (aAlloc_ok t)
  | box t x => exact .of (aBox_ok t x)
  | build t ps => exact .of (aBuildV_ok t ps)
  | buildSlice t n ps => exact .of (aBuildSlice_ok t n ps)
  | insert t m k x => exact .of (aInsert_ok t m k x)
  | load t x => exact .of (aLoad_ok t x)
  | store t x v => exact .of (aStore_ok t x v)
  | nilCheck x => exact .of (aNil_ok x)
  | binOp o t x y yt => exact .ofR (aBin_ok o t yt x y)
  | unOp o t x => exact .of (aUn_ok o t x)
  | convert s t x => exact .of (aConv_ok s t x)
  | makeInterface t x => exact .of (aMkIface_ok t x)
  | makeFunc fn x c => exact .of (aFunc_ok fn x c)
  | makeMap t r => exact .of (aMakeMap_ok t r)
  | makeSlice t l c => exact .of (aMakeSlice_ok t l c)
  | slice t x l u m => exact .of (aSliceS_ok t x l u m)
  | fieldAddr t x f => exact .of (aFld_ok t x f)
  | field t x f => exact .of (aFieldV_ok t x f)
  | indexAddr t x i => exact .of (aIdx_ok t x i)
  | index t x i => exact .of (aIndexS_ok t x i)
  | lookup t m k ok => exact .of (aLookup_ok t m k ok)
  | mapUpdate t m k x => exact .of (aMapPut_ok t m k x)
  | range t x => exact .of (aRange_ok t x)
  | next x s => exact .of (aNext_ok x s)
  | typeAssert x xt t ok => exact .of (aAssert_ok x xt t ok)
  | extract x i => exact .of (aExt_ok x i)
  | call c => exact aCallA_ok c
  | defer c => exact aDefer_ok c
  | _ => exact .bad
end Go.Ae
namespace Go.Ae
structure St (N : Nat) (fr : TV) (df : Df) (a : Act) : Prop where
  fr : FR N fr a
  df : All2 DfOne a.defers df
theorem St.put {N : Nat} {fr fr' : TV} {df : Df} {a : Act} (h : St N fr df a) {d : Option Tmp} {v : Value} (hf : FR N fr' (a.put d v)) : St N fr' df (a.put d v) :=
  ⟨hf, by rw [defers_put]; exact h.df⟩
/-! ### One operation -/
noncomputable def nthO (l : List Oper) : Nat → (Oper → Rs) → Rs :=
  List.rec (motive := fun _ => Nat → (Oper → Rs) → Rs) (fun _ _ => .bad) (fun x _ ih k K => Nat.rec (motive := fun _ => Rs) (K x) (fun k _ => ih k K) k) l
theorem nthO_spec : ∀ (l : List Oper) (k : Nat) (K : Oper → Rs), nthO l k K = .bad ∨ ∃ o, l[k]? = some o ∧ nthO l k K = K o
  | [], _, _ => .inl rfl
  | x :: l, 0, K => .inr ⟨x, rfl, rfl⟩
  | x :: l, k + 1, K => nthO_spec l k K
noncomputable def eqOB (b : Option Bool) (w : Bool) : Bool := Option.rec (motive := fun _ => Bool) false (fun b => Bool.rec (motive := fun _ => Bool) (Bool.rec (motive := fun _ => Bool) true false w) w b) b
theorem eqOB_eq (b : Option Bool) (w : Bool) : eqOB b w = (b == some w) := by
  cases b with
  | none => rfl
  | some b => cases b <;> cases w <;> rfl
/-- Is it wanted. -/
noncomputable def wantK (N : Nat) (g : Option (Nat × Bool)) (all : List Oper) (fr : TV) (K : Bool → Rs) : Rs :=
  Option.rec (motive := fun _ => Rs) (K true) (fun q => nthO all q.1 fun o => optK o.dst fun t => ifB (Nat.blt t N) (Bool.rec (motive := fun _ => Rs) (K false) (K true) (eqOB (boolOf (evX (.tmp t) fr)) q.2))) g
theorem wantK_spec {N : Nat} {ops : Array Oper} {fr : TV} {a : Act} (hf : FR N fr a) (o : Oper) (K : Bool → Rs) : wantK N o.guard ops.toList fr K = .bad ∨ wantK N o.guard ops.toList fr K = K (Region.wanted o (yielded ops a.tmps)) := by
  cases hg : o.guard with
  | none => rw [wanted_none hg]; exact .inr rfl
  | some q =>
    obtain ⟨j, want⟩ := q
    show nthO ops.toList j (fun o => optK o.dst fun t => ifB (Nat.blt t N) (Bool.rec (motive := fun _ => Rs) (K false) (K true) (eqOB (boolOf (evX (.tmp t) fr)) want))) = .bad ∨ _
    rcases nthO_spec ops.toList j (fun o => optK o.dst fun t => ifB (Nat.blt t N) (Bool.rec (motive := fun _ => Rs) (K false) (K true) (eqOB (boolOf (evX (.tmp t) fr)) want))) with e | ⟨o', ho', e⟩
    · exact .inl e
    rcases optK_spec o'.dst (fun t => ifB (Nat.blt t N) (Bool.rec (motive := fun _ => Rs) (K false) (K true) (eqOB (boolOf (evX (.tmp t) fr)) want))) with e' | ⟨t, ht, e'⟩
    · exact .inl (e.trans e')
    rcases ifB_spec (Nat.blt t N) (Bool.rec (motive := fun _ => Rs) (K false) (K true) (eqOB (boolOf (evX (.tmp t) fr)) want)) with e'' | ⟨hb, e''⟩
    · exact .inl (e.trans (e'.trans e''))
    right
    refine e.trans (e'.trans (e''.trans ?_))
    rw [Nat.blt_eq] at hb
    simp only [Array.getElem?_toList] at ho'
    rw [wanted_eval hg (t := t) (by rw [ho']; exact ht) rfl (by rw [hf.size]; exact hb), hf.eval, eqOB_eq]
    cases boolOf (a.eval (.tmp t)) == some want <;> rfl
noncomputable def oneE (o : Oper) : List Oper → Program → Enw → TV → Df → CH → YS → KF → Rs :=
  Oper.rec (motive := fun _ => List Oper → Program → Enw → TV → Df → CH → YS → KF → Rs) (fun d op _ _ _ g all P E fr df h s K =>
    wantK E.N g all fr fun b => Bool.rec (motive := fun _ => Rs) (fin E.N d undef fr fun fr => K fr df h s) (opD op d P E fr df h s K) b) o
def YOk (P : Program) (Y : YF) : Prop := ∀ i args h b h', Y i args h = some (b, h') → YieldsA P i args (toH h) fun v H' => v = .bool b ∧ H' = toH h'
theorem Stepd.df {P : Program} {E : Enw} {N : Nat} {fr fr' : TV} {a a' : Act} {h h' : CH} {df df' : Df} {o : Oper} (hs : Stepd P E a h df o a' df' h') (h0 : St N fr df a) (hf : FR N fr' a') : St N fr' df' a' := by
  refine ⟨hf, ?_⟩
  cases hs with
  | did hd hy hD => rw [defers_put]; exact h0.df
  | defer hd hx => rw [defers_put]; exact .cons hx h0.df
  | yield hd hy hY => rw [defers_put]; exact h0.df
theorem oneE_spec {P : Program} {E : Enw} {ops : Array Oper} {fr : TV} {a : Act} {df : Df} {h : CH} (hE : EOk P E) (hY : YOk P E.Y) (hs : St E.N fr df a) (o : Oper) (y : YS) (K : KF) (z : Rs) (hr0 : Res P (oneE o ops.toList P E fr df h y K) z) : ∃ fr' df' h' a', Res P (K fr' df' h' y) z ∧ St E.N fr' df' a' ∧
    ∀ Kp rest, wpY P ops Kp rest a' (toH h') → wpY P ops Kp (o :: rest) a (toH h) := by
  obtain ⟨d, op, ty, p, af, g⟩ := o
  have hr : Res P (wantK E.N g ops.toList fr (fun b => Bool.rec (motive := fun _ => Rs) (fin E.N d undef fr fun fr => K fr df h y) (opD op d P E fr df h y K) b)) z := hr0
  rcases wantK_spec (ops := ops) hs.fr ⟨d, op, ty, p, af, g⟩ (fun b => Bool.rec (motive := fun _ => Rs) (fin E.N d undef fr fun fr => K fr df h y) (opD op d P E fr df h y K) b) with e | e
  · have e' : wantK E.N g ops.toList fr (fun b => Bool.rec (motive := fun _ => Rs) (fin E.N d undef fr fun fr => K fr df h y) (opD op d P E fr df h y K) b) = _ := e
    rw [e'] at hr; cases hr
  · have e' : wantK E.N g ops.toList fr (fun b => Bool.rec (motive := fun _ => Rs) (fin E.N d undef fr fun fr => K fr df h y) (opD op d P E fr df h y K) b) = _ := e
    rw [e'] at hr
    cases hw : Region.wanted ⟨d, op, ty, p, af, g⟩ (yielded ops a.tmps) with
    | false =>
      rw [hw] at hr
      have hr' : Res P (fin E.N d undef fr fun fr => K fr df h y) z := hr
      rcases fin_spec hs.fr d undef (fun fr => K fr df h y) with e2 | ⟨fr', hf', e2⟩
      · rw [e2] at hr'; cases hr'
      · rw [e2] at hr'
        refine ⟨fr', df, h, a.put d undef, hr', hs.put hf', fun Kp rest hk => ?_⟩
        simp only [wpY, hw, Bool.false_eq_true, if_false]
        exact hk
    | true =>
      rw [hw] at hr
      have hr' : Res P (opD op d P E fr df h y K) z := hr
      obtain ⟨fr', df', h', a', e2, hf', hst⟩ := opD_ok (P := P) op E fr a df h y K d ty p af g hE hs.fr z hr'
      refine ⟨fr', df', h', a', e2, hst.df hs hf', fun Kp rest hk => ?_⟩
      simp only [wpY, hw, if_true]
      cases hst with
      | did hd hy hD =>
        simp only [hd, hy]
        exact hD.step hk
      | defer hd hx =>
        simp only [hd]
        exact hk
      | yield hd hy hq =>
        simp only [hd, hy]
        exact (hY _ _ _ _ _ hq).mono fun v H' ⟨e1, e2⟩ => by rw [e1, e2]; exact hk
noncomputable def seqE (l : List Oper) : List Oper → Program → Enw → TV → Df → CH → YS → KF → Rs :=
  List.rec (motive := fun _ => List Oper → Program → Enw → TV → Df → CH → YS → KF → Rs) (fun _ _ _ fr df h s K => K fr df h s)
    (fun o _ ih all P E fr df h s K => oneE o all P E fr df h s fun fr df h s => ih all P E fr df h s K) l
theorem seqE_spec {P : Program} {E : Enw} {ops : Array Oper} (hE : EOk P E) (hY : YOk P E.Y) (y : YS) (K : KF) (z : Rs) : ∀ (l : List Oper) {fr : TV} {a : Act} {df : Df} {h : CH}, St E.N fr df a → Res P (seqE l ops.toList P E fr df h y K) z → ∃ fr' df' h' a', Res P (K fr' df' h' y) z ∧ St E.N fr' df' a' ∧
    ∀ Kp, Kp a' (toH h') → wpY P ops Kp l a (toH h)
  | [], fr, a, df, h, hs, hr => ⟨fr, df, h, a, hr, hs, fun Kp hk => hk⟩
  | o :: l, fr, a, df, h, hs, hr => by
    have hr' : Res P (oneE o ops.toList P E fr df h y fun fr df h s => seqE l ops.toList P E fr df h s K) z := hr
    obtain ⟨fr', df', h', a', e, hs', hk⟩ := oneE_spec (ops := ops) hE hY hs o y (fun fr df h s => seqE l ops.toList P E fr df h s K) z hr'
    obtain ⟨fr2, df2, h2, a2, e, hs2, hk2⟩ := seqE_spec hE hY y K z l hs' e
    exact ⟨fr2, df2, h2, a2, e, hs2, fun Kp hp => hk Kp l (hk2 Kp hp)⟩

/-! ### Values compared -/
def eqAd (a b : Addr) : Bool := Nat.beq a.block b.block && Nat.beq a.off b.off && (match a.spot, b.spot with | none, none => true | some i, some j => Nat.beq i j | _, _ => false)
theorem eqAd_spec {a b : Addr} (h : eqAd a b = true) : a = b := by
  obtain ⟨b1, o1, s1⟩ := a
  obtain ⟨b2, o2, s2⟩ := b
  simp only [eqAd, Bool.and_eq_true, Nat.beq_eq] at h
  obtain ⟨⟨rfl, rfl⟩, h⟩ := h
  cases s1 <;> cases s2 <;> simp at h
  · rfl
  · subst h; rfl
def eqS : Value → Value → Bool
  | .bool a, .bool b => a == b
  | .int k n, .int k' n' => decide (k = k') && decide (n = n')
  | .string s, .string t => decide (s = t)
  | .pointer none, .pointer none => true
  | .pointer (some a), .pointer (some b) => eqAd a b
  | .slice none n c, .slice none n' c' => Nat.beq n n' && Nat.beq c c'
  | .slice (some a) n c, .slice (some b) n' c' => eqAd a b && Nat.beq n n' && Nat.beq c c'
  | .map none, .map none => true
  | .map (some a), .map (some b) => Nat.beq a b
  | .nilFunc, .nilFunc => true
  | .nilIface, .nilIface => true
  | _, _ => false
theorem eqS_spec {v u : Value} (h : eqS v u = true) : v = u := by
  unfold eqS at h
  split at h
  · simp at h; rw [h]
  · simp at h; rw [h.1, h.2]
  · simp at h; rw [h]
  · rfl
  · rw [eqAd_spec h]
  · simp at h; rw [h.1, h.2]
  · simp only [Bool.and_eq_true, Nat.beq_eq] at h; rw [eqAd_spec h.1.1, h.1.2, h.2]
  · rfl
  · simp at h; rw [h]
  · rfl
  · rfl
  · cases h
def eqL : List Value → List Value → Bool
  | [], [] => true
  | x :: xs, y :: ys => eqS x y && eqL xs ys
  | _, _ => false
theorem eqL_spec : ∀ {xs ys : List Value}, eqL xs ys = true → xs = ys
  | [], [], _ => rfl
  | x :: xs, y :: ys, h => by
    simp only [eqL, Bool.and_eq_true] at h
    rw [eqS_spec h.1, eqL_spec h.2]
  | [], _ :: _, h => by cases h
  | _ :: _, [], h => by cases h
def eqV (v u : Value) : Bool := match v, u with
  | .agg xs, .agg ys => eqL xs.toList ys.toList
  | .iface t v, .iface t' u => Nat.beq t t' && eqS v u
  | .func (.func f) x c, .func (.func g) y d => Nat.beq f g && eqL x.toList y.toList && eqL c.toList d.toList
  | v, u => eqS v u
theorem eqV_spec {v u : Value} (h : eqV v u = true) : v = u := by
  unfold eqV at h
  split at h
  · rename_i xs ys; rw [show xs = ys from Array.ext' (eqL_spec h)]
  · simp only [Bool.and_eq_true, Nat.beq_eq] at h; rw [h.1, eqS_spec h.2]
  · rename_i f x c g y d
    simp only [Bool.and_eq_true, Nat.beq_eq] at h
    rw [h.1.1, show x = y from Array.ext' (eqL_spec h.1.2), show c = d from Array.ext' (eqL_spec h.2)]
  · exact eqS_spec h
def eqOV (v u : Option Value) : Bool := match v, u with
  | none, none => true
  | some v, some u => eqV v u
  | _, _ => false
theorem eqOV_spec {v u : Option Value} (h : eqOV v u = true) : v = u := by
  unfold eqOV at h
  split at h
  · rfl
  · rw [eqV_spec h]
  · cases h

/-! ### Regions whose order is drawn -/
abbrev Lg := List (Nat × (CH → Bool))
noncomputable def logOk (B : List Nat) (i : Nat) (h : CH) (log : Lg) : Bool := List.rec (motive := fun _ => Bool) true (fun p _ ih => Bool.rec (motive := fun _ => Bool) (Bool.rec (motive := fun _ => Bool) false ih (p.2 h)) ih (anc B p.1 i)) log
def LgR (lg : Lg) (log : Log) : Prop := All2 (fun (p : Nat × (CH → Bool)) (q : Nat × (AHeap → Prop)) => p.1 = q.1 ∧ ∀ h, p.2 h = true → q.2 (toH h)) lg log
theorem logOk_spec {B : List Nat} {i : Nat} {h : CH} : ∀ {lg : Lg} {log : Log}, LgR lg log → logOk B i h lg = true → ∀ p ∈ log, anc B p.1 i = true ∨ p.2 (toH h)
  | [], [], _, _, p, hp => by simp at hp
  | p :: lg, q :: log, .cons h1 h2, hb, r, hr => by
    have e : logOk B i h (p :: lg) = Bool.rec (motive := fun _ => Bool) (Bool.rec (motive := fun _ => Bool) false (logOk B i h lg) (p.2 h)) (logOk B i h lg) (anc B p.1 i) := rfl
    rw [e] at hb
    rcases List.mem_cons.1 hr with rfl | hr
    · cases ha : anc B p.1 i with
      | true => exact .inl (by rw [← h1.1]; exact ha)
      | false =>
        rw [ha] at hb
        cases hp : p.2 h with
        | true => exact .inr (h1.2 h hp)
        | false => rw [hp] at hb; cases hb
    · refine logOk_spec h2 ?_ r hr
      cases ha : anc B p.1 i with
      | true => rw [ha] at hb; exact hb
      | false =>
        rw [ha] at hb
        cases hp : p.2 h with
        | true => rw [hp] at hb; exact hb
        | false => rw [hp] at hb; cases hb
  | [], _ :: _, h, _, _, _ => by cases h
  | _ :: _, [], h, _, _, _ => by cases h
noncomputable def drawE (l : List Nat) : List Oper → List Nat → Program → Enw → TV → Df → CH → YS → Lg → KF → Rs :=
  List.rec (motive := fun _ => List Oper → List Nat → Program → Enw → TV → Df → CH → YS → Lg → KF → Rs) (fun _ _ _ _ fr df h y _ K => K fr df h y)
    (fun i _ ih all B P E fr df h y log K => nthO all i fun o => wantK E.N o.guard all fr fun b => Bool.rec (motive := fun _ => Rs)
      (fin E.N o.dst undef fr fun fr => ih all B P E fr df h y log K)
      (opD o.op o.dst P E fr df h y fun fr' df' h' y' => Bool.rec (motive := fun _ => Rs)
        (ih all B P E fr' df' h' y' (Bool.rec (motive := fun _ => Lg) log ((i, fun h2 => eqOV (aR P (fun x => evX x fr) (toH h2) o) (aR P (fun x => evX x fr) (toH h) o)) :: log) (isRead o)) K)
        (ifB (logOk B i h' log) (ih all B P E fr' df' h' y' log K)) (isE o)) b) l
theorem drawE_spec {P : Program} {E : Enw} {ops : Array Oper} {B : List Nat} (hE : EOk P E) (hY : ∀ i args h, E.Y i args h = none) (hnd : noDefer ops.toList = true) (y : YS) (K : KF) (z : Rs) : ∀ (l : List Nat) {fr : TV} {a : Act} {df : Df} {h : CH} {lg : Lg} {log : Log}, St E.N fr df a → LgR lg log →
    Res P (drawE l ops.toList B P E fr df h y lg K) z → ∃ fr' df' h' a', Res P (K fr' df' h' y) z ∧ St E.N fr' df' a' ∧ ∀ Kp : Act → AHeap → Prop, Kp a' (toH h') → wpS P ops B Kp l a (toH h) log
  | [], fr, a, df, h, lg, log, hs, _, hr => ⟨fr, df, h, a, hr, hs, fun Kp hk => hk⟩
  | i :: l, fr, a, df, h, lg, log, hs, hlg, hr0 => by
    let C := fun (o : Oper) (fr' : TV) (df' : Df) (h' : CH) (y' : YS) => Bool.rec (motive := fun _ => Rs)
        (drawE l ops.toList B P E fr' df' h' y' (Bool.rec (motive := fun _ => Lg) lg ((i, fun h2 => eqOV (aR P (fun x => evX x fr) (toH h2) o) (aR P (fun x => evX x fr) (toH h) o)) :: lg) (isRead o)) K)
        (ifB (logOk B i h' lg) (drawE l ops.toList B P E fr' df' h' y' lg K)) (isE o)
    let W := fun (o : Oper) (b : Bool) => Bool.rec (motive := fun _ => Rs) (fin E.N o.dst undef fr fun fr => drawE l ops.toList B P E fr df h y lg K) (opD o.op o.dst P E fr df h y (C o)) b
    have hr : Res P (nthO ops.toList i fun o => wantK E.N o.guard ops.toList fr (W o)) z := hr0
    rcases nthO_spec ops.toList i (fun o => wantK E.N o.guard ops.toList fr (W o)) with e | ⟨o, ho, e⟩
    · rw [e] at hr; cases hr
    rw [e] at hr
    simp only [Array.getElem?_toList] at ho
    rcases wantK_spec (ops := ops) hs.fr o (W o) with e | e
    · rw [e] at hr; cases hr
    rw [e] at hr
    cases hw : Region.wanted o (yielded ops a.tmps) with
    | false =>
      rw [hw] at hr
      have hr1 : Res P (fin E.N o.dst undef fr (fun fr => drawE l ops.toList B P E fr df h y lg K)) z := hr
      rcases fin_spec hs.fr o.dst undef (fun fr => drawE l ops.toList B P E fr df h y lg K) with e2 | ⟨fr', hf', e2⟩
      · rw [e2] at hr1; cases hr1
      · rw [e2] at hr1
        obtain ⟨fr2, df2, h2, a2, e4, hs2, hk⟩ := drawE_spec hE hY hnd y K z l (hs.put hf') hlg hr1
        refine ⟨fr2, df2, h2, a2, e4, hs2, fun Kp hp => ?_⟩
        simp only [wpS, ho, hw, Bool.false_eq_true, if_false]
        exact hk Kp hp
    | true =>
      rw [hw] at hr
      have hr1 : Res P (opD o.op o.dst P E fr df h y (C o)) z := hr
      obtain ⟨fr', df', h', a', e2, hf', hst⟩ := opD_ok (P := P) o.op E fr a df h y (C o) o.dst o.type o.pos o.after o.guard hE hs.fr z hr1
      have hst' := hst.df hs hf'
      cases hst with
      | defer hd hx =>
        exfalso
        have hn := noDefer_spec hnd ho
        unfold deferA at hd
        split at hd
        · rename_i c hc; exact hn c hc
        · cases hd
      | yield hd hy hq => rw [hY] at hq; cases hq
      | did hd hy hD =>
        rename_i v
        cases hE' : isE o with
        | true =>
          have e3 : C o fr' df h' y = ifB (logOk B i h' lg) (drawE l ops.toList B P E fr' df h' y lg K) := by
            show Bool.rec (motive := fun _ => Rs) _ _ (isE o) = _
            rw [hE']
          rw [e3] at e2
          rcases ifB_spec (logOk B i h' lg) (drawE l ops.toList B P E fr' df h' y lg K) with e4 | ⟨hl, e4⟩
          · rw [e4] at e2; cases e2
          rw [e4] at e2
          obtain ⟨fr2, df2, h2, a2, e5, hs2, hk⟩ := drawE_spec hE hY hnd y K z l hst' hlg e2
          refine ⟨fr2, df2, h2, a2, e5, hs2, fun Kp hp => ?_⟩
          simp only [wpS, ho, hw, if_true, hE']
          have := hD.step (K := fun v H' => (∀ p ∈ log, anc B p.1 i = true ∨ p.2 H') ∧ wpS P ops B Kp l (a.put o.dst v) H' log) ⟨logOk_spec hlg hl, hk Kp hp⟩
          unfold step1 at this
          rw [if_pos (by exact hE')] at this
          exact this
        | false =>
          have e3 : C o fr' df h' y = drawE l ops.toList B P E fr' df h' y (Bool.rec (motive := fun _ => Lg) lg ((i, fun h2 => eqOV (aR P (fun x => evX x fr) (toH h2) o) (aR P (fun x => evX x fr) (toH h) o)) :: lg) (isRead o)) K := by
            show Bool.rec (motive := fun _ => Rs) _ _ (isE o) = _
            rw [hE']
          rw [e3] at e2
          have hlg' : LgR (Bool.rec (motive := fun _ => Lg) lg ((i, fun h2 => eqOV (aR P (fun x => evX x fr) (toH h2) o) (aR P (fun x => evX x fr) (toH h) o)) :: lg) (isRead o)) (if isRead o then (i, fun H' => aR P a.eval H' o = aR P a.eval (toH h) o) :: log else log) := by
            cases isRead o with
            | false => exact hlg
            | true => exact .cons ⟨rfl, fun h2 he => by rw [hs.fr.fn] at he; exact eqOV_spec he⟩ hlg
          obtain ⟨fr2, df2, h2, a2, e5, hs2, hk⟩ := drawE_spec hE hY hnd y K z l hst' hlg' e2
          refine ⟨fr2, df2, h2, a2, e5, hs2, fun Kp hp => ?_⟩
          simp only [wpS, ho, hw, if_true, hE', Bool.false_eq_true, if_false]
          have := hD.step (K := fun v H' => wpS P ops B Kp l (a.put o.dst v) H' (if isRead o then (i, fun H' => aR P a.eval H' o = aR P a.eval (toH h) o) :: log else log)) (hk Kp hp)
          unfold step1 at this
          rw [if_neg (by rw [show isE ⟨o.dst, o.op, o.type, o.pos, o.after, o.guard⟩ = isE o from rfl, hE']; simp)] at this
          exact this
end Go.Ae

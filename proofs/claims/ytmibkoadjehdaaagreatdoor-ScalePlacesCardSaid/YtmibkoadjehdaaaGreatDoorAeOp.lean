/- All operations of the evaluator in one. No condition. -/
import Derived.Test.YtmibkoadjehdaaaGreatDoorAeArm3
import Derived.Test.YtmibkoadjehdaaaGreatDoorAeYl
namespace Go.Ae
def DfOne (d : Deferred) (x : Dfx) : Prop := match x with
  | .fn g => ∃ cap, d.target = .fn (.func g) cap
  | .col i => d.target = .collected i
/-- What one operation does to frame, heap and what is deferred. -/
inductive Stepd (P : Program) (E : Enw) (a : Act) (h : CH) (df : Df) (o : Oper) : Act → Df → CH → Prop
  | did {v : Value} {h' : CH} (hd : deferA a o = none) (hy : yieldA a o = none) (hD : Did P a (toH h) o v (toH h')) : Stepd P E a h df o (a.put o.dst v) df h'
  | defer {d : Deferred} {x : Dfx} (hd : deferA a o = some d) (hx : DfOne d x) : Stepd P E a h df o ({ a with defers := d :: a.defers }.put o.dst undef) (x :: df) h
  | yield {i : Nat} {args : List Value} {b : Bool} {h' : CH} (hd : deferA a o = none) (hy : yieldA a o = some (i, args)) (hY : E.Y i args h = some (b, h')) : Stepd P E a h df o (a.put o.dst (.bool b)) df h'
def OpOk (P : Program) (A : Arm) (op : Op) : Prop :=
  ∀ (E : Enw) (fr : TV) (a : Act) (df : Df) (h : CH) (y : YS) (K : KF) (d : Option Tmp) (ty : TypeId) (p : String) (af : Array Edge) (g : Option (Nat × Bool)), EOk P E → FR E.N fr a →
    A d P E fr df h y K = .bad ∨ ∃ fr' df' h' a', A d P E fr df h y K = K fr' df' h' y ∧ FR E.N fr' a' ∧ Stepd P E a h df ⟨d, op, ty, p, af, g⟩ a' df' h'
theorem OpOk.of {P : Program} {A : Arm} {op : Op} (h : ArmOk P A op) (hd : ∀ a d ty p af g, deferA a ⟨d, op, ty, p, af, g⟩ = none := by intros; rfl) (hy : ∀ a d ty p af g, yieldA a ⟨d, op, ty, p, af, g⟩ = none := by intros; rfl) : OpOk P A op :=
  fun E fr a df h' y K d ty p af g hE hf => (h E fr a df h' y K d ty p af g hE hf).imp id fun ⟨fr', h2, v, e, hf', hD⟩ => ⟨fr', df, h2, a.put d v, e, hf', .did (hd ..) (hy ..) hD⟩
theorem OpOk.bad {P : Program} {op : Op} : OpOk P (fun _ _ _ _ _ _ _ _ => .bad) op := fun _ _ _ _ _ _ _ _ _ _ _ _ _ _ => .inl rfl
theorem did_noYield {P : Program} {a : Act} {H H' : AHeap} {c : Call} {d : Option Tmp} {ty : TypeId} {p : String} {af : Array Edge} {g : Option (Nat × Bool)} {v : Value} (h : Did P a H ⟨d, .call c, ty, p, af, g⟩ v H') : yieldA a ⟨d, .call c, ty, p, af, g⟩ = none := by
  obtain ⟨callee, ⟨args⟩, ⟨ats⟩⟩ := c
  cases callee with
  | value f =>
    cases hv : a.eval f with
    | chan r =>
      exfalso
      cases h with
      | n hE _ => simp [isE] at hE
      | e hE hc h =>
        simp only [aE] at h
        rcases args with _ | ⟨x, _ | ⟨z, args⟩⟩
        · cases h
        · simp [noEscA, hv] at h
        · cases h
      | call hE f args hc h => simp [acall, hv] at hc
    | _ => simp [yieldA, hv]
  | _ => rfl
/-- The loop's name that a value is. -/
noncomputable def chanK (v : Value) : Rs → (Nat → Rs) → Rs :=
  Value.rec (motive_1 := fun _ => Rs → (Nat → Rs) → Rs) (motive_2 := fun _ => PUnit) (motive_3 := fun _ => PUnit)
    (fun _ z _ => z) (fun _ _ z _ => z) (fun _ _ z _ => z) (fun _ _ _ z _ => z) (fun _ z _ => z)
    (fun _ z _ => z)
    (fun _ _ _ z _ => z) (fun _ z _ => z) (fun r z K => Option.rec (motive := fun _ => Rs) z K r) (fun _ _ _ _ _ z _ => z) (fun z _ => z) (fun _ _ _ z _ => z) (fun z _ => z)
    (fun _ _ z _ => z) (fun _ _ z _ => z) (fun _ _ => ⟨⟩) ⟨⟩ (fun _ _ _ _ => ⟨⟩) v
theorem chanK_spec (v : Value) (z : Rs) (K : Nat → Rs) : chanK v z K = z ∨ ∃ i, v = .chan (some i) ∧ chanK v z K = K i := by
  cases v with
  | chan r => cases r with
    | none => exact .inl rfl
    | some i => exact .inr ⟨i, rfl, rfl⟩
  | _ => exact .inl rfl
noncomputable def aCallF (f : Operand) (args : List Operand) : Arm := fun d P E fr df h s K =>
  chanK (evX f fr) (aCallV f args d P E fr df h s K) fun i => argsK args fr [] fun l => optK (E.Y i l h) fun q => fin E.N d (.bool q.1) fr fun fr => K fr df q.2 s
noncomputable def aCallA (c : Call) : Arm :=
  Call.rec (motive := fun _ => Arm) (fun callee args ats => Callee.rec (motive := fun _ => Array Operand → Array TypeId → Arm) (fun f args _ => aCallF f args.toList) (fun _ _ _ _ _ _ _ _ _ _ _ _ => .bad) (fun b args ats => aBuilt b args.toList ats.toList) callee args ats) c
theorem aCallA_ok {P : Program} (c : Call) : OpOk P (aCallA c) (.call c) := fun E fr a df h y K d ty p af g hE hf => by
  have plain : ∀ A : Arm, ArmOk P A (.call c) → A d P E fr df h y K = .bad ∨ ∃ fr' df' h' a', A d P E fr df h y K = K fr' df' h' y ∧ FR E.N fr' a' ∧ Stepd P E a h df ⟨d, .call c, ty, p, af, g⟩ a' df' h' := fun A hA =>
    (hA E fr a df h y K d ty p af g hE hf).imp id fun ⟨fr', h2, v, e, hf', hD⟩ => ⟨fr', df, h2, a.put d v, e, hf', .did rfl (did_noYield hD) hD⟩
  obtain ⟨callee, ⟨args⟩, ⟨ats⟩⟩ := c
  cases callee with
  | value f =>
    show aCallF f args d P E fr df h y K = .bad ∨ _
    unfold aCallF
    rcases chanK_spec (evX f fr) (aCallV f args d P E fr df h y K) (fun i => argsK args fr [] fun l => optK (E.Y i l h) fun q => fin E.N d (.bool q.1) fr fun fr => K fr df q.2 y) with e | ⟨i, hv, e⟩
    · have := plain (aCallV f args) (aCallV_ok f args ⟨ats⟩)
      show chanK (evX f fr) (aCallV f args d P E fr df h y K) _ = .bad ∨ ∃ fr' df' h' a', chanK (evX f fr) (aCallV f args d P E fr df h y K) _ = _ ∧ _
      rw [e]
      exact this
    · have hfe := hf.eval f
      rw [hv] at hfe
      have e0 : aCallF f args d P E fr df h y K = optK (E.Y i (args.map (fun x => evX x fr) ++ []) h) fun q => fin E.N d (.bool q.1) fr fun fr => K fr df q.2 y := by
        unfold aCallF
        rw [e, argsK_eq]
      have goal : aCallF f args d P E fr df h y K = .bad ∨ ∃ fr' df' h' a', aCallF f args d P E fr df h y K = K fr' df' h' y ∧ FR E.N fr' a' ∧ Stepd P E a h df ⟨d, .call ⟨.value f, ⟨args⟩, ⟨ats⟩⟩, ty, p, af, g⟩ a' df' h' := by
        rw [e0]
        rcases optK_spec (E.Y i (args.map (fun x => evX x fr) ++ []) h) (fun q => fin E.N d (.bool q.1) fr fun fr => K fr df q.2 y) with e | ⟨q, hq, e⟩
        · exact .inl e
        rcases fin_spec hf d (.bool q.1) (fun fr => K fr df q.2 y) with e' | ⟨fr', hf', e'⟩
        · exact .inl (e.trans e')
        refine .inr ⟨fr', df, q.2, a.put d (.bool q.1), e.trans e', hf', .yield (i := i) (args := args.map (fun x => evX x fr) ++ []) rfl ?_ hq⟩
        simp [yieldA, ← hfe, hf.fn]
      exact goal
  | builtin b => exact plain (aBuilt b args ats) (aBuilt_ok b args ats)
  | _ => exact .inl rfl
noncomputable def aDefer (c : Call) : Arm :=
  Call.rec (motive := fun _ => Arm) (fun callee _ _ => Callee.rec (motive := fun _ => Arm) (fun f d _ E fr df h y K => funK (evX f fr) (fun g _ _ => fin E.N d undef fr fun fr => K fr (.fn g :: df) h y) .bad)
    (fun _ _ _ _ _ _ _ _ _ _ => .bad) (fun _ _ _ _ _ _ _ _ _ => .bad) callee) c
theorem aDefer_ok {P : Program} (c : Call) : OpOk P (aDefer c) (.defer c) := fun E fr a df h y K d ty p af g hE hf => by
  obtain ⟨callee, ⟨args⟩, ⟨ats⟩⟩ := c
  cases callee with
  | value f =>
    have e0 : aDefer ⟨.value f, ⟨args⟩, ⟨ats⟩⟩ d P E fr df h y K = funK (evX f fr) (fun g _ _ => fin E.N d undef fr fun fr => K fr (.fn g :: df) h y) .bad := rfl
    rw [e0]
    rcases funK_spec (evX f fr) (fun g _ _ => fin E.N d undef fr fun fr => K fr (.fn g :: df) h y) .bad with e | ⟨g', first, cap, hv, e⟩ | ⟨l, x, c, _, e⟩
    · exact .inl e
    · rcases fin_spec hf d undef (fun fr => K fr (.fn g' :: df) h y) with e' | ⟨fr', hf', e'⟩
      · exact .inl (e.trans e')
      rw [hf.eval] at hv
      refine .inr ⟨fr', .fn g' :: df, h, { a with defers := ⟨.fn (.func g') cap, first ++ (⟨args⟩ : Array Operand).map a.eval⟩ :: a.defers }.put d undef, e.trans e', ⟨?_, fun t => ?_⟩, .defer (d := ⟨.fn (.func g') cap, first ++ (⟨args⟩ : Array Operand).map a.eval⟩) (x := .fn g') (by simp [deferA, hv]) ⟨cap, rfl⟩⟩
      · have := hf'.size
        rw [Act.size_put] at this ⊢
        exact this
      · have := hf'.val t
        rw [this]
        cases d <;> rfl
    · exact .inl e
  | _ => exact .inl rfl
noncomputable def aBad : Arm := fun _ _ _ _ _ _ _ _ => .bad
noncomputable def opD (o : Op) : Arm :=
  Op.rec (motive := fun _ => Arm) aVal aVal aPick aAlloc aBox
    (fun t ps => aOpt fun P ev => builtA P t (ps.toList.map fun p => (p.1, ev p.2)))
    (fun t n ps => aRow fun P ev => aA P ev ⟨none, .buildSlice t n ps, 0, "", #[], none⟩)
    (fun t m k x => aUp (fun P ev H => (mapPutA P H t (ev m) (ev k) (ev x)).map fun H' => (undef, H')) fun ev => blkOf (ev m))
    aLoad aStore (fun _ => aBad) (fun _ => aBad) (fun x => aOpt fun _ ev => nilE (ev x)) aBin
    (fun o t x => aOpt fun P ev => aP P ev ⟨none, .unOp o t x, 0, "", #[], none⟩)
    aConv (fun _ _ => aBad)
    (fun t x => aOpt fun P ev => mkIfaceE P t (ev x))
    (fun fn x c => aOpt fun _ ev => some (.func fn ⟨x.toList.map ev⟩ ⟨c.toList.map ev⟩))
    (fun t r => aUp (fun P ev H => makeMapA P H t (r.map ev)) fun _ => 0) (fun _ _ => aBad)
    (fun t l c => aRow fun P ev => aA P ev ⟨none, .makeSlice t l c, 0, "", #[], none⟩)
    (fun t x l u m => aOpt fun P ev => aP P ev ⟨none, .slice t x l u m, 0, "", #[], none⟩)
    aFld (fun t x f => aOpt fun P ev => fieldA P t (ev x) f) aIdx (fun t x i => aOpt fun P ev => aP P ev ⟨none, .index t x i, 0, "", #[], none⟩)
    (fun t m k ok => aUp (fun P ev H => (lookA P H t (ev m) (ev k) ok).map fun v => (v, H)) fun _ => 0)
    (fun t m k x => aUp (fun P ev H => (mapPutA P H t (ev m) (ev k) (ev x)).map fun H' => (undef, H')) fun ev => blkOf (ev m))
    (fun _ _ _ => aBad) (fun _ _ _ _ => aBad)
    (fun t x => aUp (fun P ev H => rangeA P H t (ev x)) fun _ => 0)
    (fun x s => aUp (fun _ ev H => nextA H (ev x) s) fun ev => blkOf (ev x))
    (fun _ => aBad)
    (fun x _ t ok => aOpt fun P ev => assertA P (ev x) t ok) (fun x i => aOpt fun _ ev => extractA (ev x) i)
    aCallA (fun _ => aBad) aDefer (fun _ => aBad) (fun _ _ => aBad) (fun _ _ _ => aBad) (fun _ _ => aBad) o
theorem opD_ok {P : Program} (op : Op) : OpOk P (opD op) op := by
  cases op with
  | move x => exact .of (aVal_move x)
  | assign x => exact .of (aVal_assign x)
  | pick c x z => exact .of (aPick_ok c x z)
  | alloc t => exact .of (aAlloc_ok t)
  | box t x => exact .of (aBox_ok t x)
  | build t ps => exact .of (aBuildV_ok t ps)
  | buildSlice t n ps => exact .of (aBuildSlice_ok t n ps)
  | insert t m k x => exact .of (aInsert_ok t m k x)
  | load t x => exact .of (aLoad_ok t x)
  | store t x v => exact .of (aStore_ok t x v)
  | nilCheck x => exact .of (aNil_ok x)
  | binOp o t x y yt => exact .of (aBin_ok o t yt x y)
  | unOp o t x => exact .of (aUn_ok o t x)
  | convert s t x => exact .of (aConv_ok s t x)
  | makeInterface t x => exact .of (aMkIface_ok t x)
  | makeFunc fn x c => exact .of (aFunc_ok fn x c)
  | makeMap t r => exact .of (aMakeMap_ok t r)
  | makeSlice t l c => exact .of (aMakeSlice_ok t l c)
  | slice t x l u m => exact .of (aSliceS_ok t x l u m)
  | fieldAddr t x f => exact .of (aFld_ok t x f)
  | field t x f => exact .of (aFieldV_ok t x f)
  | indexAddr t x i => exact .of (aIdx_ok t x i)
  | index t x i => exact .of (aIndexS_ok t x i)
  | lookup t m k ok => exact .of (aLookup_ok t m k ok)
  | mapUpdate t m k x => exact .of (aMapPut_ok t m k x)
  | range t x => exact .of (aRange_ok t x)
  | next x s => exact .of (aNext_ok x s)
  | typeAssert x xt t ok => exact .of (aAssert_ok x xt t ok)
  | extract x i => exact .of (aExt_ok x i)
  | call c => exact aCallA_ok c
  | defer c => exact aDefer_ok c
  | _ => exact .bad
end Go.Ae

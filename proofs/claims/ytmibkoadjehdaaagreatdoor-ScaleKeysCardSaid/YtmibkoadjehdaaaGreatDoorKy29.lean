/- The evaluator's operations, one by one: each does what the abstract heap's operation does. The evaluator's heap after an operation that changes one object, or makes one. -/
import Derived.Test.YtmibkoadjehdaaaGreatDoorKy28
set_option linter.unusedVariables false
set_option linter.unusedSimpArgs false
namespace Go.Ae
abbrev Fun := FuncId → List Value → CH → (Value → CH → Rs) → Rs
abbrev KF := TV → Df → CH → YS → Rs
abbrev YF := Nat → List Value → CH → Option (Bool × CH)
/-- A function's frame has N slots; F: what is called; ne: the function that hands back its argument; tbl: the orders; Y: the body of a loop over a function; B: a function that is ranged over; self: the function itself; Z: the slots that are asked for. -/
structure Enw where
  N : Nat
  F : Fun
  ne : FuncId
  tbl : Tbl
  Y : YF
  B : YF → Fun
  self : FuncId
  Z : List Tmp
abbrev Arm := Option Tmp → Program → Enw → TV → Df → CH → YS → KF → Rs
/-- What is left of an evaluation, if its questions are answered rightly. -/
inductive Res (P : Program) : Rs → Rs → Prop
  | ok {e : Exit} {fr : TV} {df : Df} {h : CH} {y : YS} : Res P (.ok e fr df h y) (.ok e fr df h y)
  | ask {f : FuncId} {args : List Value} {h : CH} {k : Value → CH → Rs} {v : Value} {h' : CH} {o : Rs} (hA : ACalls P f ⟨args⟩ (toH h) fun v' H' => v' = v ∧ H' = toH h') (hr : Res P (k v h') o) : Res P (.ask f args h k) o
  | cas {v v' : Value} {k : Value → Rs} {o : Rs} (hv : v = v') (hr : Res P (k v') o) : Res P (.cas v k) o
  | eqv {v v' : Value} {r o : Rs} (hv : v = v') (hr : Res P r o) : Res P (.eqv v v' r) o
theorem Res.inj {P : Program} {e e' : Exit} {fr fr' : TV} {df df' : Df} {h h' : CH} {y y' : YS} (hr : Res P (.ok e fr df h y) (.ok e' fr' df' h' y')) : e = e' ∧ fr = fr' ∧ df = df' ∧ h = h' ∧ y = y' := by
  cases hr
  exact ⟨rfl, rfl, rfl, rfl, rfl⟩
theorem Res.of {P : Program} {r : Rs} {e : Exit} {fr : TV} {df : Df} {h : CH} {y : YS} (hr : r = .ok e fr df h y) : Res P r (.ok e fr df h y) := by
  subst hr
  exact .ok
theorem finC_res {P : Program} {Z : List Tmp} {N : Nat} {fr : TV} {a : Act} (hf : FR N fr a) {d : Option Tmp} {v : Value} {K : TV → Rs} {o : Rs} (hr : Res P (finC Z N d v fr K) o) : ∃ fr', FR N fr' (a.put d v) ∧ Res P (K fr') o := by
  unfold finC at hr
  have go : ∀ {v : Value}, Res P (fin N d v fr K) o → ∃ fr', FR N fr' (a.put d v) ∧ Res P (K fr') o := fun {v} hr => by
    rcases fin_spec hf d v K with e | ⟨fr', hf', e⟩
    · rw [e] at hr; cases hr
    · rw [e] at hr; exact ⟨fr', hf', hr⟩
  cases hm : memD d Z with
  | false => rw [hm] at hr; exact go hr
  | true =>
    rw [hm] at hr
    cases hr with
    | cas hv hr => subst hv; exact go hr
/-- Calls are what they are said to be. -/
def FunOk (P : Program) (F : Fun) : Prop := ∀ f args h K o, Res P (F f args h K) o → (∃ fn, P.funcs[f]? = some fn ∧ (fn.name == "runtime.NumGoroutine") = false ∧ fn.body.isNone = false) ∧ ∃ v h', (ACalls P f ⟨args⟩ (toH h) fun v' H' => v' = v ∧ H' = toH h') ∧ Res P (K v h') o
structure EOk (P : Program) (E : Enw) : Prop where
  fn : FunOk P E.F
  ne : isNoEscape P E.ne = true
def ArmOk (P : Program) (A : Arm) (op : Op) : Prop :=
  ∀ (E : Enw) (fr : TV) (a : Act) (df : Df) (h : CH) (y : YS) (K : KF) (d : Option Tmp) (ty : TypeId) (p : String) (af : Array Edge) (g : Option (Nat × Bool)), EOk P E → FR E.N fr a →
    A d P E fr df h y K = .bad ∨ ∃ fr' h' v, A d P E fr df h y K = K fr' df h' y ∧ FR E.N fr' (a.put d v) ∧ Did P a (toH h) ⟨d, op, ty, p, af, g⟩ v (toH h')
def ArmRes (P : Program) (A : Arm) (op : Op) : Prop :=
  ∀ (E : Enw) (fr : TV) (a : Act) (df : Df) (h : CH) (y : YS) (K : KF) (d : Option Tmp) (ty : TypeId) (p : String) (af : Array Edge) (g : Option (Nat × Bool)) (o : Rs), EOk P E → FR E.N fr a →
    Res P (A d P E fr df h y K) o → ∃ fr' h' v, Res P (K fr' df h' y) o ∧ FR E.N fr' (a.put d v) ∧ Did P a (toH h) ⟨d, op, ty, p, af, g⟩ v (toH h')
theorem ArmOk.res {P : Program} {A : Arm} {op : Op} (hA : ArmOk P A op) : ArmRes P A op := fun E fr a df h y K d ty p af g o hE hf hr => by
  rcases hA E fr a df h y K d ty p af g hE hf with e | ⟨fr', h', v, e, hf', hD⟩
  · rw [e] at hr; cases hr
  · rw [e] at hr; exact ⟨fr', h', v, hr, hf', hD⟩
/-- The end of an arm. -/
theorem arm_fin {P : Program} {op : Op} {E : Enw} {fr : TV} {a : Act} {df : Df} {h h' : CH} {y : YS} {K : KF} {d : Option Tmp} {ty : TypeId} {p : String} {af : Array Edge} {g : Option (Nat × Bool)} {v : Value} {r : Rs} (hf : FR E.N fr a)
    (hr : r = fin E.N d v fr fun fr => K fr df h' y) (hd : Did P a (toH h) ⟨d, op, ty, p, af, g⟩ v (toH h')) :
    r = .bad ∨ ∃ fr' h' v, r = K fr' df h' y ∧ FR E.N fr' (a.put d v) ∧ Did P a (toH h) ⟨d, op, ty, p, af, g⟩ v (toH h') := by
  subst hr
  rcases fin_spec hf d v (fun fr => K fr df h' y) with e | ⟨fr', hf', e⟩
  · exact .inl e
  · exact .inr ⟨fr', h', v, e, hf', hd⟩
theorem arm_finS {P : Program} {op : Op} {E : Enw} {fr : TV} {a : Act} {df : Df} {h h' : CH} {y : YS} {K : KF} {d : Option Tmp} {ty : TypeId} {p : String} {af : Array Edge} {g : Option (Nat × Bool)} {v : Value} {r : Rs} (hf : FR E.N fr a)
    (hr : r = finS E.N d v fr fun fr => K fr df h' y) (hd : Did P a (toH h) ⟨d, op, ty, p, af, g⟩ v (toH h')) :
    r = .bad ∨ ∃ fr' h' v, r = K fr' df h' y ∧ FR E.N fr' (a.put d v) ∧ Did P a (toH h) ⟨d, op, ty, p, af, g⟩ v (toH h') := by
  subst hr
  rcases finS_spec hf d v (fun fr => K fr df h' y) with e | ⟨fr', hf', e⟩
  · exact .inl e
  · exact .inr ⟨fr', h', v, e, hf', hd⟩
noncomputable def aVal (x : Operand) : Arm := fun d _ E fr df h s K => finS E.N d (evX x fr) fr fun fr => K fr df h s
theorem aVal_move {P : Program} (x : Operand) : ArmOk P (aVal x) (.move x) := fun E fr a df h y K d ty p af g _ hf =>
  arm_finS hf rfl (.n rfl (by simp [nRes, aP, hf.eval]))
theorem aVal_assign {P : Program} (x : Operand) : ArmOk P (aVal x) (.assign x) := fun E fr a df h y K d ty p af g _ hf =>
  arm_finS hf rfl (.n rfl (by simp [nRes, aP, hf.eval]))
noncomputable def aPick (c a b : Operand) : Arm := fun d _ E fr df h s K => boolK (evX c fr) fun t => Bool.rec (motive := fun _ => Rs) (fin E.N d (evX b fr) fr fun fr => K fr df h s) (fin E.N d (evX a fr) fr fun fr => K fr df h s) t
theorem aPick_ok {P : Program} (c x z : Operand) : ArmOk P (aPick c x z) (.pick c x z) := fun E fr a df h y K d ty p af g _ hf => by
  unfold aPick
  rcases boolK_spec (evX c fr) (fun t => Bool.rec (motive := fun _ => Rs) (fin E.N d (evX z fr) fr fun fr => K fr df h y) (fin E.N d (evX x fr) fr fun fr => K fr df h y) t) with e | ⟨t, hc, e⟩
  · exact .inl e
  rw [hf.eval] at hc
  cases t with
  | true => exact arm_fin hf e (.n rfl (by simp [nRes, aP, hc, hf.eval]))
  | false => exact arm_fin hf e (.n rfl (by simp [nRes, aP, hc, hf.eval]))
noncomputable def aLoad (t : TypeId) (x : Operand) : Arm := fun d P E fr df h s K => ptrK (evX x fr) fun a => loadK P h t a fun v => fin E.N d v fr fun fr => K fr df h s
theorem aLoad_ok {P : Program} (t : TypeId) (x : Operand) : ArmOk P (aLoad t x) (.load t x) := fun E fr a df h y K d ty p af g _ hf => by
  unfold aLoad
  rcases ptrK_spec (evX x fr) (fun a => loadK P h t a fun v => fin E.N d v fr fun fr => K fr df h y) with e | ⟨ad, hx, e⟩
  · exact .inl e
  rw [e]
  rcases loadK_spec P h t ad (fun v => fin E.N d v fr fun fr => K fr df h y) with e | ⟨v, hv, e⟩
  · exact .inl e
  rw [hf.eval] at hx
  exact arm_fin hf e (.n rfl (by simp [nRes, aR, hx, hv]))
noncomputable def aStore (t : TypeId) (x v : Operand) : Arm := fun d P E fr df h s K => ptrK (evX x fr) fun a => storeK P h t a (evX v fr) fun h => fin E.N d undef fr fun fr => K fr df h s
theorem aStore_ok {P : Program} (t : TypeId) (x z : Operand) : ArmOk P (aStore t x z) (.store t x z) := fun E fr a df h y K d ty p af g _ hf => by
  unfold aStore
  rcases ptrK_spec (evX x fr) (fun a => storeK P h t a (evX z fr) fun h => fin E.N d undef fr fun fr => K fr df h y) with e | ⟨ad, hx, e⟩
  · exact .inl e
  rw [e]
  rcases storeK_spec P h t ad (evX z fr) (fun h => fin E.N d undef fr fun fr => K fr df h y) with e | ⟨h', e, hs⟩
  · exact .inl e
  rw [hf.eval] at hx
  rw [hf.eval] at hs
  exact arm_fin hf e (.e rfl rfl (by simp [aE, hx, hs]))
noncomputable def aAlloc (t : TypeId) : Arm := fun d P E fr df h s K => optK (szT P t) fun _ => optK (zeroT P t) fun z => pushRow h (.row ⟨z, t, 0, true⟩) fun h' => fin E.N d (.pointer (some ⟨h.next, 0, none⟩)) fr fun fr => K fr df h' s
theorem aAlloc_ok {P : Program} (t : TypeId) : ArmOk P (aAlloc t) (.alloc t) := fun E fr a df h y K d ty p af g _ hf => by
  unfold aAlloc
  rcases optK_spec (szT P t) (fun _ => optK (zeroT P t) fun z => pushRow h (.row ⟨z, t, 0, true⟩) fun h' => fin E.N d (.pointer (some ⟨h.next, 0, none⟩)) fr fun fr => K fr df h' y) with e | ⟨n, hn, e⟩
  · exact .inl e
  rw [e]
  rcases optK_spec (zeroT P t) (fun z => pushRow h (.row ⟨z, t, 0, true⟩) fun h' => fin E.N d (.pointer (some ⟨h.next, 0, none⟩)) fr fun fr => K fr df h' y) with e | ⟨z, hz, e⟩
  · exact .inl e
  rw [e]
  rcases pushRow_spec h (.row ⟨z, t, 0, true⟩) (fun h' => fin E.N d (.pointer (some ⟨h.next, 0, none⟩)) fr fun fr => K fr df h' y) with e | ⟨h', e, hh⟩
  · exact .inl e
  exact arm_fin hf e (.n rfl (by rw [hh]; simp [nRes, aA, hn, hz]; rfl))
noncomputable def aBox (t : TypeId) (x : Operand) : Arm := fun d P E fr df h s K => optK (szT P t) fun _ => pushRow h (.row ⟨(evX x fr).cells.toList, t, 0, true⟩) fun h' => fin E.N d (.pointer (some ⟨h.next, 0, none⟩)) fr fun fr => K fr df h' s
theorem aBox_ok {P : Program} (t : TypeId) (x : Operand) : ArmOk P (aBox t x) (.box t x) := fun E fr a df h y K d ty p af g _ hf => by
  unfold aBox
  rcases optK_spec (szT P t) (fun _ => pushRow h (.row ⟨(evX x fr).cells.toList, t, 0, true⟩) fun h' => fin E.N d (.pointer (some ⟨h.next, 0, none⟩)) fr fun fr => K fr df h' y) with e | ⟨n, hn, e⟩
  · exact .inl e
  rw [e]
  rcases pushRow_spec h (.row ⟨(evX x fr).cells.toList, t, 0, true⟩) (fun h' => fin E.N d (.pointer (some ⟨h.next, 0, none⟩)) fr fun fr => K fr df h' y) with e | ⟨h', e, hh⟩
  · exact .inl e
  exact arm_fin hf e (.n rfl (by rw [hh, hf.eval]; simp [nRes, aA, hn]; rfl))
/-! ### Operations that neither read nor write -/
noncomputable def aOpt (f : Program → (Operand → Value) → Option Value) : Arm := fun d P E fr df h s K => optK (f P fun x => evX x fr) fun v => fin E.N d v fr fun fr => K fr df h s
theorem aOpt_ok {P : Program} {f : Program → (Operand → Value) → Option Value} {op : Op} (hE : ∀ d ty p af g, isE ⟨d, op, ty, p, af, g⟩ = false)
    (hn : ∀ (a : Act) (H : AHeap) d ty p af g v, f P a.eval = some v → nRes P a H ⟨d, op, ty, p, af, g⟩ = some (v, H)) : ArmOk P (aOpt f) op := fun E fr a df h y K d ty p af g _ hf => by
  unfold aOpt
  rw [hf.fn]
  rcases optK_spec (f P a.eval) (fun v => fin E.N d v fr fun fr => K fr df h y) with e | ⟨v, hv, e⟩
  · exact .inl e
  exact arm_fin hf e (.n (hE ..) (hn _ _ _ _ _ _ _ _ hv))
def nilE : Value → Option Value
  | .pointer (some a) => some (.pointer (some a))
  | .iface t v => some (.iface t v)
  | .func (.func f) xs us => some (.func (.func f) xs us)
  | _ => none
theorem aNil_ok {P : Program} (x : Operand) : ArmOk P (aOpt fun _ ev => nilE (ev x)) (.nilCheck x) := aOpt_ok (fun _ _ _ _ _ => rfl) fun a H d ty p af g v hv => by
  simp only [nRes, aP]
  unfold nilE at hv
  split at hv <;> simp only [Option.some.injEq, reduceCtorEq] at hv <;> subst hv <;> rename_i hx <;> simp [hx]
theorem aExt_ok {P : Program} (x : Operand) (i : Nat) : ArmOk P (aOpt fun _ ev => extractA (ev x) i) (.extract x i) := aOpt_ok (fun _ _ _ _ _ => rfl) fun a H d ty p af g v hv => by
  simp [nRes, aP, hv]
theorem aFieldV_ok {P : Program} (t : TypeId) (x : Operand) (f : Nat) : ArmOk P (aOpt fun P ev => fieldA P t (ev x) f) (.field t x f) := aOpt_ok (fun _ _ _ _ _ => rfl) fun a H d ty p af g v hv => by
  simp [nRes, aP, hv]
theorem aAssert_ok {P : Program} (x : Operand) (xt t : TypeId) (ok : Bool) : ArmOk P (aOpt fun P ev => assertA P (ev x) t ok) (.typeAssert x xt t ok) := aOpt_ok (fun _ _ _ _ _ => rfl) fun a H d ty p af g v hv => by
  simp [nRes, aP, hv]
def mkIfaceE (P : Program) (t : TypeId) (v : Value) : Option Value := match P.underlying t with
  | some (.interface _) => none
  | some _ => some (.iface t v)
  | none => none
theorem aMkIface_ok {P : Program} (t : TypeId) (x : Operand) : ArmOk P (aOpt fun P ev => mkIfaceE P t (ev x)) (.makeInterface t x) := aOpt_ok (fun _ _ _ _ _ => rfl) fun a H d ty p af g v hv => by
  simp only [nRes, aP]
  unfold mkIfaceE at hv
  split at hv <;> simp only [Option.some.injEq, reduceCtorEq] at hv
  subst hv
  rename_i d' hd hu
  simp only [hu]
  cases d' <;> first | rfl | exact absurd rfl (hd _)
theorem aBuildV_ok {P : Program} (t : TypeId) (ps : Array (Nat × Operand)) : ArmOk P (aOpt fun P ev => builtA P t (ps.toList.map fun p => (p.1, ev p.2))) (.build t ps) := aOpt_ok (fun _ _ _ _ _ => rfl) fun a H d ty p af g v hv => by
  have : evParts a.eval ps = ps.toList.map fun p => (p.1, a.eval p.2) := by simp [evParts]
  simp [nRes, aP, this, hv]
/-- By the slow form. -/
theorem aSlow_ok {P : Program} (op : Op) (hE : ∀ d ty p af g, isE ⟨d, op, ty, p, af, g⟩ = false) (hn : ∀ a H d ty p af g, nRes P a H ⟨d, op, ty, p, af, g⟩ = (aP P a.eval ⟨none, op, 0, "", #[], none⟩).map fun v => (v, H)) :
    ArmOk P (aOpt fun P ev => aP P ev ⟨none, op, 0, "", #[], none⟩) op := aOpt_ok hE fun a H d ty p af g v hv => by
  rw [hn, hv]; rfl
theorem aUn_ok {P : Program} (o : UnOp) (t : TypeId) (x : Operand) : ArmOk P (aOpt fun P ev => aP P ev ⟨none, .unOp o t x, 0, "", #[], none⟩) (.unOp o t x) := aSlow_ok _ (fun _ _ _ _ _ => rfl) (fun _ _ _ _ _ _ _ => rfl)
theorem aSliceS_ok {P : Program} (t : TypeId) (x : Operand) (l u m : Option Operand) : ArmOk P (aOpt fun P ev => aP P ev ⟨none, .slice t x l u m, 0, "", #[], none⟩) (.slice t x l u m) := aSlow_ok _ (fun _ _ _ _ _ => rfl) (fun _ _ _ _ _ _ _ => rfl)
theorem aIndexS_ok {P : Program} (t : TypeId) (x i : Operand) : ArmOk P (aOpt fun P ev => aP P ev ⟨none, .index t x i, 0, "", #[], none⟩) (.index t x i) := aSlow_ok _ (fun _ _ _ _ _ => rfl) (fun _ _ _ _ _ _ _ => rfl)
/-! ### Places -/
def fOffE (P : Program) (s : TypeId) (f : Nat) : Option Nat := match P.underlying s with
  | some (.struct fs) => match fs[f]? with
    | some fd => match szT P fd.type with
      | some (_ + 1) => some fd.offset
      | _ => none
    | none => none
  | _ => none
noncomputable def aFld (t : TypeId) (x : Operand) (f : Nat) : Arm := fun d P E fr df h s K => ptrK (evX x fr) fun a => optK (fOffE P t f) fun n => fin E.N d (.pointer (some ⟨a.block, Nat.add a.off n, a.spot⟩)) fr fun fr => K fr df h s
theorem aFld_ok {P : Program} (t : TypeId) (x : Operand) (f : Nat) : ArmOk P (aFld t x f) (.fieldAddr t x f) := fun E fr a df h y K d ty p af g _ hf => by
  unfold aFld
  rcases ptrK_spec (evX x fr) (fun a => optK (fOffE P t f) fun n => fin E.N d (.pointer (some ⟨a.block, Nat.add a.off n, a.spot⟩)) fr fun fr => K fr df h y) with e | ⟨ad, hx, e⟩
  · exact .inl e
  rw [e]
  rcases optK_spec (fOffE P t f) (fun n => fin E.N d (.pointer (some ⟨ad.block, Nat.add ad.off n, ad.spot⟩)) fr fun fr => K fr df h y) with e | ⟨n, hn, e⟩
  · exact .inl e
  rw [hf.eval] at hx
  refine arm_fin hf e (.n rfl ?_)
  have : fieldAddrA P t (.pointer (some ad)) f = some (.pointer (some (aadd ad n))) := by
    unfold fOffE at hn
    unfold fieldAddrA
    split at hn
    · rename_i fs hu
      rw [hu]
      split at hn
      · rename_i fd hfd
        simp only [hfd]
        split at hn
        · rename_i k hk
          obtain rfl := Option.some.inj hn
          simp only [hk]
        · cases hn
      · cases hn
    · cases hn
  simp only [nRes, aP, hx, this, Option.map_some]
  rfl
noncomputable def natK (n : Int) : Rs → (Nat → Rs) → Rs := Int.rec (motive := fun _ => Rs → (Nat → Rs) → Rs) (fun n _ K => K n) (fun _ z _ => z) n
theorem natK_spec (n : Int) (z : Rs) (K : Nat → Rs) : natK n z K = z ∨ ∃ m : Nat, n = Int.ofNat m ∧ natK n z K = K m := by
  cases n with
  | ofNat m => exact .inr ⟨m, rfl, rfl⟩
  | negSucc m => exact .inl rfl
def idxS (P : Program) (t : TypeId) : Option (Option Nat × Nat) := match P.underlying t with
  | some (.slice e) => match szT P e with
    | some n => some (none, n)
    | none => none
  | some (.array l e) => match szT P e with
    | some n => some (some l, n)
    | none => none
  | _ => none
noncomputable def idxK (q : Option Nat) (x : Value) (i n : Nat) (K : Value → Rs) : Rs := Option.rec (motive := fun _ => Rs)
  (sliceK x .bad fun a len _ => ifB (Nat.blt i len) (K (.pointer (some ⟨a.block, Nat.add a.off (Nat.mul i n), a.spot⟩))))
  (fun len => ptrK x fun a => ifB (Nat.blt i len) (K (.pointer (some ⟨a.block, Nat.add a.off (Nat.mul i n), a.spot⟩)))) q
noncomputable def aIdx (t : TypeId) (x i : Operand) : Arm := fun d P E fr df h s K => intK (evX i fr) .bad fun _ i => natK i .bad fun i => optK (idxS P t) fun q => idxK q.1 (evX x fr) i q.2 fun v => fin E.N d v fr fun fr => K fr df h s
theorem idxK_spec {P : Program} {t : TypeId} {q : Option Nat × Nat} (hq : idxS P t = some q) (x : Value) (k : IntKind) (i : Nat) (K : Value → Rs) : idxK q.1 x i q.2 K = .bad ∨ ∃ v, indexAddrA P t x (.int k (Int.ofNat i)) = some v ∧ idxK q.1 x i q.2 K = K v := by
  unfold idxS at hq
  split at hq
  · rename_i e hu
    split at hq
    · rename_i n hn
      obtain rfl := Option.some.inj hq
      show sliceK x .bad _ = .bad ∨ _
      rcases sliceK_spec x .bad (fun a len _ => ifB (Nat.blt i len) (K (.pointer (some ⟨a.block, Nat.add a.off (Nat.mul i n), a.spot⟩)))) with e | ⟨a, len, c, rfl, e⟩
      · exact .inl e
      rcases ifB_spec (Nat.blt i len) (K (.pointer (some ⟨a.block, Nat.add a.off (Nat.mul i n), a.spot⟩))) with e' | ⟨hb, e'⟩
      · exact .inl (e.trans e')
      rw [Nat.blt_eq] at hb
      have hc : (0 : Int) ≤ Int.ofNat i ∧ Int.ofNat i < (len : Int) := ⟨Int.natCast_nonneg i, Int.ofNat_lt.2 hb⟩
      exact .inr ⟨_, by simp only [indexAddrA, hu, hn]; rw [if_pos hc]; rfl, e.trans e'⟩
    · cases hq
  · rename_i l e hu
    split at hq
    · rename_i n hn
      obtain rfl := Option.some.inj hq
      show ptrK x _ = .bad ∨ _
      rcases ptrK_spec x (fun a => ifB (Nat.blt i l) (K (.pointer (some ⟨a.block, Nat.add a.off (Nat.mul i n), a.spot⟩)))) with e | ⟨a, rfl, e⟩
      · exact .inl e
      rcases ifB_spec (Nat.blt i l) (K (.pointer (some ⟨a.block, Nat.add a.off (Nat.mul i n), a.spot⟩))) with e' | ⟨hb, e'⟩
      · exact .inl (e.trans e')
      rw [Nat.blt_eq] at hb
      have hc : (0 : Int) ≤ Int.ofNat i ∧ Int.ofNat i < (l : Int) := ⟨Int.natCast_nonneg i, Int.ofNat_lt.2 hb⟩
      exact .inr ⟨_, by simp only [indexAddrA, hu, hn]; rw [if_pos hc]; rfl, e.trans e'⟩
    · cases hq
  · cases hq
theorem aIdx_ok {P : Program} (t : TypeId) (x i : Operand) : ArmOk P (aIdx t x i) (.indexAddr t x i) := fun E fr a df h y K d ty p af g _ hf => by
  unfold aIdx
  rcases intK_spec (evX i fr) .bad (fun _ i => natK i .bad fun i => optK (idxS P t) fun q => idxK q.1 (evX x fr) i q.2 fun v => fin E.N d v fr fun fr => K fr df h y) with e | ⟨k, n, hi, e⟩
  · exact .inl e
  rw [e]
  rcases natK_spec n .bad (fun i => optK (idxS P t) fun q => idxK q.1 (evX x fr) i q.2 fun v => fin E.N d v fr fun fr => K fr df h y) with e | ⟨m, rfl, e⟩
  · exact .inl e
  rw [e]
  rcases optK_spec (idxS P t) (fun q => idxK q.1 (evX x fr) m q.2 fun v => fin E.N d v fr fun fr => K fr df h y) with e | ⟨q, hq, e⟩
  · exact .inl e
  rw [e]
  rcases idxK_spec hq (evX x fr) k m (fun v => fin E.N d v fr fun fr => K fr df h y) with e | ⟨v, hv, e⟩
  · exact .inl e
  rw [hf.eval] at hi hv
  exact arm_fin hf e (.n rfl (by simp [nRes, aP, hi]; exact hv))
/-! ### New rows, closures -/
noncomputable def aRow (f : Program → (Operand → Value) → Option (Row × (Nat → Value))) : Arm := fun d P E fr df h s K => optK (f P fun x => evX x fr) fun q => pushRow h (.row q.1) fun h' => fin E.N d (q.2 h.next) fr fun fr => K fr df h' s
theorem aRow_ok {P : Program} {f : Program → (Operand → Value) → Option (Row × (Nat → Value))} {op : Op} (hE : ∀ d ty p af g, isE ⟨d, op, ty, p, af, g⟩ = false)
    (hn : ∀ (a : Act) (H : AHeap) d ty p af g q, f P a.eval = some q → nRes P a H ⟨d, op, ty, p, af, g⟩ = some (q.2 H.next, H.push (.row q.1))) : ArmOk P (aRow f) op := fun E fr a df h y K d ty p af g _ hf => by
  unfold aRow
  rw [hf.fn]
  rcases optK_spec (f P a.eval) (fun q => pushRow h (.row q.1) fun h' => fin E.N d (q.2 h.next) fr fun fr => K fr df h' y) with e | ⟨q, hq, e⟩
  · exact .inl e
  rw [e]
  rcases pushRow_spec h (.row q.1) (fun h' => fin E.N d (q.2 h.next) fr fun fr => K fr df h' y) with e | ⟨h', e, hh⟩
  · exact .inl e
  exact arm_fin hf e (.n (hE ..) (by rw [hh, hn _ _ _ _ _ _ _ _ hq]; rfl))
theorem aBuildSlice_ok {P : Program} (t : TypeId) (n : Nat) (ps : Array (Nat × Operand)) : ArmOk P (aRow fun P ev => aA P ev ⟨none, .buildSlice t n ps, 0, "", #[], none⟩) (.buildSlice t n ps) := aRow_ok (fun _ _ _ _ _ => rfl) fun a H d ty p af g q hq => by
  have : aA P a.eval ⟨d, .buildSlice t n ps, ty, p, af, g⟩ = aA P a.eval ⟨none, .buildSlice t n ps, 0, "", #[], none⟩ := rfl
  simp only [nRes, this, hq, Option.map_some]
theorem aMakeSlice_ok {P : Program} (t : TypeId) (l c : Operand) : ArmOk P (aRow fun P ev => aA P ev ⟨none, .makeSlice t l c, 0, "", #[], none⟩) (.makeSlice t l c) := aRow_ok (fun _ _ _ _ _ => rfl) fun a H d ty p af g q hq => by
  have : aA P a.eval ⟨d, .makeSlice t l c, ty, p, af, g⟩ = aA P a.eval ⟨none, .makeSlice t l c, 0, "", #[], none⟩ := rfl
  simp only [nRes, this, hq, Option.map_some]
theorem aFunc_ok {P : Program} (fn : Fn) (x c : Array Operand) : ArmOk P (aOpt fun _ ev => some (.func fn ⟨x.toList.map ev⟩ ⟨c.toList.map ev⟩)) (.makeFunc fn x c) := aOpt_ok (fun _ _ _ _ _ => rfl) fun a H d ty p af g v hv => by
  obtain rfl := Option.some.inj hv
  have e : ∀ z : Array Operand, (⟨z.toList.map a.eval⟩ : Array Value) = z.map a.eval := fun z => by apply Array.ext'; simp
  simp only [nRes, aP, Option.map_some, e]
end Go.Ae
namespace Go.Ae
/-- One object at most is another, or new. -/
def OneUp (H : AHeap) (b : Nat) (H' : AHeap) : Prop := H' = H ∨ (∃ o, H' = H.push o) ∨ ∃ o, H' = H.put b o
noncomputable def upK (h : CH) (b : Nat) (H' : AHeap) (K : CH → Rs) : Rs :=
  Bool.rec (motive := fun _ => Rs) (optK (H'.get h.next) fun o => pushRow h o K) (Option.rec (motive := fun _ => Rs) (K h) (fun o => putRow h b o K) (H'.get b)) (Nat.beq H'.next h.next)
theorem put_same {H : AHeap} {b : Nat} {o : AObj} (h : H.get b = some o) : H.put b o = H := by
  obtain ⟨g, n⟩ := H
  simp only [AHeap.put]
  congr 1
  funext j
  split
  · rename_i e; subst e; exact h.symm
  · rfl
theorem upK_spec {h : CH} {b : Nat} {H' : AHeap} (hs : OneUp (toH h) b H') (K : CH → Rs) : upK h b H' K = .bad ∨ ∃ h', upK h b H' K = K h' ∧ toH h' = H' := by
  have next : (toH h).next = h.next := rfl
  rcases hs with rfl | ⟨o, rfl⟩ | ⟨o, rfl⟩
  · have hb : Nat.beq (toH h).next h.next = true := Nat.beq_refl _
    unfold upK
    rw [hb]
    cases hg : (toH h).get b with
    | none => exact .inr ⟨h, rfl, rfl⟩
    | some o =>
      show putRow h b o K = .bad ∨ _
      exact (putRow_spec h b o K).imp id fun ⟨h', e, hh⟩ => ⟨h', e, by rw [hh, put_same hg]⟩
  · have hb : Nat.beq ((toH h).push o).next h.next = false := by
      rw [AHeap.push_next, next]
      cases hbb : Nat.beq (h.next + 1) h.next with
      | false => rfl
      | true => have := Nat.eq_of_beq_eq_true hbb; omega
    have hg : ((toH h).push o).get h.next = some o := by rw [AHeap.push_get, if_pos next.symm]
    unfold upK
    rw [hb, hg]
    show pushRow h o K = .bad ∨ _
    exact (pushRow_spec h o K).imp id fun ⟨h', e, hh⟩ => ⟨h', e, hh⟩
  · have hb : Nat.beq ((toH h).put b o).next h.next = true := Nat.beq_refl _
    have hg : ((toH h).put b o).get b = some o := by rw [AHeap.put_get, if_pos rfl]
    unfold upK
    rw [hb, hg]
    show putRow h b o K = .bad ∨ _
    exact (putRow_spec h b o K).imp id fun ⟨h', e, hh⟩ => ⟨h', e, hh⟩
def blkOf : Value → Nat
  | .slice (some a) _ _ => a.block
  | .pointer (some a) => a.block
  | .map (some r) => r
  | _ => 0
theorem setCells_up {H H' : AHeap} {a : Addr} {vs : List Value} (h : H.setCells a vs = some H') : ∃ o, H' = H.put a.block o := by
  unfold AHeap.setCells at h
  simp only [Option.bind_eq_some_iff] at h
  obtain ⟨r, _, h⟩ := h
  split at h
  · exact ⟨_, (Option.some.inj h).symm⟩
  · cases h
theorem appendA_up {P : Program} {H H' : AHeap} {t u : TypeId} {s x v : Value} (h : appendA P H t u s x = some (v, H')) : OneUp H (blkOf s) H' := by
  unfold appendA at h
  split at h
  case h_2 => cases h
  split at h
  case h_2 => cases h
  split at h
  · cases h
  split at h
  · split at h
    · simp only [Option.some.injEq, Prod.mk.injEq] at h; exact .inl h.2.symm
    · cases h
  split at h
  case isFalse => cases h
  split at h
  · split at h
    · simp only [Option.some.injEq, Prod.mk.injEq] at h; exact .inr (.inl ⟨_, h.2.symm⟩)
    · cases h
  · split at h
    · split at h
      · simp only [Option.map_eq_some_iff, Prod.mk.injEq] at h
        obtain ⟨H1, hs, _, rfl⟩ := h
        exact .inr (.inr (setCells_up (a := aadd _ _) hs))
      · simp only [Option.map_eq_some_iff, Prod.mk.injEq] at h
        obtain ⟨l, _, _, rfl⟩ := h
        exact .inr (.inl ⟨_, rfl⟩)
    · split at h
      case isFalse => cases h
      split at h
      · cases h
      · split at h
        case isFalse => cases h
        split at h
        · simp only [Option.some.injEq, Prod.mk.injEq] at h; exact .inr (.inr ⟨_, h.2.symm⟩)
        · simp only [Option.map_eq_some_iff, Prod.mk.injEq] at h
          obtain ⟨H1, hs, _, rfl⟩ := h
          exact .inr (.inr (setCells_up (a := aadd _ _) hs))
theorem copyA_up {P : Program} {H H' : AHeap} {t : TypeId} {d x v : Value} (h : copyA P H t d x = some (v, H')) : OneUp H (blkOf d) H' := by
  unfold copyA at h
  split at h
  case h_2 => cases h
  split at h
  case h_2 => cases h
  split at h
  · simp only [Option.some.injEq, Prod.mk.injEq] at h; exact .inl h.2.symm
  · split at h
    case h_2 => cases h
    simp only [Option.map_eq_some_iff, Prod.mk.injEq] at h
    obtain ⟨H1, hs, _, rfl⟩ := h
    exact .inr (.inr (setCells_up hs))
theorem sliceData_up {H H' : AHeap} {x v : Value} {b : Nat} (h : sliceDataA H x = some (v, H')) : OneUp H b H' := by
  unfold sliceDataA at h
  split at h
  · simp only [Option.some.injEq, Prod.mk.injEq] at h; exact .inl h.2.symm
  · split at h
    · simp only [Option.some.injEq, Prod.mk.injEq] at h; exact .inl h.2.symm
    · cases h
  · cases h
theorem unsafeStr_up {P : Program} {H H' : AHeap} {ts : List TypeId} {p n v : Value} (h : unsafeStrA P H ts p n = some (v, H')) : OneUp H (blkOf p) H' := by
  unfold unsafeStrA at h
  split at h
  · simp only [Option.some.injEq, Prod.mk.injEq] at h; exact .inl h.2.symm
  · split at h
    case h_2 => cases h
    split at h
    · simp only [Option.map_eq_some_iff, Prod.mk.injEq] at h
      obtain ⟨ns, _, _, rfl⟩ := h
      exact .inr (.inr ⟨_, rfl⟩)
    · cases h
  · cases h
theorem mapPut_up {P : Program} {H H' : AHeap} {t : TypeId} {m k x : Value} (h : mapPutA P H t m k x = some H') : OneUp H (blkOf m) H' := by
  unfold mapPutA at h
  split at h
  case h_2 => cases h
  split at h
  case h_2 => cases h
  split at h
  case isFalse => cases h
  split at h
  · exact .inr (.inr ⟨_, (Option.some.inj h).symm⟩)
  · exact .inr (.inr ⟨_, (Option.some.inj h).symm⟩)
  · cases h
theorem next_up {H H' : AHeap} {it v : Value} {s : Bool} (h : nextA H it s = some (v, H')) : OneUp H (blkOf it) H' := by
  unfold nextA at h
  split at h
  case h_2 => cases h
  split at h
  case h_2 => cases h
  split at h
  case isFalse => cases h
  split at h
  · simp only [Option.some.injEq, Prod.mk.injEq] at h; exact .inr (.inr ⟨_, h.2.symm⟩)
  · simp only [Option.some.injEq, Prod.mk.injEq] at h; exact .inl h.2.symm
theorem range_up {P : Program} {H H' : AHeap} {t : TypeId} {x v : Value} {b : Nat} (h : rangeA P H t x = some (v, H')) : OneUp H b H' := by
  unfold rangeA at h
  split at h
  · simp only [Option.some.injEq, Prod.mk.injEq] at h; exact .inr (.inl ⟨_, h.2.symm⟩)
  · cases h
theorem makeMap_up {P : Program} {H H' : AHeap} {t : TypeId} {r : Option Value} {v : Value} {b : Nat} (h : makeMapA P H t r = some (v, H')) : OneUp H b H' := by
  unfold makeMapA at h
  split at h
  · simp only [Option.some.injEq, Prod.mk.injEq] at h; exact .inr (.inl ⟨_, h.2.symm⟩)
  · split at h
    · split at h
      · simp only [Option.some.injEq, Prod.mk.injEq] at h; exact .inr (.inl ⟨_, h.2.symm⟩)
      · cases h
    · cases h
end Go.Ae
namespace Go.Ae
/-- By the abstract heap's own operation. -/
noncomputable def aUp (f : Program → (Operand → Value) → AHeap → Option (Value × AHeap)) (b : (Operand → Value) → Nat) : Arm := fun d P E fr df h s K =>
  optK (f P (fun x => evX x fr) (toH h)) fun q => upK h (b fun x => evX x fr) q.2 fun h' => fin E.N d q.1 fr fun fr => K fr df h' s
theorem aUp_ok {P : Program} {f : Program → (Operand → Value) → AHeap → Option (Value × AHeap)} {b : (Operand → Value) → Nat} {op : Op} (hE : ∀ d ty p af g, isE ⟨d, op, ty, p, af, g⟩ = true) (hc : ∀ (a : Act) d ty p af g v H H', f P a.eval H = some (v, H') → acall P a.eval ⟨d, op, ty, p, af, g⟩ = none)
    (hn : ∀ (a : Act) (H : AHeap) d ty p af g, aE P a.eval H ⟨d, op, ty, p, af, g⟩ = f P a.eval H) (hu : ∀ (a : Act) (H H' : AHeap) v, f P a.eval H = some (v, H') → OneUp H (b a.eval) H') : ArmOk P (aUp f b) op := fun E fr a df h y K d ty p af g _ hf => by
  unfold aUp
  rw [hf.fn]
  rcases optK_spec (f P a.eval (toH h)) (fun q => upK h (b a.eval) q.2 fun h' => fin E.N d q.1 fr fun fr => K fr df h' y) with e | ⟨q, hq, e⟩
  · exact .inl e
  rw [e]
  rcases upK_spec (hu a (toH h) q.2 q.1 hq) (fun h' => fin E.N d q.1 fr fun fr => K fr df h' y) with e | ⟨h', e, hh⟩
  · exact .inl e
  exact arm_fin hf e (.e (hE ..) (hc a d ty p af g _ _ _ hq) (by rw [hn, hh]; exact hq))
theorem aMapPut_ok {P : Program} (t : TypeId) (m k x : Operand) : ArmOk P (aUp (fun P ev H => (mapPutA P H t (ev m) (ev k) (ev x)).map fun H' => (undef, H')) fun ev => blkOf (ev m)) (.mapUpdate t m k x) :=
  aUp_ok (fun _ _ _ _ _ => rfl) (fun _ _ _ _ _ _ _ _ _ _ => rfl) (fun _ _ _ _ _ _ _ => rfl) fun a H H' v h => by
    simp only [Option.map_eq_some_iff, Prod.mk.injEq] at h
    obtain ⟨H1, hs, _, rfl⟩ := h
    exact mapPut_up hs
theorem aInsert_ok {P : Program} (t : TypeId) (m k x : Operand) : ArmOk P (aUp (fun P ev H => (mapPutA P H t (ev m) (ev k) (ev x)).map fun H' => (undef, H')) fun ev => blkOf (ev m)) (.insert t m k x) :=
  aUp_ok (fun _ _ _ _ _ => rfl) (fun _ _ _ _ _ _ _ _ _ _ => rfl) (fun _ _ _ _ _ _ _ => rfl) fun a H H' v h => by
    simp only [Option.map_eq_some_iff, Prod.mk.injEq] at h
    obtain ⟨H1, hs, _, rfl⟩ := h
    exact mapPut_up hs
theorem aLookup_ok {P : Program} (t : TypeId) (m k : Operand) (ok : Bool) : ArmOk P (aUp (fun P ev H => (lookA P H t (ev m) (ev k) ok).map fun v => (v, H)) fun _ => 0) (.lookup t m k ok) :=
  aUp_ok (fun _ _ _ _ _ => rfl) (fun _ _ _ _ _ _ _ _ _ _ => rfl) (fun _ _ _ _ _ _ _ => rfl) fun a H H' v h => by
    simp only [Option.map_eq_some_iff, Prod.mk.injEq] at h
    obtain ⟨v1, hs, _, rfl⟩ := h
    exact .inl rfl
theorem aMakeMap_ok {P : Program} (t : TypeId) (r : Option Operand) : ArmOk P (aUp (fun P ev H => makeMapA P H t (r.map ev)) fun _ => 0) (.makeMap t r) :=
  aUp_ok (fun _ _ _ _ _ => rfl) (fun _ _ _ _ _ _ _ _ _ _ => rfl) (fun _ _ _ _ _ _ _ => rfl) fun a H H' v h => makeMap_up h
theorem aRange_ok {P : Program} (t : TypeId) (x : Operand) : ArmOk P (aUp (fun P ev H => rangeA P H t (ev x)) fun _ => 0) (.range t x) :=
  aUp_ok (fun _ _ _ _ _ => rfl) (fun _ _ _ _ _ _ _ _ _ _ => rfl) (fun _ _ _ _ _ _ _ => rfl) fun a H H' v h => range_up h
theorem aNext_ok {P : Program} (x : Operand) (s : Bool) : ArmOk P (aUp (fun _ ev H => nextA H (ev x) s) fun ev => blkOf (ev x)) (.next x s) :=
  aUp_ok (fun _ _ _ _ _ => rfl) (fun _ _ _ _ _ _ _ _ _ _ => rfl) (fun _ _ _ _ _ _ _ => rfl) fun a H H' v h => next_up h
/-- The builtins that write. -/
def bltA (b : Builtin) (args : List Operand) (ats : List TypeId) (P : Program) (ev : Operand → Value) (H : AHeap) : Option (Value × AHeap) :=
  match b, args, ats with
  | .append, [s, x], [t, u] => appendA P H t u (ev s) (ev x)
  | .copy, [d, x], [t, _] => copyA P H t (ev d) (ev x)
  | .unsafeSliceData, [x], _ => sliceDataA H (ev x)
  | .unsafeString, [p, n], ts => unsafeStrA P H ts (ev p) (ev n)
  | _, _, _ => none
def headBlk (args : List Operand) (ev : Operand → Value) : Nat := match args with
  | x :: _ => blkOf (ev x)
  | [] => 0
theorem bltA_up {b : Builtin} {args : List Operand} {ats : List TypeId} {P : Program} {ev : Operand → Value} {H H' : AHeap} {v : Value} (h : bltA b args ats P ev H = some (v, H')) : OneUp H (headBlk args ev) H' := by
  unfold bltA at h
  split at h
  · exact appendA_up h
  · exact copyA_up h
  · exact sliceData_up h
  · exact unsafeStr_up h
  · cases h
end Go.Ae

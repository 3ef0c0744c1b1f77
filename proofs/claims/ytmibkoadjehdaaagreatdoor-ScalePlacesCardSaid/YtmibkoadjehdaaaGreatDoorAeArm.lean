/- The evaluator's operations, one by one: each does what the abstract heap's operation does. No condition. -/
import Derived.Test.YtmibkoadjehdaaaGreatDoorAeHp
namespace Go.Ae
abbrev Fun := FuncId → List Value → CH → Option (Value × CH)
abbrev KF := TV → Df → CH → YS → Rs
abbrev YF := Nat → List Value → CH → Option (Bool × CH)
/-- A function's frame has N slots; F: what is called; ne: the function that hands back its argument; tbl: the orders; Y: the body of a loop over a function; B: a function that is ranged over; self: the function itself. -/
structure Enw where
  N : Nat
  F : Fun
  ne : FuncId
  tbl : Tbl
  Y : YF
  B : YF → Fun
  self : FuncId
abbrev Arm := Option Tmp → Program → Enw → TV → Df → CH → YS → KF → Rs
/-- Calls are what they are said to be. -/
def FunOk (P : Program) (F : Fun) : Prop := ∀ f args h v h', F f args h = some (v, h') → (∃ fn, P.funcs[f]? = some fn ∧ (fn.name == "runtime.NumGoroutine") = false ∧ fn.body.isNone = false) ∧ ACalls P f ⟨args⟩ (toH h) fun v' H' => v' = v ∧ H' = toH h'
structure EOk (P : Program) (E : Enw) : Prop where
  fn : FunOk P E.F
  ne : isNoEscape P E.ne = true
def ArmOk (P : Program) (A : Arm) (op : Op) : Prop :=
  ∀ (E : Enw) (fr : TV) (a : Act) (df : Df) (h : CH) (y : YS) (K : KF) (d : Option Tmp) (ty : TypeId) (p : String) (af : Array Edge) (g : Option (Nat × Bool)), EOk P E → FR E.N fr a →
    A d P E fr df h y K = .bad ∨ ∃ fr' h' v, A d P E fr df h y K = K fr' df h' y ∧ FR E.N fr' (a.put d v) ∧ Did P a (toH h) ⟨d, op, ty, p, af, g⟩ v (toH h')
/-- The end of an arm. -/
theorem arm_fin {P : Program} {op : Op} {E : Enw} {fr : TV} {a : Act} {df : Df} {h h' : CH} {y : YS} {K : KF} {d : Option Tmp} {ty : TypeId} {p : String} {af : Array Edge} {g : Option (Nat × Bool)} {v : Value} {r : Rs} (hf : FR E.N fr a)
    (hr : r = fin E.N d v fr fun fr => K fr df h' y) (hd : Did P a (toH h) ⟨d, op, ty, p, af, g⟩ v (toH h')) :
    r = .bad ∨ ∃ fr' h' v, r = K fr' df h' y ∧ FR E.N fr' (a.put d v) ∧ Did P a (toH h) ⟨d, op, ty, p, af, g⟩ v (toH h') := by
  subst hr
  rcases fin_spec hf d v (fun fr => K fr df h' y) with e | ⟨fr', hf', e⟩
  · exact .inl e
  · exact .inr ⟨fr', h', v, e, hf', hd⟩
noncomputable def aVal (x : Operand) : Arm := fun d _ E fr df h s K => fin E.N d (evX x fr) fr fun fr => K fr df h s
theorem aVal_move {P : Program} (x : Operand) : ArmOk P (aVal x) (.move x) := fun E fr a df h y K d ty p af g _ hf =>
  arm_fin hf rfl (.n rfl (by simp [nRes, aP, hf.eval]))
theorem aVal_assign {P : Program} (x : Operand) : ArmOk P (aVal x) (.assign x) := fun E fr a df h y K d ty p af g _ hf =>
  arm_fin hf rfl (.n rfl (by simp [nRes, aP, hf.eval]))
noncomputable def aPick (c a b : Operand) : Arm := fun d _ E fr df h s K => boolK (evX c fr) fun t => Bool.rec (motive := fun _ => Rs) (fin E.N d (evX b fr) fr fun fr => K fr df h s) (fin E.N d (evX a fr) fr fun fr => K fr df h s) t
theorem aPick_ok {P : Program} (c x z : Operand) : ArmOk P (aPick c x z) (.pick c x z) := fun E fr a df h y K d ty p af g _ hf => by
  unfold aPick
  rcases boolK_spec (evX c fr) (fun t => Bool.rec (motive := fun _ => Rs) (fin E.N d (evX z fr) fr fun fr => K fr df h y) (fin E.N d (evX x fr) fr fun fr => K fr df h y) t) with e | ⟨t, hc, e⟩
  · exact .inl e
  rw [hf.eval] at hc
  cases t with
  | true => exact arm_fin hf e (.n rfl (by simp [nRes, aP, hc, hf.eval]))
  | false => exact arm_fin hf e (.n rfl (by simp [nRes, aP, hc, hf.eval]))
noncomputable def aLoad (t : TypeId) (x : Operand) : Arm := fun d P E fr df h s K => ptrK (evX x fr) fun a => loadK P h t a fun v => fin E.N d v fr fun fr => K fr df h s
theorem aLoad_ok {P : Program} (t : TypeId) (x : Operand) : ArmOk P (aLoad t x) (.load t x) := fun E fr a df h y K d ty p af g _ hf => by
  unfold aLoad
  rcases ptrK_spec (evX x fr) (fun a => loadK P h t a fun v => fin E.N d v fr fun fr => K fr df h y) with e | ⟨ad, hx, e⟩
  · exact .inl e
  rw [e]
  rcases loadK_spec P h t ad (fun v => fin E.N d v fr fun fr => K fr df h y) with e | ⟨v, hv, e⟩
  · exact .inl e
  rw [hf.eval] at hx
  exact arm_fin hf e (.n rfl (by simp [nRes, aR, hx, hv]))
noncomputable def aStore (t : TypeId) (x v : Operand) : Arm := fun d P E fr df h s K => ptrK (evX x fr) fun a => storeK P h t a (evX v fr) fun h => fin E.N d undef fr fun fr => K fr df h s
theorem aStore_ok {P : Program} (t : TypeId) (x z : Operand) : ArmOk P (aStore t x z) (.store t x z) := fun E fr a df h y K d ty p af g _ hf => by
  unfold aStore
  rcases ptrK_spec (evX x fr) (fun a => storeK P h t a (evX z fr) fun h => fin E.N d undef fr fun fr => K fr df h y) with e | ⟨ad, hx, e⟩
  · exact .inl e
  rw [e]
  rcases storeK_spec P h t ad (evX z fr) (fun h => fin E.N d undef fr fun fr => K fr df h y) with e | ⟨h', e, hs⟩
  · exact .inl e
  rw [hf.eval] at hx
  rw [hf.eval] at hs
  exact arm_fin hf e (.e rfl rfl (by simp [aE, hx, hs]))
noncomputable def aAlloc (t : TypeId) : Arm := fun d P E fr df h s K => optK (szT P t) fun _ => optK (zeroT P t) fun z => pushRow h (.row ⟨z, t, 0, true⟩) fun h' => fin E.N d (.pointer (some ⟨h.next, 0, none⟩)) fr fun fr => K fr df h' s
theorem aAlloc_ok {P : Program} (t : TypeId) : ArmOk P (aAlloc t) (.alloc t) := fun E fr a df h y K d ty p af g _ hf => by
  unfold aAlloc
  rcases optK_spec (szT P t) (fun _ => optK (zeroT P t) fun z => pushRow h (.row ⟨z, t, 0, true⟩) fun h' => fin E.N d (.pointer (some ⟨h.next, 0, none⟩)) fr fun fr => K fr df h' y) with e | ⟨n, hn, e⟩
  · exact .inl e
  rw [e]
  rcases optK_spec (zeroT P t) (fun z => pushRow h (.row ⟨z, t, 0, true⟩) fun h' => fin E.N d (.pointer (some ⟨h.next, 0, none⟩)) fr fun fr => K fr df h' y) with e | ⟨z, hz, e⟩
  · exact .inl e
  rw [e]
  rcases pushRow_spec h (.row ⟨z, t, 0, true⟩) (fun h' => fin E.N d (.pointer (some ⟨h.next, 0, none⟩)) fr fun fr => K fr df h' y) with e | ⟨h', e, hh⟩
  · exact .inl e
  exact arm_fin hf e (.n rfl (by rw [hh]; simp [nRes, aA, hn, hz]; rfl))
noncomputable def aBox (t : TypeId) (x : Operand) : Arm := fun d P E fr df h s K => optK (szT P t) fun _ => pushRow h (.row ⟨(evX x fr).cells.toList, t, 0, true⟩) fun h' => fin E.N d (.pointer (some ⟨h.next, 0, none⟩)) fr fun fr => K fr df h' s
theorem aBox_ok {P : Program} (t : TypeId) (x : Operand) : ArmOk P (aBox t x) (.box t x) := fun E fr a df h y K d ty p af g _ hf => by
  unfold aBox
  rcases optK_spec (szT P t) (fun _ => pushRow h (.row ⟨(evX x fr).cells.toList, t, 0, true⟩) fun h' => fin E.N d (.pointer (some ⟨h.next, 0, none⟩)) fr fun fr => K fr df h' y) with e | ⟨n, hn, e⟩
  · exact .inl e
  rw [e]
  rcases pushRow_spec h (.row ⟨(evX x fr).cells.toList, t, 0, true⟩) (fun h' => fin E.N d (.pointer (some ⟨h.next, 0, none⟩)) fr fun fr => K fr df h' y) with e | ⟨h', e, hh⟩
  · exact .inl e
  exact arm_fin hf e (.n rfl (by rw [hh, hf.eval]; simp [nRes, aA, hn]; rfl))
/-! ### Operations that neither read nor write -/
noncomputable def aOpt (f : Program → (Operand → Value) → Option Value) : Arm := fun d P E fr df h s K => optK (f P fun x => evX x fr) fun v => fin E.N d v fr fun fr => K fr df h s
theorem aOpt_ok {P : Program} {f : Program → (Operand → Value) → Option Value} {op : Op} (hE : ∀ d ty p af g, isE ⟨d, op, ty, p, af, g⟩ = false)
    (hn : ∀ (a : Act) (H : AHeap) d ty p af g v, f P a.eval = some v → nRes P a H ⟨d, op, ty, p, af, g⟩ = some (v, H)) : ArmOk P (aOpt f) op := fun E fr a df h y K d ty p af g _ hf => by
  unfold aOpt
  rw [hf.fn]
  rcases optK_spec (f P a.eval) (fun v => fin E.N d v fr fun fr => K fr df h y) with e | ⟨v, hv, e⟩
  · exact .inl e
  exact arm_fin hf e (.n (hE ..) (hn _ _ _ _ _ _ _ _ hv))
def nilE : Value → Option Value
  | .pointer (some a) => some (.pointer (some a))
  | .iface t v => some (.iface t v)
  | .func (.func f) xs us => some (.func (.func f) xs us)
  | _ => none
theorem aNil_ok {P : Program} (x : Operand) : ArmOk P (aOpt fun _ ev => nilE (ev x)) (.nilCheck x) := aOpt_ok (fun _ _ _ _ _ => rfl) fun a H d ty p af g v hv => by
  simp only [nRes, aP]
  unfold nilE at hv
  split at hv <;> simp only [Option.some.injEq, reduceCtorEq] at hv <;> subst hv <;> rename_i hx <;> simp [hx]
theorem aExt_ok {P : Program} (x : Operand) (i : Nat) : ArmOk P (aOpt fun _ ev => extractA (ev x) i) (.extract x i) := aOpt_ok (fun _ _ _ _ _ => rfl) fun a H d ty p af g v hv => by
  simp [nRes, aP, hv]
theorem aFieldV_ok {P : Program} (t : TypeId) (x : Operand) (f : Nat) : ArmOk P (aOpt fun P ev => fieldA P t (ev x) f) (.field t x f) := aOpt_ok (fun _ _ _ _ _ => rfl) fun a H d ty p af g v hv => by
  simp [nRes, aP, hv]
theorem aAssert_ok {P : Program} (x : Operand) (xt t : TypeId) (ok : Bool) : ArmOk P (aOpt fun P ev => assertA P (ev x) t ok) (.typeAssert x xt t ok) := aOpt_ok (fun _ _ _ _ _ => rfl) fun a H d ty p af g v hv => by
  simp [nRes, aP, hv]
def mkIfaceE (P : Program) (t : TypeId) (v : Value) : Option Value := match P.underlying t with
  | some (.interface _) => none
  | some _ => some (.iface t v)
  | none => none
theorem aMkIface_ok {P : Program} (t : TypeId) (x : Operand) : ArmOk P (aOpt fun P ev => mkIfaceE P t (ev x)) (.makeInterface t x) := aOpt_ok (fun _ _ _ _ _ => rfl) fun a H d ty p af g v hv => by
  simp only [nRes, aP]
  unfold mkIfaceE at hv
  split at hv <;> simp only [Option.some.injEq, reduceCtorEq] at hv
  subst hv
  rename_i d' hd hu
  simp only [hu]
  cases d' <;> first | rfl | exact absurd rfl (hd _)
theorem aBuildV_ok {P : Program} (t : TypeId) (ps : Array (Nat × Operand)) : ArmOk P (aOpt fun P ev => builtA P t (ps.toList.map fun p => (p.1, ev p.2))) (.build t ps) := aOpt_ok (fun _ _ _ _ _ => rfl) fun a H d ty p af g v hv => by
  have : evParts a.eval ps = ps.toList.map fun p => (p.1, a.eval p.2) := by simp [evParts]
  simp [nRes, aP, this, hv]
/-- By the slow form. -/
theorem aSlow_ok {P : Program} (op : Op) (hE : ∀ d ty p af g, isE ⟨d, op, ty, p, af, g⟩ = false) (hn : ∀ a H d ty p af g, nRes P a H ⟨d, op, ty, p, af, g⟩ = (aP P a.eval ⟨none, op, 0, "", #[], none⟩).map fun v => (v, H)) :
    ArmOk P (aOpt fun P ev => aP P ev ⟨none, op, 0, "", #[], none⟩) op := aOpt_ok hE fun a H d ty p af g v hv => by
  rw [hn, hv]; rfl
theorem aUn_ok {P : Program} (o : UnOp) (t : TypeId) (x : Operand) : ArmOk P (aOpt fun P ev => aP P ev ⟨none, .unOp o t x, 0, "", #[], none⟩) (.unOp o t x) := aSlow_ok _ (fun _ _ _ _ _ => rfl) (fun _ _ _ _ _ _ _ => rfl)
theorem aSliceS_ok {P : Program} (t : TypeId) (x : Operand) (l u m : Option Operand) : ArmOk P (aOpt fun P ev => aP P ev ⟨none, .slice t x l u m, 0, "", #[], none⟩) (.slice t x l u m) := aSlow_ok _ (fun _ _ _ _ _ => rfl) (fun _ _ _ _ _ _ _ => rfl)
theorem aIndexS_ok {P : Program} (t : TypeId) (x i : Operand) : ArmOk P (aOpt fun P ev => aP P ev ⟨none, .index t x i, 0, "", #[], none⟩) (.index t x i) := aSlow_ok _ (fun _ _ _ _ _ => rfl) (fun _ _ _ _ _ _ _ => rfl)
theorem aBinS_ok {P : Program} (o : BinOp) (t yt : TypeId) (x z : Operand) : ArmOk P (aOpt fun P ev => aP P ev ⟨none, .binOp o t x z yt, 0, "", #[], none⟩) (.binOp o t x z yt) := aSlow_ok _ (fun _ _ _ _ _ => rfl) (fun _ _ _ _ _ _ _ => rfl)
/-! ### Places -/
def fOffE (P : Program) (s : TypeId) (f : Nat) : Option Nat := match P.underlying s with
  | some (.struct fs) => match fs[f]? with
    | some fd => match szT P fd.type with
      | some (_ + 1) => some fd.offset
      | _ => none
    | none => none
  | _ => none
noncomputable def aFld (t : TypeId) (x : Operand) (f : Nat) : Arm := fun d P E fr df h s K => ptrK (evX x fr) fun a => optK (fOffE P t f) fun n => fin E.N d (.pointer (some ⟨a.block, Nat.add a.off n, a.spot⟩)) fr fun fr => K fr df h s
theorem aFld_ok {P : Program} (t : TypeId) (x : Operand) (f : Nat) : ArmOk P (aFld t x f) (.fieldAddr t x f) := fun E fr a df h y K d ty p af g _ hf => by
  unfold aFld
  rcases ptrK_spec (evX x fr) (fun a => optK (fOffE P t f) fun n => fin E.N d (.pointer (some ⟨a.block, Nat.add a.off n, a.spot⟩)) fr fun fr => K fr df h y) with e | ⟨ad, hx, e⟩
  · exact .inl e
  rw [e]
  rcases optK_spec (fOffE P t f) (fun n => fin E.N d (.pointer (some ⟨ad.block, Nat.add ad.off n, ad.spot⟩)) fr fun fr => K fr df h y) with e | ⟨n, hn, e⟩
  · exact .inl e
  rw [hf.eval] at hx
  refine arm_fin hf e (.n rfl ?_)
  have : fieldAddrA P t (.pointer (some ad)) f = some (.pointer (some (aadd ad n))) := by
    unfold fOffE at hn
    unfold fieldAddrA
    split at hn
    · rename_i fs hu
      rw [hu]
      split at hn
      · rename_i fd hfd
        simp only [hfd]
        split at hn
        · rename_i k hk
          obtain rfl := Option.some.inj hn
          simp only [hk]
        · cases hn
      · cases hn
    · cases hn
  simp only [nRes, aP, hx, this, Option.map_some]
  rfl
noncomputable def natK (n : Int) : Rs → (Nat → Rs) → Rs := Int.rec (motive := fun _ => Rs → (Nat → Rs) → Rs) (fun n _ K => K n) (fun _ z _ => z) n
theorem natK_spec (n : Int) (z : Rs) (K : Nat → Rs) : natK n z K = z ∨ ∃ m : Nat, n = Int.ofNat m ∧ natK n z K = K m := by
  cases n with
  | ofNat m => exact .inr ⟨m, rfl, rfl⟩
  | negSucc m => exact .inl rfl
def idxS (P : Program) (t : TypeId) : Option (Option Nat × Nat) := match P.underlying t with
  | some (.slice e) => match szT P e with
    | some n => some (none, n)
    | none => none
  | some (.array l e) => match szT P e with
    | some n => some (some l, n)
    | none => none
  | _ => none
noncomputable def idxK (q : Option Nat) (x : Value) (i n : Nat) (K : Value → Rs) : Rs := Option.rec (motive := fun _ => Rs)
  (sliceK x .bad fun a len _ => ifB (Nat.blt i len) (K (.pointer (some ⟨a.block, Nat.add a.off (Nat.mul i n), a.spot⟩))))
  (fun len => ptrK x fun a => ifB (Nat.blt i len) (K (.pointer (some ⟨a.block, Nat.add a.off (Nat.mul i n), a.spot⟩)))) q
noncomputable def aIdx (t : TypeId) (x i : Operand) : Arm := fun d P E fr df h s K => intK (evX i fr) .bad fun _ i => natK i .bad fun i => optK (idxS P t) fun q => idxK q.1 (evX x fr) i q.2 fun v => fin E.N d v fr fun fr => K fr df h s
theorem idxK_spec {P : Program} {t : TypeId} {q : Option Nat × Nat} (hq : idxS P t = some q) (x : Value) (k : IntKind) (i : Nat) (K : Value → Rs) : idxK q.1 x i q.2 K = .bad ∨ ∃ v, indexAddrA P t x (.int k (Int.ofNat i)) = some v ∧ idxK q.1 x i q.2 K = K v := by
  unfold idxS at hq
  split at hq
  · rename_i e hu
    split at hq
    · rename_i n hn
      obtain rfl := Option.some.inj hq
      show sliceK x .bad _ = .bad ∨ _
      rcases sliceK_spec x .bad (fun a len _ => ifB (Nat.blt i len) (K (.pointer (some ⟨a.block, Nat.add a.off (Nat.mul i n), a.spot⟩)))) with e | ⟨a, len, c, rfl, e⟩
      · exact .inl e
      rcases ifB_spec (Nat.blt i len) (K (.pointer (some ⟨a.block, Nat.add a.off (Nat.mul i n), a.spot⟩))) with e' | ⟨hb, e'⟩
      · exact .inl (e.trans e')
      rw [Nat.blt_eq] at hb
      have hc : (0 : Int) ≤ Int.ofNat i ∧ Int.ofNat i < (len : Int) := ⟨Int.natCast_nonneg i, Int.ofNat_lt.2 hb⟩
      exact .inr ⟨_, by simp only [indexAddrA, hu, hn]; rw [if_pos hc]; rfl, e.trans e'⟩
    · cases hq
  · rename_i l e hu
    split at hq
    · rename_i n hn
      obtain rfl := Option.some.inj hq
      show ptrK x _ = .bad ∨ _
      rcases ptrK_spec x (fun a => ifB (Nat.blt i l) (K (.pointer (some ⟨a.block, Nat.add a.off (Nat.mul i n), a.spot⟩)))) with e | ⟨a, rfl, e⟩
      · exact .inl e
      rcases ifB_spec (Nat.blt i l) (K (.pointer (some ⟨a.block, Nat.add a.off (Nat.mul i n), a.spot⟩))) with e' | ⟨hb, e'⟩
      · exact .inl (e.trans e')
      rw [Nat.blt_eq] at hb
      have hc : (0 : Int) ≤ Int.ofNat i ∧ Int.ofNat i < (l : Int) := ⟨Int.natCast_nonneg i, Int.ofNat_lt.2 hb⟩
      exact .inr ⟨_, by simp only [indexAddrA, hu, hn]; rw [if_pos hc]; rfl, e.trans e'⟩
    · cases hq
  · cases hq
theorem aIdx_ok {P : Program} (t : TypeId) (x i : Operand) : ArmOk P (aIdx t x i) (.indexAddr t x i) := fun E fr a df h y K d ty p af g _ hf => by
  unfold aIdx
  rcases intK_spec (evX i fr) .bad (fun _ i => natK i .bad fun i => optK (idxS P t) fun q => idxK q.1 (evX x fr) i q.2 fun v => fin E.N d v fr fun fr => K fr df h y) with e | ⟨k, n, hi, e⟩
  · exact .inl e
  rw [e]
  rcases natK_spec n .bad (fun i => optK (idxS P t) fun q => idxK q.1 (evX x fr) i q.2 fun v => fin E.N d v fr fun fr => K fr df h y) with e | ⟨m, rfl, e⟩
  · exact .inl e
  rw [e]
  rcases optK_spec (idxS P t) (fun q => idxK q.1 (evX x fr) m q.2 fun v => fin E.N d v fr fun fr => K fr df h y) with e | ⟨q, hq, e⟩
  · exact .inl e
  rw [e]
  rcases idxK_spec hq (evX x fr) k m (fun v => fin E.N d v fr fun fr => K fr df h y) with e | ⟨v, hv, e⟩
  · exact .inl e
  rw [hf.eval] at hi hv
  exact arm_fin hf e (.n rfl (by simp [nRes, aP, hi]; exact hv))
/-! ### New rows, closures -/
noncomputable def aRow (f : Program → (Operand → Value) → Option (Row × (Nat → Value))) : Arm := fun d P E fr df h s K => optK (f P fun x => evX x fr) fun q => pushRow h (.row q.1) fun h' => fin E.N d (q.2 h.next) fr fun fr => K fr df h' s
theorem aRow_ok {P : Program} {f : Program → (Operand → Value) → Option (Row × (Nat → Value))} {op : Op} (hE : ∀ d ty p af g, isE ⟨d, op, ty, p, af, g⟩ = false)
    (hn : ∀ (a : Act) (H : AHeap) d ty p af g q, f P a.eval = some q → nRes P a H ⟨d, op, ty, p, af, g⟩ = some (q.2 H.next, H.push (.row q.1))) : ArmOk P (aRow f) op := fun E fr a df h y K d ty p af g _ hf => by
  unfold aRow
  rw [hf.fn]
  rcases optK_spec (f P a.eval) (fun q => pushRow h (.row q.1) fun h' => fin E.N d (q.2 h.next) fr fun fr => K fr df h' y) with e | ⟨q, hq, e⟩
  · exact .inl e
  rw [e]
  rcases pushRow_spec h (.row q.1) (fun h' => fin E.N d (q.2 h.next) fr fun fr => K fr df h' y) with e | ⟨h', e, hh⟩
  · exact .inl e
  exact arm_fin hf e (.n (hE ..) (by rw [hh, hn _ _ _ _ _ _ _ _ hq]; rfl))
theorem aBuildSlice_ok {P : Program} (t : TypeId) (n : Nat) (ps : Array (Nat × Operand)) : ArmOk P (aRow fun P ev => aA P ev ⟨none, .buildSlice t n ps, 0, "", #[], none⟩) (.buildSlice t n ps) := aRow_ok (fun _ _ _ _ _ => rfl) fun a H d ty p af g q hq => by
  have : aA P a.eval ⟨d, .buildSlice t n ps, ty, p, af, g⟩ = aA P a.eval ⟨none, .buildSlice t n ps, 0, "", #[], none⟩ := rfl
  simp only [nRes, this, hq, Option.map_some]
theorem aMakeSlice_ok {P : Program} (t : TypeId) (l c : Operand) : ArmOk P (aRow fun P ev => aA P ev ⟨none, .makeSlice t l c, 0, "", #[], none⟩) (.makeSlice t l c) := aRow_ok (fun _ _ _ _ _ => rfl) fun a H d ty p af g q hq => by
  have : aA P a.eval ⟨d, .makeSlice t l c, ty, p, af, g⟩ = aA P a.eval ⟨none, .makeSlice t l c, 0, "", #[], none⟩ := rfl
  simp only [nRes, this, hq, Option.map_some]
theorem aFunc_ok {P : Program} (fn : Fn) (x c : Array Operand) : ArmOk P (aOpt fun _ ev => some (.func fn ⟨x.toList.map ev⟩ ⟨c.toList.map ev⟩)) (.makeFunc fn x c) := aOpt_ok (fun _ _ _ _ _ => rfl) fun a H d ty p af g v hv => by
  obtain rfl := Option.some.inj hv
  have e : ∀ z : Array Operand, (⟨z.toList.map a.eval⟩ : Array Value) = z.map a.eval := fun z => by apply Array.ext'; simp
  simp only [nRes, aP, Option.map_some, e]
end Go.Ae

/- The evaluator's operations: conversions, sums, builtins, calls. Code over the abstract heap, in a plain frame or in that of a loop's body. -/
import Derived.Test.YtmibkoadjehdaaaGreatDoorKy29
import Derived.Test.YtmibkoadjehdaaaGreatDoorKy22
import Derived.RangeFuncIn
import Derived.RangeFuncLeaves
import Derived.RangeFuncRecord
set_option linter.unusedVariables false
set_option linter.unusedSimpArgs false
namespace Go.Ae
noncomputable def orK {α : Type} (x : Option α) (z : Rs) (K : α → Rs) : Rs := Option.rec (motive := fun _ => Rs) z K x
/-! ### Conversions -/
noncomputable def aConv (s t : TypeId) (x : Operand) : Arm := fun d P E fr df h y K =>
  orK (aR P (fun x => evX x fr) (toH h) ⟨none, .convert s t x, 0, "", #[], none⟩)
    (orK (aA P (fun x => evX x fr) ⟨none, .convert s t x, 0, "", #[], none⟩)
      (optK (aP P (fun x => evX x fr) ⟨none, .convert s t x, 0, "", #[], none⟩) fun v => fin E.N d v fr fun fr => K fr df h y)
      fun q => pushRow h (.row q.1) fun h' => fin E.N d (q.2 h.next) fr fun fr => K fr df h' y)
    fun v => fin E.N d v fr fun fr => K fr df h y
theorem aConv_ok {P : Program} (s t : TypeId) (x : Operand) : ArmOk P (aConv s t x) (.convert s t x) := fun E fr a df h y K d ty p af g _ hf => by
  unfold aConv
  rw [hf.fn]
  have e1 : aR P a.eval (toH h) ⟨d, .convert s t x, ty, p, af, g⟩ = aR P a.eval (toH h) ⟨none, .convert s t x, 0, "", #[], none⟩ := rfl
  have e2 : aA P a.eval ⟨d, .convert s t x, ty, p, af, g⟩ = aA P a.eval ⟨none, .convert s t x, 0, "", #[], none⟩ := rfl
  have e3 : aP P a.eval ⟨d, .convert s t x, ty, p, af, g⟩ = aP P a.eval ⟨none, .convert s t x, 0, "", #[], none⟩ := rfl
  cases hR : aR P a.eval (toH h) ⟨none, .convert s t x, 0, "", #[], none⟩ with
  | some v => exact arm_fin hf rfl (.n rfl (by simp only [nRes, e1, hR]))
  | none =>
    cases hA : aA P a.eval ⟨none, .convert s t x, 0, "", #[], none⟩ with
    | some q =>
      show pushRow h (.row q.1) (fun h' => fin E.N d (q.2 h.next) fr fun fr => K fr df h' y) = .bad ∨ _
      rcases pushRow_spec h (.row q.1) (fun h' => fin E.N d (q.2 h.next) fr fun fr => K fr df h' y) with e | ⟨h', e, hh⟩
      · exact .inl e
      · exact arm_fin hf e (.n rfl (by rw [hh]; simp only [nRes, e1, hR, e2, hA]; rfl))
    | none =>
      show optK (aP P a.eval ⟨none, .convert s t x, 0, "", #[], none⟩) (fun v => fin E.N d v fr fun fr => K fr df h y) = .bad ∨ _
      rcases optK_spec (aP P a.eval ⟨none, .convert s t x, 0, "", #[], none⟩) (fun v => fin E.N d v fr fun fr => K fr df h y) with e | ⟨v, hv, e⟩
      · exact .inl e
      · exact arm_fin hf e (.n rfl (by simp only [nRes, e1, hR, e2, hA, e3, hv, Option.map_some]))
/-! ### Sums and comparisons of small numbers -/
noncomputable def natCmp (op : BinOp) : Nat → Nat → Rs → (Value → Rs) → Rs :=
  BinOp.rec (motive := fun _ => Nat → Nat → Rs → (Value → Rs) → Rs)
    (fun a b z K => Bool.rec (motive := fun _ => Rs) z (K (.int .i64 (Int.ofNat (Nat.add a b)))) (Nat.blt (Nat.add a b) 9223372036854775808))
    (fun a b z K => Bool.rec (motive := fun _ => Rs) z (K (.int .i64 (Int.ofNat (Nat.sub a b)))) (and (Nat.ble b a) (Nat.blt a 9223372036854775808)))
    (fun _ _ z _ => z) (fun _ _ z _ => z) (fun _ _ z _ => z) (fun _ _ z _ => z) (fun _ _ z _ => z) (fun _ _ z _ => z) (fun _ _ z _ => z) (fun _ _ z _ => z) (fun _ _ z _ => z)
    (fun a b _ K => K (.bool (Nat.beq a b))) (fun a b _ K => K (.bool (not (Nat.beq a b)))) (fun a b _ K => K (.bool (Nat.blt a b))) (fun a b _ K => K (.bool (Nat.ble a b)))
    (fun a b _ K => K (.bool (Nat.blt b a))) (fun a b _ K => K (.bool (Nat.ble b a))) op
noncomputable def isI64 (k : IntKind) : Bool := IntKind.rec (motive := fun _ => Bool) false false false true false false false false k
theorem isI64_spec {k : IntKind} (h : isI64 k = true) : k = .i64 := by cases k <;> first | rfl | cases h
noncomputable def binI (op : BinOp) (k k' : IntKind) (a b : Int) (z : Rs) (K : Value → Rs) : Rs :=
  Bool.rec (motive := fun _ => Rs) z (Bool.rec (motive := fun _ => Rs) z (natK a z fun a => natK b z fun b => natCmp op a b z K) (isI64 k')) (isI64 k)
theorem wrap_small {n : Nat} (h : n < 9223372036854775808) : IntKind.i64.wrap (n : Int) = (n : Int) := by
  unfold IntKind.wrap
  simp only [IntKind.bits, IntKind.signed]
  have : (n : Int) % (2 ^ 64 : Int) = n := by omega
  simp only [this]
  rw [if_neg]
  simp only [Bool.true_and, decide_eq_true_eq]
  omega
theorem natCmp_spec (P : Program) (op : BinOp) (a b : Nat) (z : Rs) (K : Value → Rs) : natCmp op a b z K = z ∨ ∃ v, natCmp op a b z K = K v ∧
    ∀ (ev : Operand → Value) (t yt : TypeId) (x y : Operand), ev x = .int .i64 (Int.ofNat a) → ev y = .int .i64 (Int.ofNat b) → aP P ev ⟨none, .binOp op t x y yt, 0, "", #[], none⟩ = some v := by
  have go : ∀ (v : Value), simpleV v = true → (∀ (t : TypeId), quiet P (binOp op t (.int .i64 (Int.ofNat a)) (.int .i64 (Int.ofNat b))) = some v) → ∀ (ev : Operand → Value) (t yt : TypeId) (x y : Operand), ev x = .int .i64 (Int.ofNat a) → ev y = .int .i64 (Int.ofNat b) → aP P ev ⟨none, .binOp op t x y yt, 0, "", #[], none⟩ = some v := by
    intro v hv h ev t yt x y hx hy
    have hg : quiet P (eqGuard op t x y (.int .i64 (Int.ofNat a)) (.int .i64 (Int.ofNat b))) = some () := by
      unfold eqGuard
      cases op <;> rfl
    have hs : ((Op.binOp op t x y yt).operands.all fun z => simpleV (ev z)) = true := by
      simp [Op.operands, hx, hy, simpleV]
    have hq : quiet P (execOp ev ⟨none, .binOp op t x y yt, 0, "", #[], none⟩) = some (.value v) := by
      simp only [execOp, quiet_bind, hx, hy, hg, h, Option.bind_some, quiet_pure]
    have hs2 : (simpleV (ev x) && simpleV (ev y)) = true := by rw [hx, hy]; rfl
    simp only [aP]
    rw [if_pos hs2]
    unfold quietOp
    rw [if_pos hs, hq]
    simp only [hv, if_true]
  cases op with
  | add =>
    show Bool.rec (motive := fun _ => Rs) z (K (.int .i64 (Int.ofNat (Nat.add a b)))) (Nat.blt (Nat.add a b) 9223372036854775808) = z ∨ _
    cases hb : Nat.blt (Nat.add a b) 9223372036854775808 with
    | false => exact .inl rfl
    | true =>
      refine .inr ⟨.int .i64 (Int.ofNat (Nat.add a b)), ?_, go _ rfl fun t => ?_⟩
      · show Bool.rec (motive := fun _ => Rs) z (K (.int .i64 (Int.ofNat (Nat.add a b)))) (Nat.blt (Nat.add a b) 9223372036854775808) = _
        rw [hb]
      · rw [Nat.blt_eq] at hb
        have := wrap_small hb
        simp only [binOp, Op.intArith, ne_eq, not_true_eq_false, if_false, quiet_pure, Option.some.injEq, Value.int.injEq, true_and]
        exact this
  | sub =>
    show Bool.rec (motive := fun _ => Rs) z (K (.int .i64 (Int.ofNat (Nat.sub a b)))) (and (Nat.ble b a) (Nat.blt a 9223372036854775808)) = z ∨ _
    cases hb : and (Nat.ble b a) (Nat.blt a 9223372036854775808) with
    | false => exact .inl rfl
    | true =>
      refine .inr ⟨.int .i64 (Int.ofNat (Nat.sub a b)), ?_, go _ rfl fun t => ?_⟩
      · show Bool.rec (motive := fun _ => Rs) z (K (.int .i64 (Int.ofNat (Nat.sub a b)))) (and (Nat.ble b a) (Nat.blt a 9223372036854775808)) = _
        rw [hb]
      · simp only [Bool.and_eq_true, Nat.ble_eq, Nat.blt_eq] at hb
        have h1 : ((Int.ofNat a : Int) - Int.ofNat b) = ((a - b : Nat) : Int) := by
          show ((a : Int) - (b : Int)) = _
          omega
        have h2 : a - b < 9223372036854775808 := by omega
        have := wrap_small h2
        simp only [binOp, Op.intArith, ne_eq, not_true_eq_false, if_false, quiet_pure, Option.some.injEq, Value.int.injEq, true_and]
        rw [h1]
        exact this
  | eql =>
    refine .inr ⟨_, rfl, go _ rfl fun t => ?_⟩
    simp only [binOp, Op.intCmp, ne_eq, not_true_eq_false, if_false, quiet_pure, Option.some.injEq, Value.bool.injEq]
    rw [Bool.eq_iff_iff]; simp [Nat.beq_eq, Int.natCast_inj]
  | neq =>
    refine .inr ⟨_, rfl, go _ rfl fun t => ?_⟩
    simp only [binOp, Op.intCmp, ne_eq, not_true_eq_false, if_false, quiet_pure, Option.some.injEq, Value.bool.injEq]
    rw [Bool.eq_iff_iff]; simp [bne, ← Bool.not_eq_true, Nat.beq_eq, Int.natCast_inj]
  | lss =>
    refine .inr ⟨_, rfl, go _ rfl fun t => ?_⟩
    simp only [binOp, Op.intCmp, ne_eq, not_true_eq_false, if_false, quiet_pure, Option.some.injEq, Value.bool.injEq]
    rw [Bool.eq_iff_iff]; simp [Nat.blt_eq]
  | leq =>
    refine .inr ⟨_, rfl, go _ rfl fun t => ?_⟩
    simp only [binOp, Op.intCmp, ne_eq, not_true_eq_false, if_false, quiet_pure, Option.some.injEq, Value.bool.injEq]
    rw [Bool.eq_iff_iff]; simp [Nat.ble_eq]
  | gtr =>
    refine .inr ⟨_, rfl, go _ rfl fun t => ?_⟩
    simp only [binOp, Op.intCmp, ne_eq, not_true_eq_false, if_false, quiet_pure, Option.some.injEq, Value.bool.injEq]
    rw [Bool.eq_iff_iff]; simp [Nat.blt_eq]
  | geq =>
    refine .inr ⟨_, rfl, go _ rfl fun t => ?_⟩
    simp only [binOp, Op.intCmp, ne_eq, not_true_eq_false, if_false, quiet_pure, Option.some.injEq, Value.bool.injEq]
    rw [Bool.eq_iff_iff]; simp [Nat.ble_eq]
  | _ => exact .inl rfl
noncomputable def aBinV (op : BinOp) (t : TypeId) (x y : Operand) (yt : TypeId) (P : Program) (fr : TV) (K : Value → Rs) : Rs :=
  intK (evX x fr) (optK (aP P (fun x => evX x fr) ⟨none, .binOp op t x y yt, 0, "", #[], none⟩) K) fun k a =>
  intK (evX y fr) .bad fun k' b => binI op k k' a b (optK (aP P (fun x => evX x fr) ⟨none, .binOp op t x y yt, 0, "", #[], none⟩) K) K
theorem aBinV_spec {P : Program} (op : BinOp) (t yt : TypeId) (x z : Operand) {N : Nat} {fr : TV} {a : Act} (hf : FR N fr a) (K : Value → Rs) : aBinV op t x z yt P fr K = .bad ∨ ∃ v, aBinV op t x z yt P fr K = K v ∧ aP P a.eval ⟨none, .binOp op t x z yt, 0, "", #[], none⟩ = some v := by
  have slow : optK (aP P (fun x => evX x fr) ⟨none, .binOp op t x z yt, 0, "", #[], none⟩) K = .bad ∨ ∃ v, optK (aP P (fun x => evX x fr) ⟨none, .binOp op t x z yt, 0, "", #[], none⟩) K = K v ∧ aP P a.eval ⟨none, .binOp op t x z yt, 0, "", #[], none⟩ = some v := by
    rw [hf.fn]
    rcases optK_spec (aP P a.eval ⟨none, .binOp op t x z yt, 0, "", #[], none⟩) K with e | ⟨v, hv, e⟩
    · exact .inl e
    · exact .inr ⟨v, e, hv⟩
  unfold aBinV
  generalize hs : optK (aP P (fun x => evX x fr) ⟨none, .binOp op t x z yt, 0, "", #[], none⟩) K = S at slow ⊢
  rcases intK_spec (evX x fr) S (fun k a => intK (evX z fr) .bad fun k' b => binI op k k' a b S K) with e | ⟨k, n, hx, e⟩
  · rw [e]; exact slow
  rw [e]
  rcases intK_spec (evX z fr) .bad (fun k' b => binI op k k' n b S K) with e | ⟨k', m, hz, e⟩
  · exact .inl e
  rw [e]
  unfold binI
  cases hk : isI64 k with
  | false => exact slow
  | true =>
    cases hk' : isI64 k' with
    | false => exact slow
    | true =>
      show natK n S (fun a => natK m S fun b => natCmp op a b S K) = .bad ∨ ∃ v, natK n S (fun a => natK m S fun b => natCmp op a b S K) = K v ∧ _
      obtain rfl := isI64_spec hk
      obtain rfl := isI64_spec hk'
      rcases natK_spec n S (fun a => natK m S fun b => natCmp op a b S K) with e | ⟨n', rfl, e⟩
      · rw [e]; exact slow
      rw [e]
      rcases natK_spec m S (fun b => natCmp op n' b S K) with e | ⟨m', rfl, e⟩
      · rw [e]; exact slow
      rw [e]
      rcases natCmp_spec P op n' m' S K with e | ⟨v, e, hv⟩
      · rw [e]; exact slow
      rw [hf.eval] at hx hz
      exact .inr ⟨v, e, hv a.eval t yt x z hx hz⟩
noncomputable def aBin (op : BinOp) (t : TypeId) (x y : Operand) (yt : TypeId) : Arm := fun d P E fr df h s K => aBinV op t x y yt P fr fun v => finC E.Z E.N d v fr fun fr => K fr df h s
theorem aBin_ok {P : Program} (op : BinOp) (t yt : TypeId) (x z : Operand) : ArmRes P (aBin op t x z yt) (.binOp op t x z yt) := fun E fr a df h y K d ty p af g o hE hf hr => by
  have hr1 : Res P (aBinV op t x z yt P fr fun v => finC E.Z E.N d v fr fun fr => K fr df h y) o := hr
  rcases aBinV_spec op t yt x z hf (fun v => finC E.Z E.N d v fr fun fr => K fr df h y) with e | ⟨v, e, hv⟩
  · rw [e] at hr1; cases hr1
  rw [e] at hr1
  obtain ⟨fr', hf', hr2⟩ := finC_res hf hr1
  refine ⟨fr', h, v, hr2, hf', .n rfl ?_⟩
  have h2 : aP P a.eval ⟨d, .binOp op t x z yt, ty, p, af, g⟩ = aP P a.eval ⟨none, .binOp op t x z yt, 0, "", #[], none⟩ := rfl
  simp only [nRes, h2, hv, Option.map_some]
/-! ### Builtins -/
theorem blt_aE {P : Program} {ev : Operand → Value} {H : AHeap} {b : Builtin} {l : List Operand} {ts : List TypeId} {d : Option Tmp} {ty : TypeId} {p : String} {af : Array Edge} {g : Option (Nat × Bool)} :
    aE P ev H ⟨d, .call ⟨.builtin b, ⟨l⟩, ⟨ts⟩⟩, ty, p, af, g⟩ = bltA b l ts P ev H := by
  unfold aE bltA
  simp only
  cases b <;> rcases l with _ | ⟨x, _ | ⟨y, _ | ⟨z, l⟩⟩⟩ <;> rcases ts with _ | ⟨t, _ | ⟨u, _ | ⟨v, ts⟩⟩⟩ <;> rfl
noncomputable def isW (b : Builtin) : Bool := match b with
  | .append | .copy | .unsafeSliceData | .unsafeString => true
  | _ => false
noncomputable def aBlt (b : Builtin) (l : List Operand) (ts : List TypeId) : Arm := aUp (fun P ev H => bltA b l ts P ev H) fun ev => headBlk l ev
theorem aBlt_ok {P : Program} (b : Builtin) (l : List Operand) (ts : List TypeId) (hb : isW b = true) : ArmOk P (aBlt b l ts) (.call ⟨.builtin b, ⟨l⟩, ⟨ts⟩⟩) :=
  aUp_ok (fun _ _ _ _ _ => by cases b <;> first | rfl | cases hb) (fun _ _ _ _ _ _ _ _ _ _ => rfl) (fun _ _ _ _ _ _ _ => blt_aE) fun a H H' v h => bltA_up h
noncomputable def isL (b : Builtin) : Bool := match b with
  | .len | .cap | .min | .max => true
  | _ => false
noncomputable def aLen (b : Builtin) (l : List Operand) (ts : List TypeId) : Arm := fun d P E fr df h s K => optK (aP P (fun x => evX x fr) ⟨none, .call ⟨.builtin b, ⟨l⟩, ⟨ts⟩⟩, 0, "", #[], none⟩) fun v => finL E.Z E.N d v fr fun fr => K fr df h s
theorem aLen_ok {P : Program} (b : Builtin) (l : List Operand) (ts : List TypeId) (hb : isL b = true) : ArmOk P (aLen b l ts) (.call ⟨.builtin b, ⟨l⟩, ⟨ts⟩⟩) := fun E fr a df h y K d ty p af g hE hf => by
  unfold aLen
  rw [hf.fn]
  rcases optK_spec (aP P a.eval ⟨none, .call ⟨.builtin b, ⟨l⟩, ⟨ts⟩⟩, 0, "", #[], none⟩) (fun v => finL E.Z E.N d v fr fun fr => K fr df h y) with e | ⟨v, hv, e⟩
  · exact .inl e
  rw [e]
  rcases finL_spec (Z := E.Z) hf d v (fun fr => K fr df h y) with e | ⟨fr', hf', e⟩
  · exact .inl e
  refine .inr ⟨fr', h, v, e, hf', .n (by cases b <;> first | rfl | cases hb) ?_⟩
  have he : execOp a.eval ⟨d, .call ⟨.builtin b, ⟨l⟩, ⟨ts⟩⟩, ty, p, af, g⟩ = execOp a.eval ⟨none, .call ⟨.builtin b, ⟨l⟩, ⟨ts⟩⟩, 0, "", #[], none⟩ := by
    cases b <;> first | rfl | cases hb
  have hq : quietOp P a.eval ⟨d, .call ⟨.builtin b, ⟨l⟩, ⟨ts⟩⟩, ty, p, af, g⟩ = quietOp P a.eval ⟨none, .call ⟨.builtin b, ⟨l⟩, ⟨ts⟩⟩, 0, "", #[], none⟩ := by
    unfold quietOp
    rw [he]
  have : aP P a.eval ⟨d, .call ⟨.builtin b, ⟨l⟩, ⟨ts⟩⟩, ty, p, af, g⟩ = aP P a.eval ⟨none, .call ⟨.builtin b, ⟨l⟩, ⟨ts⟩⟩, 0, "", #[], none⟩ := by
    unfold aP
    simp only [hq]
  simp only [nRes, this, hv, Option.map_some]
noncomputable def aBuilt (b : Builtin) (l : List Operand) (ts : List TypeId) : Arm := fun d P E fr df h y K =>
  Bool.rec (motive := fun _ => Rs) (ifB (isW b) (aBlt b l ts d P E fr df h y K)) (aLen b l ts d P E fr df h y K) (isL b)
theorem aBuilt_ok {P : Program} (b : Builtin) (l : List Operand) (ts : List TypeId) : ArmOk P (aBuilt b l ts) (.call ⟨.builtin b, ⟨l⟩, ⟨ts⟩⟩) := fun E fr a df h y K d ty p af g hE hf => by
  unfold aBuilt
  cases hL : isL b with
  | true => exact aLen_ok b l ts hL E fr a df h y K d ty p af g hE hf
  | false =>
    show ifB (isW b) (aBlt b l ts d P E fr df h y K) = .bad ∨ _
    rcases ifB_spec (isW b) (aBlt b l ts d P E fr df h y K) with e | ⟨hW, e⟩
    · exact .inl e
    rw [e]
    exact aBlt_ok b l ts hW E fr a df h y K d ty p af g hE hf
/-! ### Calls -/
noncomputable def argsK (l : List Operand) : TV → List Value → (List Value → Rs) → Rs :=
  List.rec (motive := fun _ => TV → List Value → (List Value → Rs) → Rs) (fun _ z K => K z) (fun x _ ih fr z K => ih fr z fun l => forceS (evX x fr) fun v => K (v :: l)) l
theorem argsK_eq : ∀ (l : List Operand) (fr : TV) (z : List Value) (K : List Value → Rs), argsK l fr z K = K (l.map (fun x => evX x fr) ++ z)
  | [], _, _, _ => rfl
  | x :: l, fr, z, K => by
    have e : argsK (x :: l) fr z K = argsK l fr z fun l => forceS (evX x fr) fun v => K (v :: l) := rfl
    rw [e, argsK_eq l, forceS_eq]
    rfl
noncomputable def consK (l : List Value) : List Value → (List Value → Rs) → Rs :=
  List.rec (motive := fun _ => List Value → (List Value → Rs) → Rs) (fun z K => K z) (fun x _ ih z K => ih z fun l => K (x :: l)) l
theorem consK_eq : ∀ (l z : List Value) (K : List Value → Rs), consK l z K = K (l ++ z)
  | [], _, _ => rfl
  | x :: l, z, K => consK_eq l z fun l => K (x :: l)
noncomputable def nilL {α : Type} (l : List α) : Bool := List.rec (motive := fun _ => Bool) true (fun _ _ _ => false) l
theorem nilL_spec {α : Type} {l : List α} (h : nilL l = true) : l = [] := by
  cases l with
  | nil => rfl
  | cons x l => cases h
noncomputable def aCallV (f : Operand) (args : List Operand) : Arm := fun d _ E fr df h s K =>
  funK (evX f fr) (fun g first cap => Bool.rec (motive := fun _ => Rs)
      (consK cap.toList [] fun z => argsK args fr z fun l => consK first.toList l fun l => E.F g l h fun v h => fin E.N d v fr fun fr => K fr df h s)
      (ifB (nilL first.toList) (ifB (nilL cap.toList) (argsK args fr [] fun l => headK l fun v => ifB (nilL l.tail) (fin E.N d v fr fun fr => K fr df h s)))) (Nat.beq g E.ne))
    .bad
theorem aCallV_ok {P : Program} (f : Operand) (args : List Operand) (ats : Array TypeId) : ArmRes P (aCallV f args) (.call ⟨.value f, ⟨args⟩, ats⟩) := fun E fr a df h y K d ty p af g o hE hf hr => by
  unfold aCallV at hr
  rcases funK_spec (evX f fr) (fun g first cap => Bool.rec (motive := fun _ => Rs)
      (consK cap.toList [] fun z => argsK args fr z fun l => consK first.toList l fun l => E.F g l h fun v h => fin E.N d v fr fun fr => K fr df h y)
      (ifB (nilL first.toList) (ifB (nilL cap.toList) (argsK args fr [] fun l => headK l fun v => ifB (nilL l.tail) (fin E.N d v fr fun fr => K fr df h y)))) (Nat.beq g E.ne)) .bad with e | ⟨g', first, cap, hv, e⟩ | ⟨l, x, c, _, e⟩
  · rw [e] at hr; cases hr
  · rw [e] at hr
    have hfe := hf.eval f
    rw [hv] at hfe
    cases hne : Nat.beq g' E.ne with
    | false =>
      rw [hne] at hr
      have hr' : Res P (consK cap.toList [] fun z => argsK args fr z fun l => consK first.toList l fun l => E.F g' l h fun v h => fin E.N d v fr fun fr => K fr df h y) o := hr
      rw [consK_eq, argsK_eq, consK_eq, hf.fn] at hr'
      obtain ⟨⟨fn, h1, h2, h3⟩, v, h', hA, hr2⟩ := hE.fn _ _ _ _ _ hr'
      rcases fin_spec hf d v (fun fr => K fr df h' y) with e2 | ⟨fr', hf', e2⟩
      · rw [e2] at hr2; cases hr2
      rw [e2] at hr2
      refine ⟨fr', h', v, hr2, hf', .call rfl g' ⟨first.toList ++ (args.map a.eval ++ (cap.toList ++ []))⟩ ?_ hA⟩
      unfold acall
      simp only [← hfe, h1, h2, h3, Bool.or_self, Bool.false_eq_true, if_false, Option.some.injEq, Prod.mk.injEq, true_and]
      apply Array.ext'
      simp
    | true =>
      rw [hne] at hr
      have hr' : Res P (ifB (nilL first.toList) (ifB (nilL cap.toList) (argsK args fr [] fun l => headK l fun v => ifB (nilL l.tail) (fin E.N d v fr fun fr => K fr df h y)))) o := hr
      rcases ifB_spec (nilL first.toList) (ifB (nilL cap.toList) (argsK args fr [] fun l => headK l fun v => ifB (nilL l.tail) (fin E.N d v fr fun fr => K fr df h y))) with e | ⟨h1, e⟩
      · rw [e] at hr'; cases hr'
      rw [e] at hr'
      rcases ifB_spec (nilL cap.toList) (argsK args fr [] fun l => headK l fun v => ifB (nilL l.tail) (fin E.N d v fr fun fr => K fr df h y)) with e | ⟨h2, e⟩
      · rw [e] at hr'; cases hr'
      rw [e, argsK_eq] at hr'
      rcases headK_spec (args.map (fun x => evX x fr) ++ []) (fun v => ifB (nilL (args.map (fun x => evX x fr) ++ []).tail) (fin E.N d v fr fun fr => K fr df h y)) with e | ⟨v, r, hl, e⟩
      · rw [e] at hr'; cases hr'
      rw [e] at hr'
      rcases ifB_spec (nilL (args.map (fun x => evX x fr) ++ []).tail) (fin E.N d v fr fun fr => K fr df h y) with e5 | ⟨h3, e5⟩
      · rw [e5] at hr'; cases hr'
      rw [e5] at hr'
      rw [hl] at h3
      obtain rfl := nilL_spec h3
      have hne' := Nat.eq_of_beq_eq_true hne
      have hNE := hE.ne
      rw [← hne'] at hNE
      obtain ⟨x, rfl, hx⟩ : ∃ x, args = [x] ∧ evX x fr = v := by
        rcases args with _ | ⟨x, _ | ⟨z, args⟩⟩
        · simp at hl
        · exact ⟨x, rfl, by simpa using hl⟩
        · simp at hl
      obtain ⟨first⟩ := first
      obtain ⟨cap⟩ := cap
      obtain rfl := nilL_spec h1
      obtain rfl := nilL_spec h2
      rcases fin_spec hf d v (fun fr => K fr df h y) with e2 | ⟨fr', hf', e2⟩
      · rw [e2] at hr'; cases hr'
      rw [e2] at hr'
      refine ⟨fr', h, v, hr', hf', .e rfl ?_ ?_⟩
      · have hNE2 := hNE
        unfold isNoEscape at hNE2
        unfold acall
        simp only [← hfe]
        split at hNE2
        · rename_i fn hfn
          simp only [Bool.and_eq_true] at hNE2
          simp [hfn, hNE2.2]
        · cases hNE2
      · rw [hf.eval] at hx
        obtain ⟨ats⟩ := ats
        simp only [aE, noEscA, ← hfe, hNE, if_true, hx]
  · rw [e] at hr; cases hr
/-- What an interface value holds. -/
noncomputable def ifaceK (v : Value) : (TypeId → Value → Rs) → Rs :=
  Value.rec (motive_1 := fun _ => (TypeId → Value → Rs) → Rs) (motive_2 := fun _ => PUnit) (motive_3 := fun _ => PUnit)
    (fun _ _ => .bad) (fun _ _ _ => .bad) (fun _ _ _ => .bad) (fun _ _ _ _ => .bad) (fun _ _ => .bad)
    (fun _ _ => .bad)
    (fun _ _ _ _ => .bad) (fun _ _ => .bad) (fun _ _ => .bad) (fun _ _ _ _ _ _ => .bad) (fun _ => .bad) (fun t v _ K => K t v) (fun _ => .bad)
    (fun _ _ _ => .bad) (fun _ _ _ => .bad) (fun _ _ => ⟨⟩) ⟨⟩ (fun _ _ _ _ => ⟨⟩) v
theorem ifaceK_spec (v : Value) (K : TypeId → Value → Rs) : ifaceK v K = .bad ∨ ∃ t u, v = .iface t u ∧ ifaceK v K = K t u := by
  cases v with
  | iface t u => exact .inr ⟨t, u, rfl, rfl⟩
  | _ => exact .inl rfl
noncomputable def aInv (x : Operand) (name : String) (args : List Operand) : Arm := fun d P E fr df h s K =>
  ifaceK (evX x fr) fun t u => optK (methA P t name) fun g => argsK args fr [] fun l => forceS u fun u => E.F g (u :: l) h fun v h => fin E.N d v fr fun fr => K fr df h s
theorem aInv_ok {P : Program} (x : Operand) (name : String) (args : List Operand) (ats : Array TypeId) : ArmRes P (aInv x name args) (.call ⟨.invoke x name, ⟨args⟩, ats⟩) := fun E fr a df h y K d ty p af g o hE hf hr => by
  unfold aInv at hr
  rcases ifaceK_spec (evX x fr) (fun t u => optK (methA P t name) fun g => argsK args fr [] fun l => forceS u fun u => E.F g (u :: l) h fun v h => fin E.N d v fr fun fr => K fr df h y) with e | ⟨t, u, hv, e⟩
  · rw [e] at hr; cases hr
  rw [e] at hr
  have hfe := hf.eval x
  rw [hv] at hfe
  rcases optK_spec (methA P t name) (fun g => argsK args fr [] fun l => forceS u fun u => E.F g (u :: l) h fun v h => fin E.N d v fr fun fr => K fr df h y) with e | ⟨g', hm, e⟩
  · rw [e] at hr; cases hr
  rw [e, argsK_eq, forceS_eq, hf.fn] at hr
  obtain ⟨⟨fn, h1, h2, h3⟩, v, h', hA, hr2⟩ := hE.fn _ _ _ _ _ hr
  rcases fin_spec hf d v (fun fr => K fr df h' y) with e2 | ⟨fr', hf', e2⟩
  · rw [e2] at hr2; cases hr2
  rw [e2] at hr2
  refine ⟨fr', h', v, hr2, hf', .call rfl g' ⟨u :: (args.map a.eval ++ [])⟩ ?_ hA⟩
  unfold acall
  simp only [← hfe, hm, h1, h2, h3, Bool.or_self, Bool.false_eq_true, if_false, Option.some.injEq, Prod.mk.injEq, true_and]
  apply Array.ext'
  simp
end Go.Ae
namespace Go.Ae
def fenceR (r : Option Nat) : Fence := { Fence.wide with round := r }
theorem fenceR_none : fenceR none = Fence.wide := rfl
def awF (r : Option Nat) (P : Program) (c : Code) (Q : Exit → Act → AHeap → Prop) (a : Act) (H : AHeap) : Prop :=
  ∀ (ρ : Ren) (b : Act) (w : World), TR ρ a b → RelH P ρ H w → c.wpIn (fenceR r) 0 P (AfterX P ρ H w Q) b w
theorem awF_none {P : Program} {c : Code} {Q : Exit → Act → AHeap → Prop} {a : Act} {H : AHeap} : awF none P c Q a H ↔ aw P c Q a H :=
  ⟨fun h ρ b w h1 h2 => wpIn_wide.1 (h ρ b w h1 h2), fun h ρ b w h1 h2 => wpIn_wide.2 (h ρ b w h1 h2)⟩
section
variable {r : Option Nat} {P : Program} {Q : Exit → Act → AHeap → Prop} {a : Act} {H : AHeap}
theorem awF_mono {c : Code} {Q' : Exit → Act → AHeap → Prop} (h : awF r P c Q a H) (hq : ∀ e a H, Q e a H → Q' e a H) : awF r P c Q' a H :=
  fun ρ b w hT hH => wpIn_mono (h ρ b w hT hH) fun e _ _ ⟨a', H', ρ', q, s⟩ => ⟨a', H', ρ', hq e a' H' q, s⟩
theorem awF_skip (h : Q .normal a H) : awF r P .skip Q a H := fun ρ _ _ hT hH => wpIn_skip ⟨a, H, ρ, h, hT, hH, ExtN.refl _ _ _ _⟩
theorem awF_label {l : Nat} (h : Q .normal a H) : awF r P (.label l) Q a H := fun ρ _ _ hT hH => wpIn_label ⟨a, H, ρ, h, hT, hH, ExtN.refl _ _ _ _⟩
theorem awF_exit {id : Nat} (h : Q (.exit id) a H) : awF r P (.exit id) Q a H := fun ρ _ _ hT hH => wpIn_exit ⟨a, H, ρ, h, hT, hH, ExtN.refl _ _ _ _⟩
theorem awF_goto {l : Nat} (h : Q (.goto l) a H) : awF r P (.goto l) Q a H := fun ρ _ _ hT hH => wpIn_goto ⟨a, H, ρ, h, hT, hH, ExtN.refl _ _ _ _⟩
theorem awF_ret (h : Q .ret a H) : awF r P .ret Q a H := fun ρ _ _ hT hH => wpIn_ret ⟨a, H, ρ, h, hT, hH, ExtN.refl _ _ _ _⟩
theorem awF_seq {x y : Code} (h : awF r P x (thenA (awF r P y Q) Q) a H) : awF r P (.seq x y) Q a H := by
  intro ρ b w hT hH
  refine wpIn_seq (wpIn_mono (h ρ b w hT hH) fun e b' w' ⟨a', H', ρ', q, hT', hH', hx⟩ => ?_)
  cases e with
  | normal => exact wpIn_mono (q ρ' b' w' hT' hH') fun e b'' w'' ⟨a'', H'', ρ'', q', hT'', hH'', hx'⟩ => ⟨a'', H'', ρ'', q', hT'', hH'', Ext.trans hx hx'⟩
  | exit id => exact ⟨a', H', ρ', q, hT', hH', hx⟩
  | goto l => exact ⟨a', H', ρ', q, hT', hH', hx⟩
  | ret => exact ⟨a', H', ρ', q, hT', hH', hx⟩
  | panic c => exact ⟨a', H', ρ', q, hT', hH', hx⟩
  | outgrown => exact ⟨a', H', ρ', q, hT', hH', hx⟩
theorem awF_cond {c : Operand} {x y : Code} {t : Bool} (hc : a.eval c = .bool t) (hok : okOperand c = true) (h : awF r P (if t then x else y) Q a H) : awF r P (.cond c x y) Q a H := by
  intro ρ b w hT hH
  have hv := hT.eval hok
  rw [hc] at hv
  have hb : b.eval c = .bool t := by generalize b.eval c = z at hv; cases hv; rfl
  exact wpIn_cond hb (h ρ b w hT hH)
theorem awF_block {id : Nat} {c : Code} (h : awF r P c (inBlockA id Q) a H) : awF r P (.block id c) Q a H := by
  intro ρ b w hT hH
  refine wpIn_block (wpIn_mono (h ρ b w hT hH) fun e b' w' ⟨a', H', ρ', q, s⟩ => ?_)
  cases e with
  | exit id' =>
    simp only [inBlockA] at q
    simp only [Exit.inBlock]
    split
    · rename_i he; rw [if_pos he] at q; exact ⟨a', H', ρ', q, s⟩
    · rename_i he; rw [if_neg he] at q; exact ⟨a', H', ρ', q, s⟩
  | normal => exact ⟨a', H', ρ', q, s⟩
  | goto l => exact ⟨a', H', ρ', q, s⟩
  | ret => exact ⟨a', H', ρ', q, s⟩
  | panic c => exact ⟨a', H', ρ', q, s⟩
  | outgrown => exact ⟨a', H', ρ', q, s⟩
theorem awF_loop {c : Code} (I : Nat → Act → AHeap → Prop) (n : Nat) (h0 : I n a H) (round : ∀ n a H, I n a H → awF r P c (thenA (fun a' H' => ∃ m, m < n ∧ I m a' H') Q) a H) : awF r P (.loop c) Q a H := by
  intro ρ b w hT hH f k cs hro hb hr
  have key : ∀ n a H ρ b w, TR ρ a b → RelH P ρ H w → I n a H →
      ∃ e b' w', AfterX P ρ H w Q e b' w' ∧ ArrivesIn (Machine.fenced P (fenceR r)) P (lone (f.atR b (.code c :: .inLoop c :: k)) cs w) f k cs e b' w' := by
    intro n
    induction n using Nat.strongRecOn with
    | _ n ih =>
      intro a H ρ b w hT hH hI
      obtain ⟨e, b₁, w₁, ⟨a', H', ρ', q, hT', hH', hx⟩, harr⟩ := round n a H hI ρ b w hT hH f (.inLoop c :: k) cs hro hb hr
      cases e with
      | normal =>
        obtain ⟨m, hm, hI'⟩ := q
        obtain ⟨e₂, b₂, w₂, ⟨a'', H'', ρ'', q', hT'', hH'', hx'⟩, harr₂⟩ := ih m hm a' H' ρ' b₁ w₁ hT' hH' hI'
        exact ⟨e₂, b₂, w₂, ⟨a'', H'', ρ'', q', hT'', hH'', Ext.trans hx hx'⟩, .of_steps (StepsIn.trans harr (.one (fenced_calm (n := 0) hb hr rfl) stepR_inLoop)) harr₂⟩
      | exit id => exact ⟨_, b₁, w₁, ⟨a', H', ρ', q, hT', hH', hx⟩, .pass (x := .inLoop c) rfl (fun _ _ => .inl (by simp)) harr⟩
      | goto l => exact ⟨_, b₁, w₁, ⟨a', H', ρ', q, hT', hH', hx⟩, .pass (x := .inLoop c) rfl (fun _ _ => .inl (by simp)) harr⟩
      | ret => exact ⟨_, b₁, w₁, ⟨a', H', ρ', q, hT', hH', hx⟩, .pass (x := .inLoop c) rfl (fun _ _ => .inl (by simp)) harr⟩
      | panic ch => exact ⟨_, b₁, w₁, ⟨a', H', ρ', q, hT', hH', hx⟩, .pass (x := .inLoop c) rfl (fun _ _ => .inl (by simp)) harr⟩
      | outgrown => exact ⟨_, b₁, w₁, ⟨a', H', ρ', q, hT', hH', hx⟩, .pass (x := .inLoop c) rfl (fun _ _ => .inl (by simp)) harr⟩
  obtain ⟨e, b', w', hq, harr⟩ := key n a H ρ b w hT hH h0
  exact ⟨e, b', w', hq, .of_steps (.one (fenced_calm (n := 0) hb hr rfl) stepR_loop) harr⟩
end

/-! ### Regions -/
def noDefer (ops : List Oper) : Bool := ops.all fun o => match o.op with
  | .defer _ => false
  | _ => true
theorem noDefer_spec {ops : Array Oper} (h : noDefer ops.toList = true) {i : Nat} {o : Oper} (ho : ops[i]? = some o) : ∀ c, o.op ≠ .defer c := by
  intro c hc
  have hm : o ∈ ops.toList := by simpa using Array.mem_of_getElem? ho
  have := List.all_eq_true.1 h o hm
  rw [hc] at this
  cases this
theorem rowsIn_of {P : Program} {r : Option Nat} {n : Nat} {row : String} {args : Array Value} {w : World} {R : Value → World → Prop} (h : Rows P row args w R) : RowsIn (fenceR r) n P row args w R :=
  fun c cs _ => let ⟨v, w', q, s⟩ := h c cs; ⟨v, w', q, stepsIn_wide.2 s⟩
theorem upon_in {P : Program} {r : Option Nat} {o : Oper} {a : Act} {next next' : Act → World → Prop} {Q : Exit → Act → World → Prop} (hn : ∀ a w, next a w → next' a w) {x : Result Next} (h : o.upon P a next Q x) : o.uponIn (fenceR r) 0 P a next' Q x := by
  have calls : ∀ {f args w} {R R' : Ending → World → Prop}, (∀ e w, R e w → R' e w) → Calls P f args w R → CallsIn (fenceR r) 0 P f args w R' := by
    intro f args w R R' hR h
    have h1 : CallsIn Fence.wide 0 P f args w R' := callsIn_wide.2 (h.mono hR)
    cases r with
    | none => exact h1
    | some l => exact h1
  have dep : (fenceR r).depth.isSome = true → 1 ≤ 0 := fun h => by simp [fenceR, Fence.wide] at h
  unfold Oper.upon at h
  unfold Oper.uponIn
  split at h
  · exact hn _ _ h
  · exact hn _ _ h
  · exact hn _ _ h
  · refine ⟨dep, calls (fun e w h => ?_) h⟩
    cases e with
    | returned v => exact hn _ _ h
    | panicked c => exact h
    | outgrown => exact h
  · exact ⟨dep, (rowsIn_of h).mono fun v w h => hn _ _ h⟩
  · exact h
  · exact h.elim
theorem wpOps_in {P : Program} {r : Option Nat} {ops : Array Oper} {Q : Exit → Act → World → Prop} (hd : r = none ∨ noDefer ops.toList = true) (hQ : ¬ LetsOut Q) : ∀ (l : List Nat) (a : Act) (w : World), wpOps P ops Q l a w → wpOpsIn (fenceR r) 0 P ops Q l a w
  | [], _, _, h => h
  | i :: l, a, w, h => by
    simp only [wpOps] at h
    simp only [wpOpsIn]
    cases ho : ops[i]? with
    | none =>
      rw [ho] at h
      exact wpOps_in hd hQ l a w h
    | some o =>
      rw [ho] at h
      dsimp only at h ⊢
      split at h
      · rename_i hw
        rw [if_pos hw]
        rcases h with h | h
        · refine ⟨fun _ _ => trivial, ?_⟩
          have hs : (o.semAt (fenceR r).round a.eval).run P w = (execOp a.eval o).run P w := by
            rcases hd with rfl | hd
            · rfl
            · rw [Oper.semAt_eq _ _ _ (noDefer_spec hd ho)]
          rw [hs]
          exact upon_in (fun a w => wpOps_in hd hQ l a w) h
        · exact absurd h.2 hQ
      · rename_i hw
        rw [if_neg hw]
        exact ⟨fun _ _ => trivial, wpOps_in hd hQ l _ w h⟩
theorem awF_draw {r : Option Nat} {P : Program} {Q : Exit → Act → AHeap → Prop} {a : Act} {H : AHeap} {id : Nat} {ops : Array Oper} {sched B : List Nat} (hm : P.follows .mixedOrders = true) (hd : r = none ∨ noDefer ops.toList = true) (hs : schedOk ops sched B = true)
    (h : wpS P ops B (fun a H => Q .normal a H) sched a H []) : awF r P (.region id ops true) Q a H := by
  intro ρ b w hT hH
  have h1 := draw_any (schedOk_spec hs) h hT hH (Q := fun e b' w' => e = .normal ∧ AfterX P ρ H w Q .normal b' w') fun b' w' ⟨a', H', ρ', q, s⟩ => ⟨rfl, a', H', ρ', q, s⟩
  have h2 : (Code.region id ops true).wpIn (fenceR r) 0 P (fun e b' w' => e = .normal ∧ AfterX P ρ H w Q .normal b' w') b w := by
    refine wpIn_region_draw fun t => ?_
    refine wpOps_in (Q := fun e b' w' => e = .normal ∧ AfterX P ρ H w Q .normal b' w') hd (fun ⟨_, _, h, _⟩ => by cases h) _ _ _ ?_
    simp only [Region.schedule, hm, Bool.true_or, if_true]
    exact wpAny_sound ops.size t _ b _ h1
  refine wpIn_mono h2 fun e b' w' ⟨he, hq⟩ => ?_
  subst he
  exact hq
end Go.Ae

/- The evaluator's operations: conversions, sums, builtins, calls. No condition. -/
import Derived.Test.YtmibkoadjehdaaaGreatDoorAeUp
namespace Go.Ae
noncomputable def orK {α : Type} (x : Option α) (z : Rs) (K : α → Rs) : Rs := Option.rec (motive := fun _ => Rs) z K x
/-! ### Conversions -/
noncomputable def aConv (s t : TypeId) (x : Operand) : Arm := fun d P E fr df h y K =>
  orK (aR P (fun x => evX x fr) (toH h) ⟨none, .convert s t x, 0, "", #[], none⟩)
    (orK (aA P (fun x => evX x fr) ⟨none, .convert s t x, 0, "", #[], none⟩)
      (optK (aP P (fun x => evX x fr) ⟨none, .convert s t x, 0, "", #[], none⟩) fun v => fin E.N d v fr fun fr => K fr df h y)
      fun q => pushRow h (.row q.1) fun h' => fin E.N d (q.2 h.next) fr fun fr => K fr df h' y)
    fun v => fin E.N d v fr fun fr => K fr df h y
theorem aConv_ok {P : Program} (s t : TypeId) (x : Operand) : ArmOk P (aConv s t x) (.convert s t x) := fun E fr a df h y K d ty p af g _ hf => by
  unfold aConv
  rw [hf.fn]
  have e1 : aR P a.eval (toH h) ⟨d, .convert s t x, ty, p, af, g⟩ = aR P a.eval (toH h) ⟨none, .convert s t x, 0, "", #[], none⟩ := rfl
  have e2 : aA P a.eval ⟨d, .convert s t x, ty, p, af, g⟩ = aA P a.eval ⟨none, .convert s t x, 0, "", #[], none⟩ := rfl
  have e3 : aP P a.eval ⟨d, .convert s t x, ty, p, af, g⟩ = aP P a.eval ⟨none, .convert s t x, 0, "", #[], none⟩ := rfl
  cases hR : aR P a.eval (toH h) ⟨none, .convert s t x, 0, "", #[], none⟩ with
  | some v => exact arm_fin hf rfl (.n rfl (by simp only [nRes, e1, hR]))
  | none =>
    cases hA : aA P a.eval ⟨none, .convert s t x, 0, "", #[], none⟩ with
    | some q =>
      show pushRow h (.row q.1) (fun h' => fin E.N d (q.2 h.next) fr fun fr => K fr df h' y) = .bad ∨ _
      rcases pushRow_spec h (.row q.1) (fun h' => fin E.N d (q.2 h.next) fr fun fr => K fr df h' y) with e | ⟨h', e, hh⟩
      · exact .inl e
      · exact arm_fin hf e (.n rfl (by rw [hh]; simp only [nRes, e1, hR, e2, hA]; rfl))
    | none =>
      show optK (aP P a.eval ⟨none, .convert s t x, 0, "", #[], none⟩) (fun v => fin E.N d v fr fun fr => K fr df h y) = .bad ∨ _
      rcases optK_spec (aP P a.eval ⟨none, .convert s t x, 0, "", #[], none⟩) (fun v => fin E.N d v fr fun fr => K fr df h y) with e | ⟨v, hv, e⟩
      · exact .inl e
      · exact arm_fin hf e (.n rfl (by simp only [nRes, e1, hR, e2, hA, e3, hv, Option.map_some]))
/-! ### Sums and comparisons of small numbers -/
noncomputable def natCmp (op : BinOp) : Nat → Nat → Rs → (Value → Rs) → Rs :=
  BinOp.rec (motive := fun _ => Nat → Nat → Rs → (Value → Rs) → Rs)
    (fun a b z K => Bool.rec (motive := fun _ => Rs) z (K (.int .i64 (Int.ofNat (Nat.add a b)))) (Nat.blt (Nat.add a b) 9223372036854775808))
    (fun a b z K => Bool.rec (motive := fun _ => Rs) z (K (.int .i64 (Int.ofNat (Nat.sub a b)))) (and (Nat.ble b a) (Nat.blt a 9223372036854775808)))
    (fun _ _ z _ => z) (fun _ _ z _ => z) (fun _ _ z _ => z) (fun _ _ z _ => z) (fun _ _ z _ => z) (fun _ _ z _ => z) (fun _ _ z _ => z) (fun _ _ z _ => z) (fun _ _ z _ => z)
    (fun a b _ K => K (.bool (Nat.beq a b))) (fun a b _ K => K (.bool (not (Nat.beq a b)))) (fun a b _ K => K (.bool (Nat.blt a b))) (fun a b _ K => K (.bool (Nat.ble a b)))
    (fun a b _ K => K (.bool (Nat.blt b a))) (fun a b _ K => K (.bool (Nat.ble b a))) op
noncomputable def isI64 (k : IntKind) : Bool := IntKind.rec (motive := fun _ => Bool) false false false true false false false false k
theorem isI64_spec {k : IntKind} (h : isI64 k = true) : k = .i64 := by cases k <;> first | rfl | cases h
noncomputable def binI (op : BinOp) (k k' : IntKind) (a b : Int) (z : Rs) (K : Value → Rs) : Rs :=
  Bool.rec (motive := fun _ => Rs) z (Bool.rec (motive := fun _ => Rs) z (natK a z fun a => natK b z fun b => natCmp op a b z K) (isI64 k')) (isI64 k)
theorem wrap_small {n : Nat} (h : n < 9223372036854775808) : IntKind.i64.wrap (n : Int) = (n : Int) := by
  unfold IntKind.wrap
  simp only [IntKind.bits, IntKind.signed]
  have : (n : Int) % (2 ^ 64 : Int) = n := by omega
  simp only [this]
  rw [if_neg]
  simp only [Bool.true_and, decide_eq_true_eq]
  omega
theorem natCmp_spec (P : Program) (op : BinOp) (a b : Nat) (z : Rs) (K : Value → Rs) : natCmp op a b z K = z ∨ ∃ v, natCmp op a b z K = K v ∧
    ∀ (ev : Operand → Value) (t yt : TypeId) (x y : Operand), ev x = .int .i64 (Int.ofNat a) → ev y = .int .i64 (Int.ofNat b) → aP P ev ⟨none, .binOp op t x y yt, 0, "", #[], none⟩ = some v := by
  have go : ∀ (v : Value), simpleV v = true → (∀ (t : TypeId), quiet P (binOp op t (.int .i64 (Int.ofNat a)) (.int .i64 (Int.ofNat b))) = some v) → ∀ (ev : Operand → Value) (t yt : TypeId) (x y : Operand), ev x = .int .i64 (Int.ofNat a) → ev y = .int .i64 (Int.ofNat b) → aP P ev ⟨none, .binOp op t x y yt, 0, "", #[], none⟩ = some v := by
    intro v hv h ev t yt x y hx hy
    have hg : quiet P (eqGuard op t x y (.int .i64 (Int.ofNat a)) (.int .i64 (Int.ofNat b))) = some () := by
      unfold eqGuard
      cases op <;> rfl
    have hs : ((Op.binOp op t x y yt).operands.all fun z => simpleV (ev z)) = true := by
      simp [Op.operands, hx, hy, simpleV]
    have hq : quiet P (execOp ev ⟨none, .binOp op t x y yt, 0, "", #[], none⟩) = some (.value v) := by
      simp only [execOp, quiet_bind, hx, hy, hg, h, Option.bind_some, quiet_pure]
    have hs2 : (simpleV (ev x) && simpleV (ev y)) = true := by rw [hx, hy]; rfl
    simp only [aP]
    rw [if_pos hs2]
    unfold quietOp
    rw [if_pos hs, hq]
    simp only [hv, if_true]
  cases op with
  | add =>
    show Bool.rec (motive := fun _ => Rs) z (K (.int .i64 (Int.ofNat (Nat.add a b)))) (Nat.blt (Nat.add a b) 9223372036854775808) = z ∨ _
    cases hb : Nat.blt (Nat.add a b) 9223372036854775808 with
    | false => exact .inl rfl
    | true =>
      refine .inr ⟨.int .i64 (Int.ofNat (Nat.add a b)), ?_, go _ rfl fun t => ?_⟩
      · show Bool.rec (motive := fun _ => Rs) z (K (.int .i64 (Int.ofNat (Nat.add a b)))) (Nat.blt (Nat.add a b) 9223372036854775808) = _
        rw [hb]
      · rw [Nat.blt_eq] at hb
        have := wrap_small hb
        simp only [binOp, Op.intArith, ne_eq, not_true_eq_false, if_false, quiet_pure, Option.some.injEq, Value.int.injEq, true_and]
        exact this
  | sub =>
    show Bool.rec (motive := fun _ => Rs) z (K (.int .i64 (Int.ofNat (Nat.sub a b)))) (and (Nat.ble b a) (Nat.blt a 9223372036854775808)) = z ∨ _
    cases hb : and (Nat.ble b a) (Nat.blt a 9223372036854775808) with
    | false => exact .inl rfl
    | true =>
      refine .inr ⟨.int .i64 (Int.ofNat (Nat.sub a b)), ?_, go _ rfl fun t => ?_⟩
      · show Bool.rec (motive := fun _ => Rs) z (K (.int .i64 (Int.ofNat (Nat.sub a b)))) (and (Nat.ble b a) (Nat.blt a 9223372036854775808)) = _
        rw [hb]
      · simp only [Bool.and_eq_true, Nat.ble_eq, Nat.blt_eq] at hb
        have h1 : ((Int.ofNat a : Int) - Int.ofNat b) = ((a - b : Nat) : Int) := by
          show ((a : Int) - (b : Int)) = _
          omega
        have h2 : a - b < 9223372036854775808 := by omega
        have := wrap_small h2
        simp only [binOp, Op.intArith, ne_eq, not_true_eq_false, if_false, quiet_pure, Option.some.injEq, Value.int.injEq, true_and]
        rw [h1]
        exact this
  | eql =>
    refine .inr ⟨_, rfl, go _ rfl fun t => ?_⟩
    simp only [binOp, Op.intCmp, ne_eq, not_true_eq_false, if_false, quiet_pure, Option.some.injEq, Value.bool.injEq]
    rw [Bool.eq_iff_iff]; simp [Nat.beq_eq, Int.natCast_inj]
  | neq =>
    refine .inr ⟨_, rfl, go _ rfl fun t => ?_⟩
    simp only [binOp, Op.intCmp, ne_eq, not_true_eq_false, if_false, quiet_pure, Option.some.injEq, Value.bool.injEq]
    rw [Bool.eq_iff_iff]; simp [bne, ← Bool.not_eq_true, Nat.beq_eq, Int.natCast_inj]
  | lss =>
    refine .inr ⟨_, rfl, go _ rfl fun t => ?_⟩
    simp only [binOp, Op.intCmp, ne_eq, not_true_eq_false, if_false, quiet_pure, Option.some.injEq, Value.bool.injEq]
    rw [Bool.eq_iff_iff]; simp [Nat.blt_eq]
  | leq =>
    refine .inr ⟨_, rfl, go _ rfl fun t => ?_⟩
    simp only [binOp, Op.intCmp, ne_eq, not_true_eq_false, if_false, quiet_pure, Option.some.injEq, Value.bool.injEq]
    rw [Bool.eq_iff_iff]; simp [Nat.ble_eq]
  | gtr =>
    refine .inr ⟨_, rfl, go _ rfl fun t => ?_⟩
    simp only [binOp, Op.intCmp, ne_eq, not_true_eq_false, if_false, quiet_pure, Option.some.injEq, Value.bool.injEq]
    rw [Bool.eq_iff_iff]; simp [Nat.blt_eq]
  | geq =>
    refine .inr ⟨_, rfl, go _ rfl fun t => ?_⟩
    simp only [binOp, Op.intCmp, ne_eq, not_true_eq_false, if_false, quiet_pure, Option.some.injEq, Value.bool.injEq]
    rw [Bool.eq_iff_iff]; simp [Nat.ble_eq]
  | _ => exact .inl rfl
noncomputable def aBin (op : BinOp) (t : TypeId) (x y : Operand) (yt : TypeId) : Arm := fun d P E fr df h s K =>
  intK (evX x fr) (aOpt (fun P ev => aP P ev ⟨none, .binOp op t x y yt, 0, "", #[], none⟩) d P E fr df h s K) fun k a =>
  intK (evX y fr) .bad fun k' b => binI op k k' a b (aOpt (fun P ev => aP P ev ⟨none, .binOp op t x y yt, 0, "", #[], none⟩) d P E fr df h s K) fun v => fin E.N d v fr fun fr => K fr df h s
theorem aBin_ok {P : Program} (op : BinOp) (t yt : TypeId) (x z : Operand) : ArmOk P (aBin op t x z yt) (.binOp op t x z yt) := fun E fr a df h y K d ty p af g hE hf => by
  have slow := aBinS_ok (P := P) op t yt x z E fr a df h y K d ty p af g hE hf
  unfold aBin
  generalize hs : aOpt (fun P ev => aP P ev ⟨none, .binOp op t x z yt, 0, "", #[], none⟩) d P E fr df h y K = S at slow ⊢
  rcases intK_spec (evX x fr) S (fun k a => intK (evX z fr) .bad fun k' b => binI op k k' a b S fun v => fin E.N d v fr fun fr => K fr df h y) with e | ⟨k, n, hx, e⟩
  · rw [e]; exact slow
  rw [e]
  rcases intK_spec (evX z fr) .bad (fun k' b => binI op k k' n b S fun v => fin E.N d v fr fun fr => K fr df h y) with e | ⟨k', m, hz, e⟩
  · exact .inl e
  rw [e]
  unfold binI
  cases hk : isI64 k with
  | false => exact slow
  | true =>
    cases hk' : isI64 k' with
    | false => exact slow
    | true =>
      show natK n S (fun a => natK m S fun b => natCmp op a b S fun v => fin E.N d v fr fun fr => K fr df h y) = .bad ∨ _
      obtain rfl := isI64_spec hk
      obtain rfl := isI64_spec hk'
      rcases natK_spec n S (fun a => natK m S fun b => natCmp op a b S fun v => fin E.N d v fr fun fr => K fr df h y) with e | ⟨n', rfl, e⟩
      · rw [e]; exact slow
      rw [e]
      rcases natK_spec m S (fun b => natCmp op n' b S fun v => fin E.N d v fr fun fr => K fr df h y) with e | ⟨m', rfl, e⟩
      · rw [e]; exact slow
      rw [e]
      rcases natCmp_spec P op n' m' S (fun v => fin E.N d v fr fun fr => K fr df h y) with e | ⟨v, e, hv⟩
      · rw [e]; exact slow
      rw [hf.eval] at hx hz
      refine arm_fin hf e (.n rfl ?_)
      have h1 := hv a.eval t yt x z hx hz
      have h2 : aP P a.eval ⟨d, .binOp op t x z yt, ty, p, af, g⟩ = aP P a.eval ⟨none, .binOp op t x z yt, 0, "", #[], none⟩ := rfl
      simp only [nRes, h2, h1, Option.map_some]
/-! ### Builtins -/
theorem blt_aE {P : Program} {ev : Operand → Value} {H : AHeap} {b : Builtin} {l : List Operand} {ts : List TypeId} {d : Option Tmp} {ty : TypeId} {p : String} {af : Array Edge} {g : Option (Nat × Bool)} :
    aE P ev H ⟨d, .call ⟨.builtin b, ⟨l⟩, ⟨ts⟩⟩, ty, p, af, g⟩ = bltA b l ts P ev H := by
  unfold aE bltA
  simp only
  cases b <;> rcases l with _ | ⟨x, _ | ⟨y, _ | ⟨z, l⟩⟩⟩ <;> rcases ts with _ | ⟨t, _ | ⟨u, _ | ⟨v, ts⟩⟩⟩ <;> rfl
noncomputable def isW (b : Builtin) : Bool := match b with
  | .append | .copy | .unsafeSliceData | .unsafeString => true
  | _ => false
noncomputable def aBlt (b : Builtin) (l : List Operand) (ts : List TypeId) : Arm := aUp (fun P ev H => bltA b l ts P ev H) fun ev => headBlk l ev
theorem aBlt_ok {P : Program} (b : Builtin) (l : List Operand) (ts : List TypeId) (hb : isW b = true) : ArmOk P (aBlt b l ts) (.call ⟨.builtin b, ⟨l⟩, ⟨ts⟩⟩) :=
  aUp_ok (fun _ _ _ _ _ => by cases b <;> first | rfl | cases hb) (fun _ _ _ _ _ _ _ _ _ _ => rfl) (fun _ _ _ _ _ _ _ => blt_aE) fun a H H' v h => bltA_up h
noncomputable def isL (b : Builtin) : Bool := match b with
  | .len | .cap | .min | .max => true
  | _ => false
noncomputable def aLen (b : Builtin) (l : List Operand) (ts : List TypeId) : Arm := aOpt fun P ev => aP P ev ⟨none, .call ⟨.builtin b, ⟨l⟩, ⟨ts⟩⟩, 0, "", #[], none⟩
theorem aLen_ok {P : Program} (b : Builtin) (l : List Operand) (ts : List TypeId) (hb : isL b = true) : ArmOk P (aLen b l ts) (.call ⟨.builtin b, ⟨l⟩, ⟨ts⟩⟩) :=
  aOpt_ok (fun _ _ _ _ _ => by cases b <;> first | rfl | cases hb) fun a H d ty p af g v hv => by
    have he : execOp a.eval ⟨d, .call ⟨.builtin b, ⟨l⟩, ⟨ts⟩⟩, ty, p, af, g⟩ = execOp a.eval ⟨none, .call ⟨.builtin b, ⟨l⟩, ⟨ts⟩⟩, 0, "", #[], none⟩ := by
      cases b <;> first | rfl | cases hb
    have hq : quietOp P a.eval ⟨d, .call ⟨.builtin b, ⟨l⟩, ⟨ts⟩⟩, ty, p, af, g⟩ = quietOp P a.eval ⟨none, .call ⟨.builtin b, ⟨l⟩, ⟨ts⟩⟩, 0, "", #[], none⟩ := by
      unfold quietOp
      rw [he]
    have : aP P a.eval ⟨d, .call ⟨.builtin b, ⟨l⟩, ⟨ts⟩⟩, ty, p, af, g⟩ = aP P a.eval ⟨none, .call ⟨.builtin b, ⟨l⟩, ⟨ts⟩⟩, 0, "", #[], none⟩ := by
      unfold aP
      simp only [hq]
    simp only [nRes, this, hv, Option.map_some]
noncomputable def aBuilt (b : Builtin) (l : List Operand) (ts : List TypeId) : Arm := fun d P E fr df h y K =>
  Bool.rec (motive := fun _ => Rs) (ifB (isW b) (aBlt b l ts d P E fr df h y K)) (aLen b l ts d P E fr df h y K) (isL b)
theorem aBuilt_ok {P : Program} (b : Builtin) (l : List Operand) (ts : List TypeId) : ArmOk P (aBuilt b l ts) (.call ⟨.builtin b, ⟨l⟩, ⟨ts⟩⟩) := fun E fr a df h y K d ty p af g hE hf => by
  unfold aBuilt
  cases hL : isL b with
  | true => exact aLen_ok b l ts hL E fr a df h y K d ty p af g hE hf
  | false =>
    show ifB (isW b) (aBlt b l ts d P E fr df h y K) = .bad ∨ _
    rcases ifB_spec (isW b) (aBlt b l ts d P E fr df h y K) with e | ⟨hW, e⟩
    · exact .inl e
    rw [e]
    exact aBlt_ok b l ts hW E fr a df h y K d ty p af g hE hf
/-! ### Calls -/
noncomputable def argsK (l : List Operand) : TV → List Value → (List Value → Rs) → Rs :=
  List.rec (motive := fun _ => TV → List Value → (List Value → Rs) → Rs) (fun _ z K => K z) (fun x _ ih fr z K => ih fr z fun l => forceV (evX x fr) fun v => K (v :: l)) l
theorem argsK_eq : ∀ (l : List Operand) (fr : TV) (z : List Value) (K : List Value → Rs), argsK l fr z K = K (l.map (fun x => evX x fr) ++ z)
  | [], _, _, _ => rfl
  | x :: l, fr, z, K => by
    have e : argsK (x :: l) fr z K = argsK l fr z fun l => forceV (evX x fr) fun v => K (v :: l) := rfl
    rw [e, argsK_eq l, forceV_eq]
    rfl
noncomputable def consK (l : List Value) : List Value → (List Value → Rs) → Rs :=
  List.rec (motive := fun _ => List Value → (List Value → Rs) → Rs) (fun z K => K z) (fun x _ ih z K => ih z fun l => K (x :: l)) l
theorem consK_eq : ∀ (l z : List Value) (K : List Value → Rs), consK l z K = K (l ++ z)
  | [], _, _ => rfl
  | x :: l, z, K => consK_eq l z fun l => K (x :: l)
noncomputable def nilL {α : Type} (l : List α) : Bool := List.rec (motive := fun _ => Bool) true (fun _ _ _ => false) l
theorem nilL_spec {α : Type} {l : List α} (h : nilL l = true) : l = [] := by
  cases l with
  | nil => rfl
  | cons x l => cases h
noncomputable def aCallV (f : Operand) (args : List Operand) : Arm := fun d _ E fr df h s K =>
  funK (evX f fr) (fun g first cap => Bool.rec (motive := fun _ => Rs)
      (consK cap.toList [] fun z => argsK args fr z fun l => consK first.toList l fun l => optK (E.F g l h) fun q => fin E.N d q.1 fr fun fr => K fr df q.2 s)
      (ifB (nilL first.toList) (ifB (nilL cap.toList) (argsK args fr [] fun l => headK l fun v => ifB (nilL l.tail) (fin E.N d v fr fun fr => K fr df h s)))) (Nat.beq g E.ne))
    .bad
theorem aCallV_ok {P : Program} (f : Operand) (args : List Operand) (ats : Array TypeId) : ArmOk P (aCallV f args) (.call ⟨.value f, ⟨args⟩, ats⟩) := fun E fr a df h y K d ty p af g hE hf => by
  unfold aCallV
  rcases funK_spec (evX f fr) (fun g first cap => Bool.rec (motive := fun _ => Rs)
      (consK cap.toList [] fun z => argsK args fr z fun l => consK first.toList l fun l => optK (E.F g l h) fun q => fin E.N d q.1 fr fun fr => K fr df q.2 y)
      (ifB (nilL first.toList) (ifB (nilL cap.toList) (argsK args fr [] fun l => headK l fun v => ifB (nilL l.tail) (fin E.N d v fr fun fr => K fr df h y)))) (Nat.beq g E.ne)) .bad with e | ⟨g', first, cap, hv, e⟩ | ⟨l, x, c, _, e⟩
  · exact .inl e
  · rw [e]
    have hfe := hf.eval f
    rw [hv] at hfe
    cases hne : Nat.beq g' E.ne with
    | false =>
      show consK cap.toList [] (fun z => argsK args fr z fun l => consK first.toList l fun l => optK (E.F g' l h) fun q => fin E.N d q.1 fr fun fr => K fr df q.2 y) = .bad ∨ _
      rw [consK_eq, argsK_eq, consK_eq, hf.fn]
      rcases optK_spec (E.F g' (first.toList ++ (args.map a.eval ++ (cap.toList ++ []))) h) (fun q => fin E.N d q.1 fr fun fr => K fr df q.2 y) with e | ⟨q, hq, e⟩
      · exact .inl e
      obtain ⟨⟨fn, h1, h2, h3⟩, hA⟩ := hE.fn _ _ _ _ _ hq
      refine arm_fin hf e (.call rfl g' ⟨first.toList ++ (args.map a.eval ++ (cap.toList ++ []))⟩ ?_ hA)
      unfold acall
      simp only [← hfe, h1, h2, h3, Bool.or_self, Bool.false_eq_true, if_false, Option.some.injEq, Prod.mk.injEq, true_and]
      apply Array.ext'
      simp
    | true =>
      show ifB (nilL first.toList) (ifB (nilL cap.toList) (argsK args fr [] fun l => headK l fun v => ifB (nilL l.tail) (fin E.N d v fr fun fr => K fr df h y))) = .bad ∨ _
      rcases ifB_spec (nilL first.toList) (ifB (nilL cap.toList) (argsK args fr [] fun l => headK l fun v => ifB (nilL l.tail) (fin E.N d v fr fun fr => K fr df h y))) with e | ⟨h1, e⟩
      · exact .inl e
      rw [e]
      rcases ifB_spec (nilL cap.toList) (argsK args fr [] fun l => headK l fun v => ifB (nilL l.tail) (fin E.N d v fr fun fr => K fr df h y)) with e | ⟨h2, e⟩
      · exact .inl e
      rw [e, argsK_eq]
      rcases headK_spec (args.map (fun x => evX x fr) ++ []) (fun v => ifB (nilL (args.map (fun x => evX x fr) ++ []).tail) (fin E.N d v fr fun fr => K fr df h y)) with e | ⟨v, r, hl, e⟩
      · exact .inl e
      rw [e]
      rcases ifB_spec (nilL (args.map (fun x => evX x fr) ++ []).tail) (fin E.N d v fr fun fr => K fr df h y) with e5 | ⟨h3, e5⟩
      · exact .inl e5
      rw [hl] at h3
      obtain rfl := nilL_spec h3
      have hne' := Nat.eq_of_beq_eq_true hne
      have hNE := hE.ne
      rw [← hne'] at hNE
      obtain ⟨x, rfl, hx⟩ : ∃ x, args = [x] ∧ evX x fr = v := by
        rcases args with _ | ⟨x, _ | ⟨z, args⟩⟩
        · simp at hl
        · exact ⟨x, rfl, by simpa using hl⟩
        · simp at hl
      obtain ⟨first⟩ := first
      obtain ⟨cap⟩ := cap
      obtain rfl := nilL_spec h1
      obtain rfl := nilL_spec h2
      refine arm_fin hf e5 (.e rfl ?_ ?_)
      · have hNE2 := hNE
        unfold isNoEscape at hNE2
        unfold acall
        simp only [← hfe]
        split at hNE2
        · rename_i fn hfn
          simp only [Bool.and_eq_true] at hNE2
          simp [hfn, hNE2.2]
        · cases hNE2
      · rw [hf.eval] at hx
        obtain ⟨ats⟩ := ats
        simp only [aE, noEscA, ← hfe, hNE, if_true, hx]
  · exact .inl e
noncomputable def aCall (c : Call) : Arm :=
  Call.rec (motive := fun _ => Arm) (fun callee args ats => Callee.rec (motive := fun _ => Array Operand → Array TypeId → Arm) (fun f args _ => aCallV f args.toList) (fun _ _ _ _ _ _ _ _ _ _ _ _ => .bad) (fun b args ats => aBuilt b args.toList ats.toList) callee args ats) c
theorem aCall_ok {P : Program} (c : Call) : ArmOk P (aCall c) (.call c) := by
  obtain ⟨callee, ⟨args⟩, ⟨ats⟩⟩ := c
  cases callee with
  | value f => exact aCallV_ok f args ⟨ats⟩
  | builtin b => exact aBuilt_ok b args ats
  | _ => exact fun E fr a df h y K d ty p af g hE hf => .inl rfl
end Go.Ae

/- Reads and writes of the evaluator's heap are those of the abstract heap. No condition. -/
import Derived.Test.YtmibkoadjehdaaaGreatDoorKy27
set_option linter.unusedVariables false
set_option linter.unusedSimpArgs false
namespace Go.Ae
noncomputable def toH (h : CH) : AHeap := ⟨getO h.t, h.next⟩
noncomputable def rowObj (o : AObj) : (Row → Rs) → Rs := AObj.rec (motive := fun _ => (Row → Rs) → Rs) (fun r K => K r) (fun _ _ _ => .bad) (fun _ _ _ => .bad) (fun _ _ _ _ _ => .bad) (fun _ _ => .bad) o
noncomputable def rowK (h : CH) (a : Addr) (K : Row → Rs) : Rs :=
  optK (getO h.t a.block) fun o => rowObj o fun r => Bool.rec (motive := fun _ => Rs) .bad (K r) (Nat.beq (verOf a) r.ver)
noncomputable def loadK (P : Program) (h : CH) (t : TypeId) (a : Addr) (K : Value → Rs) : Rs :=
  rowK h a fun r => dropK a.off r.cells fun l => optK (isAggT P t) fun b => Bool.rec (motive := fun _ => Rs) (optK (szT P t) fun _ => headK l K) (optK (szT P t) fun n => takeK n l fun l => K (.agg ⟨l⟩)) b
noncomputable def putRow (h : CH) (b : Nat) (o : AObj) (K : CH → Rs) : Rs := setO h.t o b fun t => K ⟨t, h.next⟩
noncomputable def pushRow (h : CH) (o : AObj) (K : CH → Rs) : Rs := setO h.t o h.next fun t => forceN (Nat.succ h.next) fun n => K ⟨t, n⟩
noncomputable def ifB (b : Bool) (K : Rs) : Rs := Bool.rec (motive := fun _ => Rs) .bad K b
noncomputable def oneC (v : Value) : Bool :=
  Value.rec (motive_1 := fun _ => Bool) (motive_2 := fun _ => PUnit) (motive_3 := fun _ => PUnit)
    (fun _ => true) (fun _ _ => true) (fun _ _ => true) (fun _ _ _ => true) (fun _ => true) (fun _ => true) (fun _ _ _ => true) (fun _ => true) (fun _ => true) (fun _ _ _ _ _ => true) true (fun _ _ _ => true) true
    (fun _ _ => false) (fun _ _ => false) (fun _ _ => ⟨⟩) ⟨⟩ (fun _ _ _ _ => ⟨⟩) v
noncomputable def allC (l : List Value) : Bool := List.rec (motive := fun _ => Bool) true (fun v _ b => Bool.rec (motive := fun _ => Bool) false b (oneC v)) l
noncomputable def storeL (h : CH) (a : Addr) (vs : List Value) (K : CH → Rs) : Rs :=
  rowK h a fun r => ifB r.rw (ifB (allC vs) (putsK a.off vs r.cells fun l => putRow h a.block (.row ⟨l, r.elem, r.ver, r.rw⟩) K))
noncomputable def storeK (P : Program) (h : CH) (t : TypeId) (a : Addr) (v : Value) (K : CH → Rs) : Rs :=
  optK (szT P t) fun n => aggK v (ifB (Nat.beq 1 n) (storeL h a [v] K)) fun cs => ifB (Nat.beq (listLen cs.toList) n) (storeL h a cs.toList K)

theorem ifB_spec (b : Bool) (K : Rs) : ifB b K = .bad ∨ (b = true ∧ ifB b K = K) := by cases b <;> first | exact .inl rfl | exact .inr ⟨rfl, rfl⟩
theorem oneC_eq (v : Value) : oneC v = v.oneCell' := by cases v <;> rfl
theorem allC_eq : ∀ (l : List Value), allC l = l.all Value.oneCell'
  | [] => rfl
  | v :: l => by
    have e : allC (v :: l) = Bool.rec (motive := fun _ => Bool) false (allC l) (oneC v) := rfl
    rw [e, oneC_eq, allC_eq l, List.all_cons]
    cases v.oneCell' <;> rfl
theorem rowObj_spec (o : AObj) (K : Row → Rs) : rowObj o K = .bad ∨ ∃ r, o = .row r ∧ rowObj o K = K r := by
  cases o with
  | row r => exact .inr ⟨r, rfl, rfl⟩
  | _ => exact .inl rfl
theorem rowK_spec (h : CH) (a : Addr) (K : Row → Rs) : rowK h a K = .bad ∨ ∃ r, (toH h).rowAt a = some r ∧ rowK h a K = K r := by
  unfold rowK
  rcases optK_spec (getO h.t a.block) (fun o => rowObj o fun r => Bool.rec (motive := fun _ => Rs) .bad (K r) (Nat.beq (verOf a) r.ver)) with e | ⟨o, ho, e⟩
  · exact .inl e
  rw [e]
  rcases rowObj_spec o (fun r => Bool.rec (motive := fun _ => Rs) .bad (K r) (Nat.beq (verOf a) r.ver)) with e | ⟨r, rfl, e⟩
  · exact .inl e
  rw [e]
  cases hb : Nat.beq (verOf a) r.ver with
  | false => exact .inl rfl
  | true =>
    refine .inr ⟨r, ?_, rfl⟩
    unfold AHeap.rowAt
    have : (toH h).get a.block = some (.row r) := ho
    rw [this]
    exact if_pos (Nat.eq_of_beq_eq_true hb)
theorem loadK_spec (P : Program) (h : CH) (t : TypeId) (a : Addr) (K : Value → Rs) : loadK P h t a K = .bad ∨ ∃ v, loadA P (toH h) t (.pointer (some a)) = some v ∧ loadK P h t a K = K v := by
  unfold loadK
  rcases rowK_spec h a (fun r => dropK a.off r.cells fun l => optK (isAggT P t) fun b => Bool.rec (motive := fun _ => Rs) (optK (szT P t) fun _ => headK l K) (optK (szT P t) fun n => takeK n l fun l => K (.agg ⟨l⟩)) b) with e | ⟨r, hr, e⟩
  · exact .inl e
  rw [e]
  rcases dropK_spec a.off r.cells (fun l => optK (isAggT P t) fun b => Bool.rec (motive := fun _ => Rs) (optK (szT P t) fun _ => headK l K) (optK (szT P t) fun n => takeK n l fun l => K (.agg ⟨l⟩)) b) with e | ⟨hle, e⟩
  · exact .inl e
  rw [e]
  generalize hl : r.cells.drop a.off = l
  rcases optK_spec (isAggT P t) (fun b => Bool.rec (motive := fun _ => Rs) (optK (szT P t) fun _ => headK l K) (optK (szT P t) fun n => takeK n l fun l => K (.agg ⟨l⟩)) b) with e | ⟨b, hb, e⟩
  · exact .inl e
  rw [e]
  cases b with
  | false =>
    show (optK (szT P t) fun _ => headK l K) = .bad ∨ _
    rcases optK_spec (szT P t) (fun _ => headK l K) with e | ⟨n, hn, e⟩
    · exact .inl e
    rcases headK_spec l K with e' | ⟨x, q, hx, e'⟩
    · exact .inl (e.trans e')
    refine .inr ⟨x, ?_, e.trans e'⟩
    have hlen : a.off + 1 ≤ r.cells.length := by
      have := congrArg List.length (hl.trans hx)
      simp at this; omega
    simp [loadA, hn, hb, AHeap.cellsAt, hr, hlen, hl, hx]
  | true =>
    show (optK (szT P t) fun n => takeK n l fun l => K (.agg ⟨l⟩)) = .bad ∨ _
    rcases optK_spec (szT P t) (fun n => takeK n l fun l => K (.agg ⟨l⟩)) with e | ⟨n, hn, e⟩
    · exact .inl e
    rcases takeK_spec n l (fun l => K (.agg ⟨l⟩)) with e' | ⟨hle', e'⟩
    · exact .inl (e.trans e')
    refine .inr ⟨_, ?_, e.trans e'⟩
    have hlen : a.off + n ≤ r.cells.length := by
      rw [← hl, List.length_drop] at hle'
      omega
    simp [loadA, hn, hb, AHeap.cellsAt, hr, hlen, hl]
theorem putRow_spec (h : CH) (b : Nat) (o : AObj) (K : CH → Rs) : putRow h b o K = .bad ∨ ∃ h', putRow h b o K = K h' ∧ toH h' = (toH h).put b o := by
  rcases setO_spec h.t o b (fun t => K ⟨t, h.next⟩) with e | ⟨t, e, ht⟩
  · exact .inl e
  · exact .inr ⟨_, e, by simp only [toH, AHeap.put]; congr 1; funext j; exact ht j⟩
theorem pushRow_spec (h : CH) (o : AObj) (K : CH → Rs) : pushRow h o K = .bad ∨ ∃ h', pushRow h o K = K h' ∧ toH h' = (toH h).push o := by
  rcases setO_spec h.t o h.next (fun t => forceN (Nat.succ h.next) fun n => K ⟨t, n⟩) with e | ⟨t, e, ht⟩
  · exact .inl e
  · exact .inr ⟨⟨t, h.next + 1⟩, e.trans (forceN_eq _ _), by simp only [toH, AHeap.push]; congr 1; funext j; exact ht j⟩
theorem storeL_spec (h : CH) (a : Addr) (vs : List Value) (K : CH → Rs) : storeL h a vs K = .bad ∨ ∃ h', storeL h a vs K = K h' ∧ (toH h).setCells a vs = some (toH h') := by
  unfold storeL
  rcases rowK_spec h a (fun r => ifB r.rw (ifB (allC vs) (putsK a.off vs r.cells fun l => putRow h a.block (.row ⟨l, r.elem, r.ver, r.rw⟩) K))) with e | ⟨r, hr, e⟩
  · exact .inl e
  rw [e]
  rcases ifB_spec r.rw (ifB (allC vs) (putsK a.off vs r.cells fun l => putRow h a.block (.row ⟨l, r.elem, r.ver, r.rw⟩) K)) with e | ⟨hrw, e⟩
  · exact .inl e
  rw [e]
  rcases ifB_spec (allC vs) (putsK a.off vs r.cells fun l => putRow h a.block (.row ⟨l, r.elem, r.ver, r.rw⟩) K) with e | ⟨hall, e⟩
  · exact .inl e
  rw [e]
  rcases putsK_spec a.off vs r.cells (fun l => putRow h a.block (.row ⟨l, r.elem, r.ver, r.rw⟩) K) with e | ⟨hle, e⟩
  · exact .inl e
  rw [e]
  rcases putRow_spec h a.block (.row ⟨lset r.cells a.off vs, r.elem, r.ver, r.rw⟩) K with e | ⟨h', e, hh⟩
  · exact .inl e
  refine .inr ⟨h', e, ?_⟩
  rw [allC_eq] at hall
  simp only [AHeap.setCells, hr, Option.bind_some, hrw, hall, decide_eq_true hle, Bool.and_self, if_true]
  rw [hh, hrw]
theorem cells_one {v : Value} (h : ∀ cs, v ≠ .agg cs) : v.cells = #[v] := by cases v <;> first | rfl | exact absurd rfl (h _)
theorem storeK_spec (P : Program) (h : CH) (t : TypeId) (a : Addr) (v : Value) (K : CH → Rs) : storeK P h t a v K = .bad ∨ ∃ h', storeK P h t a v K = K h' ∧ storeA P (toH h) t (.pointer (some a)) v = some (toH h') := by
  unfold storeK
  rcases optK_spec (szT P t) (fun n => aggK v (ifB (Nat.beq 1 n) (storeL h a [v] K)) fun cs => ifB (Nat.beq (listLen cs.toList) n) (storeL h a cs.toList K)) with e | ⟨n, hn, e⟩
  · exact .inl e
  rw [e]
  rcases aggK_spec v (ifB (Nat.beq 1 n) (storeL h a [v] K)) (fun cs => ifB (Nat.beq (listLen cs.toList) n) (storeL h a cs.toList K)) with ⟨e, hv⟩ | ⟨cs, rfl, e⟩
  · rw [e]
    rcases ifB_spec (Nat.beq 1 n) (storeL h a [v] K) with e | ⟨hb, e⟩
    · exact .inl e
    rw [e]
    refine (storeL_spec h a [v] K).imp id fun ⟨h', e, hs⟩ => ⟨h', e, ?_⟩
    have h1 : 1 = n := Nat.eq_of_beq_eq_true hb
    simp [storeA, hn, cells_one hv, ← h1, hs]
  · rw [e]
    rcases ifB_spec (Nat.beq (listLen cs.toList) n) (storeL h a cs.toList K) with e | ⟨hb, e⟩
    · exact .inl e
    rw [e]
    refine (storeL_spec h a cs.toList K).imp id fun ⟨h', e, hs⟩ => ⟨h', e, ?_⟩
    have h1 : cs.toList.length = n := (listLen_eq _).symm.trans (Nat.eq_of_beq_eq_true hb)
    have h2 : (Value.agg cs).cells = cs := rfl
    simp only [storeA, hn, h2]
    rw [if_pos (by simpa using h1), hs]
end Go.Ae
namespace Go.Ae
/-- A frame of N slots. -/
structure FR (N : Nat) (fr : TV) (a : Act) : Prop where
  size : a.tmps.size = N
  val : ∀ t, evX (.tmp t) fr = a.eval (.tmp t)
theorem FR.eval {N : Nat} {fr : TV} {a : Act} (h : FR N fr a) (x : Operand) : evX x fr = a.eval x := by
  cases x with
  | tmp t => exact h.val t
  | const v => rfl
  | global g => rfl
  | func f => rfl
theorem FR.fn {N : Nat} {fr : TV} {a : Act} (h : FR N fr a) : (fun x => evX x fr) = a.eval := funext h.eval
theorem evO_set {fr fr' : TV} {d : Nat} {v : Value} (h : ∀ j, getV fr' j = if j = d then some v else getV fr j) (t : Nat) : evX (.tmp t) fr' = if t = d then v else evX (.tmp t) fr := by
  have e : ∀ fr : TV, evX (.tmp t) fr = Option.rec (motive := fun _ => Value) undef (fun v => v) (getV fr t) := fun _ => rfl
  rw [e, e, h t]
  split <;> rfl
/-- The slot of an operation gets its value. -/
noncomputable def finS (N : Nat) (d : Option Tmp) (v : Value) (fr : TV) (K : TV → Rs) : Rs := forceS v fun v => Option.rec (motive := fun _ => Rs) (K fr) (fun d => ifB (Nat.blt d N) (setV fr v d K)) d
noncomputable def fin (N : Nat) (d : Option Tmp) (v : Value) (fr : TV) (K : TV → Rs) : Rs := forceV v fun v => Option.rec (motive := fun _ => Rs) (K fr) (fun d => ifB (Nat.blt d N) (setV fr v d K)) d
noncomputable def memD (d : Option Tmp) (l : List Tmp) : Bool := Option.rec (motive := fun _ => Bool) false (fun d => List.rec (motive := fun _ => Bool) false (fun x _ ih => Bool.rec (motive := fun _ => Bool) ih true (Nat.beq x d)) l) d
/-- The slots in Z are asked for. -/
noncomputable def finC (Z : List Tmp) (N : Nat) (d : Option Tmp) (v : Value) (fr : TV) (K : TV → Rs) : Rs := Bool.rec (motive := fun _ => Rs) (fin N d v fr K) (.cas v fun v => fin N d v fr K) (memD d Z)
/-- The slots in Z are left as they are. -/
noncomputable def finL (Z : List Tmp) (N : Nat) (d : Option Tmp) (v : Value) (fr : TV) (K : TV → Rs) : Rs := Bool.rec (motive := fun _ => Rs) (fin N d v fr K) (finS N d v fr K) (memD d Z)
theorem FR.setV {N : Nat} {fr fr' : TV} {a : Act} (hf : FR N fr a) {d : Nat} {v : Value} (hd : d < N) (ht : ∀ j, getV fr' j = if j = d then some v else getV fr j) : FR N fr' (a.put (some d) v) := by
  refine ⟨by rw [Act.size_put]; exact hf.size, fun j => ?_⟩
  rw [evO_set ht, Act.eval_put_tmp]
  by_cases hj : j = d
  · rw [if_pos hj, if_pos ⟨hj, by rw [hf.size]; exact hd⟩]
  · rw [if_neg hj, if_neg (fun h => hj h.1)]
    exact hf.val j
theorem finS_spec {N : Nat} {fr : TV} {a : Act} (hf : FR N fr a) (d : Option Tmp) (v : Value) (K : TV → Rs) : finS N d v fr K = .bad ∨ ∃ fr', FR N fr' (a.put d v) ∧ finS N d v fr K = K fr' := by
  unfold finS
  rw [forceS_eq]
  cases d with
  | none => exact .inr ⟨fr, hf, rfl⟩
  | some d =>
    show ifB (Nat.blt d N) (Ae.setV fr v d K) = .bad ∨ ∃ fr', _ ∧ ifB (Nat.blt d N) (Ae.setV fr v d K) = K fr'
    rcases ifB_spec (Nat.blt d N) (Ae.setV fr v d K) with e | ⟨hb, e⟩
    · exact .inl e
    rw [e]
    rcases setV_spec fr v d K with e | ⟨fr', e, ht⟩
    · exact .inl e
    · exact .inr ⟨fr', hf.setV (by rw [Nat.blt_eq] at hb; exact hb) ht, e⟩
theorem fin_spec {N : Nat} {fr : TV} {a : Act} (hf : FR N fr a) (d : Option Tmp) (v : Value) (K : TV → Rs) : fin N d v fr K = .bad ∨ ∃ fr', FR N fr' (a.put d v) ∧ fin N d v fr K = K fr' := by
  have h := finS_spec hf d v K
  unfold finS at h
  rw [forceS_eq] at h
  unfold fin
  rw [forceV_eq]
  exact h
theorem finL_spec {Z : List Tmp} {N : Nat} {fr : TV} {a : Act} (hf : FR N fr a) (d : Option Tmp) (v : Value) (K : TV → Rs) : finL Z N d v fr K = .bad ∨ ∃ fr', FR N fr' (a.put d v) ∧ finL Z N d v fr K = K fr' := by
  unfold finL
  cases memD d Z with
  | false => exact fin_spec hf d v K
  | true => exact finS_spec hf d v K
/-- What one operation did. -/
inductive Did (P : Program) (a : Act) (H : AHeap) (o : Oper) (v : Value) (H' : AHeap) : Prop
  | n (hE : isE o = false) (h : nRes P a H o = some (v, H'))
  | e (hE : isE o = true) (hc : acall P a.eval o = none) (h : aE P a.eval H o = some (v, H'))
  | call (hE : isE o = true) (f : FuncId) (args : Array Value) (hc : acall P a.eval o = some (f, args)) (h : ACalls P f args H fun v' H'' => v' = v ∧ H'' = H')
theorem Did.step {P : Program} {a : Act} {H H' : AHeap} {o : Oper} {v : Value} (h : Did P a H o v H') {K : Value → AHeap → Prop} (hk : K v H') : step1 P a H o K := by
  unfold step1
  cases h with
  | n hE h => rw [hE]; exact nStep_of h hk
  | e hE hc h => rw [hE]; simp only [if_true, eStep, hc, h]; exact hk
  | call hE f args hc h =>
    rw [hE]
    simp only [if_true, eStep, hc]
    exact h.mono fun v' H'' ⟨e1, e2⟩ => by rw [e1, e2]; exact hk
end Go.Ae

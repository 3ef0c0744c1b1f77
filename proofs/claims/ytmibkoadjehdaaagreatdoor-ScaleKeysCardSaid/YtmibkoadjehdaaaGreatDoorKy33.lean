/- The evaluator of code. No condition. -/
import Derived.Test.YtmibkoadjehdaaaGreatDoorKy32
set_option linter.unusedVariables false
set_option linter.unusedSimpArgs false
namespace Go.Ae
abbrev CodeF := Option Nat → Program → Enw → TV → Df → CH → YS → Rs
noncomputable def onOk (r : Rs) : (Exit → TV → Df → CH → YS → Rs) → Rs := Rs.rec (motive := fun _ => (Exit → TV → Df → CH → YS → Rs) → Rs) (fun _ => .bad) (fun e fr df h y K => K e fr df h y) (fun f args h _ ih K => .ask f args h fun v h => ih v h K) (fun v _ ih K => .cas v fun v => ih v K) (fun v v' _ ih K => .eqv v v' (ih K)) r
noncomputable def onNormal (e : Exit) : Rs → Rs → Rs := Exit.rec (motive := fun _ => Rs → Rs → Rs) (fun a _ => a) (fun _ _ b => b) (fun _ _ b => b) (fun _ b => b) (fun _ _ b => b) (fun _ b => b) e
noncomputable def onExit (e : Exit) : Nat → Rs → Rs → Rs := Exit.rec (motive := fun _ => Nat → Rs → Rs → Rs) (fun _ _ b => b) (fun i j a b => Bool.rec (motive := fun _ => Rs) b a (Nat.beq i j)) (fun _ _ _ b => b) (fun _ _ b => b) (fun _ _ _ b => b) (fun _ _ b => b) e
noncomputable def onGoto (e : Exit) : (Nat → Rs) → Rs → Rs := Exit.rec (motive := fun _ => (Nat → Rs) → Rs → Rs) (fun _ b => b) (fun _ _ b => b) (fun i K _ => K i) (fun _ b => b) (fun _ _ b => b) (fun _ b => b) e
noncomputable def isNone {α : Type} (m : Option α) (a b : Rs) : Rs := Option.rec (motive := fun _ => Rs) a (fun _ => b) m
noncomputable def noY : YF := fun _ _ _ => none
/-! ### Loops over functions -/
noncomputable def slotsE (n : Nat) : Nat → TV → List Value := Nat.rec (motive := fun _ => Nat → TV → List Value) (fun _ _ => []) (fun _ ih i fr => evX (.tmp i) fr :: ih (Nat.succ i) fr) n
noncomputable def putL (l : List Value) : Nat → TV → (TV → Rs) → Rs :=
  List.rec (motive := fun _ => Nat → TV → (TV → Rs) → Rs) (fun _ fr K => K fr) (fun v _ ih i fr K => forceS v fun v => setV fr v i fun fr => ih (Nat.succ i) fr K) l
noncomputable def putPs (N : Nat) (l : List Tmp) : List Value → TV → (TV → Rs) → Rs :=
  List.rec (motive := fun _ => List Value → TV → (TV → Rs) → Rs) (fun _ fr K => K fr) (fun t _ ih vs fr K => List.rec (motive := fun _ => Rs) (K fr) (fun v vs _ => ifB (Nat.blt t N) (setV fr v t fun fr => ih vs fr K)) vs) l
noncomputable def loopK (o : AObj) : (List Value → FuncId → LoopState → Option Code → Rs) → Rs :=
  AObj.rec (motive := fun _ => (List Value → FuncId → LoopState → Option Code → Rs) → Rs) (fun _ _ => .bad) (fun _ _ _ => .bad) (fun _ _ _ => .bad) (fun ts k st pe K => K ts k st pe) (fun _ _ => .bad) o
theorem loopK_spec (o : AObj) (K : List Value → FuncId → LoopState → Option Code → Rs) : loopK o K = .bad ∨ ∃ ts k st pe, o = .loop ts k st pe ∧ loopK o K = K ts k st pe := by
  cases o with
  | loop ts k st pe => exact .inr ⟨ts, k, st, pe, rfl, rfl⟩
  | _ => exact .inl rfl
def isReady : LoopState → Bool
  | .ready => true
  | _ => false
theorem isReady_spec {s : LoopState} (h : isReady s = true) : s = .ready := by cases s <;> first | rfl | cases h
def isBusy : LoopState → Bool
  | .busy => true
  | _ => false
noncomputable def noneB {α : Type} (m : Option α) : Bool := Option.rec (motive := fun _ => Bool) true (fun _ => false) m
theorem noneB_spec {α : Type} {m : Option α} (h : noneB m = true) : m = none := by cases m <;> first | rfl | cases h
noncomputable def rndE (E : Enw) : Enw := ⟨E.N, E.F, E.ne, E.tbl, noY, E.B, E.self, E.Z⟩
/-- The end of a round. -/
noncomputable def endE (i : Nat) (e : Exit) (h : CH) : Rs :=
  optK (getO h.t i) fun o => loopK o fun ts k _ _ => onNormal e (putRow h i (.loop ts k .ready none) fun h => .ok .normal .e [] h none) (optK (codeOf e) fun c => putRow h i (.loop ts k .done (some c)) fun h => .ok .ret .e [] h none)
noncomputable def roundE (ps : Array Tmp) (ia ib : CodeF) (P : Program) (E : Enw) (i : Nat) (args : List Value) (h : CH) : Rs :=
  optK (getO h.t i) fun o => loopK o fun ts k st pe => ifB (isReady st) (ifB (Nat.beq k E.self) (ifB (noneB pe) (ifB (Nat.beq (listLen args) ps.size) (ifB (Nat.beq (listLen ts) E.N)
    (putL ts 0 .e fun fr => putPs E.N ps.toList args fr fun fr => onOk (ia none P (rndE E) fr [] h none) fun e fr df h _ => onNormal e
      (optK (getO h.t i) fun o => loopK o fun ts k st pe => ifB (isReady st) (ifB (noneB pe) (putRow h i (.loop ts k .busy none) fun h => onOk (ib none P (rndE E) fr df h none) fun e _ _ h _ => endE i e h))) .bad)))))
noncomputable def outY (r : Rs) : Option (Bool × CH) := Rs.rec (motive := fun _ => Option (Bool × CH)) none (fun e _ _ h _ => some (Exit.rec (motive := fun _ => Bool) true (fun _ => false) (fun _ => false) false (fun _ => false) false e, h)) (fun _ _ _ _ _ => none) (fun _ _ _ => none) (fun _ _ _ _ => none) r
noncomputable def yE (ps : Array Tmp) (ia ib : CodeF) (P : Program) (E : Enw) (i : Nat) : YF := fun j args h => outY (ifB (Nat.beq j i) (roundE ps ia ib P E i args h))
/-- The jump that a code is. -/
noncomputable def jumpK (c : Code) (K : Exit → Rs) : Rs := match c with
  | .ret => K .ret
  | .exit id => K (.exit id)
  | .goto l => K (.goto l)
  | _ => .bad
noncomputable def rangeE (f : Operand) (ps : Array Tmp) (ia ib : CodeF) : Program → Enw → TV → Df → CH → YS → Rs := fun P E fr df h y =>
  funK (evX f fr) (fun g first cap => pushRow h dfObj fun h1 => pushRow h1 (.loop (slotsE E.N 0 fr) E.self .ready none) fun h2 =>
    consK cap.toList [] fun z => consK first.toList (.chan (some (Nat.succ h.next)) :: z) fun l => E.B (yE ps ia ib P E (Nat.succ h.next)) g l h2 fun _ q =>
    optK (getO q.t (Nat.succ h.next)) fun o => loopK o fun ts k st pe => ifB (not (isBusy st)) (putRow q (Nat.succ h.next) (.loop ts k .exhausted pe) fun h3 =>
      Option.rec (motive := fun _ => Rs) (.ok .normal fr (.col h.next :: df) h3 y) (fun c => jumpK c fun e => .ok e fr (.col h.next :: df) h3 y) pe)) .bad
noncomputable def loopE (ic : CodeF) (n : Nat) : Program → Enw → TV → Df → CH → YS → Rs :=
  Nat.rec (motive := fun _ => Program → Enw → TV → Df → CH → YS → Rs) (fun _ _ _ _ _ _ => .bad)
    (fun _ ih P E fr df h y => onOk (ic none P E fr df h y) fun e fr df h y => onNormal e (ih P E fr df h y) (.ok e fr df h y)) n
noncomputable def scopeE (c : Code) (ic : CodeF) (n : Nat) : Program → Enw → Rs → Rs :=
  Nat.rec (motive := fun _ => Program → Enw → Rs → Rs) (fun _ _ _ => .bad)
    (fun _ ih P E r => onOk r fun e fr df h y => onGoto e (fun l => isNone (findLabel c l) .bad (ih P E (ic (some l) P E fr df h y))) (.ok e fr df h y)) n
noncomputable def regionE (id : Nat) (ops : Array Oper) (d : Bool) : Program → Enw → TV → Df → CH → YS → Rs := fun P E fr df h y => Bool.rec (motive := fun _ => Rs)
  (seqE ops.toList ops.toList P E fr df h y fun fr df h y => .ok .normal fr df h y)
  (drawE (getT E.tbl id).1 ops.toList (getT E.tbl id).2 P (rndE E) fr df h y [] fun fr df h y => .ok .normal fr df h y) d
noncomputable def codeE (c : Code) : CodeF :=
  Code.rec (motive := fun _ => CodeF)
    (fun _ _ _ fr df h y => .ok .normal fr df h y)
    (fun id ops d _ P E fr df h y => regionE id ops d P E fr df h y)
    (fun a _ ia ib m P E fr df h y => Option.rec (motive := fun _ => Rs) (onOk (ia none P E fr df h y) fun e fr df h y => onNormal e (ib none P E fr df h y) (.ok e fr df h y))
      (fun l => isNone (findLabel a l) (ib (some l) P E fr df h y) (onOk (ia (some l) P E fr df h y) fun e fr df h y => onNormal e (ib none P E fr df h y) (.ok e fr df h y))) m)
    (fun c _ _ ia ib _ P E fr df h y => boolK (evX c fr) fun b => Bool.rec (motive := fun _ => Rs) (ib none P E fr df h y) (ia none P E fr df h y) b)
    (fun id _ ic _ P E fr df h y => onOk (ic none P E fr df h y) fun e fr df h y => onExit e id (.ok .normal fr df h y) (.ok e fr df h y))
    (fun _ ic _ P E fr df h y => loopE ic 4096 P E fr df h y)
    (fun f ps _ _ ia ib _ P E fr df h y => rangeE f ps ia ib P E fr df h y)
    (fun id _ _ _ fr df h y => .ok (.exit id) fr df h y)
    (fun c ic _ P E fr df h y => scopeE c ic 4096 P E (ic none P E fr df h y))
    (fun _ _ _ _ fr df h y => .ok .normal fr df h y)
    (fun l _ _ _ fr df h y => .ok (.goto l) fr df h y)
    (fun _ _ _ fr df h y => .ok .ret fr df h y)
    (fun _ _ _ _ _ _ _ _ => .bad) c

/-! ### What is asked of a text -/
def okC (tbl : Tbl) : Bool → Code → Bool
  | rd, .region id ops d => (!rd || noDefer ops.toList) && (if d then noDefer ops.toList && schedOk ops (getT tbl id).1 (getT tbl id).2 else ops.toList.all operandsOk)
  | rd, .seq a b => okC tbl rd a && okC tbl rd b
  | rd, .cond c a b => okOperand c && okC tbl rd a && okC tbl rd b
  | rd, .block _ c => okC tbl rd c
  | rd, .loop c => okC tbl rd c
  | rd, .scope c => !rd && okC tbl rd c
  | rd, .rangeFunc f _ asv bd => !rd && okOperand f && okC tbl true asv && okC tbl true bd
  | _, _ => true
/-- Its loop over a function is the one that its name stands for. -/
def RfP (P : Program) (k : FuncId) : Code → Prop
  | .seq a b => RfP P k a ∧ RfP P k b
  | .cond _ a b => RfP P k a ∧ RfP P k b
  | .block _ c => RfP P k c
  | .loop c => RfP P k c
  | .scope c => RfP P k c
  | .rangeFunc _ ps asv bd => rfP P k = some (ps, asv, bd) ∧ RfP P k asv ∧ RfP P k bd
  | _ => True
def BOk (P : Program) (B : YF → Fun) : Prop := ∀ Y, YOk P Y → FunOk P (B Y)
structure EnvOk (P : Program) (E : Enw) : Prop where
  op : EOk P E
  y : YOk P E.Y
  b : BOk P E.B
def Out (N : Nat) (e : Exit) (fr : TV) (df : Df) (h : CH) (e' : Exit) (a' : Act) (H' : AHeap) : Prop := e' = e ∧ St N fr df a' ∧ H' = toH h
def target (c : Code) : Option Nat → Option Code
  | none => some c
  | some l => findLabel c l
/-- What is shown of a text: what the evaluator finds is what it comes to. -/
def Sound (P : Program) (tbl : Tbl) (k : FuncId) (c : Code) (ic : CodeF) : Prop :=
  ∀ (rd : Bool) (r : Option Nat) (E : Enw) (m : Option Nat) (fr : TV) (a : Act) (df : Df) (h : CH) (y : YS) (e : Exit) (fr' : TV) (df' : Df) (h' : CH) (y' : YS) (x : Code), okC tbl rd c = true → RfP P k c → (rd = true ∨ r = none) → EnvOk P E → E.tbl = tbl → E.self = k →
    St E.N fr df a → Res P (ic m P E fr df h y) (.ok e fr' df' h' y') → target c m = some x → awF r P x (Out E.N e fr' df' h') a (toH h)
theorem rndOk {P : Program} {E : Enw} (h : EnvOk P E) : EnvOk P (rndE E) := ⟨⟨h.op.fn, h.op.ne⟩, (fun _ _ _ _ _ h => by cases h), h.b⟩
theorem onOk_ok {P : Program} {r : Rs} {K : Exit → TV → Df → CH → YS → Rs} {o : Rs} (hk : Res P (onOk r K) o) : ∃ e1 fr1 df1 h1 y1, Res P r (.ok e1 fr1 df1 h1 y1) ∧ Res P (K e1 fr1 df1 h1 y1) o := by
  induction r with
  | bad => cases hk
  | ok e1 fr1 df1 h1 y1 => exact ⟨e1, fr1, df1, h1, y1, .ok, hk⟩
  | ask f args h k ih =>
    have hk' : Res P (.ask f args h fun v h => onOk (k v h) K) o := hk
    cases hk' with
    | ask hA hr =>
      obtain ⟨e1, fr1, df1, h1, y1, g1, g2⟩ := ih _ _ hr
      exact ⟨e1, fr1, df1, h1, y1, .ask hA g1, g2⟩
  | cas v k ih =>
    have hk' : Res P (.cas v fun v => onOk (k v) K) o := hk
    cases hk' with
    | cas hv hr =>
      obtain ⟨e1, fr1, df1, h1, y1, g1, g2⟩ := ih _ hr
      exact ⟨e1, fr1, df1, h1, y1, .cas hv g1, g2⟩
  | eqv v v' r ih =>
    have hk' : Res P (.eqv v v' (onOk r K)) o := hk
    cases hk' with
    | eqv hv hr =>
      obtain ⟨e1, fr1, df1, h1, y1, g1, g2⟩ := ih hr
      exact ⟨e1, fr1, df1, h1, y1, .eqv hv g1, g2⟩
theorem onNormal_cases (e : Exit) (a b : Rs) : (e = .normal ∧ onNormal e a b = a) ∨ (e ≠ .normal ∧ onNormal e a b = b) := by
  cases e <;> first | exact .inl ⟨rfl, rfl⟩ | exact .inr ⟨by simp, rfl⟩
theorem sound_region {P : Program} {tbl : Tbl} {k : FuncId} (hm : P.follows .mixedOrders = true) (id : Nat) (ops : Array Oper) (d : Bool) : Sound P tbl k (.region id ops d) (fun _ P E fr df h y => regionE id ops d P E fr df h y) := by
  intro rd r E m fr a df h y e fr' df' h' y' x hok hrf hr hE ht hk hs hev hx
  cases m with
  | some l => cases hx
  | none =>
    obtain rfl := Option.some.inj hx
    simp only [okC, Bool.and_eq_true, Bool.or_eq_true, Bool.not_eq_true'] at hok
    have hnd : r = none ∨ noDefer ops.toList = true := by
      rcases hok.1 with h | h
      · rcases hr with h' | h'
        · rw [h] at h'; cases h'
        · exact .inl h'
      · exact .inr h
    cases d with
    | false =>
      have hok2 := hok.2
      rw [if_neg (by simp)] at hok2
      have hev' : Res P (seqE ops.toList ops.toList P E fr df h y (fun fr df h y => .ok .normal fr df h y)) (.ok e fr' df' h' y') := hev
      obtain ⟨fr1, df1, h1, a1, hev', hs1, hk1⟩ := seqE_spec (P := P) (E := E) (ops := ops) hE.op hE.y y (fun fr df h y => .ok .normal fr df h y) _ ops.toList (h := h) hs hev'
      obtain ⟨rfl, rfl, rfl, rfl, rfl⟩ := Res.inj hev'
      exact awF_regionY hnd hok2 (hk1 _ ⟨rfl, hs1, rfl⟩)
    | true =>
      have hok2 := hok.2
      rw [if_pos rfl] at hok2
      simp only [Bool.and_eq_true] at hok2
      have hev' : Res P (drawE (getT E.tbl id).1 ops.toList (getT E.tbl id).2 P (rndE E) fr df h y [] (fun fr df h y => .ok .normal fr df h y)) (.ok e fr' df' h' y') := hev
      obtain ⟨fr1, df1, h1, a1, hev', hs1, hk1⟩ := drawE_spec (P := P) (E := rndE E) (ops := ops) (B := (getT E.tbl id).2) (rndOk hE).op (fun _ _ _ => rfl) hok2.1 y (fun fr df h y => .ok .normal fr df h y) _ (getT E.tbl id).1 (h := h) (lg := []) (log := []) hs .nil hev'
      obtain ⟨rfl, rfl, rfl, rfl, rfl⟩ := Res.inj hev'
      rw [ht] at hk1
      exact awF_draw hm (.inr hok2.1) hok2.2 (hk1 _ ⟨rfl, hs1, rfl⟩)
theorem sound_seq {P : Program} {tbl : Tbl} {k : FuncId} {c d : Code} {ia ib : CodeF} (hc : Sound P tbl k c ia) (hd : Sound P tbl k d ib) : Sound P tbl k (.seq c d) (fun m P E fr df h y => Option.rec (motive := fun _ => Rs) (onOk (ia none P E fr df h y) fun e fr df h y => onNormal e (ib none P E fr df h y) (.ok e fr df h y))
      (fun l => isNone (findLabel c l) (ib (some l) P E fr df h y) (onOk (ia (some l) P E fr df h y) fun e fr df h y => onNormal e (ib none P E fr df h y) (.ok e fr df h y))) m) := by
  intro rd r E m fr a df h y e fr' df' h' y' x hok hrf hr hE ht hk hs hev hx
  simp only [okC, Bool.and_eq_true] at hok
  have two : ∀ (m : Option Nat) (x : Code), target c m = some x → Res P (onOk (ia m P E fr df h y) (fun e fr df h y => onNormal e (ib none P E fr df h y) (.ok e fr df h y))) (.ok e fr' df' h' y') → awF r P (.seq x d) (Out E.N e fr' df' h') a (toH h) := by
    intro m x hx hev
    obtain ⟨e1, fr1, df1, h1, y1, g1, g2⟩ := onOk_ok hev
    have k1 := hc rd r E m fr a df h y e1 fr1 df1 h1 y1 x hok.1 hrf.1 hr hE ht hk hs g1 hx
    refine awF_seq (awF_mono k1 fun e2 a2 H2 ⟨he, hs2, hH⟩ => ?_)
    subst he hH
    rcases onNormal_cases e2 (ib none P E fr1 df1 h1 y1) (.ok e2 fr1 df1 h1 y1) with ⟨rfl, e3⟩ | ⟨hne, e3⟩
    · rw [e3] at g2
      exact hd rd r E none fr1 a2 df1 h1 y1 e fr' df' h' y' d hok.2 hrf.2 hr hE ht hk hs2 g2 rfl
    · rw [e3] at g2
      obtain ⟨rfl, rfl, rfl, rfl, rfl⟩ := Res.inj g2
      cases e2 with
      | normal => exact absurd rfl hne
      | _ => exact ⟨rfl, hs2, rfl⟩
  cases m with
  | none =>
    obtain rfl := Option.some.inj hx
    exact two none c rfl hev
  | some l =>
    simp only [target, findLabel] at hx
    have hev' : Res P (isNone (findLabel c l) (ib (some l) P E fr df h y) (onOk (ia (some l) P E fr df h y) fun e fr df h y => onNormal e (ib none P E fr df h y) (.ok e fr df h y))) (.ok e fr' df' h' y') := hev
    cases hl : findLabel c l with
    | none =>
      rw [hl] at hx hev'
      exact hd rd r E (some l) fr a df h y e fr' df' h' y' x hok.2 hrf.2 hr hE ht hk hs hev' hx
    | some rest =>
      rw [hl] at hx hev'
      obtain rfl := Option.some.inj hx
      exact two (some l) rest hl hev'
theorem sound_cond {P : Program} {tbl : Tbl} {k : FuncId} {f : Operand} {c d : Code} {ia ib : CodeF} (hc : Sound P tbl k c ia) (hd : Sound P tbl k d ib) : Sound P tbl k (.cond f c d) (fun _ P E fr df h y => boolK (evX f fr) fun b => Bool.rec (motive := fun _ => Rs) (ib none P E fr df h y) (ia none P E fr df h y) b) := by
  intro rd r E m fr a df h y e fr' df' h' y' x hok hrf hr hE ht hk hs hev hx
  cases m with
  | some l => cases hx
  | none =>
    obtain rfl := Option.some.inj hx
    simp only [okC, Bool.and_eq_true] at hok
    rcases boolK_spec (evX f fr) (fun b => Bool.rec (motive := fun _ => Rs) (ib none P E fr df h y) (ia none P E fr df h y) b) with e1 | ⟨b, hb, e1⟩
    · have hev1 : Res P (boolK (evX f fr) (fun b => Bool.rec (motive := fun _ => Rs) (ib none P E fr df h y) (ia none P E fr df h y) b)) (.ok e fr' df' h' y') := hev
      rw [e1] at hev1; cases hev1
    have hev1 : Res P (boolK (evX f fr) (fun b => Bool.rec (motive := fun _ => Rs) (ib none P E fr df h y) (ia none P E fr df h y) b)) (.ok e fr' df' h' y') := hev
    rw [e1] at hev1
    rw [hs.fr.eval] at hb
    refine awF_cond hb hok.1.1 ?_
    cases b with
    | true => exact hc rd r E none fr a df h y e fr' df' h' y' c hok.1.2 hrf.1 hr hE ht hk hs hev1 rfl
    | false => exact hd rd r E none fr a df h y e fr' df' h' y' d hok.2 hrf.2 hr hE ht hk hs hev1 rfl
theorem sound_block {P : Program} {tbl : Tbl} {k : FuncId} {id : Nat} {c : Code} {ic : CodeF} (hc : Sound P tbl k c ic) : Sound P tbl k (.block id c) (fun _ P E fr df h y => onOk (ic none P E fr df h y) fun e fr df h y => onExit e id (.ok .normal fr df h y) (.ok e fr df h y)) := by
  intro rd r E m fr a df h y e fr' df' h' y' x hok hrf hr hE ht hk hs hev hx
  cases m with
  | some l => cases hx
  | none =>
    obtain rfl := Option.some.inj hx
    obtain ⟨e1, fr1, df1, h1, y1, g1, g2⟩ := onOk_ok hev
    refine awF_block (awF_mono (hc rd r E none fr a df h y e1 fr1 df1 h1 y1 c hok hrf hr hE ht hk hs g1 rfl) fun e2 a2 H2 ⟨he, hs2, hH⟩ => ?_)
    subst he hH
    cases e2 with
    | exit i =>
      have g3 : Res P (Bool.rec (motive := fun _ => Rs) (.ok (.exit i) fr1 df1 h1 y1) (.ok .normal fr1 df1 h1 y1) (Nat.beq i id)) (.ok e fr' df' h' y') := g2
      simp only [inBlockA]
      cases hi : Nat.beq i id with
      | true =>
        rw [hi] at g3
        obtain ⟨rfl, rfl, rfl, rfl, rfl⟩ := Res.inj g3
        rw [if_pos (Nat.eq_of_beq_eq_true hi)]
        exact ⟨rfl, hs2, rfl⟩
      | false =>
        rw [hi] at g3
        obtain ⟨rfl, rfl, rfl, rfl, rfl⟩ := Res.inj g3
        rw [if_neg (fun h => by subst h; rw [Nat.beq_refl] at hi; cases hi)]
        exact ⟨rfl, hs2, rfl⟩
    | _ =>
      simp only [onExit] at g2
      obtain ⟨rfl, rfl, rfl, rfl, rfl⟩ := Res.inj g2
      exact ⟨rfl, hs2, rfl⟩
theorem sound_loop {P : Program} {tbl : Tbl} {k : FuncId} {c : Code} {ic : CodeF} (hc : Sound P tbl k c ic) : Sound P tbl k (.loop c) (fun _ P E fr df h y => loopE ic 4096 P E fr df h y) := by
  intro rd r E m fr a df h y e fr' df' h' y' x hok hrf hr hE ht hk hs hev hx
  cases m with
  | some l => cases hx
  | none =>
    obtain rfl := Option.some.inj hx
    refine awF_loop (fun n a H => ∃ fr df h y, St E.N fr df a ∧ H = toH h ∧ Res P (loopE ic n P E fr df h y) (.ok e fr' df' h' y')) 4096 ⟨fr, df, h, y, hs, rfl, hev⟩ fun n a H ⟨fr, df, h, y, hs, hH, hev⟩ => ?_
    subst hH
    cases n with
    | zero => cases hev
    | succ n =>
      have hev' : Res P (onOk (ic none P E fr df h y) (fun e fr df h y => onNormal e (loopE ic n P E fr df h y) (.ok e fr df h y))) (.ok e fr' df' h' y') := hev
      obtain ⟨e1, fr1, df1, h1, y1, g1, g2⟩ := onOk_ok hev'
      refine awF_mono (hc rd r E none fr a df h y e1 fr1 df1 h1 y1 c hok hrf hr hE ht hk hs g1 rfl) fun e2 a2 H2 ⟨he, hs2, hH⟩ => ?_
      subst he hH
      rcases onNormal_cases e2 (loopE ic n P E fr1 df1 h1 y1) (.ok e2 fr1 df1 h1 y1) with ⟨rfl, e3⟩ | ⟨hne, e3⟩
      · rw [e3] at g2
        exact ⟨n, Nat.lt_succ_self n, fr1, df1, h1, y1, hs2, rfl, g2⟩
      · rw [e3] at g2
        obtain ⟨rfl, rfl, rfl, rfl, rfl⟩ := Res.inj g2
        cases e2 with
        | normal => exact absurd rfl hne
        | _ => exact ⟨rfl, hs2, rfl⟩
theorem sound_scope {P : Program} {tbl : Tbl} {k : FuncId} {c : Code} {ic : CodeF} (hc : Sound P tbl k c ic) : Sound P tbl k (.scope c) (fun _ P E fr df h y => scopeE c ic 4096 P E (ic none P E fr df h y)) := by
  intro rd r E m fr a df h y e fr' df' h' y' x hok hrf hr hE ht hk hs hev hx
  cases m with
  | some l => cases hx
  | none =>
    obtain rfl := Option.some.inj hx
    simp only [okC, Bool.and_eq_true, Bool.not_eq_true'] at hok
    obtain rfl : r = none := by
      rcases hr with h | h
      · rw [hok.1] at h; cases h
      · exact h
    refine awF_none.2 (aw_scope 4096 ?_)
    have key : ∀ (n : Nat) (m : Option Nat) (x : Code) (fr : TV) (a : Act) (df : Df) (h : CH) (y : YS), target c m = some x → St E.N fr df a → Res P (scopeE c ic n P E (ic m P E fr df h y)) (.ok e fr' df' h' y') → inScA P c (Out E.N e fr' df' h') n x a (toH h) := by
      intro n
      induction n with
      | zero => intro m x fr a df h y _ _ hev; cases hev
      | succ n ih =>
        intro m x fr a df h y hx hs hev
        have hev' : Res P (onOk (ic m P E fr df h y) (fun e fr df h y => onGoto e (fun l => isNone (findLabel c l) .bad (scopeE c ic n P E (ic (some l) P E fr df h y))) (.ok e fr df h y))) (.ok e fr' df' h' y') := hev
        obtain ⟨e1, fr1, df1, h1, y1, g1, g2⟩ := onOk_ok hev'
        refine aw_mono (awF_none.1 (hc rd none E m fr a df h y e1 fr1 df1 h1 y1 x hok.2 hrf (.inr rfl) hE ht hk hs g1 hx)) fun e2 a2 H2 ⟨he, hs2, hH⟩ => ?_
        subst he hH
        cases e2 with
        | goto l =>
          have g3 : Res P (isNone (findLabel c l) .bad (scopeE c ic n P E (ic (some l) P E fr1 df1 h1 y1))) (.ok e fr' df' h' y') := g2
          dsimp only
          cases hl : findLabel c l with
          | none => rw [hl] at g3; cases g3
          | some rest =>
            rw [hl] at g3
            exact ih (some l) rest fr1 a2 df1 h1 y1 hl hs2 g3
        | _ =>
          simp only [onGoto] at g2
          obtain ⟨rfl, rfl, rfl, rfl, rfl⟩ := Res.inj g2
          exact ⟨rfl, hs2, rfl⟩
    exact key 4096 none c fr a df h y rfl hs hev
end Go.Ae
namespace Go.Ae
theorem slotsE_get (fr : TV) : ∀ (n i j : Nat), (slotsE n i fr)[j]? = if j < n then some (evX (.tmp (i + j)) fr) else none
  | 0, _, _ => by rw [if_neg (by omega)]; rfl
  | n + 1, i, 0 => by rw [if_pos (by omega)]; rfl
  | n + 1, i, j + 1 => by
    show (slotsE n (i + 1) fr)[j]? = _
    rw [slotsE_get fr n (i + 1) j]
    by_cases h : j < n
    · rw [if_pos h, if_pos (by omega), show i + 1 + j = i + (j + 1) by omega]
    · rw [if_neg h, if_neg (by omega)]
theorem slotsE_eq {N : Nat} {fr : TV} {a : Act} (h : FR N fr a) : slotsE N 0 fr = a.tmps.toList := by
  apply List.ext_getElem?
  intro j
  rw [slotsE_get, Nat.zero_add, Array.getElem?_toList]
  by_cases hj : j < N
  · rw [if_pos hj, h.val j]
    simp only [Act.eval]
    rw [Array.getD_eq_getD_getElem?]
    rw [Array.getElem?_eq_getElem (by rw [h.size]; exact hj)]
    rfl
  · rw [if_neg hj, Array.getElem?_eq_none (by rw [h.size]; omega)]
theorem putL_spec : ∀ (l : List Value) (i : Nat) (fr : TV) (K : TV → Rs), putL l i fr K = .bad ∨ ∃ fr', putL l i fr K = K fr' ∧ ∀ j, getV fr' j = if i ≤ j ∧ j < i + l.length then l[j - i]? else getV fr j
  | [], i, fr, K => .inr ⟨fr, rfl, fun j => by rw [if_neg (by simp only [List.length_nil]; omega)]⟩
  | v :: l, i, fr, K => by
    have e : putL (v :: l) i fr K = setV fr v i fun fr => putL l (i + 1) fr K := forceS_eq v fun v => setV fr v i fun fr => putL l (i + 1) fr K
    rw [e]
    rcases setV_spec fr v i (fun fr => putL l (i + 1) fr K) with e | ⟨fr1, e, h1⟩
    · exact .inl e
    rw [e]
    rcases putL_spec l (i + 1) fr1 K with e | ⟨fr2, e, h2⟩
    · exact .inl e
    refine .inr ⟨fr2, e, fun j => ?_⟩
    rw [h2 j]
    simp only [List.length_cons]
    by_cases hj : i + 1 ≤ j ∧ j < i + 1 + l.length
    · rw [if_pos hj, if_pos (by omega)]
      obtain ⟨d, rfl⟩ : ∃ d, j = i + 1 + d := ⟨j - (i + 1), by omega⟩
      rw [show i + 1 + d - (i + 1) = d by omega, show i + 1 + d - i = d + 1 by omega, List.getElem?_cons_succ]
    · rw [if_neg hj, h1 j]
      by_cases hi : j = i
      · subst hi
        rw [if_pos rfl, if_pos (by omega), Nat.sub_self, List.getElem?_cons_zero]
      · rw [if_neg hi, if_neg (by omega)]
/-- A frame as it is entered. -/
theorem FR.enter {N : Nat} {fr : TV} {args : List Value} (hn : args.length ≤ N) (h : ∀ j, getV fr j = if 0 ≤ j ∧ j < 0 + args.length then args[j - 0]? else getV .e j) : FR N fr { tmps := (⟨args⟩ : Array Value) ++ Array.replicate (N - (⟨args⟩ : Array Value).size) undef, defers := [] } := by
  refine ⟨by simp; omega, fun t => ?_⟩
  have e : evX (.tmp t) fr = Option.rec (motive := fun _ => Value) undef (fun v => v) (getV fr t) := rfl
  rw [e, h t]
  simp only [Act.eval, Array.getD_eq_getD_getElem?]
  by_cases ht : t < args.length
  · rw [if_pos ⟨Nat.zero_le _, by rw [Nat.zero_add]; exact ht⟩, Nat.sub_zero, Array.getElem?_append_left (by simpa using ht)]
    simp [ht]
  · rw [if_neg (fun h => ht (by have := h.2; rw [Nat.zero_add] at this; exact this)), Array.getElem?_append_right (by simpa using ht), getV_e]
    simp only [Array.getElem?_replicate]
    split <;> rfl
theorem FR.all {N : Nat} {fr : TV} {ts : List Value} (hn : ts.length = N) (h : ∀ j, getV fr j = if 0 ≤ j ∧ j < 0 + ts.length then ts[j - 0]? else getV .e j) : FR N fr { tmps := ts.toArray, defers := [] } := by
  have := FR.enter (Nat.le_of_eq hn) h
  have e : (⟨ts⟩ : Array Value) ++ Array.replicate (N - (⟨ts⟩ : Array Value).size) undef = ts.toArray := by
    have : N - (⟨ts⟩ : Array Value).size = 0 := by simp [hn]
    rw [this]
    simp
  rw [e] at this
  exact this
theorem putPs_spec {N : Nat} : ∀ (ps : List Tmp) (args : List Value) {fr : TV} {ts : Array Value} (K : TV → Rs), FR N fr { tmps := ts, defers := [] } → putPs N ps args fr K = .bad ∨ ∃ fr', putPs N ps args fr K = K fr' ∧ FR N fr' { tmps := putPsA ts ps args, defers := [] }
  | [], args, fr, ts, K, h => .inr ⟨fr, rfl, by simpa [putPsA] using h⟩
  | t :: ps, [], fr, ts, K, h => .inr ⟨fr, rfl, by simpa [putPsA] using h⟩
  | t :: ps, v :: vs, fr, ts, K, h => by
    have e : putPs N (t :: ps) (v :: vs) fr K = ifB (Nat.blt t N) (setV fr v t fun fr => putPs N ps vs fr K) := rfl
    rw [e]
    rcases ifB_spec (Nat.blt t N) (setV fr v t fun fr => putPs N ps vs fr K) with e | ⟨hb, e⟩
    · exact .inl e
    rw [e]
    rcases setV_spec fr v t (fun fr => putPs N ps vs fr K) with e | ⟨fr1, e, h1⟩
    · exact .inl e
    rw [e]
    rw [Nat.blt_eq] at hb
    exact putPs_spec ps vs K (h.setV hb h1)
theorem ifB_ok {P : Program} {b : Bool} {r o : Rs} (hk : Res P (ifB b r) o) : b = true ∧ Res P r o := by
  cases b with
  | false => cases hk
  | true => exact ⟨rfl, hk⟩
theorem optK_ok {P : Program} {α : Type} {x : Option α} {K : α → Rs} {o : Rs} (hk : Res P (optK x K) o) : ∃ a, x = some a ∧ Res P (K a) o := by
  cases x with
  | none => cases hk
  | some a => exact ⟨a, rfl, hk⟩
theorem loopK_ok {P : Program} {o : AObj} {K : List Value → FuncId → LoopState → Option Code → Rs} {z : Rs} (hk : Res P (loopK o K) z) : ∃ ts k st pe, o = .loop ts k st pe ∧ Res P (K ts k st pe) z := by
  rcases loopK_spec o K with e | ⟨ts, k, st, pe, h1, h2⟩
  · rw [e] at hk; cases hk
  · rw [h2] at hk; exact ⟨ts, k, st, pe, h1, hk⟩
theorem putRow_ok {P : Program} {h0 : CH} {b : Nat} {o : AObj} {K : CH → Rs} {z : Rs} (hk : Res P (putRow h0 b o K) z) : ∃ h', Res P (K h') z ∧ toH h' = (toH h0).put b o := by
  rcases putRow_spec h0 b o K with e | ⟨h', e, hh⟩
  · rw [e] at hk; cases hk
  · rw [e] at hk; exact ⟨h', hk, hh⟩
theorem pushRow_ok {P : Program} {h0 : CH} {o : AObj} {K : CH → Rs} {z : Rs} (hk : Res P (pushRow h0 o K) z) : ∃ h', Res P (K h') z ∧ toH h' = (toH h0).push o := by
  rcases pushRow_spec h0 o K with e | ⟨h', e, hh⟩
  · rw [e] at hk; cases hk
  · rw [e] at hk; exact ⟨h', hk, hh⟩
theorem endE_ok {i : Nat} {e : Exit} {h : CH} {e' : Exit} {fr' : TV} {df' : Df} {h' : CH} {y' : YS} {a : Act} {Q : Value → AHeap → Prop} {P : Program} (hk : Res P (endE i e h) (.ok e' fr' df' h' y')) (hq' : ∀ b, outY (.ok e' fr' df' h' y') = some (b, h') → Q (.bool b) (toH h')) : roundA i Q e a (toH h) := by
  unfold endE at hk
  obtain ⟨o, g1, hk1⟩ := optK_ok hk
  obtain ⟨ts, k, st, pe, rfl, hk2⟩ := loopK_ok hk1
  clear hk hk1
  refine ⟨ts, k, st, pe, g1, ?_⟩
  rcases onNormal_cases e (putRow h i (.loop ts k .ready none) fun h => .ok .normal .e [] h none) (optK (codeOf e) fun c => putRow h i (.loop ts k .done (some c)) fun h => .ok .ret .e [] h none) with ⟨rfl, e1⟩ | ⟨hne, e1⟩
  · rw [e1] at hk2
    obtain ⟨h2, hk, hh⟩ := putRow_ok hk2
    obtain ⟨rfl, rfl, rfl, rfl, rfl⟩ := Res.inj hk
    rw [hh] at hq'
    exact .inl ⟨rfl, hq' true rfl⟩
  · rw [e1] at hk2
    obtain ⟨c, hc, hk3⟩ := optK_ok hk2
    obtain ⟨h2, hk, hh⟩ := putRow_ok hk3
    obtain ⟨rfl, rfl, rfl, rfl, rfl⟩ := Res.inj hk
    rw [hh] at hq'
    exact .inr ⟨c, hc, hq' false rfl⟩
theorem outY_ok {r : Rs} {b : Bool} {h : CH} (hk : outY r = some (b, h)) : ∃ e fr df y, r = .ok e fr df h y := by
  cases r with
  | bad => cases hk
  | ok e fr df h1 y =>
    have : h1 = h := by
      have := Option.some.inj hk
      exact congrArg Prod.snd this
    subst this
    exact ⟨e, fr, df, y, rfl⟩
  | ask f args h1 k => cases hk
  | cas v k => cases hk
  | eqv v v' r => cases hk
theorem yOk {P : Program} {tbl : Tbl} {k : FuncId} {ps : Array Tmp} {asv bd : Code} {ia ib : CodeF} {E : Enw} {i : Nat} (ha : Sound P tbl k asv ia) (hb : Sound P tbl k bd ib) (hrf : rfP P k = some (ps, asv, bd)) (ok1 : okC tbl true asv = true) (ok2 : okC tbl true bd = true) (rf1 : RfP P k asv) (rf2 : RfP P k bd)
    (hE : EnvOk P E) (ht : E.tbl = tbl) (hk : E.self = k) : YOk P (yE ps ia ib P E i) := by
  intro j args h b h' hy
  unfold yE at hy
  cases hji : Nat.beq j i with
  | false => rw [hji] at hy; cases hy
  | true =>
    obtain rfl := Nat.eq_of_beq_eq_true hji
    rw [hji] at hy
    have hy' : outY (roundE ps ia ib P E j args h) = some (b, h') := hy
    obtain ⟨e0, fr0, df0, y0, hr⟩ := outY_ok hy'
    have hout := hy'
    rw [hr] at hout
    replace hr := Res.of (P := P) hr
    unfold roundE at hr
    obtain ⟨o, g1, hrq1⟩ := optK_ok hr
    clear hr
    obtain ⟨ts, k1, st, pe, ho, hrq2⟩ := loopK_ok hrq1
    clear hrq1
    rw [ho] at g1
    clear ho
    obtain ⟨c1, hrq3⟩ := ifB_ok hrq2
    clear hrq2
    obtain ⟨c2, hrq4⟩ := ifB_ok hrq3
    clear hrq3
    obtain ⟨c3, hrq5⟩ := ifB_ok hrq4
    clear hrq4
    obtain ⟨c4, hrq6⟩ := ifB_ok hrq5
    clear hrq5
    obtain ⟨c5, hrq7⟩ := ifB_ok hrq6
    clear hrq6
    obtain rfl := isReady_spec c1
    obtain rfl := noneB_spec c3
    have hk1 : k1 = k := (Nat.eq_of_beq_eq_true c2).trans hk
    subst hk1
    have hlen : args.length = ps.size := (listLen_eq args).symm.trans (Nat.eq_of_beq_eq_true c4)
    have hN : ts.length = E.N := (listLen_eq ts).symm.trans (Nat.eq_of_beq_eq_true c5)
    rcases putL_spec ts 0 .e (fun fr => putPs E.N ps.toList args fr fun fr => onOk (ia none P (rndE E) fr [] h none) fun e fr df h _ => onNormal e
      (optK (getO h.t j) fun o => loopK o fun ts k st pe => ifB (isReady st) (ifB (noneB pe) (putRow h j (.loop ts k .busy none) fun h => onOk (ib none P (rndE E) fr df h none) fun e _ _ h _ => endE j e h))) .bad) with e1 | ⟨fr1, e1, hfr1⟩
    · rw [e1] at hrq7; cases hrq7
    rw [e1] at hrq7
    rcases putPs_spec (N := E.N) ps.toList args (fun fr => onOk (ia none P (rndE E) fr [] h none) fun e fr df h _ => onNormal e
      (optK (getO h.t j) fun o => loopK o fun ts k st pe => ifB (isReady st) (ifB (noneB pe) (putRow h j (.loop ts k .busy none) fun h => onOk (ib none P (rndE E) fr df h none) fun e _ _ h _ => endE j e h))) .bad) (FR.all hN hfr1) with e2 | ⟨fr2, e2, hfr2⟩
    · rw [e2] at hrq7; cases hrq7
    rw [e2] at hrq7
    obtain ⟨ea, fra, dfa, h1, ya, ga, hrq8⟩ := onOk_ok hrq7
    clear hrq7
    refine ⟨ts, k1, ps, asv, bd, g1, hrf, hlen, fun l => ?_⟩
    refine awF_mono (ha true (some l) (rndE E) none fr2 _ [] h none ea fra dfa h1 ya asv ok1 rf1 (.inl rfl) (rndOk hE) ht hk ⟨hfr2, .nil⟩ ga rfl) fun e3 a3 H3 ⟨he3, hs3, hH3⟩ => ?_
    subst he3 hH3
    rcases onNormal_cases e3 (optK (getO h1.t j) fun o => loopK o fun ts k st pe => ifB (isReady st) (ifB (noneB pe) (putRow h1 j (.loop ts k .busy none) fun h => onOk (ib none P (rndE E) fra dfa h none) fun e _ _ h _ => endE j e h))) .bad with ⟨rfl, e4⟩ | ⟨_, e4⟩
    · rw [e4] at hrq8
      obtain ⟨o, g3, hs9q1⟩ := optK_ok hrq8
      clear hrq8
      obtain ⟨ts3, k3, st3, pe3, ho3, hs9q2⟩ := loopK_ok hs9q1
      clear hs9q1
      rw [ho3] at g3
      clear ho3
      obtain ⟨d1, hs9q3⟩ := ifB_ok hs9q2
      clear hs9q2
      obtain ⟨d2, hs9q4⟩ := ifB_ok hs9q3
      clear hs9q3
      obtain rfl := isReady_spec d1
      obtain rfl := noneB_spec d2
      obtain ⟨h2, hs9q6, hh2⟩ := putRow_ok hs9q4
      obtain ⟨eb, frb, dfb, h3, yb, gb, hs9q5⟩ := onOk_ok hs9q6
      clear hs9q4 hs9q6
      refine ⟨rfl, ts3, k3, g3, ?_⟩
      rw [← hh2]
      refine awF_mono (hb true (some l) (rndE E) none fra a3 dfa h2 none eb frb dfb h3 yb bd ok2 rf2 (.inl rfl) (rndOk hE) ht hk hs3 gb rfl) fun e5 a5 H5 ⟨he5, hs5, hH5⟩ => ?_
      subst he5 hH5
      refine endE_ok hs9q5 fun b2 hb2 => ?_
      rw [hout] at hb2
      simp only [Option.some.injEq, Prod.mk.injEq, and_true] at hb2
      rw [hb2]
      exact ⟨rfl, rfl⟩
    · rw [e4] at hrq8; cases hrq8
theorem jumpK_ok {P : Program} {c : Code} {K : Exit → Rs} {z : Rs} (hk : Res P (jumpK c K) z) : ∃ e0, codeOf e0 = some c ∧ Res P (K e0) z := by
  unfold jumpK at hk
  split at hk
  · exact ⟨.ret, rfl, hk⟩
  · exact ⟨.exit _, rfl, hk⟩
  · exact ⟨.goto _, rfl, hk⟩
  · cases hk
theorem isBusy_spec {s : LoopState} (h : (not (isBusy s)) = true) : (s == LoopState.busy) = false := by cases s <;> first | rfl | cases h
theorem sound_range {P : Program} {tbl : Tbl} {k : FuncId} {f : Operand} {ps : Array Tmp} {c d : Code} {ia ib : CodeF} (hc : Sound P tbl k c ia) (hd : Sound P tbl k d ib) : Sound P tbl k (.rangeFunc f ps c d) (fun _ P E fr df h y => rangeE f ps ia ib P E fr df h y) := by
  intro rd r E m fr a df h y e fr' df' h' y' x hok hrf hr hE ht hk hs hev hx
  cases m with
  | some l => cases hx
  | none =>
    obtain rfl := Option.some.inj hx
    simp only [okC, Bool.and_eq_true, Bool.not_eq_true'] at hok
    obtain rfl : r = none := by
      rcases hr with h | h
      · rw [hok.1.1.1] at h; cases h
      · exact h
    unfold rangeE at hev
    dsimp only at hev
    rcases funK_spec (evX f fr) (fun g first cap => pushRow h dfObj fun h1 => pushRow h1 (.loop (slotsE E.N 0 fr) E.self .ready none) fun h2 =>
    consK cap.toList [] fun z => consK first.toList (.chan (some (Nat.succ h.next)) :: z) fun l => E.B (yE ps ia ib P E (Nat.succ h.next)) g l h2 fun _ q =>
    optK (getO q.t (Nat.succ h.next)) fun o => loopK o fun ts k st pe => ifB (not (isBusy st)) (putRow q (Nat.succ h.next) (.loop ts k .exhausted pe) fun h3 =>
      Option.rec (motive := fun _ => Rs) (.ok .normal fr (.col h.next :: df) h3 y) (fun c => jumpK c fun e => .ok e fr (.col h.next :: df) h3 y) pe)) .bad with e1 | ⟨g, first, cap, hv, e1⟩ | ⟨l, x, c, _, e1⟩
    · rw [e1] at hev; cases hev
    · rw [e1] at hev
      obtain ⟨h1, hev, hh1⟩ := pushRow_ok hev
      obtain ⟨h2, hev, hh2⟩ := pushRow_ok hev
      rw [consK_eq, consK_eq] at hev
      rw [hs.fr.eval] at hv
      have hY := yOk (i := Nat.succ h.next) hc hd hrf.1 hok.1.2 hok.2 hrf.2.1 hrf.2.2 hE ht hk
      obtain ⟨hg, q1, q2, hA, hev⟩ := hE.b _ hY _ _ _ _ _ hev
      obtain ⟨o, go, hev⟩ := optK_ok hev
      obtain ⟨ts, k2, st, pe, ho, hev⟩ := loopK_ok hev
      rw [ho] at go
      clear ho
      obtain ⟨d1, hev⟩ := ifB_ok hev
      obtain ⟨h3, hev, hh3⟩ := putRow_ok hev
      refine awF_range (k := k) (g := g) (first := first) (cap := cap) hrf.1 hok.1.1.2 hv hg ?_
      have eH : ((toH h).push dfObj).push (.loop a.tmps.toList k .ready none) = toH h2 := by
        rw [hh2, hh1, slotsE_eq hs.fr, hk]
      have eA : first ++ #[Value.chan (some ((toH h).next + 1))] ++ cap = ⟨first.toList ++ .chan (some (Nat.succ h.next)) :: (cap.toList ++ [])⟩ := by
        apply Array.ext'
        simp [toH]
      rw [eH, eA]
      refine hA.mono fun v' H' ⟨_, hH'⟩ => ?_
      subst hH'
      have hsd : St E.N fr (.col h.next :: df) { a with defers := { target := .collected (toH h).next, args := #[] } :: a.defers } :=
        ⟨⟨hs.fr.size, fun t => hs.fr.val t⟩, .cons (show DfOne _ (.col h.next) from rfl) hs.df⟩
      refine ⟨ts, k2, st, isBusy_spec d1, ?_⟩
      cases pe with
      | none =>
        have hev' : Res P (Rs.ok .normal fr (.col h.next :: df) h3 y) (.ok e fr' df' h' y') := hev
        obtain ⟨rfl, rfl, rfl, rfl, rfl⟩ := Res.inj hev'
        exact .inl ⟨go, rfl, hsd, hh3.symm⟩
      | some c0 =>
        have hev' : Res P (jumpK c0 (fun e => .ok e fr (.col h.next :: df) h3 y)) (.ok e fr' df' h' y') := hev
        obtain ⟨e0, hc0, hev'⟩ := jumpK_ok hev'
        obtain ⟨rfl, rfl, rfl, rfl, rfl⟩ := Res.inj hev'
        exact .inr ⟨e0, c0, hc0, go, rfl, hsd, hh3.symm⟩
    · rw [e1] at hev; cases hev
theorem codeE_sound {P : Program} {tbl : Tbl} {k : FuncId} (hm : P.follows .mixedOrders = true) : ∀ c : Code, Sound P tbl k c (codeE c)
  | .region id ops d => sound_region hm id ops d
  | .seq a b => sound_seq (codeE_sound hm a) (codeE_sound hm b)
  | .cond _ a b => sound_cond (codeE_sound hm a) (codeE_sound hm b)
  | .block _ c => sound_block (codeE_sound hm c)
  | .loop c => sound_loop (codeE_sound hm c)
  | .scope c => sound_scope (codeE_sound hm c)
  | .rangeFunc _ _ a b => sound_range (codeE_sound hm a) (codeE_sound hm b)
  | .skip => fun rd r E m fr a df h y e fr' df' h' y' x hok hrf hr hE ht hk hs hev hx => by
    cases m with
    | some l => cases hx
    | none =>
      obtain rfl := Option.some.inj hx
      have hev' : Res P (Rs.ok .normal fr df h y) (.ok e fr' df' h' y') := hev
      obtain ⟨rfl, rfl, rfl, rfl, rfl⟩ := Res.inj hev'
      exact awF_skip ⟨rfl, hs, rfl⟩
  | .exit id => fun rd r E m fr a df h y e fr' df' h' y' x hok hrf hr hE ht hk hs hev hx => by
    cases m with
    | some l => cases hx
    | none =>
      obtain rfl := Option.some.inj hx
      have hev' : Res P (Rs.ok (.exit id) fr df h y) (.ok e fr' df' h' y') := hev
      obtain ⟨rfl, rfl, rfl, rfl, rfl⟩ := Res.inj hev'
      exact awF_exit ⟨rfl, hs, rfl⟩
  | .label l => fun rd r E m fr a df h y e fr' df' h' y' x hok hrf hr hE ht hk hs hev hx => by
    have hev' : Res P (Rs.ok .normal fr df h y) (.ok e fr' df' h' y') := hev
    obtain ⟨rfl, rfl, rfl, rfl, rfl⟩ := Res.inj hev'
    cases m with
    | some l' =>
      simp only [target, findLabel] at hx
      split at hx
      · obtain rfl := Option.some.inj hx
        exact awF_skip ⟨rfl, hs, rfl⟩
      · cases hx
    | none =>
      obtain rfl := Option.some.inj hx
      exact awF_label ⟨rfl, hs, rfl⟩
  | .goto l => fun rd r E m fr a df h y e fr' df' h' y' x hok hrf hr hE ht hk hs hev hx => by
    cases m with
    | some l => cases hx
    | none =>
      obtain rfl := Option.some.inj hx
      have hev' : Res P (Rs.ok (.goto l) fr df h y) (.ok e fr' df' h' y') := hev
      obtain ⟨rfl, rfl, rfl, rfl, rfl⟩ := Res.inj hev'
      exact awF_goto ⟨rfl, hs, rfl⟩
  | .ret => fun rd r E m fr a df h y e fr' df' h' y' x hok hrf hr hE ht hk hs hev hx => by
    cases m with
    | some l => cases hx
    | none =>
      obtain rfl := Option.some.inj hx
      have hev' : Res P (Rs.ok .ret fr df h y) (.ok e fr' df' h' y') := hev
      obtain ⟨rfl, rfl, rfl, rfl, rfl⟩ := Res.inj hev'
      exact awF_ret ⟨rfl, hs, rfl⟩
  | .refuse w => fun rd r E m fr a df h y e fr' df' h' y' x hok hrf hr hE ht hk hs hev hx => by
    cases hev
end Go.Ae

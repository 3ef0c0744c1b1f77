/- The evaluator's regions. No condition. -/
import Derived.Test.YtmibkoadjehdaaaGreatDoorAeOp
namespace Go.Ae
structure St (N : Nat) (fr : TV) (df : Df) (a : Act) : Prop where
  fr : FR N fr a
  df : All2 DfOne a.defers df
theorem St.put {N : Nat} {fr fr' : TV} {df : Df} {a : Act} (h : St N fr df a) {d : Option Tmp} {v : Value} (hf : FR N fr' (a.put d v)) : St N fr' df (a.put d v) :=
  ⟨hf, by rw [defers_put]; exact h.df⟩
/-! ### One operation -/
noncomputable def nthO (l : List Oper) : Nat → (Oper → Rs) → Rs :=
  List.rec (motive := fun _ => Nat → (Oper → Rs) → Rs) (fun _ _ => .bad) (fun x _ ih k K => Nat.rec (motive := fun _ => Rs) (K x) (fun k _ => ih k K) k) l
theorem nthO_spec : ∀ (l : List Oper) (k : Nat) (K : Oper → Rs), nthO l k K = .bad ∨ ∃ o, l[k]? = some o ∧ nthO l k K = K o
  | [], _, _ => .inl rfl
  | x :: l, 0, K => .inr ⟨x, rfl, rfl⟩
  | x :: l, k + 1, K => nthO_spec l k K
noncomputable def eqOB (b : Option Bool) (w : Bool) : Bool := Option.rec (motive := fun _ => Bool) false (fun b => Bool.rec (motive := fun _ => Bool) (Bool.rec (motive := fun _ => Bool) true false w) w b) b
theorem eqOB_eq (b : Option Bool) (w : Bool) : eqOB b w = (b == some w) := by
  cases b with
  | none => rfl
  | some b => cases b <;> cases w <;> rfl
/-- Is it wanted. -/
noncomputable def wantK (N : Nat) (g : Option (Nat × Bool)) (all : List Oper) (fr : TV) (K : Bool → Rs) : Rs :=
  Option.rec (motive := fun _ => Rs) (K true) (fun q => nthO all q.1 fun o => optK o.dst fun t => ifB (Nat.blt t N) (Bool.rec (motive := fun _ => Rs) (K false) (K true) (eqOB (boolOf (evX (.tmp t) fr)) q.2))) g
theorem wantK_spec {N : Nat} {ops : Array Oper} {fr : TV} {a : Act} (hf : FR N fr a) (o : Oper) (K : Bool → Rs) : wantK N o.guard ops.toList fr K = .bad ∨ wantK N o.guard ops.toList fr K = K (Region.wanted o (yielded ops a.tmps)) := by
  cases hg : o.guard with
  | none => rw [wanted_none hg]; exact .inr rfl
  | some q =>
    obtain ⟨j, want⟩ := q
    show nthO ops.toList j (fun o => optK o.dst fun t => ifB (Nat.blt t N) (Bool.rec (motive := fun _ => Rs) (K false) (K true) (eqOB (boolOf (evX (.tmp t) fr)) want))) = .bad ∨ _
    rcases nthO_spec ops.toList j (fun o => optK o.dst fun t => ifB (Nat.blt t N) (Bool.rec (motive := fun _ => Rs) (K false) (K true) (eqOB (boolOf (evX (.tmp t) fr)) want))) with e | ⟨o', ho', e⟩
    · exact .inl e
    rcases optK_spec o'.dst (fun t => ifB (Nat.blt t N) (Bool.rec (motive := fun _ => Rs) (K false) (K true) (eqOB (boolOf (evX (.tmp t) fr)) want))) with e' | ⟨t, ht, e'⟩
    · exact .inl (e.trans e')
    rcases ifB_spec (Nat.blt t N) (Bool.rec (motive := fun _ => Rs) (K false) (K true) (eqOB (boolOf (evX (.tmp t) fr)) want)) with e'' | ⟨hb, e''⟩
    · exact .inl (e.trans (e'.trans e''))
    right
    refine e.trans (e'.trans (e''.trans ?_))
    rw [Nat.blt_eq] at hb
    simp only [Array.getElem?_toList] at ho'
    rw [wanted_eval hg (t := t) (by rw [ho']; exact ht) rfl (by rw [hf.size]; exact hb), hf.eval, eqOB_eq]
    cases boolOf (a.eval (.tmp t)) == some want <;> rfl
noncomputable def oneE (o : Oper) : List Oper → Program → Enw → TV → Df → CH → YS → KF → Rs :=
  Oper.rec (motive := fun _ => List Oper → Program → Enw → TV → Df → CH → YS → KF → Rs) (fun d op _ _ _ g all P E fr df h s K =>
    wantK E.N g all fr fun b => Bool.rec (motive := fun _ => Rs) (fin E.N d undef fr fun fr => K fr df h s) (opD op d P E fr df h s K) b) o
def YOk (P : Program) (Y : YF) : Prop := ∀ i args h b h', Y i args h = some (b, h') → YieldsA P i args (toH h) fun v H' => v = .bool b ∧ H' = toH h'
theorem All2.append1 {N : Nat} {fr : TV} {df : Df} {a : Act} (h : St N fr df a) {d : Deferred} {x : Dfx} (hx : DfOne d x) : All2 DfOne (d :: a.defers) (x :: df) := .cons hx h.df
theorem Stepd.df {P : Program} {E : Enw} {N : Nat} {fr fr' : TV} {a a' : Act} {h h' : CH} {df df' : Df} {o : Oper} (hs : Stepd P E a h df o a' df' h') (h0 : St N fr df a) (hf : FR N fr' a') : St N fr' df' a' := by
  refine ⟨hf, ?_⟩
  cases hs with
  | did hd hy hD => rw [defers_put]; exact h0.df
  | defer hd hx => rw [defers_put]; exact .cons hx h0.df
  | yield hd hy hY => rw [defers_put]; exact h0.df
theorem oneE_spec {P : Program} {E : Enw} {ops : Array Oper} {fr : TV} {a : Act} {df : Df} {h : CH} (hE : EOk P E) (hY : YOk P E.Y) (hs : St E.N fr df a) (o : Oper) (y : YS) (K : KF) : oneE o ops.toList P E fr df h y K = .bad ∨ ∃ fr' df' h' a', oneE o ops.toList P E fr df h y K = K fr' df' h' y ∧ St E.N fr' df' a' ∧
    ∀ Kp rest, wpY P ops Kp rest a' (toH h') → wpY P ops Kp (o :: rest) a (toH h) := by
  obtain ⟨d, op, ty, p, af, g⟩ := o
  show wantK E.N g ops.toList fr (fun b => Bool.rec (motive := fun _ => Rs) (fin E.N d undef fr fun fr => K fr df h y) (opD op d P E fr df h y K) b) = .bad ∨ ∃ fr' df' h' a', wantK E.N g ops.toList fr (fun b => Bool.rec (motive := fun _ => Rs) (fin E.N d undef fr fun fr => K fr df h y) (opD op d P E fr df h y K) b) = _ ∧ _
  rcases wantK_spec (ops := ops) hs.fr ⟨d, op, ty, p, af, g⟩ (fun b => Bool.rec (motive := fun _ => Rs) (fin E.N d undef fr fun fr => K fr df h y) (opD op d P E fr df h y K) b) with e | e
  · exact .inl e
  · have e' : wantK E.N g ops.toList fr (fun b => Bool.rec (motive := fun _ => Rs) (fin E.N d undef fr fun fr => K fr df h y) (opD op d P E fr df h y K) b) = _ := e
    rw [e']
    cases hw : Region.wanted ⟨d, op, ty, p, af, g⟩ (yielded ops a.tmps) with
    | false =>
      rcases fin_spec hs.fr d undef (fun fr => K fr df h y) with e2 | ⟨fr', hf', e2⟩
      · exact .inl e2
      · refine .inr ⟨fr', df, h, a.put d undef, e2, hs.put hf', fun Kp rest hk => ?_⟩
        simp only [wpY, hw, Bool.false_eq_true, if_false]
        exact hk
    | true =>
      rcases opD_ok (P := P) op E fr a df h y K d ty p af g hE hs.fr with e2 | ⟨fr', df', h', a', e2, hf', hst⟩
      · exact .inl e2
      · refine .inr ⟨fr', df', h', a', e2, hst.df hs hf', fun Kp rest hk => ?_⟩
        simp only [wpY, hw, if_true]
        cases hst with
        | did hd hy hD =>
          simp only [hd, hy]
          exact hD.step hk
        | defer hd hx =>
          simp only [hd]
          exact hk
        | yield hd hy hq =>
          simp only [hd, hy]
          exact (hY _ _ _ _ _ hq).mono fun v H' ⟨e1, e2⟩ => by rw [e1, e2]; exact hk
noncomputable def seqE (l : List Oper) : List Oper → Program → Enw → TV → Df → CH → YS → KF → Rs :=
  List.rec (motive := fun _ => List Oper → Program → Enw → TV → Df → CH → YS → KF → Rs) (fun _ _ _ fr df h s K => K fr df h s)
    (fun o _ ih all P E fr df h s K => oneE o all P E fr df h s fun fr df h s => ih all P E fr df h s K) l
theorem seqE_spec {P : Program} {E : Enw} {ops : Array Oper} (hE : EOk P E) (hY : YOk P E.Y) (y : YS) (K : KF) : ∀ (l : List Oper) {fr : TV} {a : Act} {df : Df} {h : CH}, St E.N fr df a → seqE l ops.toList P E fr df h y K = .bad ∨ ∃ fr' df' h' a', seqE l ops.toList P E fr df h y K = K fr' df' h' y ∧ St E.N fr' df' a' ∧
    ∀ Kp, Kp a' (toH h') → wpY P ops Kp l a (toH h)
  | [], fr, a, df, h, hs => .inr ⟨fr, df, h, a, rfl, hs, fun Kp hk => hk⟩
  | o :: l, fr, a, df, h, hs => by
    have e0 : seqE (o :: l) ops.toList P E fr df h y K = oneE o ops.toList P E fr df h y fun fr df h s => seqE l ops.toList P E fr df h s K := rfl
    rw [e0]
    rcases oneE_spec (ops := ops) hE hY hs o y (fun fr df h s => seqE l ops.toList P E fr df h s K) with e | ⟨fr', df', h', a', e, hs', hk⟩
    · exact .inl e
    rw [e]
    rcases seqE_spec hE hY y K l hs' with e | ⟨fr2, df2, h2, a2, e, hs2, hk2⟩
    · exact .inl e
    exact .inr ⟨fr2, df2, h2, a2, e, hs2, fun Kp hp => hk Kp l (hk2 Kp hp)⟩

/-! ### Values compared -/
def eqAd (a b : Addr) : Bool := Nat.beq a.block b.block && Nat.beq a.off b.off && (match a.spot, b.spot with | none, none => true | some i, some j => Nat.beq i j | _, _ => false)
theorem eqAd_spec {a b : Addr} (h : eqAd a b = true) : a = b := by
  obtain ⟨b1, o1, s1⟩ := a
  obtain ⟨b2, o2, s2⟩ := b
  simp only [eqAd, Bool.and_eq_true, Nat.beq_eq] at h
  obtain ⟨⟨rfl, rfl⟩, h⟩ := h
  cases s1 <;> cases s2 <;> simp at h
  · rfl
  · subst h; rfl
def eqS : Value → Value → Bool
  | .bool a, .bool b => a == b
  | .int k n, .int k' n' => decide (k = k') && decide (n = n')
  | .string s, .string t => decide (s = t)
  | .pointer none, .pointer none => true
  | .pointer (some a), .pointer (some b) => eqAd a b
  | .slice none n c, .slice none n' c' => Nat.beq n n' && Nat.beq c c'
  | .slice (some a) n c, .slice (some b) n' c' => eqAd a b && Nat.beq n n' && Nat.beq c c'
  | .map none, .map none => true
  | .map (some a), .map (some b) => Nat.beq a b
  | .nilFunc, .nilFunc => true
  | .nilIface, .nilIface => true
  | _, _ => false
theorem eqS_spec {v u : Value} (h : eqS v u = true) : v = u := by
  unfold eqS at h
  split at h
  · simp at h; rw [h]
  · simp at h; rw [h.1, h.2]
  · simp at h; rw [h]
  · rfl
  · rw [eqAd_spec h]
  · simp at h; rw [h.1, h.2]
  · simp only [Bool.and_eq_true, Nat.beq_eq] at h; rw [eqAd_spec h.1.1, h.1.2, h.2]
  · rfl
  · simp at h; rw [h]
  · rfl
  · rfl
  · cases h
def eqL : List Value → List Value → Bool
  | [], [] => true
  | x :: xs, y :: ys => eqS x y && eqL xs ys
  | _, _ => false
theorem eqL_spec : ∀ {xs ys : List Value}, eqL xs ys = true → xs = ys
  | [], [], _ => rfl
  | x :: xs, y :: ys, h => by
    simp only [eqL, Bool.and_eq_true] at h
    rw [eqS_spec h.1, eqL_spec h.2]
  | [], _ :: _, h => by cases h
  | _ :: _, [], h => by cases h
def eqV (v u : Value) : Bool := match v, u with
  | .agg xs, .agg ys => eqL xs.toList ys.toList
  | .iface t v, .iface t' u => Nat.beq t t' && eqS v u
  | v, u => eqS v u
theorem eqV_spec {v u : Value} (h : eqV v u = true) : v = u := by
  unfold eqV at h
  split at h
  · rename_i xs ys; rw [show xs = ys from Array.ext' (eqL_spec h)]
  · simp only [Bool.and_eq_true, Nat.beq_eq] at h; rw [h.1, eqS_spec h.2]
  · exact eqS_spec h
def eqOV (v u : Option Value) : Bool := match v, u with
  | none, none => true
  | some v, some u => eqV v u
  | _, _ => false
theorem eqOV_spec {v u : Option Value} (h : eqOV v u = true) : v = u := by
  unfold eqOV at h
  split at h
  · rfl
  · rw [eqV_spec h]
  · cases h

/-! ### Regions whose order is drawn -/
abbrev Lg := List (Nat × (CH → Bool))
noncomputable def logOk (B : List Nat) (i : Nat) (h : CH) (log : Lg) : Bool := List.rec (motive := fun _ => Bool) true (fun p _ ih => Bool.rec (motive := fun _ => Bool) (Bool.rec (motive := fun _ => Bool) false ih (p.2 h)) ih (anc B p.1 i)) log
def LgR (lg : Lg) (log : Log) : Prop := All2 (fun (p : Nat × (CH → Bool)) (q : Nat × (AHeap → Prop)) => p.1 = q.1 ∧ ∀ h, p.2 h = true → q.2 (toH h)) lg log
theorem logOk_spec {B : List Nat} {i : Nat} {h : CH} : ∀ {lg : Lg} {log : Log}, LgR lg log → logOk B i h lg = true → ∀ p ∈ log, anc B p.1 i = true ∨ p.2 (toH h)
  | [], [], _, _, p, hp => by simp at hp
  | p :: lg, q :: log, .cons h1 h2, hb, r, hr => by
    have e : logOk B i h (p :: lg) = Bool.rec (motive := fun _ => Bool) (Bool.rec (motive := fun _ => Bool) false (logOk B i h lg) (p.2 h)) (logOk B i h lg) (anc B p.1 i) := rfl
    rw [e] at hb
    rcases List.mem_cons.1 hr with rfl | hr
    · cases ha : anc B p.1 i with
      | true => exact .inl (by rw [← h1.1]; exact ha)
      | false =>
        rw [ha] at hb
        cases hp : p.2 h with
        | true => exact .inr (h1.2 h hp)
        | false => rw [hp] at hb; cases hb
    · refine logOk_spec h2 ?_ r hr
      cases ha : anc B p.1 i with
      | true => rw [ha] at hb; exact hb
      | false =>
        rw [ha] at hb
        cases hp : p.2 h with
        | true => rw [hp] at hb; exact hb
        | false => rw [hp] at hb; cases hb
  | [], _ :: _, h, _, _, _ => by cases h
  | _ :: _, [], h, _, _, _ => by cases h
noncomputable def drawE (l : List Nat) : List Oper → List Nat → Program → Enw → TV → Df → CH → YS → Lg → KF → Rs :=
  List.rec (motive := fun _ => List Oper → List Nat → Program → Enw → TV → Df → CH → YS → Lg → KF → Rs) (fun _ _ _ _ fr df h y _ K => K fr df h y)
    (fun i _ ih all B P E fr df h y log K => nthO all i fun o => wantK E.N o.guard all fr fun b => Bool.rec (motive := fun _ => Rs)
      (fin E.N o.dst undef fr fun fr => ih all B P E fr df h y log K)
      (opD o.op o.dst P E fr df h y fun fr' df' h' y' => Bool.rec (motive := fun _ => Rs)
        (ih all B P E fr' df' h' y' (Bool.rec (motive := fun _ => Lg) log ((i, fun h2 => eqOV (aR P (fun x => evX x fr) (toH h2) o) (aR P (fun x => evX x fr) (toH h) o)) :: log) (isRead o)) K)
        (ifB (logOk B i h' log) (ih all B P E fr' df' h' y' log K)) (isE o)) b) l
theorem drawE_spec {P : Program} {E : Enw} {ops : Array Oper} {B : List Nat} (hE : EOk P E) (hY : ∀ i args h, E.Y i args h = none) (hnd : noDefer ops.toList = true) (y : YS) (K : KF) : ∀ (l : List Nat) {fr : TV} {a : Act} {df : Df} {h : CH} {lg : Lg} {log : Log}, St E.N fr df a → LgR lg log →
    drawE l ops.toList B P E fr df h y lg K = .bad ∨ ∃ fr' df' h' a', drawE l ops.toList B P E fr df h y lg K = K fr' df' h' y ∧ St E.N fr' df' a' ∧ ∀ Kp : Act → AHeap → Prop, Kp a' (toH h') → wpS P ops B Kp l a (toH h) log
  | [], fr, a, df, h, lg, log, hs, _ => .inr ⟨fr, df, h, a, rfl, hs, fun Kp hk => hk⟩
  | i :: l, fr, a, df, h, lg, log, hs, hlg => by
    let C := fun (o : Oper) (fr' : TV) (df' : Df) (h' : CH) (y' : YS) => Bool.rec (motive := fun _ => Rs)
        (drawE l ops.toList B P E fr' df' h' y' (Bool.rec (motive := fun _ => Lg) lg ((i, fun h2 => eqOV (aR P (fun x => evX x fr) (toH h2) o) (aR P (fun x => evX x fr) (toH h) o)) :: lg) (isRead o)) K)
        (ifB (logOk B i h' lg) (drawE l ops.toList B P E fr' df' h' y' lg K)) (isE o)
    let W := fun (o : Oper) (b : Bool) => Bool.rec (motive := fun _ => Rs) (fin E.N o.dst undef fr fun fr => drawE l ops.toList B P E fr df h y lg K) (opD o.op o.dst P E fr df h y (C o)) b
    have e0 : drawE (i :: l) ops.toList B P E fr df h y lg K = nthO ops.toList i fun o => wantK E.N o.guard ops.toList fr (W o) := rfl
    rw [e0]
    rcases nthO_spec ops.toList i (fun o => wantK E.N o.guard ops.toList fr (W o)) with e | ⟨o, ho, e⟩
    · exact .inl e
    rw [e]
    simp only [Array.getElem?_toList] at ho
    rcases wantK_spec (ops := ops) hs.fr o (W o) with e | e
    · exact .inl e
    rw [e]
    cases hw : Region.wanted o (yielded ops a.tmps) with
    | false =>
      show fin E.N o.dst undef fr (fun fr => drawE l ops.toList B P E fr df h y lg K) = .bad ∨ _
      rcases fin_spec hs.fr o.dst undef (fun fr => drawE l ops.toList B P E fr df h y lg K) with e2 | ⟨fr', hf', e2⟩
      · exact .inl e2
      · have e3 : W o false = drawE l ops.toList B P E fr' df h y lg K := e2
        rw [e3]
        rcases drawE_spec hE hY hnd y K l (hs.put hf') hlg with e4 | ⟨fr2, df2, h2, a2, e4, hs2, hk⟩
        · exact .inl (e2.trans e4)
        · refine .inr ⟨fr2, df2, h2, a2, e4, hs2, fun Kp hp => ?_⟩
          simp only [wpS, ho, hw, Bool.false_eq_true, if_false]
          exact hk Kp hp
    | true =>
      have e5 : W o true = opD o.op o.dst P E fr df h y (C o) := rfl
      rw [e5]
      rcases opD_ok (P := P) o.op E fr a df h y (C o) o.dst o.type o.pos o.after o.guard hE hs.fr with e2 | ⟨fr', df', h', a', e2, hf', hst⟩
      · exact .inl e2
      rw [e2]
      have hst' := hst.df hs hf'
      cases hst with
      | defer hd hx =>
        exfalso
        have hn := noDefer_spec hnd ho
        unfold deferA at hd
        split at hd
        · rename_i c hc; exact hn c hc
        · cases hd
      | yield hd hy hq => rw [hY] at hq; cases hq
      | did hd hy hD =>
        rename_i v
        cases hE' : isE o with
        | true =>
          have e3 : C o fr' df h' y = ifB (logOk B i h' lg) (drawE l ops.toList B P E fr' df h' y lg K) := by
            show Bool.rec (motive := fun _ => Rs) _ _ (isE o) = _
            rw [hE']
          rw [e3]
          rcases ifB_spec (logOk B i h' lg) (drawE l ops.toList B P E fr' df h' y lg K) with e4 | ⟨hl, e4⟩
          · exact .inl e4
          rw [e4]
          rcases drawE_spec hE hY hnd y K l hst' hlg with e5 | ⟨fr2, df2, h2, a2, e5, hs2, hk⟩
          · exact .inl e5
          refine .inr ⟨fr2, df2, h2, a2, e5, hs2, fun Kp hp => ?_⟩
          simp only [wpS, ho, hw, if_true, hE']
          have := hD.step (K := fun v H' => (∀ p ∈ log, anc B p.1 i = true ∨ p.2 H') ∧ wpS P ops B Kp l (a.put o.dst v) H' log) ⟨logOk_spec hlg hl, hk Kp hp⟩
          unfold step1 at this
          rw [if_pos (by exact hE')] at this
          exact this
        | false =>
          have e3 : C o fr' df h' y = drawE l ops.toList B P E fr' df h' y (Bool.rec (motive := fun _ => Lg) lg ((i, fun h2 => eqOV (aR P (fun x => evX x fr) (toH h2) o) (aR P (fun x => evX x fr) (toH h) o)) :: lg) (isRead o)) K := by
            show Bool.rec (motive := fun _ => Rs) _ _ (isE o) = _
            rw [hE']
          rw [e3]
          have hlg' : LgR (Bool.rec (motive := fun _ => Lg) lg ((i, fun h2 => eqOV (aR P (fun x => evX x fr) (toH h2) o) (aR P (fun x => evX x fr) (toH h) o)) :: lg) (isRead o)) (if isRead o then (i, fun H' => aR P a.eval H' o = aR P a.eval (toH h) o) :: log else log) := by
            cases isRead o with
            | false => exact hlg
            | true => exact .cons ⟨rfl, fun h2 he => by rw [hs.fr.fn] at he; exact eqOV_spec he⟩ hlg
          rcases drawE_spec hE hY hnd y K l hst' hlg' with e5 | ⟨fr2, df2, h2, a2, e5, hs2, hk⟩
          · exact .inl e5
          refine .inr ⟨fr2, df2, h2, a2, e5, hs2, fun Kp hp => ?_⟩
          simp only [wpS, ho, hw, if_true, hE', Bool.false_eq_true, if_false]
          have := hD.step (K := fun v H' => wpS P ops B Kp l (a.put o.dst v) H' (if isRead o then (i, fun H' => aR P a.eval H' o = aR P a.eval (toH h) o) :: log else log)) (hk Kp hp)
          unfold step1 at this
          rw [if_neg (by rw [show isE ⟨o.dst, o.op, o.type, o.pos, o.after, o.guard⟩ = isE o from rfl, hE']; simp)] at this
          exact this
end Go.Ae

/- Tries of values and of objects, written so that the kernel runs them fast (direct recursors, closed arms); what they hold. Values made plain, and what a value is, in the form that the kernel runs fast. -/
import Derived.Test.YtmibkoadjehdaaaGreatDoorKy22
set_option linter.unusedVariables false
set_option linter.unusedSimpArgs false
namespace Go.Ae
inductive Tr (α : Type) where
  | e
  | n (l : Tr α) (x : Option α) (r : Tr α)
abbrev TV := Tr Value
abbrev TO := Tr AObj
/-- What is deferred: a function's call; a loop's calls. -/
inductive Dfx where
  | fn (g : FuncId)
  | col (i : Nat)
abbrev Df := List Dfx
abbrev YS := Option (Exit × TV × Df)
structure CH where
  t : TO
  next : Nat
/-- What an evaluation comes to: nothing; an end; a question, what a call comes to (or what a value is, plainly), and how it goes on behind the answer. -/
inductive Rs where
  | bad
  | ok (e : Exit) (fr : TV) (df : Df) (h : CH) (y : YS)
  | ask (f : FuncId) (args : List Value) (h : CH) (k : Value → CH → Rs)
  | cas (v : Value) (k : Value → Rs)
  | eqv (v v' : Value) (r : Rs)
theorem half_inj {j k : Nat} : j = k ↔ Nat.mod j 2 = Nat.mod k 2 ∧ Nat.div j 2 = Nat.div k 2 := by
  show j = k ↔ j % 2 = k % 2 ∧ j / 2 = k / 2
  omega
theorem mod2 (k : Nat) : Nat.mod k 2 = 0 ∨ Nat.mod k 2 = 1 := by
  show k % 2 = 0 ∨ k % 2 = 1
  omega

noncomputable def getV (t : Tr Value) : Nat → Option Value :=
  Tr.rec (motive := fun _ => Nat → Option Value) (fun _ => none)
    (fun _ x _ gl gr k => Nat.rec (motive := fun _ => Option Value) x (fun k _ => Nat.rec (motive := fun _ => Option Value) (gl (Nat.div k 2)) (fun _ _ => gr (Nat.div k 2)) (Nat.mod k 2)) k) t
noncomputable def singV (fuel : Nat) : Value → Nat → (Tr Value → Rs) → Rs :=
  Nat.rec (motive := fun _ => Value → Nat → (Tr Value → Rs) → Rs) (fun _ _ _ => .bad)
    (fun _ ih v k K => Nat.rec (motive := fun _ => Rs) (K (.n .e (some v) .e)) (fun k _ => Nat.rec (motive := fun _ => Rs) (ih v (Nat.div k 2) fun l => K (.n l none .e)) (fun _ _ => ih v (Nat.div k 2) fun r => K (.n .e none r)) (Nat.mod k 2)) k) fuel
noncomputable def setV (t : Tr Value) : Value → Nat → (Tr Value → Rs) → Rs :=
  Tr.rec (motive := fun _ => Value → Nat → (Tr Value → Rs) → Rs) (singV 16)
    (fun l x r sl sr v k K => Nat.rec (motive := fun _ => Rs) (K (.n l (some v) r)) (fun k _ => Nat.rec (motive := fun _ => Rs) (sl v (Nat.div k 2) fun l => K (.n l x r)) (fun _ _ => sr v (Nat.div k 2) fun r => K (.n l x r)) (Nat.mod k 2)) k) t
theorem getV_e (k : Nat) : getV .e k = none := rfl
theorem getV_zero (l r : Tr Value) (x : Option Value) : getV (.n l x r) 0 = x := rfl
theorem getV_succ (l r : Tr Value) (x : Option Value) (k : Nat) : getV (.n l x r) (k + 1) = if Nat.mod k 2 = 0 then getV l (Nat.div k 2) else getV r (Nat.div k 2) := by
  show Nat.rec (motive := fun _ => Option Value) (getV l (Nat.div k 2)) (fun _ _ => getV r (Nat.div k 2)) (Nat.mod k 2) = _
  rcases mod2 k with h | h <;> rw [h] <;> rfl
theorem nodeV {l l' r r' : Tr Value} {x : Option Value} {v : Value} {k : Nat} (h0 : Nat.mod k 2 = 0 → (∀ j, getV l' j = if j = Nat.div k 2 then some v else getV l j) ∧ r' = r)
    (h1 : Nat.mod k 2 = 1 → (∀ j, getV r' j = if j = Nat.div k 2 then some v else getV r j) ∧ l' = l) (j : Nat) : getV (.n l' x r') j = if j = k + 1 then some v else getV (.n l x r) j := by
  cases j with
  | zero => rw [if_neg (by omega), getV_zero, getV_zero]
  | succ j =>
    rw [getV_succ, getV_succ]
    have hjk : j + 1 = k + 1 ↔ Nat.mod j 2 = Nat.mod k 2 ∧ Nat.div j 2 = Nat.div k 2 := by rw [Nat.add_right_cancel_iff]; exact half_inj
    rcases mod2 k with hk | hk <;> rcases mod2 j with hj | hj
    · obtain ⟨a, b⟩ := h0 hk
      rw [if_pos hj, if_pos hj, a]
      by_cases hd : Nat.div j 2 = Nat.div k 2
      · rw [if_pos hd, if_pos (hjk.2 ⟨by rw [hj, hk], hd⟩)]
      · rw [if_neg hd, if_neg fun h => hd (hjk.1 h).2]
    · obtain ⟨a, b⟩ := h0 hk
      have : ¬ Nat.mod j 2 = 0 := by rw [hj]; decide
      rw [if_neg this, if_neg this, b, if_neg fun h => by have := (hjk.1 h).1; rw [hj, hk] at this; cases this]
    · obtain ⟨a, b⟩ := h1 hk
      rw [if_pos hj, if_pos hj, b, if_neg fun h => by have := (hjk.1 h).1; rw [hj, hk] at this; cases this]
    · obtain ⟨a, b⟩ := h1 hk
      have : ¬ Nat.mod j 2 = 0 := by rw [hj]; decide
      rw [if_neg this, if_neg this, a]
      by_cases hd : Nat.div j 2 = Nat.div k 2
      · rw [if_pos hd, if_pos (hjk.2 ⟨by rw [hj, hk], hd⟩)]
      · rw [if_neg hd, if_neg fun h => hd (hjk.1 h).2]
theorem singV_spec : ∀ (fuel : Nat) (v : Value) (k : Nat) (K : Tr Value → Rs), singV fuel v k K = .bad ∨ ∃ t, singV fuel v k K = K t ∧ ∀ j, getV t j = if j = k then some v else none
  | 0, _, _, _ => .inl rfl
  | f + 1, v, 0, K => .inr ⟨_, rfl, fun j => by
      cases j with
      | zero => rfl
      | succ j => rw [getV_succ, if_neg (show ¬ j + 1 = 0 by omega)]; split <;> rfl⟩
  | f + 1, v, k + 1, K => by
    have e : singV (f + 1) v (k + 1) K = Nat.rec (motive := fun _ => Rs) (singV f v (Nat.div k 2) fun l => K (.n l none .e)) (fun _ _ => singV f v (Nat.div k 2) fun r => K (.n .e none r)) (Nat.mod k 2) := rfl
    have base : ∀ j, getV (.n .e none .e) j = none := fun j => by
      cases j with
      | zero => rfl
      | succ j => rw [getV_succ]; split <;> rfl
    rcases mod2 k with h | h
    · have e' : singV (f + 1) v (k + 1) K = singV f v (Nat.div k 2) fun l => K (.n l none .e) := by rw [e, h]; rfl
      rw [e']
      rcases singV_spec f v (Nat.div k 2) (fun l => K (.n l none .e)) with hb | ⟨t, h1, h2⟩
      · exact .inl hb
      · refine .inr ⟨_, h1, fun j => ?_⟩
        rw [nodeV (k := k) (v := v) (l := .e) (r := .e) (fun _ => ⟨fun j => by rw [h2, getV_e], rfl⟩) (fun h' => by rw [h] at h'; cases h'), base]
    · have e' : singV (f + 1) v (k + 1) K = singV f v (Nat.div k 2) fun r => K (.n .e none r) := by rw [e, h]; rfl
      rw [e']
      rcases singV_spec f v (Nat.div k 2) (fun r => K (.n .e none r)) with hb | ⟨t, h1, h2⟩
      · exact .inl hb
      · refine .inr ⟨_, h1, fun j => ?_⟩
        rw [nodeV (k := k) (v := v) (l := .e) (r := .e) (fun h' => by rw [h] at h'; cases h') (fun _ => ⟨fun j => by rw [h2, getV_e], rfl⟩), base]
theorem setV_spec : ∀ (t : Tr Value) (v : Value) (k : Nat) (K : Tr Value → Rs), setV t v k K = .bad ∨ ∃ t', setV t v k K = K t' ∧ ∀ j, getV t' j = if j = k then some v else getV t j
  | .e, v, k, K => singV_spec 16 v k K
  | .n l x r, v, 0, K => .inr ⟨_, rfl, fun j => by
      cases j with
      | zero => rfl
      | succ j => rw [getV_succ, getV_succ, if_neg (show ¬ j + 1 = 0 by omega)]⟩
  | .n l x r, v, k + 1, K => by
    have e : setV (.n l x r) v (k + 1) K = Nat.rec (motive := fun _ => Rs) (setV l v (Nat.div k 2) fun l => K (.n l x r)) (fun _ _ => setV r v (Nat.div k 2) fun r => K (.n l x r)) (Nat.mod k 2) := rfl
    rcases mod2 k with h | h
    · have e' : setV (.n l x r) v (k + 1) K = setV l v (Nat.div k 2) fun l => K (.n l x r) := by rw [e, h]; rfl
      rw [e']
      rcases setV_spec l v (Nat.div k 2) (fun l => K (.n l x r)) with hb | ⟨t, h1, h2⟩
      · exact .inl hb
      · exact .inr ⟨_, h1, nodeV (fun _ => ⟨h2, rfl⟩) (fun h' => by rw [h] at h'; cases h')⟩
    · have e' : setV (.n l x r) v (k + 1) K = setV r v (Nat.div k 2) fun r => K (.n l x r) := by rw [e, h]; rfl
      rw [e']
      rcases setV_spec r v (Nat.div k 2) (fun r => K (.n l x r)) with hb | ⟨t, h1, h2⟩
      · exact .inl hb
      · exact .inr ⟨_, h1, nodeV (fun h' => by rw [h] at h'; cases h') (fun _ => ⟨h2, rfl⟩)⟩

noncomputable def getO (t : Tr AObj) : Nat → Option AObj :=
  Tr.rec (motive := fun _ => Nat → Option AObj) (fun _ => none)
    (fun _ x _ gl gr k => Nat.rec (motive := fun _ => Option AObj) x (fun k _ => Nat.rec (motive := fun _ => Option AObj) (gl (Nat.div k 2)) (fun _ _ => gr (Nat.div k 2)) (Nat.mod k 2)) k) t
noncomputable def singO (fuel : Nat) : AObj → Nat → (Tr AObj → Rs) → Rs :=
  Nat.rec (motive := fun _ => AObj → Nat → (Tr AObj → Rs) → Rs) (fun _ _ _ => .bad)
    (fun _ ih v k K => Nat.rec (motive := fun _ => Rs) (K (.n .e (some v) .e)) (fun k _ => Nat.rec (motive := fun _ => Rs) (ih v (Nat.div k 2) fun l => K (.n l none .e)) (fun _ _ => ih v (Nat.div k 2) fun r => K (.n .e none r)) (Nat.mod k 2)) k) fuel
noncomputable def setO (t : Tr AObj) : AObj → Nat → (Tr AObj → Rs) → Rs :=
  Tr.rec (motive := fun _ => AObj → Nat → (Tr AObj → Rs) → Rs) (singO 16)
    (fun l x r sl sr v k K => Nat.rec (motive := fun _ => Rs) (K (.n l (some v) r)) (fun k _ => Nat.rec (motive := fun _ => Rs) (sl v (Nat.div k 2) fun l => K (.n l x r)) (fun _ _ => sr v (Nat.div k 2) fun r => K (.n l x r)) (Nat.mod k 2)) k) t
theorem getO_e (k : Nat) : getO .e k = none := rfl
theorem getO_zero (l r : Tr AObj) (x : Option AObj) : getO (.n l x r) 0 = x := rfl
theorem getO_succ (l r : Tr AObj) (x : Option AObj) (k : Nat) : getO (.n l x r) (k + 1) = if Nat.mod k 2 = 0 then getO l (Nat.div k 2) else getO r (Nat.div k 2) := by
  show Nat.rec (motive := fun _ => Option AObj) (getO l (Nat.div k 2)) (fun _ _ => getO r (Nat.div k 2)) (Nat.mod k 2) = _
  rcases mod2 k with h | h <;> rw [h] <;> rfl
theorem nodeO {l l' r r' : Tr AObj} {x : Option AObj} {v : AObj} {k : Nat} (h0 : Nat.mod k 2 = 0 → (∀ j, getO l' j = if j = Nat.div k 2 then some v else getO l j) ∧ r' = r)
    (h1 : Nat.mod k 2 = 1 → (∀ j, getO r' j = if j = Nat.div k 2 then some v else getO r j) ∧ l' = l) (j : Nat) : getO (.n l' x r') j = if j = k + 1 then some v else getO (.n l x r) j := by
  cases j with
  | zero => rw [if_neg (by omega), getO_zero, getO_zero]
  | succ j =>
    rw [getO_succ, getO_succ]
    have hjk : j + 1 = k + 1 ↔ Nat.mod j 2 = Nat.mod k 2 ∧ Nat.div j 2 = Nat.div k 2 := by rw [Nat.add_right_cancel_iff]; exact half_inj
    rcases mod2 k with hk | hk <;> rcases mod2 j with hj | hj
    · obtain ⟨a, b⟩ := h0 hk
      rw [if_pos hj, if_pos hj, a]
      by_cases hd : Nat.div j 2 = Nat.div k 2
      · rw [if_pos hd, if_pos (hjk.2 ⟨by rw [hj, hk], hd⟩)]
      · rw [if_neg hd, if_neg fun h => hd (hjk.1 h).2]
    · obtain ⟨a, b⟩ := h0 hk
      have : ¬ Nat.mod j 2 = 0 := by rw [hj]; decide
      rw [if_neg this, if_neg this, b, if_neg fun h => by have := (hjk.1 h).1; rw [hj, hk] at this; cases this]
    · obtain ⟨a, b⟩ := h1 hk
      rw [if_pos hj, if_pos hj, b, if_neg fun h => by have := (hjk.1 h).1; rw [hj, hk] at this; cases this]
    · obtain ⟨a, b⟩ := h1 hk
      have : ¬ Nat.mod j 2 = 0 := by rw [hj]; decide
      rw [if_neg this, if_neg this, a]
      by_cases hd : Nat.div j 2 = Nat.div k 2
      · rw [if_pos hd, if_pos (hjk.2 ⟨by rw [hj, hk], hd⟩)]
      · rw [if_neg hd, if_neg fun h => hd (hjk.1 h).2]
theorem singO_spec : ∀ (fuel : Nat) (v : AObj) (k : Nat) (K : Tr AObj → Rs), singO fuel v k K = .bad ∨ ∃ t, singO fuel v k K = K t ∧ ∀ j, getO t j = if j = k then some v else none
  | 0, _, _, _ => .inl rfl
  | f + 1, v, 0, K => .inr ⟨_, rfl, fun j => by
      cases j with
      | zero => rfl
      | succ j => rw [getO_succ, if_neg (show ¬ j + 1 = 0 by omega)]; split <;> rfl⟩
  | f + 1, v, k + 1, K => by
    have e : singO (f + 1) v (k + 1) K = Nat.rec (motive := fun _ => Rs) (singO f v (Nat.div k 2) fun l => K (.n l none .e)) (fun _ _ => singO f v (Nat.div k 2) fun r => K (.n .e none r)) (Nat.mod k 2) := rfl
    have base : ∀ j, getO (.n .e none .e) j = none := fun j => by
      cases j with
      | zero => rfl
      | succ j => rw [getO_succ]; split <;> rfl
    rcases mod2 k with h | h
    · have e' : singO (f + 1) v (k + 1) K = singO f v (Nat.div k 2) fun l => K (.n l none .e) := by rw [e, h]; rfl
      rw [e']
      rcases singO_spec f v (Nat.div k 2) (fun l => K (.n l none .e)) with hb | ⟨t, h1, h2⟩
      · exact .inl hb
      · refine .inr ⟨_, h1, fun j => ?_⟩
        rw [nodeO (k := k) (v := v) (l := .e) (r := .e) (fun _ => ⟨fun j => by rw [h2, getO_e], rfl⟩) (fun h' => by rw [h] at h'; cases h'), base]
    · have e' : singO (f + 1) v (k + 1) K = singO f v (Nat.div k 2) fun r => K (.n .e none r) := by rw [e, h]; rfl
      rw [e']
      rcases singO_spec f v (Nat.div k 2) (fun r => K (.n .e none r)) with hb | ⟨t, h1, h2⟩
      · exact .inl hb
      · refine .inr ⟨_, h1, fun j => ?_⟩
        rw [nodeO (k := k) (v := v) (l := .e) (r := .e) (fun h' => by rw [h] at h'; cases h') (fun _ => ⟨fun j => by rw [h2, getO_e], rfl⟩), base]
theorem setO_spec : ∀ (t : Tr AObj) (v : AObj) (k : Nat) (K : Tr AObj → Rs), setO t v k K = .bad ∨ ∃ t', setO t v k K = K t' ∧ ∀ j, getO t' j = if j = k then some v else getO t j
  | .e, v, k, K => singO_spec 16 v k K
  | .n l x r, v, 0, K => .inr ⟨_, rfl, fun j => by
      cases j with
      | zero => rfl
      | succ j => rw [getO_succ, getO_succ, if_neg (show ¬ j + 1 = 0 by omega)]⟩
  | .n l x r, v, k + 1, K => by
    have e : setO (.n l x r) v (k + 1) K = Nat.rec (motive := fun _ => Rs) (setO l v (Nat.div k 2) fun l => K (.n l x r)) (fun _ _ => setO r v (Nat.div k 2) fun r => K (.n l x r)) (Nat.mod k 2) := rfl
    rcases mod2 k with h | h
    · have e' : setO (.n l x r) v (k + 1) K = setO l v (Nat.div k 2) fun l => K (.n l x r) := by rw [e, h]; rfl
      rw [e']
      rcases setO_spec l v (Nat.div k 2) (fun l => K (.n l x r)) with hb | ⟨t, h1, h2⟩
      · exact .inl hb
      · exact .inr ⟨_, h1, nodeO (fun _ => ⟨h2, rfl⟩) (fun h' => by rw [h] at h'; cases h')⟩
    · have e' : setO (.n l x r) v (k + 1) K = setO r v (Nat.div k 2) fun r => K (.n l x r) := by rw [e, h]; rfl
      rw [e']
      rcases setO_spec r v (Nat.div k 2) (fun r => K (.n l x r)) with hb | ⟨t, h1, h2⟩
      · exact .inl hb
      · exact .inr ⟨_, h1, nodeO (fun h' => by rw [h] at h'; cases h') (fun _ => ⟨h2, rfl⟩)⟩
end Go.Ae
namespace Go.Ae
/-! values made plain -/
noncomputable def forceN (n : Nat) (K : Nat → Rs) : Rs := Nat.rec (motive := fun _ => Rs) (K 0) (fun m _ => K (Nat.succ m)) n
noncomputable def forceI (n : Int) : (Int → Rs) → Rs := Int.rec (motive := fun _ => (Int → Rs) → Rs) (fun n K => forceN n fun n => K (Int.ofNat n)) (fun n K => forceN n fun n => K (Int.negSucc n)) n
noncomputable def forceA (a : Addr) : (Addr → Rs) → Rs := Addr.rec (motive := fun _ => (Addr → Rs) → Rs) (fun b o s K => forceN b fun b => forceN o fun o => K ⟨b, o, s⟩) a
noncomputable def forceV (v : Value) : (Value → Rs) → Rs :=
  Value.rec (motive_1 := fun _ => (Value → Rs) → Rs) (motive_2 := fun _ => PUnit) (motive_3 := fun _ => PUnit)
    (fun b K => Bool.rec (motive := fun _ => Rs) (K (.bool false)) (K (.bool true)) b)
    (fun k n K => forceI n fun n => K (.int k n))
    (fun k n K => K (.float k n)) (fun k m n K => K (.complex k m n)) (fun s K => K (.string s))
    (fun a K => Option.rec (motive := fun _ => Rs) (K (.pointer none)) (fun a => forceA a fun a => K (.pointer (some a))) a)
    (fun a n c K => forceN n fun n => Option.rec (motive := fun _ => Rs) (K (.slice none n c)) (fun a => forceA a fun a => K (.slice (some a) n c)) a)
    (fun r K => K (.map r)) (fun r K => K (.chan r)) (fun f x c _ _ K => K (.func f x c)) (fun K => K .nilFunc) (fun t v _ K => K (.iface t v)) (fun K => K .nilIface)
    (fun c _ K => K (.agg c)) (fun c _ K => K (.tuple c)) (fun _ _ => ⟨⟩) ⟨⟩ (fun _ _ _ _ => ⟨⟩) v
/-- A value's head alone. -/
noncomputable def forceS (v : Value) : (Value → Rs) → Rs :=
  Value.rec (motive_1 := fun _ => (Value → Rs) → Rs) (motive_2 := fun _ => PUnit) (motive_3 := fun _ => PUnit)
    (fun b K => K (.bool b)) (fun k n K => K (.int k n))
    (fun k n K => K (.float k n)) (fun k m n K => K (.complex k m n)) (fun s K => K (.string s))
    (fun a K => K (.pointer a)) (fun a n c K => K (.slice a n c))
    (fun r K => K (.map r)) (fun r K => K (.chan r)) (fun f x c _ _ K => K (.func f x c)) (fun K => K .nilFunc) (fun t v _ K => K (.iface t v)) (fun K => K .nilIface)
    (fun c _ K => K (.agg c)) (fun c _ K => K (.tuple c)) (fun _ _ => ⟨⟩) ⟨⟩ (fun _ _ _ _ => ⟨⟩) v
/-! what a value is -/
noncomputable def ptrK (v : Value) : (Addr → Rs) → Rs :=
  Value.rec (motive_1 := fun _ => (Addr → Rs) → Rs) (motive_2 := fun _ => PUnit) (motive_3 := fun _ => PUnit)
    (fun _ _ => .bad) (fun _ _ _ => .bad) (fun _ _ _ => .bad) (fun _ _ _ _ => .bad) (fun _ _ => .bad)
    (fun a K => Option.rec (motive := fun _ => Rs) .bad K a)
    (fun _ _ _ _ => .bad) (fun _ _ => .bad) (fun _ _ => .bad) (fun _ _ _ _ _ _ => .bad) (fun _ => .bad) (fun _ _ _ _ => .bad) (fun _ => .bad)
    (fun _ _ _ => .bad) (fun _ _ _ => .bad) (fun _ _ => ⟨⟩) ⟨⟩ (fun _ _ _ _ => ⟨⟩) v
noncomputable def boolK (v : Value) : (Bool → Rs) → Rs :=
  Value.rec (motive_1 := fun _ => (Bool → Rs) → Rs) (motive_2 := fun _ => PUnit) (motive_3 := fun _ => PUnit)
    (fun b K => K b) (fun _ _ _ => .bad) (fun _ _ _ => .bad) (fun _ _ _ _ => .bad) (fun _ _ => .bad)
    (fun _ _ => .bad)
    (fun _ _ _ _ => .bad) (fun _ _ => .bad) (fun _ _ => .bad) (fun _ _ _ _ _ _ => .bad) (fun _ => .bad) (fun _ _ _ _ => .bad) (fun _ => .bad)
    (fun _ _ _ => .bad) (fun _ _ _ => .bad) (fun _ _ => ⟨⟩) ⟨⟩ (fun _ _ _ _ => ⟨⟩) v
/-- An int, or the other way. -/
noncomputable def intK (v : Value) : Rs → (IntKind → Int → Rs) → Rs :=
  Value.rec (motive_1 := fun _ => Rs → (IntKind → Int → Rs) → Rs) (motive_2 := fun _ => PUnit) (motive_3 := fun _ => PUnit)
    (fun _ z _ => z) (fun k n _ K => K k n) (fun _ _ z _ => z) (fun _ _ _ z _ => z) (fun _ z _ => z)
    (fun _ z _ => z)
    (fun _ _ _ z _ => z) (fun _ z _ => z) (fun _ z _ => z) (fun _ _ _ _ _ z _ => z) (fun z _ => z) (fun _ _ _ z _ => z) (fun z _ => z)
    (fun _ _ z _ => z) (fun _ _ z _ => z) (fun _ _ => ⟨⟩) ⟨⟩ (fun _ _ _ _ => ⟨⟩) v
noncomputable def sliceK (v : Value) : Rs → (Addr → Nat → Nat → Rs) → Rs :=
  Value.rec (motive_1 := fun _ => Rs → (Addr → Nat → Nat → Rs) → Rs) (motive_2 := fun _ => PUnit) (motive_3 := fun _ => PUnit)
    (fun _ z _ => z) (fun _ _ z _ => z) (fun _ _ z _ => z) (fun _ _ _ z _ => z) (fun _ z _ => z)
    (fun _ z _ => z)
    (fun a n c z K => Option.rec (motive := fun _ => Rs) z (fun a => K a n c) a) (fun _ z _ => z) (fun _ z _ => z) (fun _ _ _ _ _ z _ => z) (fun z _ => z) (fun _ _ _ z _ => z) (fun z _ => z)
    (fun _ _ z _ => z) (fun _ _ z _ => z) (fun _ _ => ⟨⟩) ⟨⟩ (fun _ _ _ _ => ⟨⟩) v
noncomputable def aggK (v : Value) : Rs → (Array Value → Rs) → Rs :=
  Value.rec (motive_1 := fun _ => Rs → (Array Value → Rs) → Rs) (motive_2 := fun _ => PUnit) (motive_3 := fun _ => PUnit)
    (fun _ z _ => z) (fun _ _ z _ => z) (fun _ _ z _ => z) (fun _ _ _ z _ => z) (fun _ z _ => z)
    (fun _ z _ => z)
    (fun _ _ _ z _ => z) (fun _ z _ => z) (fun _ z _ => z) (fun _ _ _ _ _ z _ => z) (fun z _ => z) (fun _ _ _ z _ => z) (fun z _ => z)
    (fun c _ _ K => K c) (fun _ _ z _ => z) (fun _ _ => ⟨⟩) ⟨⟩ (fun _ _ _ _ => ⟨⟩) v
/-- The function that a value is; or a loop's body. -/
noncomputable def funK (v : Value) : (FuncId → Array Value → Array Value → Rs) → Rs → Rs :=
  Value.rec (motive_1 := fun _ => (FuncId → Array Value → Array Value → Rs) → Rs → Rs) (motive_2 := fun _ => PUnit) (motive_3 := fun _ => PUnit)
    (fun _ _ _ => .bad) (fun _ _ _ _ => .bad) (fun _ _ _ _ => .bad) (fun _ _ _ _ _ => .bad) (fun _ _ _ => .bad)
    (fun _ _ _ => .bad)
    (fun _ _ _ _ _ => .bad) (fun _ _ _ => .bad) (fun _ _ _ => .bad) (fun f x c _ _ K z => Fn.rec (motive := fun _ => Rs) (fun f => K f x c) (fun _ => .bad) (fun _ _ => .bad) (fun _ _ _ _ => .bad) (fun _ => z) f) (fun _ _ => .bad) (fun _ _ _ _ _ => .bad) (fun _ _ => .bad)
    (fun _ _ _ _ => .bad) (fun _ _ _ _ => .bad) (fun _ _ => ⟨⟩) ⟨⟩ (fun _ _ _ _ => ⟨⟩) v
noncomputable def evX (x : Operand) : TV → Value :=
  Operand.rec (motive := fun _ => TV → Value) (fun t fr => Option.rec (motive := fun _ => Value) undef (fun v => v) (getV fr t)) (fun v _ => v) (fun g _ => .pointer (some ⟨g, 0, none⟩)) (fun f _ => .func (.func f) #[] #[]) x
/-! lists of cells -/
noncomputable def dropK (n : Nat) : List Value → (List Value → Rs) → Rs :=
  Nat.rec (motive := fun _ => List Value → (List Value → Rs) → Rs) (fun l K => K l) (fun _ ih l K => List.rec (motive := fun _ => Rs) .bad (fun _ l _ => ih l K) l) n
noncomputable def headK (l : List Value) : (Value → Rs) → Rs := List.rec (motive := fun _ => (Value → Rs) → Rs) (fun _ => .bad) (fun x _ _ K => K x) l
noncomputable def takeK (n : Nat) : List Value → (List Value → Rs) → Rs :=
  Nat.rec (motive := fun _ => List Value → (List Value → Rs) → Rs) (fun _ K => K []) (fun _ ih l K => List.rec (motive := fun _ => Rs) .bad (fun x l _ => ih l fun r => K (x :: r)) l) n
/-- vs over the first cells. -/
noncomputable def overK (vs : List Value) : List Value → (List Value → Rs) → Rs :=
  List.rec (motive := fun _ => List Value → (List Value → Rs) → Rs) (fun l K => K l) (fun v _ ih l K => List.rec (motive := fun _ => Rs) .bad (fun _ l _ => forceS v fun v => ih l fun r => K (v :: r)) l) vs
noncomputable def putsK (n : Nat) : List Value → List Value → (List Value → Rs) → Rs :=
  Nat.rec (motive := fun _ => List Value → List Value → (List Value → Rs) → Rs) (fun vs l K => overK vs l K) (fun _ ih vs l K => List.rec (motive := fun _ => Rs) .bad (fun x l _ => ih vs l fun r => K (x :: r)) l) n
noncomputable def optK {α : Type} (x : Option α) (K : α → Rs) : Rs := Option.rec (motive := fun _ => Rs) .bad K x
noncomputable def listLen (l : List Value) : Nat := List.rec (motive := fun _ => Nat) 0 (fun _ _ n => Nat.succ n) l
/-! ### What they come to -/
theorem forceN_eq (n : Nat) (K : Nat → Rs) : forceN n K = K n := by cases n <;> rfl
theorem forceI_eq (n : Int) (K : Int → Rs) : forceI n K = K n := by
  cases n with
  | ofNat n => exact forceN_eq n fun n => K (Int.ofNat n)
  | negSucc n => exact forceN_eq n fun n => K (Int.negSucc n)
theorem forceA_eq (a : Addr) (K : Addr → Rs) : forceA a K = K a := by
  obtain ⟨b, o, s⟩ := a
  show (forceN b fun b => forceN o fun o => K ⟨b, o, s⟩) = _
  rw [forceN_eq, forceN_eq]
theorem forceV_eq (v : Value) (K : Value → Rs) : forceV v K = K v := by
  cases v with
  | bool b => cases b <;> rfl
  | int k n => exact forceI_eq n fun n => K (.int k n)
  | pointer a => cases a with
    | none => rfl
    | some a => exact forceA_eq a fun a => K (.pointer (some a))
  | slice a n c =>
    show (forceN n fun n => Option.rec (motive := fun _ => Rs) (K (.slice none n c)) (fun a => forceA a fun a => K (.slice (some a) n c)) a) = _
    rw [forceN_eq]
    cases a with
    | none => rfl
    | some a => exact forceA_eq a fun a => K (.slice (some a) n c)
  | _ => rfl
theorem forceS_eq (v : Value) (K : Value → Rs) : forceS v K = K v := by cases v <;> rfl
theorem ptrK_spec (v : Value) (K : Addr → Rs) : ptrK v K = .bad ∨ ∃ a, v = .pointer (some a) ∧ ptrK v K = K a := by
  cases v with
  | pointer a => cases a with
    | none => exact .inl rfl
    | some a => exact .inr ⟨a, rfl, rfl⟩
  | _ => exact .inl rfl
theorem boolK_spec (v : Value) (K : Bool → Rs) : boolK v K = .bad ∨ ∃ b, v = .bool b ∧ boolK v K = K b := by
  cases v with
  | bool b => exact .inr ⟨b, rfl, rfl⟩
  | _ => exact .inl rfl
theorem intK_spec (v : Value) (z : Rs) (K : IntKind → Int → Rs) : intK v z K = z ∨ ∃ k n, v = .int k n ∧ intK v z K = K k n := by
  cases v with
  | int k n => exact .inr ⟨k, n, rfl, rfl⟩
  | _ => exact .inl rfl
theorem sliceK_spec (v : Value) (z : Rs) (K : Addr → Nat → Nat → Rs) : sliceK v z K = z ∨ ∃ a n c, v = .slice (some a) n c ∧ sliceK v z K = K a n c := by
  cases v with
  | slice a n c => cases a with
    | none => exact .inl rfl
    | some a => exact .inr ⟨a, n, c, rfl, rfl⟩
  | _ => exact .inl rfl
theorem aggK_spec (v : Value) (z : Rs) (K : Array Value → Rs) : (aggK v z K = z ∧ ∀ cs, v ≠ .agg cs) ∨ ∃ cs, v = .agg cs ∧ aggK v z K = K cs := by
  cases v with
  | agg cs => exact .inr ⟨cs, rfl, rfl⟩
  | _ => exact .inl ⟨rfl, by simp⟩
theorem funK_spec (v : Value) (K : FuncId → Array Value → Array Value → Rs) (z : Rs) : funK v K z = .bad ∨ (∃ f x c, v = .func (.func f) x c ∧ funK v K z = K f x c) ∨ ∃ l x c, v = .func (.yield l) x c ∧ funK v K z = z := by
  cases v with
  | func f x c => cases f with
    | func f => exact .inr (.inl ⟨f, x, c, rfl, rfl⟩)
    | yield l => exact .inr (.inr ⟨l, x, c, rfl, rfl⟩)
    | _ => exact .inl rfl
  | _ => exact .inl rfl
theorem dropK_spec : ∀ (n : Nat) (l : List Value) (K : List Value → Rs), dropK n l K = .bad ∨ (n ≤ l.length ∧ dropK n l K = K (l.drop n))
  | 0, l, K => .inr ⟨Nat.zero_le _, rfl⟩
  | n + 1, [], K => .inl rfl
  | n + 1, x :: l, K => (dropK_spec n l K).imp id fun h => ⟨Nat.succ_le_succ h.1, h.2⟩
theorem headK_spec (l : List Value) (K : Value → Rs) : headK l K = .bad ∨ ∃ x r, l = x :: r ∧ headK l K = K x := by
  cases l with
  | nil => exact .inl rfl
  | cons x r => exact .inr ⟨x, r, rfl, rfl⟩
theorem takeK_spec : ∀ (n : Nat) (l : List Value) (K : List Value → Rs), takeK n l K = .bad ∨ (n ≤ l.length ∧ takeK n l K = K (l.take n))
  | 0, l, K => .inr ⟨Nat.zero_le _, rfl⟩
  | n + 1, [], K => .inl rfl
  | n + 1, x :: l, K => (takeK_spec n l fun r => K (x :: r)).imp id fun h => ⟨Nat.succ_le_succ h.1, h.2⟩
theorem overK_spec : ∀ (vs l : List Value) (K : List Value → Rs), overK vs l K = .bad ∨ (vs.length ≤ l.length ∧ overK vs l K = K (vs ++ l.drop vs.length))
  | [], l, K => .inr ⟨Nat.zero_le _, rfl⟩
  | v :: vs, [], K => .inl rfl
  | v :: vs, x :: l, K => by
    have e : overK (v :: vs) (x :: l) K = overK vs l fun r => K (v :: r) := forceS_eq v fun v => overK vs l fun r => K (v :: r)
    rw [e]
    exact (overK_spec vs l fun r => K (v :: r)).imp id fun h => ⟨Nat.succ_le_succ h.1, h.2⟩
theorem putsK_spec : ∀ (n : Nat) (vs l : List Value) (K : List Value → Rs), putsK n vs l K = .bad ∨ (n + vs.length ≤ l.length ∧ putsK n vs l K = K (lset l n vs))
  | 0, vs, l, K => by
    rcases overK_spec vs l K with h | h
    · exact .inl h
    · refine .inr ⟨by omega, ?_⟩
      show overK vs l K = _
      rw [h.2]
      simp [lset]
  | n + 1, vs, [], K => .inl rfl
  | n + 1, vs, x :: l, K => by
    rcases putsK_spec n vs l fun r => K (x :: r) with h | h
    · exact .inl h
    · refine .inr ⟨by simp only [List.length_cons]; omega, ?_⟩
      show putsK n vs l (fun r => K (x :: r)) = _
      rw [h.2]
      simp [lset, show n + 1 + vs.length = n + vs.length + 1 by omega]
theorem listLen_eq : ∀ (l : List Value), listLen l = l.length
  | [] => rfl
  | _ :: l => congrArg Nat.succ (listLen_eq l)
theorem optK_spec {α : Type} (x : Option α) (K : α → Rs) : optK x K = .bad ∨ ∃ a, x = some a ∧ optK x K = K a := by
  cases x with
  | none => exact .inl rfl
  | some a => exact .inr ⟨a, rfl, rfl⟩
end Go.Ae

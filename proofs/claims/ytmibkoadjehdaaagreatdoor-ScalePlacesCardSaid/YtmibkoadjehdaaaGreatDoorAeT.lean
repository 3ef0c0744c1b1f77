/- Tries of values and of objects, written so that the kernel runs them fast (direct recursors, closed arms); what they hold. No condition. -/
import Derived.Test.YtmibkoadjehdaaaGreatDoorAeNp
namespace Go.Ae
inductive Tr (α : Type) where
  | e
  | n (l : Tr α) (x : Option α) (r : Tr α)
abbrev TV := Tr Value
abbrev TO := Tr AObj
/-- What is deferred: a function's call; a loop's calls. -/
inductive Dfx where
  | fn (g : FuncId)
  | col (i : Nat)
abbrev Df := List Dfx
abbrev YS := Option (Exit × TV × Df)
structure CH where
  t : TO
  next : Nat
/-- What an evaluation comes to. -/
inductive Rs where
  | bad
  | ok (e : Exit) (fr : TV) (df : Df) (h : CH) (y : YS)
theorem half_inj {j k : Nat} : j = k ↔ Nat.mod j 2 = Nat.mod k 2 ∧ Nat.div j 2 = Nat.div k 2 := by
  show j = k ↔ j % 2 = k % 2 ∧ j / 2 = k / 2
  omega
theorem mod2 (k : Nat) : Nat.mod k 2 = 0 ∨ Nat.mod k 2 = 1 := by
  show k % 2 = 0 ∨ k % 2 = 1
  omega

noncomputable def getV (t : Tr Value) : Nat → Option Value :=
  Tr.rec (motive := fun _ => Nat → Option Value) (fun _ => none)
    (fun _ x _ gl gr k => Nat.rec (motive := fun _ => Option Value) x (fun k _ => Nat.rec (motive := fun _ => Option Value) (gl (Nat.div k 2)) (fun _ _ => gr (Nat.div k 2)) (Nat.mod k 2)) k) t
noncomputable def singV (fuel : Nat) : Value → Nat → (Tr Value → Rs) → Rs :=
  Nat.rec (motive := fun _ => Value → Nat → (Tr Value → Rs) → Rs) (fun _ _ _ => .bad)
    (fun _ ih v k K => Nat.rec (motive := fun _ => Rs) (K (.n .e (some v) .e)) (fun k _ => Nat.rec (motive := fun _ => Rs) (ih v (Nat.div k 2) fun l => K (.n l none .e)) (fun _ _ => ih v (Nat.div k 2) fun r => K (.n .e none r)) (Nat.mod k 2)) k) fuel
noncomputable def setV (t : Tr Value) : Value → Nat → (Tr Value → Rs) → Rs :=
  Tr.rec (motive := fun _ => Value → Nat → (Tr Value → Rs) → Rs) (singV 16)
    (fun l x r sl sr v k K => Nat.rec (motive := fun _ => Rs) (K (.n l (some v) r)) (fun k _ => Nat.rec (motive := fun _ => Rs) (sl v (Nat.div k 2) fun l => K (.n l x r)) (fun _ _ => sr v (Nat.div k 2) fun r => K (.n l x r)) (Nat.mod k 2)) k) t
theorem getV_e (k : Nat) : getV .e k = none := rfl
theorem getV_zero (l r : Tr Value) (x : Option Value) : getV (.n l x r) 0 = x := rfl
theorem getV_succ (l r : Tr Value) (x : Option Value) (k : Nat) : getV (.n l x r) (k + 1) = if Nat.mod k 2 = 0 then getV l (Nat.div k 2) else getV r (Nat.div k 2) := by
  show Nat.rec (motive := fun _ => Option Value) (getV l (Nat.div k 2)) (fun _ _ => getV r (Nat.div k 2)) (Nat.mod k 2) = _
  rcases mod2 k with h | h <;> rw [h] <;> rfl
theorem nodeV {l l' r r' : Tr Value} {x : Option Value} {v : Value} {k : Nat} (h0 : Nat.mod k 2 = 0 → (∀ j, getV l' j = if j = Nat.div k 2 then some v else getV l j) ∧ r' = r)
    (h1 : Nat.mod k 2 = 1 → (∀ j, getV r' j = if j = Nat.div k 2 then some v else getV r j) ∧ l' = l) (j : Nat) : getV (.n l' x r') j = if j = k + 1 then some v else getV (.n l x r) j := by
  cases j with
  | zero => rw [if_neg (by omega), getV_zero, getV_zero]
  | succ j =>
    rw [getV_succ, getV_succ]
    have hjk : j + 1 = k + 1 ↔ Nat.mod j 2 = Nat.mod k 2 ∧ Nat.div j 2 = Nat.div k 2 := by rw [Nat.add_right_cancel_iff]; exact half_inj
    rcases mod2 k with hk | hk <;> rcases mod2 j with hj | hj
    · obtain ⟨a, b⟩ := h0 hk
      rw [if_pos hj, if_pos hj, a]
      by_cases hd : Nat.div j 2 = Nat.div k 2
      · rw [if_pos hd, if_pos (hjk.2 ⟨by rw [hj, hk], hd⟩)]
      · rw [if_neg hd, if_neg fun h => hd (hjk.1 h).2]
    · obtain ⟨a, b⟩ := h0 hk
      have : ¬ Nat.mod j 2 = 0 := by rw [hj]; decide
      rw [if_neg this, if_neg this, b, if_neg fun h => by have := (hjk.1 h).1; rw [hj, hk] at this; cases this]
    · obtain ⟨a, b⟩ := h1 hk
      rw [if_pos hj, if_pos hj, b, if_neg fun h => by have := (hjk.1 h).1; rw [hj, hk] at this; cases this]
    · obtain ⟨a, b⟩ := h1 hk
      have : ¬ Nat.mod j 2 = 0 := by rw [hj]; decide
      rw [if_neg this, if_neg this, a]
      by_cases hd : Nat.div j 2 = Nat.div k 2
      · rw [if_pos hd, if_pos (hjk.2 ⟨by rw [hj, hk], hd⟩)]
      · rw [if_neg hd, if_neg fun h => hd (hjk.1 h).2]
theorem singV_spec : ∀ (fuel : Nat) (v : Value) (k : Nat) (K : Tr Value → Rs), singV fuel v k K = .bad ∨ ∃ t, singV fuel v k K = K t ∧ ∀ j, getV t j = if j = k then some v else none
  | 0, _, _, _ => .inl rfl
  | f + 1, v, 0, K => .inr ⟨_, rfl, fun j => by
      cases j with
      | zero => rfl
      | succ j => rw [getV_succ, if_neg (show ¬ j + 1 = 0 by omega)]; split <;> rfl⟩
  | f + 1, v, k + 1, K => by
    have e : singV (f + 1) v (k + 1) K = Nat.rec (motive := fun _ => Rs) (singV f v (Nat.div k 2) fun l => K (.n l none .e)) (fun _ _ => singV f v (Nat.div k 2) fun r => K (.n .e none r)) (Nat.mod k 2) := rfl
    have base : ∀ j, getV (.n .e none .e) j = none := fun j => by
      cases j with
      | zero => rfl
      | succ j => rw [getV_succ]; split <;> rfl
    rcases mod2 k with h | h
    · have e' : singV (f + 1) v (k + 1) K = singV f v (Nat.div k 2) fun l => K (.n l none .e) := by rw [e, h]; rfl
      rw [e']
      rcases singV_spec f v (Nat.div k 2) (fun l => K (.n l none .e)) with hb | ⟨t, h1, h2⟩
      · exact .inl hb
      · refine .inr ⟨_, h1, fun j => ?_⟩
        rw [nodeV (k := k) (v := v) (l := .e) (r := .e) (fun _ => ⟨fun j => by rw [h2, getV_e], rfl⟩) (fun h' => by rw [h] at h'; cases h'), base]
    · have e' : singV (f + 1) v (k + 1) K = singV f v (Nat.div k 2) fun r => K (.n .e none r) := by rw [e, h]; rfl
      rw [e']
      rcases singV_spec f v (Nat.div k 2) (fun r => K (.n .e none r)) with hb | ⟨t, h1, h2⟩
      · exact .inl hb
      · refine .inr ⟨_, h1, fun j => ?_⟩
        rw [nodeV (k := k) (v := v) (l := .e) (r := .e) (fun h' => by rw [h] at h'; cases h') (fun _ => ⟨fun j => by rw [h2, getV_e], rfl⟩), base]
theorem setV_spec : ∀ (t : Tr Value) (v : Value) (k : Nat) (K : Tr Value → Rs), setV t v k K = .bad ∨ ∃ t', setV t v k K = K t' ∧ ∀ j, getV t' j = if j = k then some v else getV t j
  | .e, v, k, K => singV_spec 16 v k K
  | .n l x r, v, 0, K => .inr ⟨_, rfl, fun j => by
      cases j with
      | zero => rfl
      | succ j => rw [getV_succ, getV_succ, if_neg (show ¬ j + 1 = 0 by omega)]⟩
  | .n l x r, v, k + 1, K => by
    have e : setV (.n l x r) v (k + 1) K = Nat.rec (motive := fun _ => Rs) (setV l v (Nat.div k 2) fun l => K (.n l x r)) (fun _ _ => setV r v (Nat.div k 2) fun r => K (.n l x r)) (Nat.mod k 2) := rfl
    rcases mod2 k with h | h
    · have e' : setV (.n l x r) v (k + 1) K = setV l v (Nat.div k 2) fun l => K (.n l x r) := by rw [e, h]; rfl
      rw [e']
      rcases setV_spec l v (Nat.div k 2) (fun l => K (.n l x r)) with hb | ⟨t, h1, h2⟩
      · exact .inl hb
      · exact .inr ⟨_, h1, nodeV (fun _ => ⟨h2, rfl⟩) (fun h' => by rw [h] at h'; cases h')⟩
    · have e' : setV (.n l x r) v (k + 1) K = setV r v (Nat.div k 2) fun r => K (.n l x r) := by rw [e, h]; rfl
      rw [e']
      rcases setV_spec r v (Nat.div k 2) (fun r => K (.n l x r)) with hb | ⟨t, h1, h2⟩
      · exact .inl hb
      · exact .inr ⟨_, h1, nodeV (fun h' => by rw [h] at h'; cases h') (fun _ => ⟨h2, rfl⟩)⟩

noncomputable def getO (t : Tr AObj) : Nat → Option AObj :=
  Tr.rec (motive := fun _ => Nat → Option AObj) (fun _ => none)
    (fun _ x _ gl gr k => Nat.rec (motive := fun _ => Option AObj) x (fun k _ => Nat.rec (motive := fun _ => Option AObj) (gl (Nat.div k 2)) (fun _ _ => gr (Nat.div k 2)) (Nat.mod k 2)) k) t
noncomputable def singO (fuel : Nat) : AObj → Nat → (Tr AObj → Rs) → Rs :=
  Nat.rec (motive := fun _ => AObj → Nat → (Tr AObj → Rs) → Rs) (fun _ _ _ => .bad)
    (fun _ ih v k K => Nat.rec (motive := fun _ => Rs) (K (.n .e (some v) .e)) (fun k _ => Nat.rec (motive := fun _ => Rs) (ih v (Nat.div k 2) fun l => K (.n l none .e)) (fun _ _ => ih v (Nat.div k 2) fun r => K (.n .e none r)) (Nat.mod k 2)) k) fuel
noncomputable def setO (t : Tr AObj) : AObj → Nat → (Tr AObj → Rs) → Rs :=
  Tr.rec (motive := fun _ => AObj → Nat → (Tr AObj → Rs) → Rs) (singO 16)
    (fun l x r sl sr v k K => Nat.rec (motive := fun _ => Rs) (K (.n l (some v) r)) (fun k _ => Nat.rec (motive := fun _ => Rs) (sl v (Nat.div k 2) fun l => K (.n l x r)) (fun _ _ => sr v (Nat.div k 2) fun r => K (.n l x r)) (Nat.mod k 2)) k) t
theorem getO_e (k : Nat) : getO .e k = none := rfl
theorem getO_zero (l r : Tr AObj) (x : Option AObj) : getO (.n l x r) 0 = x := rfl
theorem getO_succ (l r : Tr AObj) (x : Option AObj) (k : Nat) : getO (.n l x r) (k + 1) = if Nat.mod k 2 = 0 then getO l (Nat.div k 2) else getO r (Nat.div k 2) := by
  show Nat.rec (motive := fun _ => Option AObj) (getO l (Nat.div k 2)) (fun _ _ => getO r (Nat.div k 2)) (Nat.mod k 2) = _
  rcases mod2 k with h | h <;> rw [h] <;> rfl
theorem nodeO {l l' r r' : Tr AObj} {x : Option AObj} {v : AObj} {k : Nat} (h0 : Nat.mod k 2 = 0 → (∀ j, getO l' j = if j = Nat.div k 2 then some v else getO l j) ∧ r' = r)
    (h1 : Nat.mod k 2 = 1 → (∀ j, getO r' j = if j = Nat.div k 2 then some v else getO r j) ∧ l' = l) (j : Nat) : getO (.n l' x r') j = if j = k + 1 then some v else getO (.n l x r) j := by
  cases j with
  | zero => rw [if_neg (by omega), getO_zero, getO_zero]
  | succ j =>
    rw [getO_succ, getO_succ]
    have hjk : j + 1 = k + 1 ↔ Nat.mod j 2 = Nat.mod k 2 ∧ Nat.div j 2 = Nat.div k 2 := by rw [Nat.add_right_cancel_iff]; exact half_inj
    rcases mod2 k with hk | hk <;> rcases mod2 j with hj | hj
    · obtain ⟨a, b⟩ := h0 hk
      rw [if_pos hj, if_pos hj, a]
      by_cases hd : Nat.div j 2 = Nat.div k 2
      · rw [if_pos hd, if_pos (hjk.2 ⟨by rw [hj, hk], hd⟩)]
      · rw [if_neg hd, if_neg fun h => hd (hjk.1 h).2]
    · obtain ⟨a, b⟩ := h0 hk
      have : ¬ Nat.mod j 2 = 0 := by rw [hj]; decide
      rw [if_neg this, if_neg this, b, if_neg fun h => by have := (hjk.1 h).1; rw [hj, hk] at this; cases this]
    · obtain ⟨a, b⟩ := h1 hk
      rw [if_pos hj, if_pos hj, b, if_neg fun h => by have := (hjk.1 h).1; rw [hj, hk] at this; cases this]
    · obtain ⟨a, b⟩ := h1 hk
      have : ¬ Nat.mod j 2 = 0 := by rw [hj]; decide
      rw [if_neg this, if_neg this, a]
      by_cases hd : Nat.div j 2 = Nat.div k 2
      · rw [if_pos hd, if_pos (hjk.2 ⟨by rw [hj, hk], hd⟩)]
      · rw [if_neg hd, if_neg fun h => hd (hjk.1 h).2]
theorem singO_spec : ∀ (fuel : Nat) (v : AObj) (k : Nat) (K : Tr AObj → Rs), singO fuel v k K = .bad ∨ ∃ t, singO fuel v k K = K t ∧ ∀ j, getO t j = if j = k then some v else none
  | 0, _, _, _ => .inl rfl
  | f + 1, v, 0, K => .inr ⟨_, rfl, fun j => by
      cases j with
      | zero => rfl
      | succ j => rw [getO_succ, if_neg (show ¬ j + 1 = 0 by omega)]; split <;> rfl⟩
  | f + 1, v, k + 1, K => by
    have e : singO (f + 1) v (k + 1) K = Nat.rec (motive := fun _ => Rs) (singO f v (Nat.div k 2) fun l => K (.n l none .e)) (fun _ _ => singO f v (Nat.div k 2) fun r => K (.n .e none r)) (Nat.mod k 2) := rfl
    have base : ∀ j, getO (.n .e none .e) j = none := fun j => by
      cases j with
      | zero => rfl
      | succ j => rw [getO_succ]; split <;> rfl
    rcases mod2 k with h | h
    · have e' : singO (f + 1) v (k + 1) K = singO f v (Nat.div k 2) fun l => K (.n l none .e) := by rw [e, h]; rfl
      rw [e']
      rcases singO_spec f v (Nat.div k 2) (fun l => K (.n l none .e)) with hb | ⟨t, h1, h2⟩
      · exact .inl hb
      · refine .inr ⟨_, h1, fun j => ?_⟩
        rw [nodeO (k := k) (v := v) (l := .e) (r := .e) (fun _ => ⟨fun j => by rw [h2, getO_e], rfl⟩) (fun h' => by rw [h] at h'; cases h'), base]
    · have e' : singO (f + 1) v (k + 1) K = singO f v (Nat.div k 2) fun r => K (.n .e none r) := by rw [e, h]; rfl
      rw [e']
      rcases singO_spec f v (Nat.div k 2) (fun r => K (.n .e none r)) with hb | ⟨t, h1, h2⟩
      · exact .inl hb
      · refine .inr ⟨_, h1, fun j => ?_⟩
        rw [nodeO (k := k) (v := v) (l := .e) (r := .e) (fun h' => by rw [h] at h'; cases h') (fun _ => ⟨fun j => by rw [h2, getO_e], rfl⟩), base]
theorem setO_spec : ∀ (t : Tr AObj) (v : AObj) (k : Nat) (K : Tr AObj → Rs), setO t v k K = .bad ∨ ∃ t', setO t v k K = K t' ∧ ∀ j, getO t' j = if j = k then some v else getO t j
  | .e, v, k, K => singO_spec 16 v k K
  | .n l x r, v, 0, K => .inr ⟨_, rfl, fun j => by
      cases j with
      | zero => rfl
      | succ j => rw [getO_succ, getO_succ, if_neg (show ¬ j + 1 = 0 by omega)]⟩
  | .n l x r, v, k + 1, K => by
    have e : setO (.n l x r) v (k + 1) K = Nat.rec (motive := fun _ => Rs) (setO l v (Nat.div k 2) fun l => K (.n l x r)) (fun _ _ => setO r v (Nat.div k 2) fun r => K (.n l x r)) (Nat.mod k 2) := rfl
    rcases mod2 k with h | h
    · have e' : setO (.n l x r) v (k + 1) K = setO l v (Nat.div k 2) fun l => K (.n l x r) := by rw [e, h]; rfl
      rw [e']
      rcases setO_spec l v (Nat.div k 2) (fun l => K (.n l x r)) with hb | ⟨t, h1, h2⟩
      · exact .inl hb
      · exact .inr ⟨_, h1, nodeO (fun _ => ⟨h2, rfl⟩) (fun h' => by rw [h] at h'; cases h')⟩
    · have e' : setO (.n l x r) v (k + 1) K = setO r v (Nat.div k 2) fun r => K (.n l x r) := by rw [e, h]; rfl
      rw [e']
      rcases setO_spec r v (Nat.div k 2) (fun r => K (.n l x r)) with hb | ⟨t, h1, h2⟩
      · exact .inl hb
      · exact .inr ⟨_, h1, nodeO (fun h' => by rw [h] at h'; cases h') (fun _ => ⟨h2, rfl⟩)⟩
end Go.Ae

/- A region whose order the model draws: one order stands for all. No condition. -/
import Derived.Test.YtfhpgikgjheobaaAeSched
namespace Go.Ae

structure HE where
  i : Nat
  dst : Option Tmp
  v : Value

/-- What slot x holds behind the operations of hist that D has done. -/
def look (D : Nat → Bool) : List HE → Tmp → Value → Value
  | [], _, d => d
  | h :: hs, x, d => look D hs x (if D h.i = true ∧ h.dst = some x then h.v else d)
theorem look_append (D : Nat → Bool) : ∀ (h1 h2 : List HE) (x : Tmp) (d : Value), look D (h1 ++ h2) x d = look D h2 x (look D h1 x d)
  | [], _, _, _ => rfl
  | _ :: h1, h2, x, _ => look_append D h1 h2 x _
theorem look_skip {D : Nat → Bool} {x : Tmp} : ∀ {hs : List HE} {d : Value}, (∀ h ∈ hs, h.dst = some x → D h.i = false) → look D hs x d = d
  | [], _, _ => rfl
  | h :: hs, _, hh => by
    have h0 : ¬ (D h.i = true ∧ h.dst = some x) := fun ⟨h1, h2⟩ => by rw [hh h (by simp) h2] at h1; cases h1
    rw [look, if_neg h0]
    exact look_skip fun q hq => hh q (by simp [hq])
theorem look_congr {D D' : Nat → Bool} {x : Tmp} : ∀ {hs : List HE} {d : Value}, (∀ h ∈ hs, h.dst = some x → D h.i = D' h.i) → look D hs x d = look D' hs x d
  | [], _, _ => rfl
  | h :: hs, d, hh => by
    rw [look, look]
    by_cases hd : h.dst = some x
    · rw [hh h (by simp) hd]; exact look_congr fun q hq => hh q (by simp [hq])
    · rw [if_neg (fun c => hd c.2), if_neg (fun c => hd c.2)]; exact look_congr fun q hq => hh q (by simp [hq])

def isRead (o : Oper) : Bool :=
  match o.op with
  | .load .. | .convert .. => true
  | _ => false

def wpS (P : Program) (ops : Array Oper) (B : List Nat) (K : Act → AHeap → Prop) : List Nat → Act → AHeap → List (Nat × (AHeap → Prop)) → Prop
  | [], a, H, _ => K a H
  | i :: rest, a, H, log =>
    match ops[i]? with
    | none => False
    | some o =>
      if Region.wanted o (yielded ops a.tmps) then
        if isE o then eStep P a H o fun v H' => (∀ p ∈ log, anc B p.1 i = true ∨ p.2 H') ∧ wpS P ops B K rest (a.put o.dst v) H' log
        else nStep P a H o fun v H' => wpS P ops B K rest (a.put o.dst v) H' (if isRead o then (i, fun H' => aR P a.eval H' o = aR P a.eval H o) :: log else log)
      else wpS P ops B K rest (a.put o.dst undef) H log

/-- What is owed by an operation that is done canonically and not yet in the world. -/
inductive Pend (P : Program) (aj : Act) (o : Oper) (i : Nat) (v : Value) (H : AHeap) (ρ : Ren) (log : List (Nat × (AHeap → Prop))) (nm : Nat → Nat) (as : List Nat) (n0 : Nat) : Prop
  | pure (h : aP P aj.eval o = some v)
  | read (h : aR P aj.eval H o = some v) (hl : ∃ p ∈ log, p.1 = i ∧ ∀ H', p.2 H' → aR P aj.eval H' o = some v)
  | new (r : Row) (mk : Nat → Value) (h : aA P aj.eval o = some (r, mk)) (hv : v = mk (nm i)) (hg : H.get (nm i) = some (.row r)) (hn : n0 ≤ nm i) (hlt : nm i < H.next)
      (hp : ∀ u, ρ (nm i) u = none) (has : i ∈ as)

def PF (P : Program) (ops : Array Oper) (N : Nat) (init : Nat → Value) (H : AHeap) (ρ : Ren) (log : List (Nat × (AHeap → Prop))) (nm : Nat → Nat) (as : List Nat) (n0 : Nat) (pre : List HE) (h : HE) : Prop :=
  ∃ (o : Oper) (aj : Act), ops[h.i]? = some o ∧ h.dst = o.dst ∧ aj.tmps.size = N ∧ (∀ x, x < N → aj.tmps.getD x undef = look (fun _ => true) pre x (init x)) ∧
    ((Region.wanted o (yielded ops aj.tmps) = false ∧ h.v = undef) ∨ (Region.wanted o (yielded ops aj.tmps) = true ∧ Pend P aj o h.i h.v H ρ log nm as n0))

structure Inv (P : Program) (ops : Array Oper) (N : Nat) (init : Nat → Value) (n0 : Nat) (ρ0 : Ren) (H0 : AHeap) (w0 : World) (hist : List HE) (a : Act) (H : AHeap) (log : List (Nat × (AHeap → Prop)))
    (nm : Nat → Nat) (as : List Nat) (D : Nat → Bool) (ρ : Ren) (b : Act) (w : World) : Prop where
  rel : RelH P ρ H w
  ext : ExtN n0 ρ0 H0 w0 ρ H w
  aN : a.tmps.size = N
  bN : b.tmps.size = N
  adef : a.defers = []
  bdef : b.defers = []
  aval : ∀ x, x < N → a.tmps.getD x undef = look (fun _ => true) hist x (init x)
  bval : ∀ x, x < N → VR ρ (look D hist x (init x)) (b.tmps.getD x undef)
  pend : ∀ pre h post, hist = pre ++ h :: post → D h.i = false → PF P ops N init H ρ log nm as n0 pre h
  dsts : ∀ h ∈ hist, ∃ o : Oper, ops[h.i]? = some o ∧ h.dst = o.dst
  sub : ∀ i, D i = true → i ∈ hist.map (·.i)
  closed : ∀ (j : Nat) (o : Oper), ops[j]? = some o → D j = true → ∀ e ∈ o.after, Region.binds .any e = true → D e.on = true
  nmInj : ∀ i j, i ∈ as → j ∈ as → nm i = nm j → i = j
  nmLt : ∀ i, i ∈ as → nm i < H.next ∧ i ∈ hist.map (·.i)
  n0le : n0 ≤ H.next

theorem getD_put (a : Act) (d : Option Tmp) (v : Value) (x : Nat) (hx : x < a.tmps.size) : (a.put d v).tmps.getD x undef = if d = some x then v else a.tmps.getD x undef := by
  cases d with
  | none => simp [Act.put]
  | some d =>
    by_cases h : d = x
    · subst h
      simp [Act.put, hx]
    · have h' : ¬ (some d = some x) := fun e => h (Option.some.inj e)
      rw [if_neg h']
      simp [Act.put, Array.getElem?_setIfInBounds_ne h]
theorem size_put (a : Act) (d : Option Tmp) (v : Value) : (a.put d v).tmps.size = a.tmps.size := by cases d <;> simp [Act.put]
theorem defers_put (a : Act) (d : Option Tmp) (v : Value) : (a.put d v).defers = a.defers := by cases d <;> rfl

theorem eval_on {ρ : Ren} {a b : Act} {x : Operand} (ht : ∀ t, x = .tmp t → VR ρ (a.tmps.getD t undef) (b.tmps.getD t undef)) (hx : okOperand x = true) : VR ρ (a.eval x) (b.eval x) := by
  cases x with
  | tmp t => exact ht t rfl
  | const v => exact VR.of_flat hx
  | global g => simp [okOperand] at hx
  | func f => exact .func _ rfl (by simp) rfl (by simp)

theorem mem_looksAt {ops : Array Oper} {o : Oper} {t : Tmp} (h : Operand.tmp t ∈ o.op.operands) : t ∈ o.looksAt ops :=
  List.mem_append_left _ (List.mem_filterMap.2 ⟨.tmp t, by simpa using h, rfl⟩)

theorem wanted_on {ρ : Ren} {ops : Array Oper} {o : Oper} {a b : Act} (hs : a.tmps.size = b.tmps.size) (h : ∀ t ∈ o.looksAt ops, VR ρ (a.tmps.getD t undef) (b.tmps.getD t undef)) :
    Region.wanted o (yielded ops a.tmps) = Region.wanted o (yielded ops b.tmps) := by
  unfold Region.wanted
  cases hg : o.guard with
  | none => rfl
  | some gw =>
    obtain ⟨g, want⟩ := gw
    dsimp only
    congr 1
    rw [yielded_eq, yielded_eq]
    cases hd : (ops[g]?).bind (·.dst) with
    | none => rfl
    | some t =>
      simp only [Option.bind_some]
      have hv := h t (by simp [Oper.looksAt, hg, hd])
      by_cases ht : t < a.tmps.size
      · rw [Array.getElem?_eq_getElem ht, Array.getElem?_eq_getElem (hs ▸ ht)]
        simp only [Array.getD, ht, hs ▸ ht, dif_pos, Array.getInternal_eq_getElem] at hv
        exact hv.boolOf
      · rw [Array.getElem?_eq_none (Nat.le_of_not_lt ht), Array.getElem?_eq_none (hs ▸ Nat.le_of_not_lt ht)]

theorem aR_push {P : Program} {ev : Operand → Value} {H : AHeap} {o : Oper} {v : Value} {ob : AObj} (hwf : ∀ i, H.next ≤ i → H.get i = none) (h : aR P ev H o = some v) : aR P ev (H.push ob) o = some v := by
  have cells : ∀ (a : Addr) (n : Nat) (l : List Value), H.cellsAt a n = some l → (H.push ob).cellsAt a n = some l := by
    intro a n l hl
    unfold AHeap.cellsAt at hl ⊢
    have : ∀ r, H.rowAt a = some r → (H.push ob).rowAt a = some r := by
      intro r hr
      obtain ⟨h1, h2⟩ := AHeap.rowAt_spec hr
      unfold AHeap.rowAt
      rw [AHeap.push_get, if_neg, h1]
      · simp [h2]
      · intro e
        rw [e, hwf _ (Nat.le_refl _)] at h1
        cases h1
    simp only [Option.bind_eq_some_iff] at hl ⊢
    obtain ⟨r, hr, hl⟩ := hl
    exact ⟨r, this r hr, hl⟩
  obtain ⟨dst, op, type, pos, after, guard⟩ := o
  unfold aR at h ⊢
  split at h
  · rename_i t x heq
    dsimp only at heq; subst heq
    unfold loadA at h ⊢
    split at h
    · simp only [Option.map_eq_some_iff] at h ⊢
      obtain ⟨l, hl, rfl⟩ := h
      simp_all
    · simp only [Option.bind_eq_some_iff] at h ⊢
      obtain ⟨l, hl, h⟩ := h
      simp_all
    · cases h
  · rename_i src dst x heq
    dsimp only at heq; subst heq
    unfold toStrA at h ⊢
    split at h
    · split at h
      · split at h
        · simp_all
        · simp only [Option.map_eq_some_iff, Option.bind_eq_some_iff] at h
          obtain ⟨ns, ⟨l, hl, hb⟩, rfl⟩ := h
          simp_all
      · cases h
    · split at h
      · simp_all
      · cases h
    · cases h
  · cases h

section
variable {P : Program} {ops : Array Oper} {sched B : List Nat} {N : Nat} {init : Nat → Value} {n0 : Nat} {ρ0 : Ren} {H0 : AHeap} {w0 : World} {hist : List HE} {a : Act} {H : AHeap}
  {log : List (Nat × (AHeap → Prop))} {nm : Nat → Nat} {as : List Nat} {D : Nat → Bool} {ρ : Ren} {b : Act} {w : World}

/-- The names of an operation that may be done now hold, in the world, what they held when it was done canonically. -/
theorem slot_on (hs : SchedP ops sched B) (hI : Inv P ops N init n0 ρ0 H0 w0 hist a H log nm as D ρ b w) {pre : List HE} {post rest : List HE} {tail : List Nat} {j : Nat} {o : Oper}
    (hhist : hist = pre ++ rest) (hrest : rest = [] ∨ ∃ h, rest = h :: post ∧ h.i = j) (hsched : hist.map (·.i) ++ tail = sched) (htail : rest = [] → ∃ t', tail = j :: t')
    (ho : ops[j]? = some o) (hD : D j = false) (hready : ∀ e ∈ o.after, Region.binds .any e = true → D e.on = true) {x : Nat} (hx : x ∈ namesOf ops o) :
    look D hist x (init x) = look (fun _ => true) pre x (init x) := by
  have hanc : ∀ q, anc B q j = true → D q = true := anc_listed hs hI.closed (.inr fun o' ho' => by rw [ho] at ho'; obtain rfl := Option.some.inj ho'; exact hready)
  have hback : ∀ q, D q = true → anc B j q = true → False := fun q hq h => by
    have := anc_listed hs hI.closed (.inl hq) j h
    rw [hD] at this; cases this
  -- the schedule around j
  have hsplit : ∃ post', sched = pre.map (·.i) ++ j :: post' ∧ ∀ h ∈ rest, h.i = j ∨ h.i ∈ post' := by
    rcases hrest with rfl | ⟨h, rfl, rfl⟩
    · obtain ⟨t', rfl⟩ := htail rfl
      exact ⟨t', by rw [← hsched, hhist]; simp, by simp⟩
    · refine ⟨post.map (·.i) ++ tail, by rw [← hsched, hhist]; simp, fun q hq => ?_⟩
      rcases List.mem_cons.1 hq with rfl | hq
      · exact .inl rfl
      · exact .inr (List.mem_append_left _ (List.mem_map.2 ⟨q, hq, rfl⟩))
  obtain ⟨post', hsp, hmem⟩ := hsplit
  have hnd := hs.nodup
  rw [hsp] at hnd
  have hne_pre : ∀ h ∈ pre, h.i ≠ j := fun h hh e => by
    have := (List.nodup_append.1 hnd).2.2 h.i (List.mem_map.2 ⟨h, hh, rfl⟩) j (by simp)
    exact this e
  rw [hhist, look_append]
  have hpre : look D pre x (init x) = look (fun _ => true) pre x (init x) := by
    refine look_congr fun h hh hd => ?_
    obtain ⟨oh, hoh, hdh⟩ := hI.dsts h (by rw [hhist]; simp [hh])
    rcases hs.temps h.i j oh o (hne_pre h hh) hoh ho x (by rw [← hdh]; exact hd) hx with h1 | h1
    · exact hanc _ h1
    · -- j would stand ahead of h
      exfalso
      obtain ⟨p1, p2, hp⟩ := List.append_of_mem (List.mem_map.2 ⟨h, hh, rfl⟩ : h.i ∈ pre.map (·.i))
      have before : ∀ (q r : Nat), anc B q r = true → ∀ (l1 l2 : List Nat), sched = l1 ++ r :: l2 → q ∈ l1 := by
        intro q r
        induction r using Nat.strongRecOn with
        | _ r ih =>
          intro hqr l1 l2 hl
          obtain ⟨o', e, ho', he, hb, hlt, hcase⟩ := hs.ancs q r hqr
          have h1 := hs.edges l1 r l2 hl o' ho' e he hb
          rcases hcase with rfl | hcase
          · exact h1
          · obtain ⟨m1, m2, hm⟩ := List.append_of_mem h1
            have := ih e.on hlt hcase m1 (m2 ++ r :: l2) (by rw [hl, hm]; simp)
            rw [hm]; simp [this]
      have hin := before j h.i h1 p1 (p2 ++ j :: post') (by rw [hsp, hp]; simp)
      have : j ∈ pre.map (·.i) := by rw [hp]; simp [hin]
      obtain ⟨q, hq, hqj⟩ := List.mem_map.1 this
      exact hne_pre q hq hqj
  rw [hpre]
  refine look_skip fun h hh hd => ?_
  cases hDh : D h.i with
  | false => rfl
  | true =>
    exfalso
    rcases hmem h hh with he | hm
    · rw [he, hD] at hDh; cases hDh
    · obtain ⟨oh, hoh, hdh⟩ := hI.dsts h (by rw [hhist]; simp [hh])
      have hne : h.i ≠ j := fun e => by rw [e, hD] at hDh; cases hDh
      rcases hs.temps h.i j oh o hne hoh ho x (by rw [← hdh]; exact hd) hx with h1 | h1
      · -- h is an ancestor of j, and stands behind it
        obtain ⟨p1, p2, hp⟩ := List.append_of_mem hm
        have before : ∀ (q r : Nat), anc B q r = true → ∀ (l1 l2 : List Nat), sched = l1 ++ r :: l2 → q ∈ l1 := by
          intro q r
          induction r using Nat.strongRecOn with
          | _ r ih =>
            intro hqr l1 l2 hl
            obtain ⟨o', e, ho', he, hb, hlt, hcase⟩ := hs.ancs q r hqr
            have h1 := hs.edges l1 r l2 hl o' ho' e he hb
            rcases hcase with rfl | hcase
            · exact h1
            · obtain ⟨m1, m2, hm⟩ := List.append_of_mem h1
              have := ih e.on hlt hcase m1 (m2 ++ r :: l2) (by rw [hl, hm]; simp)
              rw [hm]; simp [this]
        have hin := before h.i j h1 _ _ hsp
        have := (List.nodup_append.1 hnd).2.2 h.i hin h.i (by simp [hm])
        exact this rfl
      · exact hback _ hDh h1

end

end Go.Ae

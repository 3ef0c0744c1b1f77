/- A region whose order the model draws: one order stands for all. No condition. -/
import Derived.Test.YtmibkoadjehdaaaGreatDoorKy08
set_option linter.unusedVariables false
set_option linter.unusedSimpArgs false
namespace Go.Ae

structure HE where
  i : Nat
  dst : Option Tmp
  v : Value

/-- What slot x holds behind the operations of hist that D has done. -/
def look (D : Nat → Bool) : List HE → Tmp → Value → Value
  | [], _, d => d
  | h :: hs, x, d => look D hs x (if D h.i = true ∧ h.dst = some x then h.v else d)
theorem look_append (D : Nat → Bool) : ∀ (h1 h2 : List HE) (x : Tmp) (d : Value), look D (h1 ++ h2) x d = look D h2 x (look D h1 x d)
  | [], _, _, _ => rfl
  | _ :: h1, h2, x, _ => look_append D h1 h2 x _
theorem look_skip {D : Nat → Bool} {x : Tmp} : ∀ {hs : List HE} {d : Value}, (∀ h ∈ hs, h.dst = some x → D h.i = false) → look D hs x d = d
  | [], _, _ => rfl
  | h :: hs, _, hh => by
    have h0 : ¬ (D h.i = true ∧ h.dst = some x) := fun ⟨h1, h2⟩ => by rw [hh h (by simp) h2] at h1; cases h1
    rw [look, if_neg h0]
    exact look_skip fun q hq => hh q (by simp [hq])
theorem look_congr {D D' : Nat → Bool} {x : Tmp} : ∀ {hs : List HE} {d : Value}, (∀ h ∈ hs, h.dst = some x → D h.i = D' h.i) → look D hs x d = look D' hs x d
  | [], _, _ => rfl
  | h :: hs, d, hh => by
    rw [look, look]
    by_cases hd : h.dst = some x
    · rw [hh h (by simp) hd]; exact look_congr fun q hq => hh q (by simp [hq])
    · rw [if_neg (fun c => hd c.2), if_neg (fun c => hd c.2)]; exact look_congr fun q hq => hh q (by simp [hq])

def isRead (o : Oper) : Bool :=
  match o.op with
  | .load .. | .convert .. => true
  | _ => false

def wpS (P : Program) (ops : Array Oper) (B : List Nat) (K : Act → AHeap → Prop) : List Nat → Act → AHeap → List (Nat × (AHeap → Prop)) → Prop
  | [], a, H, _ => K a H
  | i :: rest, a, H, log =>
    match ops[i]? with
    | none => False
    | some o =>
      if Region.wanted o (yielded ops a.tmps) then
        if isE o then eStep P a H o fun v H' => (∀ p ∈ log, anc B p.1 i = true ∨ p.2 H') ∧ wpS P ops B K rest (a.put o.dst v) H' log
        else nStep P a H o fun v H' => wpS P ops B K rest (a.put o.dst v) H' (if isRead o then (i, fun H' => aR P a.eval H' o = aR P a.eval H o) :: log else log)
      else wpS P ops B K rest (a.put o.dst undef) H log

/-- What is owed by an operation that is done canonically and not yet in the world. -/
inductive Pend (P : Program) (aj : Act) (o : Oper) (i : Nat) (v : Value) (H : AHeap) (ρ : Ren) (log : List (Nat × (AHeap → Prop))) (nm : Nat → Nat) (asv : List Nat) (n0 : Nat) : Prop
  | pure (h : aP P aj.eval o = some v)
  | read (h : aR P aj.eval H o = some v) (hl : ∃ p ∈ log, p.1 = i ∧ ∀ H', p.2 H' → aR P aj.eval H' o = some v)
  | new (r : Row) (mk : Nat → Value) (h : aA P aj.eval o = some (r, mk)) (hv : v = mk (nm i)) (hg : H.get (nm i) = some (.row r)) (hn : n0 ≤ nm i) (hlt : nm i < H.next)
      (hp : ∀ u, ρ (nm i) u = none) (has : i ∈ asv)

def PF (P : Program) (ops : Array Oper) (N : Nat) (init : Nat → Value) (H : AHeap) (ρ : Ren) (log : List (Nat × (AHeap → Prop))) (nm : Nat → Nat) (asv : List Nat) (n0 : Nat) (pre : List HE) (h : HE) : Prop :=
  ∃ (o : Oper) (aj : Act), ops[h.i]? = some o ∧ h.dst = o.dst ∧ aj.tmps.size = N ∧ (∀ x, x < N → aj.tmps.getD x undef = look (fun _ => true) pre x (init x)) ∧
    ((Region.wanted o (yielded ops aj.tmps) = false ∧ h.v = undef) ∨ (Region.wanted o (yielded ops aj.tmps) = true ∧ Pend P aj o h.i h.v H ρ log nm asv n0))

structure Inv (P : Program) (ops : Array Oper) (N : Nat) (init : Nat → Value) (n0 : Nat) (ρ0 : Ren) (H0 : AHeap) (w0 : World) (hist : List HE) (a : Act) (H : AHeap) (log : List (Nat × (AHeap → Prop)))
    (nm : Nat → Nat) (asv : List Nat) (D : Nat → Bool) (ρ : Ren) (b : Act) (w : World) : Prop where
  rel : RelH P ρ H w
  ext : ExtN n0 ρ0 H0 w0 ρ H w
  aN : a.tmps.size = N
  bN : b.tmps.size = N
  defs : DfsR ρ a.defers b.defers
  glob : Globs ρ
  aval : ∀ x, x < N → a.tmps.getD x undef = look (fun _ => true) hist x (init x)
  bval : ∀ x, x < N → VR ρ (look D hist x (init x)) (b.tmps.getD x undef)
  pend : ∀ pre h post, hist = pre ++ h :: post → D h.i = false → PF P ops N init H ρ log nm asv n0 pre h
  dsts : ∀ h ∈ hist, ∃ o : Oper, ops[h.i]? = some o ∧ h.dst = o.dst
  sub : ∀ i, D i = true → i ∈ hist.map (·.i)
  closed : ∀ (j : Nat) (o : Oper), ops[j]? = some o → D j = true → ∀ e ∈ o.after, Region.binds .any e = true → D e.on = true
  nmInj : ∀ i j, i ∈ asv → j ∈ asv → nm i = nm j → i = j
  nmLt : ∀ i, i ∈ asv → nm i < H.next ∧ i ∈ hist.map (·.i)
  n0le : n0 ≤ H.next

theorem getD_put (a : Act) (d : Option Tmp) (v : Value) (x : Nat) (hx : x < a.tmps.size) : (a.put d v).tmps.getD x undef = if d = some x then v else a.tmps.getD x undef := by
  cases d with
  | none => simp [Act.put]
  | some d =>
    by_cases h : d = x
    · subst h
      simp [Act.put, hx]
    · have h' : ¬ (some d = some x) := fun e => h (Option.some.inj e)
      rw [if_neg h']
      simp [Act.put, Array.getElem?_setIfInBounds_ne h]
theorem size_put (a : Act) (d : Option Tmp) (v : Value) : (a.put d v).tmps.size = a.tmps.size := by cases d <;> simp [Act.put]
theorem defers_put (a : Act) (d : Option Tmp) (v : Value) : (a.put d v).defers = a.defers := by cases d <;> rfl

theorem eval_on {ρ : Ren} {a b : Act} {x : Operand} (hgl : Globs ρ) (ht : ∀ t, x = .tmp t → VR ρ (a.tmps.getD t undef) (b.tmps.getD t undef)) (hx : okOperand x = true) : VR ρ (a.eval x) (b.eval x) := by
  cases x with
  | tmp t => exact ht t rfl
  | const v => exact VR.of_flat hx
  | global g =>
    obtain ⟨s, h1, h2, h3, h4⟩ := hgl g (by simpa [okOperand, Nat.blt_eq] using hx)
    exact .ptr ⟨s, h1, by omega, by simp [Seg.at, h2, h3, h4]⟩
  | func f => exact .func _ rfl (by simp) rfl (by simp)

theorem mem_looksAt {ops : Array Oper} {o : Oper} {t : Tmp} (h : Operand.tmp t ∈ o.op.operands) : t ∈ o.looksAt ops :=
  List.mem_append_left _ (List.mem_filterMap.2 ⟨.tmp t, by simpa using h, rfl⟩)

theorem wanted_on {ρ : Ren} {ops : Array Oper} {o : Oper} {a b : Act} (hs : a.tmps.size = b.tmps.size) (h : ∀ t ∈ o.looksAt ops, VR ρ (a.tmps.getD t undef) (b.tmps.getD t undef)) :
    Region.wanted o (yielded ops a.tmps) = Region.wanted o (yielded ops b.tmps) := by
  unfold Region.wanted
  cases hg : o.guard with
  | none => rfl
  | some gw =>
    obtain ⟨g, want⟩ := gw
    dsimp only
    congr 1
    rw [yielded_eq, yielded_eq]
    cases hd : (ops[g]?).bind (·.dst) with
    | none => rfl
    | some t =>
      simp only [Option.bind_some]
      have hv := h t (by simp [Oper.looksAt, hg, hd])
      by_cases ht : t < a.tmps.size
      · rw [Array.getElem?_eq_getElem ht, Array.getElem?_eq_getElem (hs ▸ ht)]
        simp only [Array.getD, ht, hs ▸ ht, dif_pos, Array.getInternal_eq_getElem] at hv
        exact hv.boolOf
      · rw [Array.getElem?_eq_none (Nat.le_of_not_lt ht), Array.getElem?_eq_none (hs ▸ Nat.le_of_not_lt ht)]

theorem aR_push {P : Program} {ev : Operand → Value} {H : AHeap} {o : Oper} {v : Value} {ob : AObj} (hwf : ∀ i, H.next ≤ i → H.get i = none) (h : aR P ev H o = some v) : aR P ev (H.push ob) o = some v := by
  have rows : ∀ (a : Addr) (r : Row), H.rowAt a = some r → (H.push ob).rowAt a = some r := by
    intro a r hr
    obtain ⟨h1, h2⟩ := AHeap.rowAt_spec hr
    unfold AHeap.rowAt
    rw [AHeap.push_get, if_neg, h1]
    · simp [h2]
    · intro e
      rw [e, hwf _ (Nat.le_refl _)] at h1
      cases h1
  have cells : ∀ (a : Addr) (n : Nat) (l : List Value), H.cellsAt a n = some l → (H.push ob).cellsAt a n = some l := by
    intro a n l hl
    unfold AHeap.cellsAt at hl ⊢
    simp only [Option.bind_eq_some_iff] at hl ⊢
    obtain ⟨r, hr, hl⟩ := hl
    exact ⟨r, rows a r hr, hl⟩
  obtain ⟨dst, op, type, pos, after, guard⟩ := o
  unfold aR at h ⊢
  split at h
  · rename_i t x heq
    dsimp only at heq; subst heq
    unfold loadA at h ⊢
    split at h
    · simp only [Option.map_eq_some_iff] at h ⊢
      obtain ⟨l, hl, rfl⟩ := h
      simp_all
    · simp only [Option.bind_eq_some_iff] at h ⊢
      obtain ⟨l, hl, h⟩ := h
      simp_all
    · cases h
  · rename_i src dst x heq
    dsimp only at heq; subst heq
    have str : ∀ v, toStrA P H src dst (ev x) = some v → toStrA P (H.push ob) src dst (ev x) = some v := by
      intro v h
      unfold toStrA at h ⊢
      split at h
      · split at h
        · split at h
          · simp_all
          · simp only [Option.map_eq_some_iff, Option.bind_eq_some_iff] at h
            obtain ⟨ns, ⟨l, hl, hb⟩, rfl⟩ := h
            simp_all
        · cases h
      · split at h
        · simp_all
        · cases h
      · cases h
    split at h
    · rename_i v1 hv1
      obtain rfl := Option.some.inj h
      simp only [str _ hv1]
    · have upt : toStrA P (H.push ob) src dst (ev x) = none ∧ uptrA P (H.push ob) src dst (ev x) = some v := by
        unfold uptrA at h
        split at h
        · rename_i t a hs hd hx
          split at h
          case h_2 => cases h
          rename_i k r hsz hr
          split at h
          case isFalse => cases h
          rename_i hc
          obtain rfl := Option.some.inj h
          exact ⟨by simp [toStrA, hs, hd], by simp [uptrA, hs, hd, hx, hsz, rows _ _ hr, hc]⟩
        · rename_i u a hs hd hx
          split at h
          case h_2 => cases h
          rename_i k r hsz hr
          split at h
          case isFalse => cases h
          rename_i hc
          obtain rfl := Option.some.inj h
          exact ⟨by simp [toStrA, hs, hd], by simp only [uptrA, hs, hd, hx, hsz, rows _ _ hr]; rw [if_pos hc]⟩
        · cases h
      simp only [upt.1, upt.2]
  · cases h

section
variable {P : Program} {ops : Array Oper} {sched B : List Nat} {N : Nat} {init : Nat → Value} {n0 : Nat} {ρ0 : Ren} {H0 : AHeap} {w0 : World} {hist : List HE} {a : Act} {H : AHeap}
  {log : List (Nat × (AHeap → Prop))} {nm : Nat → Nat} {asv : List Nat} {D : Nat → Bool} {ρ : Ren} {b : Act} {w : World}

/-- The names of an operation that may be done now hold, in the world, what they held when it was done canonically. -/
theorem slot_on (hs : SchedP ops sched B) (hI : Inv P ops N init n0 ρ0 H0 w0 hist a H log nm asv D ρ b w) {pre : List HE} {post rest : List HE} {tail : List Nat} {j : Nat} {o : Oper}
    (hhist : hist = pre ++ rest) (hrest : rest = [] ∨ ∃ h, rest = h :: post ∧ h.i = j) (hsched : hist.map (·.i) ++ tail = sched) (htail : rest = [] → ∃ t', tail = j :: t')
    (ho : ops[j]? = some o) (hD : D j = false) (hready : ∀ e ∈ o.after, Region.binds .any e = true → D e.on = true) {x : Nat} (hx : x ∈ namesOf ops o) :
    look D hist x (init x) = look (fun _ => true) pre x (init x) := by
  have hanc : ∀ q, anc B q j = true → D q = true := anc_listed hs hI.closed (.inr fun o' ho' => by rw [ho] at ho'; obtain rfl := Option.some.inj ho'; exact hready)
  have hback : ∀ q, D q = true → anc B j q = true → False := fun q hq h => by
    have := anc_listed hs hI.closed (.inl hq) j h
    rw [hD] at this; cases this
  -- the schedule around j
  have hsplit : ∃ post', sched = pre.map (·.i) ++ j :: post' ∧ ∀ h ∈ rest, h.i = j ∨ h.i ∈ post' := by
    rcases hrest with rfl | ⟨h, rfl, rfl⟩
    · obtain ⟨t', rfl⟩ := htail rfl
      exact ⟨t', by rw [← hsched, hhist]; simp, by simp⟩
    · refine ⟨post.map (·.i) ++ tail, by rw [← hsched, hhist]; simp, fun q hq => ?_⟩
      rcases List.mem_cons.1 hq with rfl | hq
      · exact .inl rfl
      · exact .inr (List.mem_append_left _ (List.mem_map.2 ⟨q, hq, rfl⟩))
  obtain ⟨post', hsp, hmem⟩ := hsplit
  have hnd := hs.nodup
  rw [hsp] at hnd
  have hne_pre : ∀ h ∈ pre, h.i ≠ j := fun h hh e => by
    have := (List.nodup_append.1 hnd).2.2 h.i (List.mem_map.2 ⟨h, hh, rfl⟩) j (by simp)
    exact this e
  rw [hhist, look_append]
  have hpre : look D pre x (init x) = look (fun _ => true) pre x (init x) := by
    refine look_congr fun h hh hd => ?_
    obtain ⟨oh, hoh, hdh⟩ := hI.dsts h (by rw [hhist]; simp [hh])
    rcases hs.temps h.i j oh o (hne_pre h hh) hoh ho x (by rw [← hdh]; exact hd) hx with h1 | h1
    · exact hanc _ h1
    · -- j would stand ahead of h
      exfalso
      obtain ⟨p1, p2, hp⟩ := List.append_of_mem (List.mem_map.2 ⟨h, hh, rfl⟩ : h.i ∈ pre.map (·.i))
      have before : ∀ (q r : Nat), anc B q r = true → ∀ (l1 l2 : List Nat), sched = l1 ++ r :: l2 → q ∈ l1 := by
        intro q r
        induction r using Nat.strongRecOn with
        | _ r ih =>
          intro hqr l1 l2 hl
          obtain ⟨o', e, ho', he, hb, hlt, hcase⟩ := hs.ancs q r hqr
          have h1 := hs.edges l1 r l2 hl o' ho' e he hb
          rcases hcase with rfl | hcase
          · exact h1
          · obtain ⟨m1, m2, hm⟩ := List.append_of_mem h1
            have := ih e.on hlt hcase m1 (m2 ++ r :: l2) (by rw [hl, hm]; simp)
            rw [hm]; simp [this]
      have hin := before j h.i h1 p1 (p2 ++ j :: post') (by rw [hsp, hp]; simp)
      have : j ∈ pre.map (·.i) := by rw [hp]; simp [hin]
      obtain ⟨q, hq, hqj⟩ := List.mem_map.1 this
      exact hne_pre q hq hqj
  rw [hpre]
  refine look_skip fun h hh hd => ?_
  cases hDh : D h.i with
  | false => rfl
  | true =>
    exfalso
    rcases hmem h hh with he | hm
    · rw [he, hD] at hDh; cases hDh
    · obtain ⟨oh, hoh, hdh⟩ := hI.dsts h (by rw [hhist]; simp [hh])
      have hne : h.i ≠ j := fun e => by rw [e, hD] at hDh; cases hDh
      rcases hs.temps h.i j oh o hne hoh ho x (by rw [← hdh]; exact hd) hx with h1 | h1
      · -- h is an ancestor of j, and stands behind it
        obtain ⟨p1, p2, hp⟩ := List.append_of_mem hm
        have before : ∀ (q r : Nat), anc B q r = true → ∀ (l1 l2 : List Nat), sched = l1 ++ r :: l2 → q ∈ l1 := by
          intro q r
          induction r using Nat.strongRecOn with
          | _ r ih =>
            intro hqr l1 l2 hl
            obtain ⟨o', e, ho', he, hb, hlt, hcase⟩ := hs.ancs q r hqr
            have h1 := hs.edges l1 r l2 hl o' ho' e he hb
            rcases hcase with rfl | hcase
            · exact h1
            · obtain ⟨m1, m2, hm⟩ := List.append_of_mem h1
              have := ih e.on hlt hcase m1 (m2 ++ r :: l2) (by rw [hl, hm]; simp)
              rw [hm]; simp [this]
        have hin := before h.i j h1 _ _ hsp
        have := (List.nodup_append.1 hnd).2.2 h.i hin h.i (by simp [hm])
        exact this rfl
      · exact hback _ hDh h1

end

end Go.Ae

/- A region whose order the model draws: the steps. No condition. -/
namespace Go.Ae

section
variable {P : Program} {ops : Array Oper} {sched B : List Nat} {N : Nat} {init : Nat → Value} {n0 : Nat} {ρ0 : Ren} {H0 : AHeap} {w0 : World} {hist : List HE} {a : Act} {H : AHeap}
  {log : List (Nat × (AHeap → Prop))} {nm : Nat → Nat} {asv : List Nat} {D : Nat → Bool} {ρ : Ren} {b : Act} {w : World}

theorem split_snoc {α : Type} {hist : List α} {q : α} {pre post : List α} {h : α} (he : hist ++ [q] = pre ++ h :: post) : (post = [] ∧ h = q ∧ pre = hist) ∨ ∃ post', hist = pre ++ h :: post' := by
  rcases List.eq_nil_or_concat post with rfl | ⟨post', z, rfl⟩
  · have := List.append_inj' he rfl
    exact .inl ⟨rfl, (List.cons.inj this.2).1.symm, this.1.symm⟩
  · have he' : hist ++ [q] = (pre ++ h :: post') ++ [z] := by rw [he]; simp
    have := List.append_inj' he' rfl
    exact .inr ⟨post', this.1⟩

/-- One more operation is done canonically; the world stays. -/
theorem Inv.advance (hI : Inv P ops N init n0 ρ0 H0 w0 hist a H log nm asv D ρ b w) {i : Nat} {o : Oper} (ho : ops[i]? = some o) (hnot : i ∉ hist.map (·.i)) {v : Value} {H' : AHeap}
    {log' : List (Nat × (AHeap → Prop))} {nm' : Nat → Nat} {as' : List Nat} (hlog : ∀ p ∈ log, p ∈ log') (hnm : ∀ j ∈ asv, nm' j = nm j) (has : ∀ j ∈ asv, j ∈ as') (hrel : RelH P ρ H' w) (hext : ExtN n0 ρ0 H0 w0 ρ H' w)
    (hH' : H' = H ∨ ∃ r, H' = H.push r) (hinj : ∀ i j, i ∈ as' → j ∈ as' → nm' i = nm' j → i = j) (hlt : ∀ j, j ∈ as' → nm' j < H'.next ∧ (j ∈ hist.map (·.i) ∨ j = i))
    (hpf : (Region.wanted o (yielded ops a.tmps) = false ∧ v = undef) ∨ (Region.wanted o (yielded ops a.tmps) = true ∧ Pend P a o i v H' ρ log' nm' as' n0)) :
    Inv P ops N init n0 ρ0 H0 w0 (hist ++ [⟨i, o.dst, v⟩]) (a.put o.dst v) H' log' nm' as' D ρ b w := by
  have hDi : D i = false := by
    cases h : D i with
    | false => rfl
    | true => exact absurd (hI.sub i h) hnot
  refine ⟨hrel, hext, by rw [size_put]; exact hI.aN, hI.bN, by rw [defers_put]; exact hI.defs, hI.glob, fun x hx => ?_, fun x hx => ?_, fun pre h post he hD => ?_, fun h hh => ?_, fun j hj => ?_, hI.closed, hinj, fun j hj => ?_, ?_⟩
  · rw [getD_put _ _ _ _ (by rw [hI.aN]; exact hx), look_append, ← hI.aval x hx]
    simp only [look, true_and]
  · rw [look_append, look, look, if_neg (by rw [hDi]; simp)]
    exact hI.bval x hx
  · rcases split_snoc he with ⟨rfl, rfl, rfl⟩ | ⟨post', rfl⟩
    · exact ⟨o, a, ho, rfl, hI.aN, hI.aval, hpf⟩
    · obtain ⟨o', aj, h1, h2, h3, h4, h5⟩ := hI.pend pre h post' rfl hD
      refine ⟨o', aj, h1, h2, h3, h4, h5.imp id fun ⟨hw, hp⟩ => ⟨hw, ?_⟩⟩
      cases hp with
      | pure h => exact .pure h
      | read hr hl =>
        obtain ⟨p, hp, h6, h7⟩ := hl
        refine .read ?_ ⟨p, hlog p hp, h6, h7⟩
        rcases hH' with rfl | ⟨r, rfl⟩
        · exact hr
        · exact aR_push hI.rel.wf hr
      | new r mk h hv hg hn hlt' hp' has' =>
        have e := hnm _ has'
        refine .new r mk h (by rw [e]; exact hv) ?_ (by rw [e]; exact hn) ?_ (by rw [e]; exact hp') (has _ has')
        · rw [e]
          rcases hH' with rfl | ⟨r', rfl⟩
          · exact hg
          · rw [AHeap.push_get, if_neg (by omega)]; exact hg
        · rw [e]
          rcases hH' with rfl | ⟨r', rfl⟩
          · exact hlt'
          · rw [AHeap.push_next]; omega
  · rcases List.mem_append.1 hh with h1 | h1
    · exact hI.dsts h h1
    · obtain rfl := List.mem_singleton.1 h1
      exact ⟨o, ho, rfl⟩
  · rw [List.map_append]
    exact List.mem_append_left _ (hI.sub j hj)
  · refine ⟨(hlt j hj).1, ?_⟩
    rw [List.map_append]
    rcases (hlt j hj).2 with h | rfl
    · exact List.mem_append_left _ h
    · exact List.mem_append_right _ (by simp)
  · rcases hH' with rfl | ⟨r, rfl⟩
    · exact hI.n0le
    · rw [AHeap.push_next]; have := hI.n0le; omega

/-- Canonically on, to the next effect or the end. -/
theorem Inv.run {K : Act → AHeap → Prop} (hs : SchedP ops sched B) : ∀ (rest : List Nat) {hist : List HE} {a : Act} {H : AHeap} {log : List (Nat × (AHeap → Prop))} {nm : Nat → Nat} {asv : List Nat},
    Inv P ops N init n0 ρ0 H0 w0 hist a H log nm asv D ρ b w → hist.map (·.i) ++ rest = sched → wpS P ops B K rest a H log →
    ∃ hist a H log nm asv rest, Inv P ops N init n0 ρ0 H0 w0 hist a H log nm asv D ρ b w ∧ hist.map (·.i) ++ rest = sched ∧ wpS P ops B K rest a H log ∧
      (rest = [] ∨ ∃ i rest' o, rest = i :: rest' ∧ ops[i]? = some o ∧ Region.wanted o (yielded ops a.tmps) = true ∧ isE o = true)
  | [], hist, a, H, log, nm, asv, hI, hsc, hw => ⟨hist, a, H, log, nm, asv, [], hI, hsc, hw, .inl rfl⟩
  | i :: rest, hist, a, H, log, nm, asv, hI, hsc, hw => by
    have hnd := hs.nodup
    rw [← hsc] at hnd
    have hnot : i ∉ hist.map (·.i) := fun hm => (List.nodup_append.1 hnd).2.2 i hm i (by simp) rfl
    have hw0 := hw
    simp only [wpS] at hw
    split at hw
    · exact hw.elim
    rename_i o ho
    have hsc' : ∀ (v : Value), (hist ++ [(⟨i, o.dst, v⟩ : HE)]).map (·.i) ++ rest = sched := fun v => by rw [← hsc]; simp
    have hlt0 : ∀ j, j ∈ asv → nm j < H.next ∧ (j ∈ hist.map (·.i) ∨ j = i) := fun j hj => ⟨(hI.nmLt j hj).1, .inl (hI.nmLt j hj).2⟩
    split at hw
    · rename_i hwant
      split at hw
      · rename_i hE
        exact ⟨hist, a, H, log, nm, asv, i :: rest, hI, hsc, hw0, .inr ⟨i, rest, o, rfl, ho, hwant, hE⟩⟩
      · obtain ⟨v, H', hf, hk⟩ := nStep_fact hw
        have hlogsub : ∀ p ∈ log, p ∈ (if isRead o then (i, fun H' => aR P a.eval H' o = aR P a.eval H o) :: log else log) := fun p hp => by
          split
          · exact List.mem_cons_of_mem _ hp
          · exact hp
        cases hf with
        | pure h hr =>
          exact Inv.run hs rest (hI.advance ho hnot hlogsub (fun _ _ => rfl) (fun _ h => h) hI.rel hI.ext (.inl rfl) hI.nmInj hlt0 (.inr ⟨hwant, .pure h⟩)) (hsc' v) hk
        | read h =>
          have hread : isRead o = true := by
            unfold aR at h
            split at h
            · rename_i heq; simp [isRead, heq]
            · rename_i heq; simp [isRead, heq]
            · cases h
          refine Inv.run hs rest (hI.advance ho hnot hlogsub (fun _ _ => rfl) (fun _ h => h) hI.rel hI.ext (.inl rfl) hI.nmInj hlt0 (.inr ⟨hwant, .read h ?_⟩)) (hsc' v) hk
          rw [if_pos hread]
          exact ⟨_, List.mem_cons_self, rfl, fun H' hH' => by rw [hH']; exact h⟩
        | new r mk h hv hr =>
          have hfresh : i ∉ asv := fun hm => hnot (hI.nmLt i hm).2
          have hnmi : ∀ j ∈ asv, (if j = i then H.next else nm j) = nm j := fun j hj => by rw [if_neg]; rintro rfl; exact hfresh hj
          refine Inv.run hs rest (hI.advance (nm' := fun k => if k = i then H.next else nm k) (as' := i :: asv) ho hnot hlogsub hnmi (fun _ h => List.mem_cons_of_mem _ h)
            (hI.rel.push _) (hI.ext.trans (ExtN.push _ _ hI.n0le)) (.inr ⟨_, rfl⟩) ?_ ?_ (.inr ⟨hwant, .new r mk h ?_ ?_ ?_ ?_ ?_ (by simp)⟩)) (hsc' v) hk
          · intro x y hx hy hxy
            rcases List.mem_cons.1 hx with e1 | g1 <;> rcases List.mem_cons.1 hy with e2 | g2
            · rw [e1, e2]
            · have h1 := (hI.nmLt y g2).1
              rw [if_pos e1, hnmi y g2] at hxy
              omega
            · have h1 := (hI.nmLt x g1).1
              rw [if_pos e2, hnmi x g1] at hxy
              omega
            · rw [hnmi x g1, hnmi y g2] at hxy
              exact hI.nmInj x y g1 g2 hxy
          · intro j hj
            rcases List.mem_cons.1 hj with e1 | g1
            · rw [if_pos e1, AHeap.push_next]
              exact ⟨Nat.lt_succ_self _, .inr e1⟩
            · rw [hnmi j g1, AHeap.push_next]
              have := hlt0 j g1
              exact ⟨by omega, this.2⟩
          · rw [if_pos rfl]; exact hv
          · rw [if_pos rfl, AHeap.push_get, if_pos rfl]
          · rw [if_pos rfl]; exact hI.n0le
          · rw [if_pos rfl, AHeap.push_next]; exact Nat.lt_succ_self _
          · intro u; rw [if_pos rfl]; exact hI.rel.noPlace (Nat.le_refl _) u
    · rename_i hwant
      exact Inv.run hs rest (hI.advance ho hnot (fun _ h => h) (fun _ _ => rfl) (fun _ h => h) hI.rel hI.ext (.inl rfl) hI.nmInj hlt0 (.inl ⟨by simpa using hwant, rfl⟩)) (hsc' undef) hw

/-- How D grows. -/
def doneAnd (D : Nat → Bool) (i : Nat) : Nat → Bool := fun j => if j = i then true else D j

end

end Go.Ae

/- A region whose order the model draws: the world's own steps, and the whole. No condition. -/
namespace Go.Ae

section
variable {P : Program} {ops : Array Oper} {sched B : List Nat} {N : Nat} {init : Nat → Value} {n0 : Nat} {ρ0 : Ren} {H0 : AHeap} {w0 : World} {hist : List HE} {a : Act} {H : AHeap}
  {log : List (Nat × (AHeap → Prop))} {nm : Nat → Nat} {asv : List Nat} {D : Nat → Bool} {ρ : Ren} {b : Act} {w : World}

theorem before_of_anc (hs : SchedP ops sched B) (q r : Nat) (hqr : anc B q r = true) : ∀ (l1 l2 : List Nat), sched = l1 ++ r :: l2 → q ∈ l1 := by
  induction r using Nat.strongRecOn with
  | _ r ih =>
    intro l1 l2 hl
    obtain ⟨o', e, ho', he, hb, hlt, hcase⟩ := hs.ancs q r hqr
    have h1 := hs.edges l1 r l2 hl o' ho' e he hb
    rcases hcase with rfl | hcase
    · exact h1
    · obtain ⟨m1, m2, hm⟩ := List.append_of_mem h1
      have := ih e.on hlt hcase m1 (m2 ++ r :: l2) (by rw [hl, hm]; simp)
      rw [hm]; simp [this]

/-- Whoever stands behind and writes a name of an operation not yet done is not done. -/
theorem later_none (hs : SchedP ops sched B) (hI : Inv P ops N init n0 ρ0 H0 w0 hist a H log nm asv D ρ b w) {pre post : List HE} {h : HE} {tail : List Nat} {o : Oper}
    (hhist : hist = pre ++ h :: post) (hsched : hist.map (·.i) ++ tail = sched) (ho : ops[h.i]? = some o) (hD : D h.i = false) {x : Nat} (hx : x ∈ namesOf ops o) :
    ∀ q ∈ post, q.dst = some x → D q.i = false := by
  intro q hq hd
  cases hDq : D q.i with
  | false => rfl
  | true =>
    exfalso
    have hsp : sched = pre.map (·.i) ++ h.i :: (post.map (·.i) ++ tail) := by rw [← hsched, hhist]; simp
    have hnd := hs.nodup
    rw [hsp] at hnd
    obtain ⟨oq, hoq, hdq⟩ := hI.dsts q (by rw [hhist]; simp [hq])
    have hne : q.i ≠ h.i := fun e => by rw [e, hD] at hDq; cases hDq
    rcases hs.temps q.i h.i oq o hne hoq ho x (by rw [← hdq]; exact hd) hx with h1 | h1
    · have hin := before_of_anc hs q.i h.i h1 _ _ hsp
      exact (List.nodup_append.1 hnd).2.2 q.i hin q.i (by simp only [List.mem_cons, List.mem_append, List.mem_map]; exact .inr (.inl ⟨q, hq, rfl⟩)) rfl
    · have := anc_listed hs hI.closed (.inl hDq) h.i h1
      rw [hD] at this; cases this

theorem Inv.done (hs : SchedP ops sched B) (hI : Inv P ops N init n0 ρ0 H0 w0 hist a H log nm asv D ρ b w) {pre post : List HE} {h : HE} {tail : List Nat} {o : Oper}
    (hhist : hist = pre ++ h :: post) (hsched : hist.map (·.i) ++ tail = sched) (ho : ops[h.i]? = some o) (hD : D h.i = false) (hready : ∀ e ∈ o.after, Region.binds .any e = true → D e.on = true)
    {ρ' : Ren} {w' : World} {v' : Value} (hv : VR ρ' h.v v') (hr : RelH P ρ' H w') (hx : ExtN n0 ρ H w ρ' H w') (hph : ∀ j ∈ asv, j ≠ h.i → (∀ u, ρ (nm j) u = none) → ∀ u, ρ' (nm j) u = none) :
    Inv P ops N init n0 ρ0 H0 w0 hist a H log nm asv (doneAnd D h.i) ρ' (b.put o.dst v') w' := by
  have hnd := hs.nodup
  rw [← hsched, hhist] at hnd
  simp only [List.map_append, List.map_cons, List.append_assoc, List.cons_append] at hnd
  refine ⟨hr, hI.ext.trans hx, hI.aN, by rw [size_put]; exact hI.bN, by rw [defers_put]; exact hI.defs.mono hx.mono, hI.glob.mono hx.mono, hI.aval, fun x hxN => ?_, fun p q ps he hDq => ?_, hI.dsts, fun j hj => ?_, fun j oj hoj hj e he hb => ?_, hI.nmInj, hI.nmLt, hI.n0le⟩
  · rw [getD_put _ _ _ _ (by rw [hI.bN]; exact hxN)]
    obtain ⟨o', ho', hdo⟩ := hI.dsts h (by rw [hhist]; simp)
    rw [ho] at ho'
    obtain rfl := Option.some.inj ho'
    split
    · rename_i hd
      have hln := later_none hs hI hhist hsched ho hD (x := x) (by simp [namesOf, hd])
      rw [hhist, look_append, look, if_pos ⟨by simp [doneAnd], by rw [hdo]; exact hd⟩, look_skip]
      · exact hv
      · intro q hq hqd
        have hne : q.i ≠ h.i := fun e => by
          have h1 := (List.nodup_append.1 hnd).2.1
          rw [List.nodup_cons] at h1
          exact h1.1 (by rw [← e]; simp only [List.mem_append, List.mem_map]; exact .inl ⟨q, hq, rfl⟩)
        simp only [doneAnd, if_neg hne]
        exact hln q hq hqd
    · rename_i hd
      have : look (doneAnd D h.i) hist x (init x) = look D hist x (init x) := by
        refine look_congr fun q hq hqd => ?_
        have hne : q.i ≠ h.i := fun e => by
          obtain ⟨oq, hoq, hdq⟩ := hI.dsts q hq
          rw [e, ho] at hoq
          obtain rfl := Option.some.inj hoq
          exact hd (by rw [← hdq]; exact hqd)
        simp only [doneAnd, if_neg hne]
      rw [this]
      exact (hI.bval x hxN).mono hx.mono
  · have hne : q.i ≠ h.i := fun e => by simp [doneAnd, e] at hDq
    have hDq' : D q.i = false := by simpa [doneAnd, hne] using hDq
    obtain ⟨o', aj, h1, h2, h3, h4, h5⟩ := hI.pend p q ps he hDq'
    refine ⟨o', aj, h1, h2, h3, h4, h5.imp id fun ⟨hw, hp⟩ => ⟨hw, ?_⟩⟩
    cases hp with
    | pure h => exact .pure h
    | read hr hl => exact .read hr hl
    | new r mk h hv hg hn hlt' hp' has' => exact .new r mk h hv hg hn hlt' (hph _ has' hne hp') has'
  · by_cases hji : j = h.i
    · rw [hji, hhist]; simp
    · exact hI.sub j (by simpa [doneAnd, hji] using hj)
  · have hDe : D e.on = true := by
      by_cases hji : j = h.i
      · subst hji
        rw [ho] at hoj
        obtain rfl := Option.some.inj hoj
        exact hready e he hb
      · exact hI.closed j oj hoj (by simpa [doneAnd, hji] using hj) e he hb
    simp only [doneAnd]
    split
    · rfl
    · exact hDe

theorem Inv.exec (hs : SchedP ops sched B) (hI : Inv P ops N init n0 ρ0 H0 w0 hist a H log nm asv D ρ b w) {pre post : List HE} {h : HE} {tail : List Nat} {o : Oper}
    (hhist : hist = pre ++ h :: post) (hsched : hist.map (·.i) ++ tail = sched) (ho : ops[h.i]? = some o) (hD : D h.i = false) (hready : ∀ e ∈ o.after, Region.binds .any e = true → D e.on = true) :
    (Region.wanted o (yielded ops b.tmps) = false ∧ Inv P ops N init n0 ρ0 H0 w0 hist a H log nm asv (doneAnd D h.i) ρ (b.put o.dst undef) w) ∨
    (Region.wanted o (yielded ops b.tmps) = true ∧ ∃ v' ρ' w', (execOp b.eval o).run P w = .ok (.value v') w' ∧ Inv P ops N init n0 ρ0 H0 w0 hist a H log nm asv (doneAnd D h.i) ρ' (b.put o.dst v') w') := by
  obtain ⟨o', aj, ho', h2, h3, h4, h5⟩ := hI.pend pre h post hhist hD
  rw [ho] at ho'
  obtain rfl := Option.some.inj ho'
  have slots : ∀ x ∈ namesOf ops o, VR ρ (aj.tmps.getD x undef) (b.tmps.getD x undef) := by
    intro x hx
    by_cases hN : x < N
    · rw [h4 x hN, ← slot_on (post := post) hs hI hhist (.inr ⟨h, rfl, rfl⟩) hsched (fun e => by cases e) ho hD hready hx]
      exact hI.bval x hN
    · have e1 : aj.tmps.getD x undef = undef := by simp [h3, hN]
      have e2 : b.tmps.getD x undef = undef := by simp [hI.bN, hN]
      rw [e1, e2]
      exact .tuple rfl (by simp)
  have hwant := wanted_on (ρ := ρ) (ops := ops) (o := o) (a := aj) (b := b) (by rw [h3, hI.bN]) (fun t ht => slots t (List.mem_append_right _ ht))
  have hops : ∀ x ∈ o.op.operands, VR ρ (aj.eval x) (b.eval x) := fun x hx =>
    eval_on hI.glob (fun t ht => by subst ht; exact slots t (List.mem_append_right _ (mem_looksAt hx))) (Array.all_eq_true_iff_forall_mem.1 (hs.oper h.i o ho) x hx)
  rcases h5 with ⟨hw, hu⟩ | ⟨hw, hp⟩
  · refine .inl ⟨by rw [← hwant]; exact hw, ?_⟩
    exact hI.done hs hhist hsched ho hD hready (by rw [hu]; exact .tuple rfl (by simp)) hI.rel (ExtN.refl _ _ _ _) (fun _ _ _ h => h)
  · refine .inr ⟨by rw [← hwant]; exact hw, ?_⟩
    cases hp with
    | pure h =>
      obtain ⟨v', g1, g2⟩ := aP_sim h hops
      exact ⟨v', ρ, w, g2 w, hI.done hs hhist hsched ho hD hready g1 hI.rel (ExtN.refl _ _ _ _) (fun _ _ _ h => h)⟩
    | read h _ =>
      obtain ⟨v', g1, g2⟩ := aR_sim hI.rel h hops
      exact ⟨v', ρ, w, g2, hI.done hs hhist hsched ho hD hready g1 hI.rel (ExtN.refl _ _ _ _) (fun _ _ _ h => h)⟩
    | new r mk h hv hg hn hlt hp has =>
      obtain ⟨v', ρ', w', g1, g2, g3, g4, g5⟩ := aA_sim hI.rel h hops hg hp hlt
      refine ⟨v', ρ', w', g1, hI.done hs hhist hsched ho hD hready (by rw [hv]; exact g2) g3 (g4 n0 hn) fun j hj hne hpj u => ?_⟩
      rw [g5 _ _ fun e => hne (hI.nmInj _ _ hj has e)]
      exact hpj u

theorem Inv.effect {K : Value → AHeap → Prop} {Q : Exit → Act → World → Prop} (hs : SchedP ops sched B) (hI : Inv P ops N init n0 ρ0 H0 w0 hist a H log nm asv D ρ b w) {i : Nat} {tail : List Nat} {o : Oper}
    (hsched : hist.map (·.i) ++ i :: tail = sched) (ho : ops[i]? = some o) (hD : D i = false) (hready : ∀ e ∈ o.after, Region.binds .any e = true → D e.on = true)
    (hwantA : Region.wanted o (yielded ops a.tmps) = true) (he : eStep P a H o fun v H' => (∀ p ∈ log, anc B p.1 i = true ∨ p.2 H') ∧ K v H')
    {M : Act → World → Prop} (hM : ∀ v v' H' ρ' w', K v H' → Inv P ops N init n0 ρ0 H0 w0 (hist ++ [⟨i, o.dst, v⟩]) (a.put o.dst v) H' log nm asv (doneAnd D i) ρ' (b.put o.dst v') w' → M (b.put o.dst v') w') :
    Region.wanted o (yielded ops b.tmps) = true ∧ o.wp P b w M Q := by
  have hnd := hs.nodup
  rw [← hsched] at hnd
  have hnot : i ∉ hist.map (·.i) := fun hm => (List.nodup_append.1 hnd).2.2 i hm i (by simp) rfl
  have slots : ∀ x ∈ namesOf ops o, VR ρ (a.tmps.getD x undef) (b.tmps.getD x undef) := by
    intro x hx
    by_cases hN : x < N
    · rw [hI.aval x hN, ← slot_on (pre := hist) (rest := []) (post := []) hs hI (by simp) (.inl rfl) hsched (fun _ => ⟨tail, rfl⟩) ho hD hready hx]
      exact hI.bval x hN
    · have e1 : a.tmps.getD x undef = undef := by simp [hI.aN, hN]
      have e2 : b.tmps.getD x undef = undef := by simp [hI.bN, hN]
      rw [e1, e2]
      exact .tuple rfl (by simp)
  have hwant := wanted_on (ρ := ρ) (ops := ops) (o := o) (a := a) (b := b) (by rw [hI.aN, hI.bN]) (fun t ht => slots t (List.mem_append_right _ ht))
  have hops : ∀ x ∈ o.op.operands, VR ρ (a.eval x) (b.eval x) := fun x hx =>
    eval_on hI.glob (fun t ht => by subst ht; exact slots t (List.mem_append_right _ (mem_looksAt hx))) (Array.all_eq_true_iff_forall_mem.1 (hs.oper i o ho) x hx)
  refine ⟨by rw [← hwant]; exact hwantA, eStep_sim he hI.rel hops fun v v' H' ρ' w' hk hv hr hx => ?_⟩
  obtain ⟨hlog, hk⟩ := hk
  refine hM v v' H' ρ' w' hk ?_
  have hanc : ∀ q, anc B q i = true → D q = true := anc_listed hs hI.closed (.inr fun o' ho' => by rw [ho] at ho'; obtain rfl := Option.some.inj ho'; exact hready)
  have hlook : ∀ x, look (doneAnd D i) hist x (init x) = look D hist x (init x) := fun x => look_congr fun q hq _ => by
    have : q.i ≠ i := fun e => hnot (List.mem_map.2 ⟨q, hq, e⟩)
    simp only [doneAnd, if_neg this]
  refine ⟨hr, hI.ext.trans (hx.less hI.n0le), by rw [size_put]; exact hI.aN, by rw [size_put]; exact hI.bN, by rw [defers_put, defers_put]; exact hI.defs.mono hx.mono, hI.glob.mono hx.mono,
    fun x hxN => ?_, fun x hxN => ?_, fun pre h post heq hDq => ?_, fun h hh => ?_, fun j hj => ?_, fun j oj hoj hj e he hb => ?_, hI.nmInj, fun j hj => ?_, Nat.le_trans hI.n0le hx.next⟩
  · rw [getD_put _ _ _ _ (by rw [hI.aN]; exact hxN), look_append, ← hI.aval x hxN]
    simp only [look, true_and]
  · rw [getD_put _ _ _ _ (by rw [hI.bN]; exact hxN), look_append, hlook]
    simp only [look, doneAnd, if_true, true_and]
    split
    · exact hv
    · exact (hI.bval x hxN).mono hx.mono
  · rcases split_snoc heq with ⟨rfl, rfl, rfl⟩ | ⟨post', rfl⟩
    · simp [doneAnd] at hDq
    · have hne : h.i ≠ i := fun e => hnot (by rw [← e]; simp)
      have hDq' : D h.i = false := by simpa [doneAnd, hne] using hDq
      obtain ⟨o', aj, h1, h2, h3, h4, h5⟩ := hI.pend pre h post' rfl hDq'
      refine ⟨o', aj, h1, h2, h3, h4, h5.imp id fun ⟨hw, hp⟩ => ⟨hw, ?_⟩⟩
      cases hp with
      | pure h => exact .pure h
      | read hr0 hl =>
        obtain ⟨p, hp, h6, h7⟩ := hl
        rcases hlog p hp with hA | hA
        · rw [h6] at hA
          rw [hanc _ hA] at hDq'; cases hDq'
        · exact .read (h7 H' hA) ⟨p, hp, h6, h7⟩
      | new r mk h hv hg hn hlt' hp' has' =>
        obtain ⟨g1, g2⟩ := hx.phantom _ hlt' hp'
        exact .new r mk h hv (g1.trans hg) hn (Nat.lt_of_lt_of_le hlt' hx.next) g2 has'
  · rcases List.mem_append.1 hh with h1 | h1
    · exact hI.dsts h h1
    · obtain rfl := List.mem_singleton.1 h1
      exact ⟨o, ho, rfl⟩
  · rw [List.map_append]
    by_cases hji : j = i
    · subst hji; exact List.mem_append_right _ (by simp)
    · exact List.mem_append_left _ (hI.sub j (by simpa [doneAnd, hji] using hj))
  · have hDe : D e.on = true := by
      by_cases hji : j = i
      · subst hji
        rw [ho] at hoj
        obtain rfl := Option.some.inj hoj
        exact hready e he hb
      · exact hI.closed j oj hoj (by simpa [doneAnd, hji] using hj) e he hb
    simp only [doneAnd]
    split
    · rfl
    · exact hDe
  · have := hI.nmLt j hj
    refine ⟨Nat.lt_of_lt_of_le this.1 hx.next, ?_⟩
    rw [List.map_append]
    exact List.mem_append_left _ this.2

end

end Go.Ae

/- A region whose order the model draws: the law. No condition. -/
namespace Go.Ae

theorem first_false {D : Nat → Bool} : ∀ {l : List Nat}, (∃ i ∈ l, D i = false) → ∃ pre i post, l = pre ++ i :: post ∧ D i = false ∧ ∀ q ∈ pre, D q = true
  | [], h => by obtain ⟨i, hi, _⟩ := h; simp at hi
  | x :: l, h => by
    cases hx : D x with
    | false => exact ⟨[], x, l, rfl, hx, by simp⟩
    | true =>
      have : ∃ i ∈ l, D i = false := by
        obtain ⟨i, hi, hD⟩ := h
        rcases List.mem_cons.1 hi with rfl | hi
        · rw [hx] at hD; cases hD
        · exact ⟨i, hi, hD⟩
      obtain ⟨pre, i, post, h1, h2, h3⟩ := first_false this
      refine ⟨x :: pre, i, post, by rw [h1]; rfl, h2, fun q hq => ?_⟩
      rcases List.mem_cons.1 hq with rfl | hq
      · exact hx
      · exact h3 q hq

theorem getD_done (listed : Array Bool) (i : Nat) (hi : i < listed.size) : (fun j => (listed.setIfInBounds i true).getD j false) = doneAnd (fun j => listed.getD j false) i := by
  funext j
  simp only [doneAnd]
  by_cases h : j = i
  · subst h
    simp [hi]
  · rw [if_neg h]
    simp [Array.getElem?_setIfInBounds_ne (Ne.symm h)]

def open_ (D : Nat → Bool) (n : Nat) : Nat := (List.range n).countP fun i => !D i
theorem open_zero {D : Nat → Bool} {n : Nat} (h : open_ D n = 0) : ∀ i, i < n → D i = true := by
  intro i hi
  have := List.countP_eq_zero.1 h i (List.mem_range.2 hi)
  simpa using this
theorem open_done {D : Nat → Bool} {n i : Nat} (hi : i < n) (hD : D i = false) : open_ (doneAnd D i) n < open_ D n := by
  unfold open_
  have key : ∀ (l : List Nat), l.Nodup → i ∈ l → l.countP (fun j => !doneAnd D i j) < l.countP (fun j => !D j) := by
    intro l
    induction l with
    | nil => intro _ h; simp at h
    | cons x l ih =>
      intro hnd hm
      rw [List.nodup_cons] at hnd
      simp only [List.countP_cons]
      have le : ∀ (m : List Nat), m.countP (fun j => !doneAnd D i j) ≤ m.countP (fun j => !D j) := fun m => List.countP_mono_left fun j _ hj => by
        simp only [doneAnd, Bool.not_eq_true'] at hj ⊢
        split at hj
        · cases hj
        · exact hj
      rcases List.mem_cons.1 hm with rfl | hm
      · have h1 : (!doneAnd D i i) = false := by simp [doneAnd]
        rw [h1, hD]
        have := le l
        simp
        omega
      · have hne : x ≠ i := fun e => hnd.1 (e ▸ hm)
        have h1 : (!doneAnd D i x) = !D x := by simp [doneAnd, hne]
        rw [h1]
        have := ih hnd.2 hm
        omega
  exact key _ List.nodup_range (List.mem_range.2 hi)

theorem draw_main {P : Program} {ops : Array Oper} {sched B : List Nat} {N : Nat} {init : Nat → Value} {n0 : Nat} {ρ0 : Ren} {H0 : AHeap} {w0 : World} {K : Act → AHeap → Prop} {Q : Exit → Act → World → Prop}
    (hs : SchedP ops sched B) (hQ : ∀ a b H ρ w, K a H → TR ρ a b → RelH P ρ H w → ExtN n0 ρ0 H0 w0 ρ H w → Q .normal b w) :
    ∀ (fuel : Nat) (listed : Array Bool) (rest : List Nat) (hist : List HE) (a : Act) (H : AHeap) (log : List (Nat × (AHeap → Prop))) (nm : Nat → Nat) (asv : List Nat) (ρ : Ren) (b : Act) (w : World),
      Inv P ops N init n0 ρ0 H0 w0 hist a H log nm asv (fun i => listed.getD i false) ρ b w → hist.map (·.i) ++ rest = sched → wpS P ops B K rest a H log → listed.size = ops.size →
      open_ (fun i => listed.getD i false) ops.size ≤ fuel → wpAny P .any ops Q fuel listed b w := by
  have final : ∀ (listed : Array Bool) (rest : List Nat) (hist : List HE) (a : Act) (H : AHeap) (log : List (Nat × (AHeap → Prop))) (nm : Nat → Nat) (asv : List Nat) (ρ : Ren) (b : Act) (w : World),
      Inv P ops N init n0 ρ0 H0 w0 hist a H log nm asv (fun i => listed.getD i false) ρ b w → hist.map (·.i) ++ rest = sched → wpS P ops B K rest a H log → (∀ i, i < ops.size → listed.getD i false = true) → Q .normal b w := by
    intro listed rest hist a H log nm asv ρ b w hI hsc hw hall
    have hr : rest = [] := by
      cases rest with
      | nil => rfl
      | cons i rest =>
        exfalso
        obtain ⟨o, ho⟩ := hs.valid i (by rw [← hsc]; simp)
        have hlt := (Array.getElem?_eq_some_iff.1 ho).1
        have := hI.sub i (hall i hlt)
        have hnd := hs.nodup
        rw [← hsc] at hnd
        exact (List.nodup_append.1 hnd).2.2 i this i (by simp) rfl
    subst hr
    refine hQ a b H ρ w hw ⟨VRs.of_get (by simp [hI.aN, hI.bN]) fun i x y hx hy => ?_, hI.defs, hI.glob⟩ hI.rel hI.ext
    have hi : i < N := by
      have := (List.getElem?_eq_some_iff.1 hx).1
      simp only [Array.length_toList] at this
      rw [← hI.aN]; exact this
    have h1 := hI.bval i hi
    have h2 : look (fun i => listed.getD i false) hist i (init i) = look (fun _ => true) hist i (init i) := look_congr fun h hh _ => by
      obtain ⟨o, ho, _⟩ := hI.dsts h hh
      exact hall _ (Array.getElem?_eq_some_iff.1 ho).1
    rw [h2, ← hI.aval i hi] at h1
    have e1 : a.tmps.getD i undef = x := by
      rw [Array.getElem?_toList] at hx
      rw [Array.getD_eq_getD_getElem?, hx]; rfl
    have e2 : b.tmps.getD i undef = y := by
      rw [Array.getElem?_toList] at hy
      rw [Array.getD_eq_getD_getElem?, hy]; rfl
    rw [e1, e2] at h1
    exact h1
  have ready : ∀ (listed : Array Bool), listed.size = ops.size → ∀ i ∈ Region.ready .any ops listed, i < ops.size ∧ listed.getD i false = false ∧ ∃ o, ops[i]? = some o ∧ ∀ e ∈ o.after, Region.binds .any e = true → listed.getD e.on false = true := by
    intro listed hl i hi
    obtain ⟨h1, o, ho, h2⟩ := mem_ready.1 hi
    have hlt := (Array.getElem?_eq_some_iff.1 ho).1
    refine ⟨hlt, ?_, o, ho, h2⟩
    simp only [Array.getD_eq_getD_getElem?] at h1 ⊢
    rw [Array.getElem?_eq_getElem (by omega)] at h1 ⊢
    exact h1
  have nonempty : ∀ (listed : Array Bool), listed.size = ops.size → Region.ready .any ops listed = [] → ∀ i, i < ops.size → listed.getD i false = true := by
    intro listed hl hempty i hi
    cases hD : listed.getD i false with
    | true => rfl
    | false =>
      exfalso
      obtain ⟨pre, j, post, h1, h2, h3⟩ := first_false (D := fun i => listed.getD i false) ⟨i, hs.mem i hi, hD⟩
      obtain ⟨o, ho⟩ := hs.valid j (by rw [h1]; simp)
      have hlt := (Array.getElem?_eq_some_iff.1 ho).1
      have : j ∈ Region.ready .any ops listed := mem_ready.2 ⟨by
        have h2 : listed.getD j false = false := h2
        simp only [Array.getD_eq_getD_getElem?] at h2 ⊢
        rw [Array.getElem?_eq_getElem (by omega)] at h2 ⊢
        exact h2, o, ho, fun e he hb => h3 _ (hs.edges pre j post h1 o ho e he hb)⟩
      rw [hempty] at this
      cases this
  intro fuel
  induction fuel with
  | zero =>
    intro listed rest hist a H log nm asv ρ b w hI hsc hw hl hopen
    have hall := open_zero (Nat.le_zero.1 hopen)
    refine ⟨?_, final listed rest hist a H log nm asv ρ b w hI hsc hw hall⟩
    apply List.eq_nil_iff_forall_not_mem.2
    intro i hi
    obtain ⟨h1, h2, _⟩ := ready listed hl i hi
    rw [hall i h1] at h2
    cases h2
  | succ fuel ih =>
    intro listed rest hist a H log nm asv ρ b w hI hsc hw hl hopen
    refine ⟨fun hempty => final listed rest hist a H log nm asv ρ b w hI hsc hw (nonempty listed hl hempty), fun i hi => ?_⟩
    obtain ⟨hlt, hD, o, ho, hedges⟩ := ready listed hl i hi
    obtain ⟨hist, a, H, log, nm, asv, rest, hI, hsc, hw, hrest⟩ := hI.run hs rest hsc hw
    have hopen' : open_ (doneAnd (fun i => listed.getD i false) i) ops.size ≤ fuel := by
      have := open_done (D := fun i => listed.getD i false) hlt hD
      omega
    have hsz : (listed.setIfInBounds i true).size = ops.size := by simpa using hl
    have hgd := getD_done listed i (by omega)
    unfold wpOp
    rw [ho]
    dsimp only
    have hmem : i ∈ hist.map (·.i) ++ rest := by rw [hsc]; exact hs.mem i hlt
    rcases List.mem_append.1 hmem with hmem | hmem
    · -- owed since before
      obtain ⟨h, hh, hhi⟩ := List.mem_map.1 hmem
      obtain ⟨pre, post, hpp⟩ := List.append_of_mem hh
      subst hhi
      rcases hI.exec hs hpp hsc ho hD hedges with ⟨hwant, hI'⟩ | ⟨hwant, v', ρ', w', hrun, hI'⟩
      · rw [if_neg (by rw [hwant]; simp)]
        exact ih _ rest hist a H log nm asv ρ _ w (by rw [hgd]; exact hI') hsc hw hsz (by rw [hgd]; exact hopen')
      · rw [if_pos hwant]
        refine .inl ?_
        unfold Oper.wp
        rw [hrun, Oper.upon_value]
        exact ih _ rest hist a H log nm asv ρ' _ w' (by rw [hgd]; exact hI') hsc hw hsz (by rw [hgd]; exact hopen')
    · rcases hrest with rfl | ⟨j, rest', oj, rfl, hoj, hwj, hEj⟩
      · simp at hmem
      · by_cases hij : i = j
        · subst hij
          rw [ho] at hoj
          obtain rfl := Option.some.inj hoj
          simp only [wpS, ho] at hw
          rw [if_pos hwj, if_pos hEj] at hw
          obtain ⟨g1, g2⟩ := hI.effect (Q := Q) hs hsc ho hD hedges hwj hw (M := fun b' w' => wpAny P .any ops Q fuel (listed.setIfInBounds i true) b' w') fun v v' H' ρ' w' hk hI' =>
            ih _ rest' _ _ H' log nm asv ρ' _ w' (by rw [hgd]; exact hI') (by rw [← hsc]; simp) hk hsz (by rw [hgd]; exact hopen')
          rw [if_pos g1]
          exact .inl g2
        · -- behind an effect that is not done
          exfalso
          have hin : i ∈ rest' := by
            rcases List.mem_cons.1 hmem with h | h
            · exact absurd h hij
            · exact h
          have hanc := hs.eff (hist.map (·.i)) j rest' hsc.symm oj hoj hEj i hin
          have hDj := anc_listed hs hI.closed (.inr fun o' ho' => by rw [ho] at ho'; obtain rfl := Option.some.inj ho'; exact hedges) j hanc
          have := hI.sub j hDj
          have hnd := hs.nodup
          rw [← hsc] at hnd
          exact (List.nodup_append.1 hnd).2.2 j this j (by simp) rfl

theorem draw_any {P : Program} {ops : Array Oper} {sched B : List Nat} {K : Act → AHeap → Prop} {Q : Exit → Act → World → Prop} (hs : SchedP ops sched B)
    {ρ : Ren} {a b : Act} {H : AHeap} {w : World} (h : wpS P ops B K sched a H []) (hT : TR ρ a b) (hH : RelH P ρ H w) (hQ : ∀ b' w', After P ρ H w K b' w' → Q .normal b' w') :
    wpAny P .any ops Q ops.size (Array.replicate ops.size false) b { w with drawn := w.drawn + 1 } := by
  refine draw_main (N := a.tmps.size) (init := fun x => a.tmps.getD x undef) (n0 := H.next) (ρ0 := ρ) (H0 := H) (w0 := w) hs ?_ ops.size _ sched [] a H [] (fun _ => 0) [] ρ b _ ?_ rfl h (by simp) ?_
  · intro a' b' H' ρ' w' hk h1 h2 h3
    exact hQ b' w' ⟨a', H', ρ', hk, h1, h2, h3⟩
  · have hf : ∀ i, (Array.replicate ops.size false).getD i false = false := fun i => by rcases Nat.lt_or_ge i ops.size with h | h <;> simp [h]
    refine ⟨hH.drew _, ExtN.drewRight _, rfl, hT.size.symm, hT.defs, hT.glob, fun _ _ => rfl, fun x hx => ?_, fun pre h post he => by simp at he, fun h hh => by simp at hh, fun i hi => ?_, fun j o _ hj => ?_, fun i j hi => by simp at hi, fun i hi => by simp at hi, Nat.le_refl _⟩
    · exact hT.eval (x := .tmp x) rfl
    · rw [hf] at hi; cases hi
    · rw [hf] at hj; cases hj
  · unfold open_
    exact Nat.le_trans List.countP_le_length (by simp)

theorem draw_sim {P : Program} {id : Nat} {ops : Array Oper} {sched B : List Nat} {K : Act → AHeap → Prop} {Q : Exit → Act → World → Prop} (hm : P.follows .mixedOrders = true) (hs : SchedP ops sched B)
    {ρ : Ren} {a b : Act} {H : AHeap} {w : World} (h : wpS P ops B K sched a H []) (hT : TR ρ a b) (hH : RelH P ρ H w) (hQ : ∀ b' w', After P ρ H w K b' w' → Q .normal b' w') :
    (Code.region id ops true).wp P Q b w := wp_region_any hm (draw_any hs h hT hH hQ)

end Go.Ae

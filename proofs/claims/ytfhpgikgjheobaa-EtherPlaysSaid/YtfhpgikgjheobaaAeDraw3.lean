/- A region whose order the model draws: the world's own steps, and the whole. No condition. -/
import Derived.Test.YtfhpgikgjheobaaAeDraw2
namespace Go.Ae

section
variable {P : Program} {ops : Array Oper} {sched B : List Nat} {N : Nat} {init : Nat → Value} {n0 : Nat} {ρ0 : Ren} {H0 : AHeap} {w0 : World} {hist : List HE} {a : Act} {H : AHeap}
  {log : List (Nat × (AHeap → Prop))} {nm : Nat → Nat} {as : List Nat} {D : Nat → Bool} {ρ : Ren} {b : Act} {w : World}

theorem before_of_anc (hs : SchedP ops sched B) (q r : Nat) (hqr : anc B q r = true) : ∀ (l1 l2 : List Nat), sched = l1 ++ r :: l2 → q ∈ l1 := by
  induction r using Nat.strongRecOn with
  | _ r ih =>
    intro l1 l2 hl
    obtain ⟨o', e, ho', he, hb, hlt, hcase⟩ := hs.ancs q r hqr
    have h1 := hs.edges l1 r l2 hl o' ho' e he hb
    rcases hcase with rfl | hcase
    · exact h1
    · obtain ⟨m1, m2, hm⟩ := List.append_of_mem h1
      have := ih e.on hlt hcase m1 (m2 ++ r :: l2) (by rw [hl, hm]; simp)
      rw [hm]; simp [this]

/-- Whoever stands behind and writes a name of an operation not yet done is not done. -/
theorem later_none (hs : SchedP ops sched B) (hI : Inv P ops N init n0 ρ0 H0 w0 hist a H log nm as D ρ b w) {pre post : List HE} {h : HE} {tail : List Nat} {o : Oper}
    (hhist : hist = pre ++ h :: post) (hsched : hist.map (·.i) ++ tail = sched) (ho : ops[h.i]? = some o) (hD : D h.i = false) {x : Nat} (hx : x ∈ namesOf ops o) :
    ∀ q ∈ post, q.dst = some x → D q.i = false := by
  intro q hq hd
  cases hDq : D q.i with
  | false => rfl
  | true =>
    exfalso
    have hsp : sched = pre.map (·.i) ++ h.i :: (post.map (·.i) ++ tail) := by rw [← hsched, hhist]; simp
    have hnd := hs.nodup
    rw [hsp] at hnd
    obtain ⟨oq, hoq, hdq⟩ := hI.dsts q (by rw [hhist]; simp [hq])
    have hne : q.i ≠ h.i := fun e => by rw [e, hD] at hDq; cases hDq
    rcases hs.temps q.i h.i oq o hne hoq ho x (by rw [← hdq]; exact hd) hx with h1 | h1
    · have hin := before_of_anc hs q.i h.i h1 _ _ hsp
      exact (List.nodup_append.1 hnd).2.2 q.i hin q.i (by simp only [List.mem_cons, List.mem_append, List.mem_map]; exact .inr (.inl ⟨q, hq, rfl⟩)) rfl
    · have := anc_listed hs hI.closed (.inl hDq) h.i h1
      rw [hD] at this; cases this

theorem Inv.done (hs : SchedP ops sched B) (hI : Inv P ops N init n0 ρ0 H0 w0 hist a H log nm as D ρ b w) {pre post : List HE} {h : HE} {tail : List Nat} {o : Oper}
    (hhist : hist = pre ++ h :: post) (hsched : hist.map (·.i) ++ tail = sched) (ho : ops[h.i]? = some o) (hD : D h.i = false) (hready : ∀ e ∈ o.after, Region.binds .any e = true → D e.on = true)
    {ρ' : Ren} {w' : World} {v' : Value} (hv : VR ρ' h.v v') (hr : RelH P ρ' H w') (hx : ExtN n0 ρ H w ρ' H w') (hph : ∀ j ∈ as, j ≠ h.i → (∀ u, ρ (nm j) u = none) → ∀ u, ρ' (nm j) u = none) :
    Inv P ops N init n0 ρ0 H0 w0 hist a H log nm as (doneAnd D h.i) ρ' (b.put o.dst v') w' := by
  have hnd := hs.nodup
  rw [← hsched, hhist] at hnd
  simp only [List.map_append, List.map_cons, List.append_assoc, List.cons_append] at hnd
  refine ⟨hr, hI.ext.trans hx, hI.aN, by rw [size_put]; exact hI.bN, hI.adef, by rw [defers_put]; exact hI.bdef, hI.aval, fun x hxN => ?_, fun p q ps he hDq => ?_, hI.dsts, fun j hj => ?_, fun j oj hoj hj e he hb => ?_, hI.nmInj, hI.nmLt, hI.n0le⟩
  · rw [getD_put _ _ _ _ (by rw [hI.bN]; exact hxN)]
    obtain ⟨o', ho', hdo⟩ := hI.dsts h (by rw [hhist]; simp)
    rw [ho] at ho'
    obtain rfl := Option.some.inj ho'
    split
    · rename_i hd
      have hln := later_none hs hI hhist hsched ho hD (x := x) (by simp [namesOf, hd])
      rw [hhist, look_append, look, if_pos ⟨by simp [doneAnd], by rw [hdo]; exact hd⟩, look_skip]
      · exact hv
      · intro q hq hqd
        have hne : q.i ≠ h.i := fun e => by
          have h1 := (List.nodup_append.1 hnd).2.1
          rw [List.nodup_cons] at h1
          exact h1.1 (by rw [← e]; simp only [List.mem_append, List.mem_map]; exact .inl ⟨q, hq, rfl⟩)
        simp only [doneAnd, if_neg hne]
        exact hln q hq hqd
    · rename_i hd
      have : look (doneAnd D h.i) hist x (init x) = look D hist x (init x) := by
        refine look_congr fun q hq hqd => ?_
        have hne : q.i ≠ h.i := fun e => by
          obtain ⟨oq, hoq, hdq⟩ := hI.dsts q hq
          rw [e, ho] at hoq
          obtain rfl := Option.some.inj hoq
          exact hd (by rw [← hdq]; exact hqd)
        simp only [doneAnd, if_neg hne]
      rw [this]
      exact (hI.bval x hxN).mono hx.mono
  · have hne : q.i ≠ h.i := fun e => by simp [doneAnd, e] at hDq
    have hDq' : D q.i = false := by simpa [doneAnd, hne] using hDq
    obtain ⟨o', aj, h1, h2, h3, h4, h5⟩ := hI.pend p q ps he hDq'
    refine ⟨o', aj, h1, h2, h3, h4, h5.imp id fun ⟨hw, hp⟩ => ⟨hw, ?_⟩⟩
    cases hp with
    | pure h => exact .pure h
    | read hr hl => exact .read hr hl
    | new r mk h hv hg hn hlt' hp' has' => exact .new r mk h hv hg hn hlt' (hph _ has' hne hp') has'
  · by_cases hji : j = h.i
    · rw [hji, hhist]; simp
    · exact hI.sub j (by simpa [doneAnd, hji] using hj)
  · have hDe : D e.on = true := by
      by_cases hji : j = h.i
      · subst hji
        rw [ho] at hoj
        obtain rfl := Option.some.inj hoj
        exact hready e he hb
      · exact hI.closed j oj hoj (by simpa [doneAnd, hji] using hj) e he hb
    simp only [doneAnd]
    split
    · rfl
    · exact hDe

theorem Inv.exec (hs : SchedP ops sched B) (hI : Inv P ops N init n0 ρ0 H0 w0 hist a H log nm as D ρ b w) {pre post : List HE} {h : HE} {tail : List Nat} {o : Oper}
    (hhist : hist = pre ++ h :: post) (hsched : hist.map (·.i) ++ tail = sched) (ho : ops[h.i]? = some o) (hD : D h.i = false) (hready : ∀ e ∈ o.after, Region.binds .any e = true → D e.on = true) :
    (Region.wanted o (yielded ops b.tmps) = false ∧ Inv P ops N init n0 ρ0 H0 w0 hist a H log nm as (doneAnd D h.i) ρ (b.put o.dst undef) w) ∨
    (Region.wanted o (yielded ops b.tmps) = true ∧ ∃ v' ρ' w', (execOp b.eval o).run P w = .ok (.value v') w' ∧ Inv P ops N init n0 ρ0 H0 w0 hist a H log nm as (doneAnd D h.i) ρ' (b.put o.dst v') w') := by
  obtain ⟨o', aj, ho', h2, h3, h4, h5⟩ := hI.pend pre h post hhist hD
  rw [ho] at ho'
  obtain rfl := Option.some.inj ho'
  have slots : ∀ x ∈ namesOf ops o, VR ρ (aj.tmps.getD x undef) (b.tmps.getD x undef) := by
    intro x hx
    by_cases hN : x < N
    · rw [h4 x hN, ← slot_on (post := post) hs hI hhist (.inr ⟨h, rfl, rfl⟩) hsched (fun e => by cases e) ho hD hready hx]
      exact hI.bval x hN
    · have e1 : aj.tmps.getD x undef = undef := by simp [h3, hN]
      have e2 : b.tmps.getD x undef = undef := by simp [hI.bN, hN]
      rw [e1, e2]
      exact .tuple rfl (by simp)
  have hwant := wanted_on (ρ := ρ) (ops := ops) (o := o) (a := aj) (b := b) (by rw [h3, hI.bN]) (fun t ht => slots t (List.mem_append_right _ ht))
  have hops : ∀ x ∈ o.op.operands, VR ρ (aj.eval x) (b.eval x) := fun x hx =>
    eval_on (fun t ht => by subst ht; exact slots t (List.mem_append_right _ (mem_looksAt hx))) (Array.all_eq_true_iff_forall_mem.1 (hs.oper h.i o ho) x hx)
  rcases h5 with ⟨hw, hu⟩ | ⟨hw, hp⟩
  · refine .inl ⟨by rw [← hwant]; exact hw, ?_⟩
    exact hI.done hs hhist hsched ho hD hready (by rw [hu]; exact .tuple rfl (by simp)) hI.rel (ExtN.refl _ _ _ _) (fun _ _ _ h => h)
  · refine .inr ⟨by rw [← hwant]; exact hw, ?_⟩
    cases hp with
    | pure h =>
      obtain ⟨v', g1, g2⟩ := aP_sim h hops
      exact ⟨v', ρ, w, g2 w, hI.done hs hhist hsched ho hD hready g1 hI.rel (ExtN.refl _ _ _ _) (fun _ _ _ h => h)⟩
    | read h _ =>
      obtain ⟨v', g1, g2⟩ := aR_sim hI.rel h hops
      exact ⟨v', ρ, w, g2, hI.done hs hhist hsched ho hD hready g1 hI.rel (ExtN.refl _ _ _ _) (fun _ _ _ h => h)⟩
    | new r mk h hv hg hn hlt hp has =>
      obtain ⟨v', ρ', w', g1, g2, g3, g4, g5⟩ := aA_sim hI.rel h hops hg hp hlt
      refine ⟨v', ρ', w', g1, hI.done hs hhist hsched ho hD hready (by rw [hv]; exact g2) g3 (g4 n0 hn) fun j hj hne hpj u => ?_⟩
      rw [g5 _ _ fun e => hne (hI.nmInj _ _ hj has e)]
      exact hpj u

theorem Inv.effect {K : Value → AHeap → Prop} {Q : Exit → Act → World → Prop} (hs : SchedP ops sched B) (hI : Inv P ops N init n0 ρ0 H0 w0 hist a H log nm as D ρ b w) {i : Nat} {tail : List Nat} {o : Oper}
    (hsched : hist.map (·.i) ++ i :: tail = sched) (ho : ops[i]? = some o) (hD : D i = false) (hready : ∀ e ∈ o.after, Region.binds .any e = true → D e.on = true)
    (hwantA : Region.wanted o (yielded ops a.tmps) = true) (he : eStep P a H o fun v H' => (∀ p ∈ log, anc B p.1 i = true ∨ p.2 H') ∧ K v H')
    {M : Act → World → Prop} (hM : ∀ v v' H' ρ' w', K v H' → Inv P ops N init n0 ρ0 H0 w0 (hist ++ [⟨i, o.dst, v⟩]) (a.put o.dst v) H' log nm as (doneAnd D i) ρ' (b.put o.dst v') w' → M (b.put o.dst v') w') :
    Region.wanted o (yielded ops b.tmps) = true ∧ o.wp P b w M Q := by
  have hnd := hs.nodup
  rw [← hsched] at hnd
  have hnot : i ∉ hist.map (·.i) := fun hm => (List.nodup_append.1 hnd).2.2 i hm i (by simp) rfl
  have slots : ∀ x ∈ namesOf ops o, VR ρ (a.tmps.getD x undef) (b.tmps.getD x undef) := by
    intro x hx
    by_cases hN : x < N
    · rw [hI.aval x hN, ← slot_on (pre := hist) (rest := []) (post := []) hs hI (by simp) (.inl rfl) hsched (fun _ => ⟨tail, rfl⟩) ho hD hready hx]
      exact hI.bval x hN
    · have e1 : a.tmps.getD x undef = undef := by simp [hI.aN, hN]
      have e2 : b.tmps.getD x undef = undef := by simp [hI.bN, hN]
      rw [e1, e2]
      exact .tuple rfl (by simp)
  have hwant := wanted_on (ρ := ρ) (ops := ops) (o := o) (a := a) (b := b) (by rw [hI.aN, hI.bN]) (fun t ht => slots t (List.mem_append_right _ ht))
  have hops : ∀ x ∈ o.op.operands, VR ρ (a.eval x) (b.eval x) := fun x hx =>
    eval_on (fun t ht => by subst ht; exact slots t (List.mem_append_right _ (mem_looksAt hx))) (Array.all_eq_true_iff_forall_mem.1 (hs.oper i o ho) x hx)
  refine ⟨by rw [← hwant]; exact hwantA, eStep_sim he hI.rel hops fun v v' H' ρ' w' hk hv hr hx => ?_⟩
  obtain ⟨hlog, hk⟩ := hk
  refine hM v v' H' ρ' w' hk ?_
  have hanc : ∀ q, anc B q i = true → D q = true := anc_listed hs hI.closed (.inr fun o' ho' => by rw [ho] at ho'; obtain rfl := Option.some.inj ho'; exact hready)
  have hlook : ∀ x, look (doneAnd D i) hist x (init x) = look D hist x (init x) := fun x => look_congr fun q hq _ => by
    have : q.i ≠ i := fun e => hnot (List.mem_map.2 ⟨q, hq, e⟩)
    simp only [doneAnd, if_neg this]
  refine ⟨hr, hI.ext.trans (hx.less hI.n0le), by rw [size_put]; exact hI.aN, by rw [size_put]; exact hI.bN, by rw [defers_put]; exact hI.adef, by rw [defers_put]; exact hI.bdef,
    fun x hxN => ?_, fun x hxN => ?_, fun pre h post heq hDq => ?_, fun h hh => ?_, fun j hj => ?_, fun j oj hoj hj e he hb => ?_, hI.nmInj, fun j hj => ?_, Nat.le_trans hI.n0le hx.next⟩
  · rw [getD_put _ _ _ _ (by rw [hI.aN]; exact hxN), look_append, ← hI.aval x hxN]
    simp only [look, true_and]
  · rw [getD_put _ _ _ _ (by rw [hI.bN]; exact hxN), look_append, hlook]
    simp only [look, doneAnd, if_true, true_and]
    split
    · exact hv
    · exact (hI.bval x hxN).mono hx.mono
  · rcases split_snoc heq with ⟨rfl, rfl, rfl⟩ | ⟨post', rfl⟩
    · simp [doneAnd] at hDq
    · have hne : h.i ≠ i := fun e => hnot (by rw [← e]; simp)
      have hDq' : D h.i = false := by simpa [doneAnd, hne] using hDq
      obtain ⟨o', aj, h1, h2, h3, h4, h5⟩ := hI.pend pre h post' rfl hDq'
      refine ⟨o', aj, h1, h2, h3, h4, h5.imp id fun ⟨hw, hp⟩ => ⟨hw, ?_⟩⟩
      cases hp with
      | pure h => exact .pure h
      | read hr0 hl =>
        obtain ⟨p, hp, h6, h7⟩ := hl
        rcases hlog p hp with hA | hA
        · rw [h6] at hA
          rw [hanc _ hA] at hDq'; cases hDq'
        · exact .read (h7 H' hA) ⟨p, hp, h6, h7⟩
      | new r mk h hv hg hn hlt' hp' has' =>
        obtain ⟨g1, g2⟩ := hx.phantom _ hlt' hp'
        exact .new r mk h hv (g1.trans hg) hn (Nat.lt_of_lt_of_le hlt' hx.next) g2 has'
  · rcases List.mem_append.1 hh with h1 | h1
    · exact hI.dsts h h1
    · obtain rfl := List.mem_singleton.1 h1
      exact ⟨o, ho, rfl⟩
  · rw [List.map_append]
    by_cases hji : j = i
    · subst hji; exact List.mem_append_right _ (by simp)
    · exact List.mem_append_left _ (hI.sub j (by simpa [doneAnd, hji] using hj))
  · have hDe : D e.on = true := by
      by_cases hji : j = i
      · subst hji
        rw [ho] at hoj
        obtain rfl := Option.some.inj hoj
        exact hready e he hb
      · exact hI.closed j oj hoj (by simpa [doneAnd, hji] using hj) e he hb
    simp only [doneAnd]
    split
    · rfl
    · exact hDe
  · have := hI.nmLt j hj
    refine ⟨Nat.lt_of_lt_of_le this.1 hx.next, ?_⟩
    rw [List.map_append]
    exact List.mem_append_left _ this.2

end

end Go.Ae

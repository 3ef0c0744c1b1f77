/- A region whose order the model draws: the steps. No condition. -/
import Derived.Test.YtfhpgikgjheobaaAeDraw
namespace Go.Ae

section
variable {P : Program} {ops : Array Oper} {sched B : List Nat} {N : Nat} {init : Nat → Value} {n0 : Nat} {ρ0 : Ren} {H0 : AHeap} {w0 : World} {hist : List HE} {a : Act} {H : AHeap}
  {log : List (Nat × (AHeap → Prop))} {nm : Nat → Nat} {as : List Nat} {D : Nat → Bool} {ρ : Ren} {b : Act} {w : World}

theorem split_snoc {α : Type} {hist : List α} {q : α} {pre post : List α} {h : α} (he : hist ++ [q] = pre ++ h :: post) : (post = [] ∧ h = q ∧ pre = hist) ∨ ∃ post', hist = pre ++ h :: post' := by
  rcases List.eq_nil_or_concat post with rfl | ⟨post', z, rfl⟩
  · have := List.append_inj' he rfl
    exact .inl ⟨rfl, (List.cons.inj this.2).1.symm, this.1.symm⟩
  · have he' : hist ++ [q] = (pre ++ h :: post') ++ [z] := by rw [he]; simp
    have := List.append_inj' he' rfl
    exact .inr ⟨post', this.1⟩

/-- One more operation is done canonically; the world stays. -/
theorem Inv.advance (hI : Inv P ops N init n0 ρ0 H0 w0 hist a H log nm as D ρ b w) {i : Nat} {o : Oper} (ho : ops[i]? = some o) (hnot : i ∉ hist.map (·.i)) {v : Value} {H' : AHeap}
    {log' : List (Nat × (AHeap → Prop))} {nm' : Nat → Nat} {as' : List Nat} (hlog : ∀ p ∈ log, p ∈ log') (hnm : ∀ j ∈ as, nm' j = nm j) (has : ∀ j ∈ as, j ∈ as') (hrel : RelH P ρ H' w) (hext : ExtN n0 ρ0 H0 w0 ρ H' w)
    (hH' : H' = H ∨ ∃ r, H' = H.push r) (hinj : ∀ i j, i ∈ as' → j ∈ as' → nm' i = nm' j → i = j) (hlt : ∀ j, j ∈ as' → nm' j < H'.next ∧ (j ∈ hist.map (·.i) ∨ j = i))
    (hpf : (Region.wanted o (yielded ops a.tmps) = false ∧ v = undef) ∨ (Region.wanted o (yielded ops a.tmps) = true ∧ Pend P a o i v H' ρ log' nm' as' n0)) :
    Inv P ops N init n0 ρ0 H0 w0 (hist ++ [⟨i, o.dst, v⟩]) (a.put o.dst v) H' log' nm' as' D ρ b w := by
  have hDi : D i = false := by
    cases h : D i with
    | false => rfl
    | true => exact absurd (hI.sub i h) hnot
  refine ⟨hrel, hext, by rw [size_put]; exact hI.aN, hI.bN, by rw [defers_put]; exact hI.adef, hI.bdef, fun x hx => ?_, fun x hx => ?_, fun pre h post he hD => ?_, fun h hh => ?_, fun j hj => ?_, hI.closed, hinj, fun j hj => ?_, ?_⟩
  · rw [getD_put _ _ _ _ (by rw [hI.aN]; exact hx), look_append, ← hI.aval x hx]
    simp only [look, true_and]
  · rw [look_append, look, look, if_neg (by rw [hDi]; simp)]
    exact hI.bval x hx
  · rcases split_snoc he with ⟨rfl, rfl, rfl⟩ | ⟨post', rfl⟩
    · exact ⟨o, a, ho, rfl, hI.aN, hI.aval, hpf⟩
    · obtain ⟨o', aj, h1, h2, h3, h4, h5⟩ := hI.pend pre h post' rfl hD
      refine ⟨o', aj, h1, h2, h3, h4, h5.imp id fun ⟨hw, hp⟩ => ⟨hw, ?_⟩⟩
      cases hp with
      | pure h => exact .pure h
      | read hr hl =>
        obtain ⟨p, hp, h6, h7⟩ := hl
        refine .read ?_ ⟨p, hlog p hp, h6, h7⟩
        rcases hH' with rfl | ⟨r, rfl⟩
        · exact hr
        · exact aR_push hI.rel.wf hr
      | new r mk h hv hg hn hlt' hp' has' =>
        have e := hnm _ has'
        refine .new r mk h (by rw [e]; exact hv) ?_ (by rw [e]; exact hn) ?_ (by rw [e]; exact hp') (has _ has')
        · rw [e]
          rcases hH' with rfl | ⟨r', rfl⟩
          · exact hg
          · rw [AHeap.push_get, if_neg (by omega)]; exact hg
        · rw [e]
          rcases hH' with rfl | ⟨r', rfl⟩
          · exact hlt'
          · rw [AHeap.push_next]; omega
  · rcases List.mem_append.1 hh with h1 | h1
    · exact hI.dsts h h1
    · obtain rfl := List.mem_singleton.1 h1
      exact ⟨o, ho, rfl⟩
  · rw [List.map_append]
    exact List.mem_append_left _ (hI.sub j hj)
  · refine ⟨(hlt j hj).1, ?_⟩
    rw [List.map_append]
    rcases (hlt j hj).2 with h | rfl
    · exact List.mem_append_left _ h
    · exact List.mem_append_right _ (by simp)
  · rcases hH' with rfl | ⟨r, rfl⟩
    · exact hI.n0le
    · rw [AHeap.push_next]; have := hI.n0le; omega

/-- Canonically on, to the next effect or the end. -/
theorem Inv.run {K : Act → AHeap → Prop} (hs : SchedP ops sched B) : ∀ (rest : List Nat) {hist : List HE} {a : Act} {H : AHeap} {log : List (Nat × (AHeap → Prop))} {nm : Nat → Nat} {as : List Nat},
    Inv P ops N init n0 ρ0 H0 w0 hist a H log nm as D ρ b w → hist.map (·.i) ++ rest = sched → wpS P ops B K rest a H log →
    ∃ hist a H log nm as rest, Inv P ops N init n0 ρ0 H0 w0 hist a H log nm as D ρ b w ∧ hist.map (·.i) ++ rest = sched ∧ wpS P ops B K rest a H log ∧
      (rest = [] ∨ ∃ i rest' o, rest = i :: rest' ∧ ops[i]? = some o ∧ Region.wanted o (yielded ops a.tmps) = true ∧ isE o = true)
  | [], hist, a, H, log, nm, as, hI, hsc, hw => ⟨hist, a, H, log, nm, as, [], hI, hsc, hw, .inl rfl⟩
  | i :: rest, hist, a, H, log, nm, as, hI, hsc, hw => by
    have hnd := hs.nodup
    rw [← hsc] at hnd
    have hnot : i ∉ hist.map (·.i) := fun hm => (List.nodup_append.1 hnd).2.2 i hm i (by simp) rfl
    have hw0 := hw
    simp only [wpS] at hw
    split at hw
    · exact hw.elim
    rename_i o ho
    have hsc' : ∀ (v : Value), (hist ++ [(⟨i, o.dst, v⟩ : HE)]).map (·.i) ++ rest = sched := fun v => by rw [← hsc]; simp
    have hlt0 : ∀ j, j ∈ as → nm j < H.next ∧ (j ∈ hist.map (·.i) ∨ j = i) := fun j hj => ⟨(hI.nmLt j hj).1, .inl (hI.nmLt j hj).2⟩
    split at hw
    · rename_i hwant
      split at hw
      · rename_i hE
        exact ⟨hist, a, H, log, nm, as, i :: rest, hI, hsc, hw0, .inr ⟨i, rest, o, rfl, ho, hwant, hE⟩⟩
      · obtain ⟨v, H', hf, hk⟩ := nStep_fact hw
        have hlogsub : ∀ p ∈ log, p ∈ (if isRead o then (i, fun H' => aR P a.eval H' o = aR P a.eval H o) :: log else log) := fun p hp => by
          split
          · exact List.mem_cons_of_mem _ hp
          · exact hp
        cases hf with
        | pure h hr =>
          exact Inv.run hs rest (hI.advance ho hnot hlogsub (fun _ _ => rfl) (fun _ h => h) hI.rel hI.ext (.inl rfl) hI.nmInj hlt0 (.inr ⟨hwant, .pure h⟩)) (hsc' v) hk
        | read h =>
          have hread : isRead o = true := by
            unfold aR at h
            split at h
            · rename_i heq; simp [isRead, heq]
            · rename_i heq; simp [isRead, heq]
            · cases h
          refine Inv.run hs rest (hI.advance ho hnot hlogsub (fun _ _ => rfl) (fun _ h => h) hI.rel hI.ext (.inl rfl) hI.nmInj hlt0 (.inr ⟨hwant, .read h ?_⟩)) (hsc' v) hk
          rw [if_pos hread]
          exact ⟨_, List.mem_cons_self, rfl, fun H' hH' => by rw [hH']; exact h⟩
        | new r mk h hv hr =>
          have hfresh : i ∉ as := fun hm => hnot (hI.nmLt i hm).2
          have hnmi : ∀ j ∈ as, (if j = i then H.next else nm j) = nm j := fun j hj => by rw [if_neg]; rintro rfl; exact hfresh hj
          refine Inv.run hs rest (hI.advance (nm' := fun k => if k = i then H.next else nm k) (as' := i :: as) ho hnot hlogsub hnmi (fun _ h => List.mem_cons_of_mem _ h)
            (hI.rel.push _) (hI.ext.trans (ExtN.push _ _ hI.n0le)) (.inr ⟨_, rfl⟩) ?_ ?_ (.inr ⟨hwant, .new r mk h ?_ ?_ ?_ ?_ ?_ (by simp)⟩)) (hsc' v) hk
          · intro x y hx hy hxy
            rcases List.mem_cons.1 hx with e1 | g1 <;> rcases List.mem_cons.1 hy with e2 | g2
            · rw [e1, e2]
            · have h1 := (hI.nmLt y g2).1
              rw [if_pos e1, hnmi y g2] at hxy
              omega
            · have h1 := (hI.nmLt x g1).1
              rw [if_pos e2, hnmi x g1] at hxy
              omega
            · rw [hnmi x g1, hnmi y g2] at hxy
              exact hI.nmInj x y g1 g2 hxy
          · intro j hj
            rcases List.mem_cons.1 hj with e1 | g1
            · rw [if_pos e1, AHeap.push_next]
              exact ⟨Nat.lt_succ_self _, .inr e1⟩
            · rw [hnmi j g1, AHeap.push_next]
              have := hlt0 j g1
              exact ⟨by omega, this.2⟩
          · rw [if_pos rfl]; exact hv
          · rw [if_pos rfl, AHeap.push_get, if_pos rfl]
          · rw [if_pos rfl]; exact hI.n0le
          · rw [if_pos rfl, AHeap.push_next]; exact Nat.lt_succ_self _
          · intro u; rw [if_pos rfl]; exact hI.rel.noPlace (Nat.le_refl _) u
    · rename_i hwant
      exact Inv.run hs rest (hI.advance ho hnot (fun _ h => h) (fun _ _ => rfl) (fun _ h => h) hI.rel hI.ext (.inl rfl) hI.nmInj hlt0 (.inl ⟨by simpa using hwant, rfl⟩)) (hsc' undef) hw

/-- How D grows. -/
def doneAnd (D : Nat → Bool) (i : Nat) : Nat → Bool := fun j => if j = i then true else D j

end

end Go.Ae

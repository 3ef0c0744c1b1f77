/- A region whose order the model draws: the law. No condition. -/
import Derived.Test.YtfhpgikgjheobaaAeDraw3
namespace Go.Ae

theorem first_false {D : Nat → Bool} : ∀ {l : List Nat}, (∃ i ∈ l, D i = false) → ∃ pre i post, l = pre ++ i :: post ∧ D i = false ∧ ∀ q ∈ pre, D q = true
  | [], h => by obtain ⟨i, hi, _⟩ := h; simp at hi
  | x :: l, h => by
    cases hx : D x with
    | false => exact ⟨[], x, l, rfl, hx, by simp⟩
    | true =>
      have : ∃ i ∈ l, D i = false := by
        obtain ⟨i, hi, hD⟩ := h
        rcases List.mem_cons.1 hi with rfl | hi
        · rw [hx] at hD; cases hD
        · exact ⟨i, hi, hD⟩
      obtain ⟨pre, i, post, h1, h2, h3⟩ := first_false this
      refine ⟨x :: pre, i, post, by rw [h1]; rfl, h2, fun q hq => ?_⟩
      rcases List.mem_cons.1 hq with rfl | hq
      · exact hx
      · exact h3 q hq

theorem getD_done (listed : Array Bool) (i : Nat) (hi : i < listed.size) : (fun j => (listed.setIfInBounds i true).getD j false) = doneAnd (fun j => listed.getD j false) i := by
  funext j
  simp only [doneAnd]
  by_cases h : j = i
  · subst h
    simp [hi]
  · rw [if_neg h]
    simp [Array.getElem?_setIfInBounds_ne (Ne.symm h)]

def open_ (D : Nat → Bool) (n : Nat) : Nat := (List.range n).countP fun i => !D i
theorem open_zero {D : Nat → Bool} {n : Nat} (h : open_ D n = 0) : ∀ i, i < n → D i = true := by
  intro i hi
  have := List.countP_eq_zero.1 h i (List.mem_range.2 hi)
  simpa using this
theorem open_done {D : Nat → Bool} {n i : Nat} (hi : i < n) (hD : D i = false) : open_ (doneAnd D i) n < open_ D n := by
  unfold open_
  have key : ∀ (l : List Nat), l.Nodup → i ∈ l → l.countP (fun j => !doneAnd D i j) < l.countP (fun j => !D j) := by
    intro l
    induction l with
    | nil => intro _ h; simp at h
    | cons x l ih =>
      intro hnd hm
      rw [List.nodup_cons] at hnd
      simp only [List.countP_cons]
      have le : ∀ (m : List Nat), m.countP (fun j => !doneAnd D i j) ≤ m.countP (fun j => !D j) := fun m => List.countP_mono_left fun j _ hj => by
        simp only [doneAnd, Bool.not_eq_true'] at hj ⊢
        split at hj
        · cases hj
        · exact hj
      rcases List.mem_cons.1 hm with rfl | hm
      · have h1 : (!doneAnd D i i) = false := by simp [doneAnd]
        rw [h1, hD]
        have := le l
        simp
        omega
      · have hne : x ≠ i := fun e => hnd.1 (e ▸ hm)
        have h1 : (!doneAnd D i x) = !D x := by simp [doneAnd, hne]
        rw [h1]
        have := ih hnd.2 hm
        omega
  exact key _ List.nodup_range (List.mem_range.2 hi)

theorem draw_main {P : Program} {ops : Array Oper} {sched B : List Nat} {N : Nat} {init : Nat → Value} {n0 : Nat} {ρ0 : Ren} {H0 : AHeap} {w0 : World} {K : Act → AHeap → Prop} {Q : Exit → Act → World → Prop}
    (hs : SchedP ops sched B) (hQ : ∀ a b H ρ w, K a H → TR ρ a b → RelH P ρ H w → ExtN n0 ρ0 H0 w0 ρ H w → Q .normal b w) :
    ∀ (fuel : Nat) (listed : Array Bool) (rest : List Nat) (hist : List HE) (a : Act) (H : AHeap) (log : List (Nat × (AHeap → Prop))) (nm : Nat → Nat) (as : List Nat) (ρ : Ren) (b : Act) (w : World),
      Inv P ops N init n0 ρ0 H0 w0 hist a H log nm as (fun i => listed.getD i false) ρ b w → hist.map (·.i) ++ rest = sched → wpS P ops B K rest a H log → listed.size = ops.size →
      open_ (fun i => listed.getD i false) ops.size ≤ fuel → wpAny P .any ops Q fuel listed b w := by
  have final : ∀ (listed : Array Bool) (rest : List Nat) (hist : List HE) (a : Act) (H : AHeap) (log : List (Nat × (AHeap → Prop))) (nm : Nat → Nat) (as : List Nat) (ρ : Ren) (b : Act) (w : World),
      Inv P ops N init n0 ρ0 H0 w0 hist a H log nm as (fun i => listed.getD i false) ρ b w → hist.map (·.i) ++ rest = sched → wpS P ops B K rest a H log → (∀ i, i < ops.size → listed.getD i false = true) → Q .normal b w := by
    intro listed rest hist a H log nm as ρ b w hI hsc hw hall
    have hr : rest = [] := by
      cases rest with
      | nil => rfl
      | cons i rest =>
        exfalso
        obtain ⟨o, ho⟩ := hs.valid i (by rw [← hsc]; simp)
        have hlt := (Array.getElem?_eq_some_iff.1 ho).1
        have := hI.sub i (hall i hlt)
        have hnd := hs.nodup
        rw [← hsc] at hnd
        exact (List.nodup_append.1 hnd).2.2 i this i (by simp) rfl
    subst hr
    refine hQ a b H ρ w hw ⟨VRs.of_get (by simp [hI.aN, hI.bN]) fun i x y hx hy => ?_, hI.adef, hI.bdef⟩ hI.rel hI.ext
    have hi : i < N := by
      have := (List.getElem?_eq_some_iff.1 hx).1
      simp only [Array.length_toList] at this
      rw [← hI.aN]; exact this
    have h1 := hI.bval i hi
    have h2 : look (fun i => listed.getD i false) hist i (init i) = look (fun _ => true) hist i (init i) := look_congr fun h hh _ => by
      obtain ⟨o, ho, _⟩ := hI.dsts h hh
      exact hall _ (Array.getElem?_eq_some_iff.1 ho).1
    rw [h2, ← hI.aval i hi] at h1
    have e1 : a.tmps.getD i undef = x := by
      rw [Array.getElem?_toList] at hx
      rw [Array.getD_eq_getD_getElem?, hx]; rfl
    have e2 : b.tmps.getD i undef = y := by
      rw [Array.getElem?_toList] at hy
      rw [Array.getD_eq_getD_getElem?, hy]; rfl
    rw [e1, e2] at h1
    exact h1
  have ready : ∀ (listed : Array Bool), listed.size = ops.size → ∀ i ∈ Region.ready .any ops listed, i < ops.size ∧ listed.getD i false = false ∧ ∃ o, ops[i]? = some o ∧ ∀ e ∈ o.after, Region.binds .any e = true → listed.getD e.on false = true := by
    intro listed hl i hi
    obtain ⟨h1, o, ho, h2⟩ := mem_ready.1 hi
    have hlt := (Array.getElem?_eq_some_iff.1 ho).1
    refine ⟨hlt, ?_, o, ho, h2⟩
    simp only [Array.getD_eq_getD_getElem?] at h1 ⊢
    rw [Array.getElem?_eq_getElem (by omega)] at h1 ⊢
    exact h1
  have nonempty : ∀ (listed : Array Bool), listed.size = ops.size → Region.ready .any ops listed = [] → ∀ i, i < ops.size → listed.getD i false = true := by
    intro listed hl hempty i hi
    cases hD : listed.getD i false with
    | true => rfl
    | false =>
      exfalso
      obtain ⟨pre, j, post, h1, h2, h3⟩ := first_false (D := fun i => listed.getD i false) ⟨i, hs.mem i hi, hD⟩
      obtain ⟨o, ho⟩ := hs.valid j (by rw [h1]; simp)
      have hlt := (Array.getElem?_eq_some_iff.1 ho).1
      have : j ∈ Region.ready .any ops listed := mem_ready.2 ⟨by
        have h2 : listed.getD j false = false := h2
        simp only [Array.getD_eq_getD_getElem?] at h2 ⊢
        rw [Array.getElem?_eq_getElem (by omega)] at h2 ⊢
        exact h2, o, ho, fun e he hb => h3 _ (hs.edges pre j post h1 o ho e he hb)⟩
      rw [hempty] at this
      cases this
  intro fuel
  induction fuel with
  | zero =>
    intro listed rest hist a H log nm as ρ b w hI hsc hw hl hopen
    have hall := open_zero (Nat.le_zero.1 hopen)
    refine ⟨?_, final listed rest hist a H log nm as ρ b w hI hsc hw hall⟩
    apply List.eq_nil_iff_forall_not_mem.2
    intro i hi
    obtain ⟨h1, h2, _⟩ := ready listed hl i hi
    rw [hall i h1] at h2
    cases h2
  | succ fuel ih =>
    intro listed rest hist a H log nm as ρ b w hI hsc hw hl hopen
    refine ⟨fun hempty => final listed rest hist a H log nm as ρ b w hI hsc hw (nonempty listed hl hempty), fun i hi => ?_⟩
    obtain ⟨hlt, hD, o, ho, hedges⟩ := ready listed hl i hi
    obtain ⟨hist, a, H, log, nm, as, rest, hI, hsc, hw, hrest⟩ := hI.run hs rest hsc hw
    have hopen' : open_ (doneAnd (fun i => listed.getD i false) i) ops.size ≤ fuel := by
      have := open_done (D := fun i => listed.getD i false) hlt hD
      omega
    have hsz : (listed.setIfInBounds i true).size = ops.size := by simpa using hl
    have hgd := getD_done listed i (by omega)
    unfold wpOp
    rw [ho]
    dsimp only
    have hmem : i ∈ hist.map (·.i) ++ rest := by rw [hsc]; exact hs.mem i hlt
    rcases List.mem_append.1 hmem with hmem | hmem
    · -- owed since before
      obtain ⟨h, hh, hhi⟩ := List.mem_map.1 hmem
      obtain ⟨pre, post, hpp⟩ := List.append_of_mem hh
      subst hhi
      rcases hI.exec hs hpp hsc ho hD hedges with ⟨hwant, hI'⟩ | ⟨hwant, v', ρ', w', hrun, hI'⟩
      · rw [if_neg (by rw [hwant]; simp)]
        exact ih _ rest hist a H log nm as ρ _ w (by rw [hgd]; exact hI') hsc hw hsz (by rw [hgd]; exact hopen')
      · rw [if_pos hwant]
        refine .inl ?_
        unfold Oper.wp
        rw [hrun, Oper.upon_value]
        exact ih _ rest hist a H log nm as ρ' _ w' (by rw [hgd]; exact hI') hsc hw hsz (by rw [hgd]; exact hopen')
    · rcases hrest with rfl | ⟨j, rest', oj, rfl, hoj, hwj, hEj⟩
      · simp at hmem
      · by_cases hij : i = j
        · subst hij
          rw [ho] at hoj
          obtain rfl := Option.some.inj hoj
          simp only [wpS, ho] at hw
          rw [if_pos hwj, if_pos hEj] at hw
          obtain ⟨g1, g2⟩ := hI.effect (Q := Q) hs hsc ho hD hedges hwj hw (M := fun b' w' => wpAny P .any ops Q fuel (listed.setIfInBounds i true) b' w') fun v v' H' ρ' w' hk hI' =>
            ih _ rest' _ _ H' log nm as ρ' _ w' (by rw [hgd]; exact hI') (by rw [← hsc]; simp) hk hsz (by rw [hgd]; exact hopen')
          rw [if_pos g1]
          exact .inl g2
        · -- behind an effect that is not done
          exfalso
          have hin : i ∈ rest' := by
            rcases List.mem_cons.1 hmem with h | h
            · exact absurd h hij
            · exact h
          have hanc := hs.eff (hist.map (·.i)) j rest' hsc.symm oj hoj hEj i hin
          have hDj := anc_listed hs hI.closed (.inr fun o' ho' => by rw [ho] at ho'; obtain rfl := Option.some.inj ho'; exact hedges) j hanc
          have := hI.sub j hDj
          have hnd := hs.nodup
          rw [← hsc] at hnd
          exact (List.nodup_append.1 hnd).2.2 j this j (by simp) rfl

theorem draw_sim {P : Program} {id : Nat} {ops : Array Oper} {sched B : List Nat} {K : Act → AHeap → Prop} {Q : Exit → Act → World → Prop} (hm : P.follows .mixedOrders = true) (hs : SchedP ops sched B)
    {ρ : Ren} {a b : Act} {H : AHeap} {w : World} (h : wpS P ops B K sched a H []) (hT : TR ρ a b) (hH : RelH P ρ H w) (hQ : ∀ b' w', After P ρ H w K b' w' → Q .normal b' w') :
    (Code.region id ops true).wp P Q b w := by
  refine wp_region_any hm (draw_main (N := a.tmps.size) (init := fun x => a.tmps.getD x undef) (n0 := H.next) (ρ0 := ρ) (H0 := H) (w0 := w) hs ?_ ops.size _ sched [] a H [] (fun _ => 0) [] ρ b _ ?_ rfl h (by simp) ?_)
  · intro a' b' H' ρ' w' hk h1 h2 h3
    exact hQ b' w' ⟨a', H', ρ', hk, h1, h2, h3⟩
  · have hf : ∀ i, (Array.replicate ops.size false).getD i false = false := fun i => by rcases Nat.lt_or_ge i ops.size with h | h <;> simp [h]
    refine ⟨hH.drew _, ExtN.drewRight _, rfl, hT.size.symm, hT.defA, hT.defB, fun _ _ => rfl, fun x hx => ?_, fun pre h post he => by simp at he, fun h hh => by simp at hh, fun i hi => ?_, fun j o _ hj => ?_, fun i j hi => by simp at hi, fun i hi => by simp at hi, Nat.le_refl _⟩
    · exact hT.eval (x := .tmp x) rfl
    · rw [hf] at hi; cases hi
    · rw [hf] at hj; cases hj
  · unfold open_
    exact Nat.le_trans List.countP_le_length (by simp)

end Go.Ae

/- Operations that write: a store, append, copy. No condition. -/
import Derived.Test.YtmibkoadjehdaaaGreatDoorAeNew
import Derived.Laws.IdiomCopy
namespace Go.Ae

/-! ### Cells written into a block -/

def seg (c : Array Value) (o : Nat) (vs : List Value) : Array Value := (c.toList.take o ++ vs ++ c.toList.drop (o + vs.length)).toArray
theorem seg_size {c : Array Value} {o : Nat} {vs : List Value} (h : o + vs.length ≤ c.size) : (seg c o vs).size = c.size := by
  simp only [seg, List.size_toArray, List.length_append, List.length_take, List.length_drop, Array.length_toList]
  omega
theorem seg_get {c : Array Value} {o : Nat} {vs : List Value} (h : o + vs.length ≤ c.size) (k : Nat) :
    (seg c o vs)[k]? = if k < o then c[k]? else if k < o + vs.length then vs[k - o]? else c[k]? := by
  have hl : (c.toList.take o).length = o := by simp; omega
  simp only [seg, List.getElem?_toArray, List.append_assoc]
  rw [List.getElem?_append]
  rw [hl]
  split
  · rename_i hk; rw [List.getElem?_take, if_pos hk]; simp
  · rw [List.getElem?_append]
    split
    · rename_i h1 h2; rw [if_pos (by omega)]
    · rename_i h1 h2
      rw [if_neg (by omega), List.getElem?_drop]
      rw [show o + vs.length + (k - o - vs.length) = k by omega]
      simp
theorem seg_cons {c : Array Value} {o : Nat} {v : Value} {vs : List Value} (h : o + (vs.length + 1) ≤ c.size) : seg (c.setIfInBounds o v) (o + 1) vs = seg c o (v :: vs) := by
  apply Array.ext_getElem?
  intro k
  rw [seg_get (by simp; omega), seg_get (by simpa using h)]
  simp only [Array.getElem?_setIfInBounds, List.length_cons]
  by_cases h1 : k < o
  · rw [if_pos (by omega), if_pos h1, if_neg (by omega)]
  · rw [if_neg h1]
    by_cases h2 : k = o
    · subst h2
      rw [if_pos (by omega), if_pos rfl, if_pos (by omega), if_pos (by omega)]
      simp
    · rw [if_neg (by omega)]
      by_cases h3 : k < o + 1 + vs.length
      · rw [if_pos h3, if_pos (by omega), show k - o = (k - (o + 1)) + 1 by omega]
        simp
      · rw [if_neg h3, if_neg (by omega), if_neg (by omega)]
theorem setCells_heap (b : Nat) : ∀ (vs : List Value) (o : Nat) (w : World) (c : Array Value) (e : TypeId) (fz : Nat × Nat), w.heap[b]? = some (.cells c e fz) → o + vs.length ≤ c.size →
    (w.setCells b o vs).heap[b]? = some (.cells (seg c o vs) e fz) ∧ (∀ k, k ≠ b → (w.setCells b o vs).heap[k]? = w.heap[k]?) ∧ (w.setCells b o vs).heap.size = w.heap.size ∧
      (w.setCells b o vs).os = w.os ∧ (w.setCells b o vs).output = w.output
  | [], o, w, c, e, fz, h, hl => by
    refine ⟨?_, fun _ _ => rfl, rfl, rfl, rfl⟩
    simp only [World.setCells, seg, List.append_nil, List.length_nil, Nat.add_zero, List.take_append_drop]
    simpa using h
  | v :: vs, o, w, c, e, fz, h, hl => by
    have h0 : (w.setCell ⟨b, o, none⟩ v).heap[b]? = some (.cells (c.setIfInBounds o v) e fz) := by
      simp [World.setCell, Array.getElem?_modify, h]
    obtain ⟨i1, i2, i3, i4, i5⟩ := setCells_heap b vs (o + 1) (w.setCell ⟨b, o, none⟩ v) _ e fz h0 (by simp at hl ⊢; omega)
    refine ⟨?_, fun k hk => ?_, ?_, i4, i5⟩
    · rw [World.setCells, i1, seg_cons (by simpa using hl)]
    · rw [World.setCells, i2 k hk]
      simp [World.setCell, Array.getElem?_modify, Ne.symm hk]
    · rw [World.setCells, i3]
      simp [World.setCell]

/-- Cells written into a row that has its place. -/
theorem put_place {P : Program} {ρ : Ren} {H : AHeap} {w : World} (hH : RelH P ρ H w) {i : Nat} {r r' : Row} (hg : H.get i = some (.row r)) (hrw : r.rw = true) (hv : r'.ver = r.ver) {s : Seg} (hs : ρ i r.ver = some s)
    {w' : World} (hrow : RowOk P ρ r' s w') (hother : ∀ k, k ≠ s.blk → w'.heap[k]? = w.heap[k]?) (hsize : w'.heap.size = w.heap.size) (hos : w'.os = w.os) (hout : w'.output = w.output) :
    RelH P ρ (H.put i (.row r')) w' ∧ Ext ρ H w ρ (H.put i (.row r')) w' := by
  have hi := (hH.dom i _ s hs).1
  refine ⟨⟨fun j hj => ?_, fun j v t h => ?_, fun i1 j1 u1 v1 s1 t1 h1 h2 he => (hH.apart i1 j1 u1 v1 s1 t1 h1 h2 he).imp id fun h => ⟨AHeap.ro_put hg hrw h.1, AHeap.ro_put hg hrw h.2⟩, fun j q hq t h => ?_, fun j o hq ho t h => ?_, fun j q v hq hlt => ?_, hH.glob⟩,
    ⟨Ren.le_refl ρ, by omega, Nat.le_refl _, fun b _ hb => ?_, fun j v t h => .inl ⟨j, v, t, h, rfl⟩, fun j hj h => ⟨?_, h⟩, fun j q _ hq hqr => ?_, hos, hout⟩⟩
  · rw [AHeap.put_next] at hj
    rw [AHeap.put_get, if_neg (by omega)]
    exact hH.wf j hj
  · have := hH.dom j v t h
    exact ⟨this.1, by omega⟩
  · rw [AHeap.put_get] at hq
    split at hq
    · rename_i he
      subst he
      obtain rfl : r' = q := by simpa using hq
      rw [hv, hs] at h
      obtain rfl := Option.some.inj h
      exact hrow
    · rename_i he
      refine (hH.row j q hq t h).mono (Ren.le_refl ρ) (hother _ fun hb => he ?_)
      exact hH.apart' hg hrw h hs hb
  · rw [AHeap.put_get] at hq
    split at hq
    · obtain rfl := Option.some.inj hq; cases ho
    · rename_i he
      refine (hH.obj j o hq ho t h).mono (Ren.le_refl ρ) (hother _ fun hb => he ?_)
      exact hH.apart' hg hrw h hs hb
  · rw [AHeap.put_get] at hq
    split at hq
    · rename_i he
      subst he
      obtain rfl : r' = q := by simpa using hq
      exact hH.future j r v hg (by omega)
    · exact hH.future j q v hq hlt
  · exact hother b fun e => hb i _ s hs e.symm
  · rw [AHeap.put_get, if_neg]
    rintro rfl
    rw [h r.ver] at hs
    cases hs
  · have hne : j ≠ i := by
      rintro rfl
      rw [hg] at hq
      obtain rfl : r = q := by simpa using hq
      rw [hrw] at hqr
      cases hqr
    exact ⟨by rw [AHeap.put_get, if_neg hne]; exact hq, fun v t ht => hother _ fun hb => hne (hH.apart' hg hrw ht hs hb)⟩

def lset (l : List Value) (o : Nat) (vs : List Value) : List Value := l.take o ++ vs ++ l.drop (o + vs.length)
theorem lset_length {l : List Value} {o : Nat} {vs : List Value} (h : o + vs.length ≤ l.length) : (lset l o vs).length = l.length := by
  simp only [lset, List.length_append, List.length_take, List.length_drop]
  omega
theorem lset_get {l : List Value} {o : Nat} {vs : List Value} (h : o + vs.length ≤ l.length) (k : Nat) :
    (lset l o vs)[k]? = if k < o then l[k]? else if k < o + vs.length then vs[k - o]? else l[k]? := by
  have := seg_get (c := l.toArray) (o := o) (vs := vs) (by simpa using h) k
  simpa [seg, lset] using this

def AHeap.setCells (H : AHeap) (a : Addr) (vs : List Value) : Option AHeap :=
  (H.rowAt a).bind fun r => if r.rw && decide (a.off + vs.length ≤ r.cells.length) && vs.all Value.oneCell' then some (H.put a.block (.row { r with cells := lset r.cells a.off vs })) else none

theorem All2.all {ρ : Ren} : ∀ {xs ys : List Value}, VRs ρ xs ys → xs.all Value.oneCell' = true → ∀ y ∈ ys, y.oneCell' = true
  | _, _, .nil, _, y, hy => by simp at hy
  | _, _, .cons h1 h2, h, y, hy => by
    simp only [List.all_cons, Bool.and_eq_true] at h
    rcases List.mem_cons.1 hy with rfl | hy
    · rw [h1.oneCell]; exact h.1
    · exact All2.all h2 h.2 y hy

theorem setCells_sim {P : Program} {ρ : Ren} {H H' : AHeap} {w : World} (hH : RelH P ρ H w) {a b : Addr} (hp : PR ρ a b) {vs vs' : List Value} (h : H.setCells a vs = some H') (hv : VRs ρ vs vs') :
    ∃ w', (storeCells b vs').run P w = .ok () w' ∧ RelH P ρ H' w' ∧ Ext ρ H w ρ H' w' := by
  unfold AHeap.setCells at h
  simp only [Option.bind_eq_some_iff] at h
  obtain ⟨r, hr, h⟩ := h
  split at h
  case isFalse => cases h
  rename_i hc
  simp only [Bool.and_eq_true, decide_eq_true_eq] at hc
  obtain ⟨⟨hrw, hle⟩, hone⟩ := hc
  obtain rfl := Option.some.inj h
  obtain ⟨hg, hver⟩ := AHeap.rowAt_spec hr
  obtain ⟨s, hs, hlo, rfl⟩ := hp
  rw [hver] at hs
  obtain ⟨h1, h2, h3, c, fz, hc, hsz, hfit, hcells, hfz⟩ := hH.row _ _ hg s hs
  have hlen := hv.length
  have hbnd : s.base + (a.off - s.lo) + vs'.length ≤ c.size := by omega
  obtain ⟨g1, g2, g3, g4, g5⟩ := setCells_heap s.blk vs' (s.base + (a.off - s.lo)) w c r.elem fz hc hbnd
  have hst := run_storeCells_cells (P := P) s.blk (s.base + (a.off - s.lo)) vs' 0 w
    (fun j hj => by
      simp only [World.cell?, hc, Option.isSome_none, Bool.false_eq_true, if_false]
      rw [Array.getElem?_eq_getElem (by omega)]
      rfl)
    (fun j hj => by
      have := hfz hrw (s.base + (a.off - s.lo) + 0 + j) (by omega) (by omega)
      simp only [World.frozen?, hc, Bool.and_eq_false_iff, decide_eq_false_iff_not]
      by_cases h0 : fz.1 ≤ s.base + (a.off - s.lo) + 0 + j
      · exact .inr fun h => this ⟨h0, h⟩
      · exact .inl h0)
    (hv.all hone)
  simp only [Nat.add_zero] at hst
  refine ⟨_, hst, ?_⟩
  refine put_place (r' := { r with cells := lset r.cells a.off vs }) hH hg hrw rfl hs ?_ g2 g3 g4 g5
  have hll : (lset r.cells a.off vs).length = r.cells.length := lset_length hle
  refine ⟨by simp only [hll]; exact h1, h2, h3, _, fz, g1, (seg_size hbnd).trans hsz, hfit, fun i x hi hx => ?_, hfz⟩
  simp only at hx
  rw [lset_get hle] at hx
  rw [seg_get hbnd]
  by_cases c1 : i < a.off
  · rw [if_pos c1] at hx
    rw [if_pos (by omega)]
    exact hcells i x hi hx
  · rw [if_neg c1] at hx
    rw [if_neg (by omega)]
    by_cases c2 : i < a.off + vs.length
    · rw [if_pos c2] at hx
      rw [if_pos (by omega), show s.base + (i - s.lo) - (s.base + (a.off - s.lo)) = i - a.off by omega]
      exact hv.get _ x hx
    · rw [if_neg c2] at hx
      rw [if_neg (by omega)]
      exact hcells i x hi hx

def storeA (P : Program) (H : AHeap) (t : TypeId) (x v : Value) : Option AHeap :=
  match x, szT P t with
  | .pointer (some a), some n => if v.cells.size = n then H.setCells a v.cells.toList else none
  | _, _ => none
theorem storeA_sim {P : Program} {ρ : Ren} {H H' : AHeap} {w : World} (hH : RelH P ρ H w) {t : TypeId} {x x' v v' : Value} (h : storeA P H t x v = some H') (hx : VR ρ x x') (hv : VR ρ v v') :
    ∃ w', (Instr.storeAt t x' v').run P w = .ok () w' ∧ RelH P ρ H' w' ∧ Ext ρ H w ρ H' w' := by
  unfold storeA at h
  split at h
  · rename_i a n hs
    split at h
    · rename_i hsz
      cases hx with
      | ptr hp =>
        obtain ⟨w', h1, h2, h3⟩ := setCells_sim hH hp h hv.cells
        have hl := hv.cells.length
        simp only [Array.length_toList] at hl
        refine ⟨w', ?_, h2, h3⟩
        simp [Instr.storeAt, Instr.sureAddr, storeVar, run_sizeT hs, ← hl, hsz, h1]
    · cases h
  · cases h

end Go.Ae

/- append and copy over the abstract heap. No condition. -/
import Derived.Test.YtfhpgikgjheobaaAeEff
namespace Go.Ae

def srcD : TypeDesc → Bool
  | .slice _ | .string => true
  | _ => false

/-- How many elements, and their cells. -/
def srcA (H : AHeap) (k : Nat) (x : Value) : Option (Nat × List Value) :=
  match x with
  | .slice none 0 _ => some (0, [])
  | .slice (some a) n _ => if n = 0 then some (0, []) else (H.cellsAt a (n * k)).map fun l => (n, l)
  | .string s => if k = 1 then some (s.size, s.data.toList.map fun b => .int .u8 b.toNat) else none
  | _ => none
theorem srcA_sim {P : Program} {ρ : Ren} {H : AHeap} {w : World} (hH : RelH P ρ H w) {k n : Nat} {x x' : Value} {l : List Value} (h : srcA H k x = some (n, l)) (hx : VR ρ x x') :
    l.length = n * k ∧ ∃ l', VRs ρ l l' ∧ (∀ w1, (Builtin.lenOf x').run P w1 = .ok n w1) ∧ ∀ w1 : World, w1.heap = w.heap → (Builtin.firstCells k n x').run P w1 = .ok l'.toArray w1 := by
  unfold srcA at h
  split at h
  · simp only [Option.some.injEq, Prod.mk.injEq] at h
    obtain ⟨rfl, rfl⟩ := h
    cases hx
    exact ⟨by simp, [], .nil, fun w1 => by simp [Builtin.lenOf], fun w1 _ => by simp [Builtin.firstCells]⟩
  · rename_i a m c
    split at h
    · rename_i h0
      simp only [Option.some.injEq, Prod.mk.injEq] at h
      obtain ⟨rfl, rfl⟩ := h
      subst h0
      cases hx
      exact ⟨by simp, [], .nil, fun w1 => by simp [Builtin.lenOf], fun w1 _ => by simp [Builtin.firstCells, loadCells, loadCellsFrom]⟩
    · rename_i h0
      simp only [Option.map_eq_some_iff, Prod.mk.injEq] at h
      obtain ⟨l0, hl, rfl, rfl⟩ := h
      cases hx with
      | slice hp =>
        rename_i b cap'
        have hpr : PR ρ a b := by
          rcases hp with ⟨e1, _⟩ | ⟨_, _, hp⟩ | ⟨_, s, h1, h2, h3, _⟩
          · exact absurd e1 h0
          · exact hp
          · exact ⟨s, h1, h2, h3⟩
        obtain ⟨hn, l', hv, hc⟩ := cellsAt_sim hH hpr hl
        refine ⟨hn, l', hv, fun w1 => by simp [Builtin.lenOf], fun w1 hw => ?_⟩
        have hr := run_loadCells_list (P := P) w1 b l' (fun j v hj => by
          have := hc j v hj
          simp only [World.cell?, hw] at this ⊢
          exact this)
        rw [← hv.length, hn] at hr
        simpa [Builtin.firstCells] using hr
  · rename_i s
    split at h
    case isFalse => cases h
    rename_i hk
    subst hk
    simp only [Option.some.injEq, Prod.mk.injEq] at h
    obtain ⟨rfl, rfl⟩ := h
    cases hx
    refine ⟨by simp, _, VRs.of_simple (fun x hx => ?_), fun w1 => by simp [Builtin.lenOf], fun w1 _ => ?_⟩
    · simp only [List.mem_map] at hx
      obtain ⟨b, _, rfl⟩ := hx
      rfl
    · have : (s.extract 0 s.size) = s := by simp
      simp only [Builtin.firstCells, this, Sem.run_pure]
      congr 1
      apply Array.ext'
      simp
  · cases h

theorem run_append_room' {P : Program} {w w' : World} {t u ty e : TypeId} {du : TypeDesc} {k : Nat} (ht : P.underlying t = some (.slice e)) (hu : P.underlying u = some du) (hd : srcD du = true) (hs : szT P e = some k)
    {base : Option Addr} {sLen sCap n : Nat} {x' : Value} {l' : List Value} (hlen : ∀ w1, (Builtin.lenOf x').run P w1 = .ok n w1) (hfirst : (Builtin.firstCells k n x').run P w = .ok l'.toArray w)
    (hroom : sLen + n ≤ sCap) (hst : ∀ a, base = some a → (storeCells (a.add (sLen * k)) l').run P w = .ok () w') (hnone : base = none → w' = w) :
    (Builtin.append_ #[t, u] ty #[.slice base sLen sCap, x']).run P w = .ok (.slice base (sLen + n) sCap) w' := by
  cases base with
  | none =>
    obtain rfl := hnone rfl
    cases du <;> simp only [srcD, Bool.false_eq_true] at hd <;> simp [Builtin.append_, run_underlying ht, run_underlying hu, run_sizeT hs, hlen, hroom, hfirst]
  | some a =>
    have h1 := hst a rfl
    cases du <;> simp only [srcD, Bool.false_eq_true] at hd <;> simp [Builtin.append_, run_underlying ht, run_underlying hu, run_sizeT hs, hlen, hroom, hfirst, h1]

theorem run_append_grow' {P : Program} {w : World} {t u ty e : TypeId} {du : TypeDesc} {k by' : Nat} {zs : List Value} (ht : P.underlying t = some (.slice e)) (hu : P.underlying u = some du) (hd : srcD du = true)
    (hs : szT P e = some k) (hb : byT P e = some by') (hz : zeroT P e = some zs) {base : Option Addr} {sLen sCap n : Nat} {x' : Value} {o' l' : List Value}
    (hlen : ∀ w1, (Builtin.lenOf x').run P w1 = .ok n w1) (hfirst : ∀ w1 : World, w1.heap = w.heap → (Builtin.firstCells k n x').run P w1 = .ok l'.toArray w1)
    (hold : ∀ w1 : World, w1.heap = w.heap → (Builtin.firstCells k sLen (.slice base sLen sCap)).run P w1 = .ok o'.toArray w1)
    (hroom : sCap < sLen + n) (hby0 : 0 < by') (hby : (sLen + n) * by' ≤ 140737488355328) :
    ∃ cap, sLen + n ≤ cap ∧ (Builtin.append_ #[t, u] ty #[.slice base sLen sCap, x']).run P w =
      .ok (.slice (some ⟨w.heap.size, 0, none⟩) (sLen + n) cap) (w.drew.alloc (.cells (o' ++ l' ++ zrep (cap - (sLen + n)) zs).toArray e)) := by
  obtain ⟨i, z, h1, h2, rfl, h4, h5⟩ := zeroT_spec hz
  have hbi : i.bytes = by' := by simpa [byT, h1] using hb
  have hnl : sLen + n ≤ (sLen + n) * by' := Nat.le_mul_of_pos_right _ hby0
  have hng : ¬ (sLen + n ≤ sCap) := by omega
  have h63 : ¬ (9223372036854775807 < ((sLen : Int) + (n : Int))) := by omega
  have h48 : ¬ (281474976710656 < Builtin.nextslicecap (sLen + n) sCap * i.bytes) := by
    have := growslice_fits hroom hby
    rw [hbi]
    omega
  have hfo := hold w.drew rfl
  have hfn := hfirst w.drew rfl
  refine ⟨grownCap w (sLen + n) sCap e, grownCap_ge _ _ _ _, ?_⟩
  have hcells : ∀ c : Nat, (o'.toArray ++ l'.toArray ++ Builtin.zeroCells z.cells c) = (o' ++ l' ++ zrep c z.cells.toList).toArray := by
    intro c
    apply Array.ext'
    simp only [Array.toList_append, List.append_assoc]
    rw [← range_zrep]
    rfl
  rw [← hcells]
  cases du <;> simp only [srcD, Bool.false_eq_true] at hd <;>
    simp [Builtin.append_, run_underlying ht, run_underlying hu, run_sizeT hs, typeInfo, zeroValue, h1, h2, hlen, hng, h63, h48, hfo, hfn, Question.forced, newRow, grownCap] <;>
    rw [← Array.append_assoc] <;> simp

def oldA (H : AHeap) (a : Addr) (n : Nat) : Option (List Value) := if n = 0 then some [] else H.cellsAt a n

def appendA (P : Program) (H : AHeap) (t u : TypeId) (s x : Value) : Option (Value × AHeap) :=
  match P.underlying t, P.underlying u, s with
  | some (.slice e), some du, .slice base sLen sCap =>
    match srcD du, szT P e, byT P e, zeroT P e with
    | true, some (k + 1), some (b + 1), some _ =>
      match srcA H (k + 1) x with
      | none => none
      | some (n, news) =>
        if n = 0 then if sLen ≤ sCap then some (s, H) else none
        else if (sLen + n) * (b + 1) ≤ 140737488355328 then
          match base with
          | none => if sLen = 0 ∧ sCap = 0 then some (.slice (some ⟨H.next, 0, none⟩) n (openCap + (k + 1)), H.push (.row ⟨news, e, 0, true⟩)) else none
          | some a =>
            if sCap < openCap then
              if sLen + n ≤ sCap then (H.setCells (aadd a (sLen * (k + 1))) news).map fun H' => (.slice (some a) (sLen + n) sCap, H')
              else (oldA H a (sLen * (k + 1))).map fun olds => (.slice (some ⟨H.next, 0, none⟩) (sLen + n) (openCap + (k + 1)), H.push (.row ⟨olds ++ news, e, 0, true⟩))
            else if sCap = openCap + (k + 1) then
              match H.rowAt a with
              | none => none
              | some r =>
                if r.rw && r.elem == e && news.all Value.oneCell' then
                  if a.off + sLen * (k + 1) = r.cells.length then
                    some (.slice (some ⟨a.block, a.off, spotOf (r.ver + 1)⟩) (sLen + n) sCap, H.put a.block (.row { r with cells := r.cells ++ news, ver := r.ver + 1 }))
                  else (H.setCells (aadd a (sLen * (k + 1))) news).map fun H' => (.slice (some a) (sLen + n) sCap, H')
                else none
            else none
        else none
    | _, _, _, _ => none
  | _, _, _ => none

/-- A row grows: a new version of it, at the place s'. -/
theorem grow_place {P : Program} {ρ : Ren} {H : AHeap} {w : World} (hH : RelH P ρ H w) {i : Nat} {r r' : Row} (hg : H.get i = some (.row r)) (hrw : r.rw = true) (hv : r'.ver = r.ver + 1)
    {s0 : Seg} {v0 : Nat} (hs0 : ρ i v0 = some s0) {s' : Seg} {w' : World} (hblk : s'.blk = s0.blk ∨ s'.blk = w.heap.size) (hin : s'.blk < w'.heap.size)
    (hrow : RowOk P (ρ.set i r'.ver s') r' s' w') (hother : ∀ k, k < w.heap.size → k ≠ s'.blk → w'.heap[k]? = w.heap[k]?) (hsize : w.heap.size ≤ w'.heap.size) (hos : w'.os = w.os) (hout : w'.output = w.output) :
    RelH P (ρ.set i r'.ver s') (H.put i (.row r')) w' ∧ Ext ρ H w (ρ.set i r'.ver s') (H.put i (.row r')) w' := by
  have hi := (hH.dom i _ s0 hs0).1
  have hnone : ρ i r'.ver = none := hH.future i r _ hg (by omega)
  have hmono : ρ.le (ρ.set i r'.ver s') := Ren.le_set hnone _
  have hne : ∀ {j v t}, ρ j v = some t → j ≠ i → t.blk ≠ s'.blk := by
    intro j v t h hji he
    rcases hblk with hb | hb
    · exact hji (hH.apart' hg hrw h hs0 (he.trans hb))
    · have := (hH.dom j v t h).2; omega
  refine ⟨⟨fun j hj => ?_, fun j v t h => ?_, fun j l u v t t' h h' he => ?_, fun j q hq t h => ?_, fun j es cl hq t h => ?_, fun j q v hq hlt => ?_⟩,
    ⟨hmono, hsize, Nat.le_refl _, fun b hb hn => ?_, fun j v t h => ?_, fun j hj h => ⟨?_, fun v => ?_⟩, fun j q _ hq hqr => ?_, hos, hout⟩⟩
  · rw [AHeap.put_next] at hj
    rw [AHeap.put_get, if_neg (by omega)]
    exact hH.wf j hj
  · rcases Ren.set_cases h with ⟨e1, _, e3⟩ | h
    · exact ⟨by rw [AHeap.put_next]; omega, by rw [e3]; exact hin⟩
    · have := hH.dom j v t h
      exact ⟨this.1, by omega⟩
  · rcases Ren.set_cases h with ⟨e1, _, e3⟩ | g <;> rcases Ren.set_cases h' with ⟨e4, _, e6⟩ | g'
    · exact .inl (by rw [e1, e4])
    · by_cases hl : l = i
      · exact .inl (by rw [e1, hl])
      · rw [e3] at he; exact absurd he.symm (hne g' hl)
    · by_cases hl : j = i
      · exact .inl (by rw [e4, hl])
      · rw [e6] at he; exact absurd he (hne g hl)
    · exact (hH.apart j l u v t t' g g' he).imp id fun h => ⟨AHeap.ro_put hg hrw h.1, AHeap.ro_put hg hrw h.2⟩
  · rw [AHeap.put_get] at hq
    split at hq
    · rename_i he
      subst he
      obtain rfl : r' = q := by simpa using hq
      rw [Ren.set_same] at h
      obtain rfl := Option.some.inj h
      exact hrow
    · rename_i hji
      rcases Ren.set_cases h with ⟨e1, _, _⟩ | h
      · exact absurd e1 hji
      · exact (hH.row j q hq t h).mono hmono (hother _ (hH.dom _ _ _ h).2 (hne h hji))
  · rw [AHeap.put_get] at hq
    split at hq
    · cases hq
    · rename_i hji
      rcases Ren.set_cases h with ⟨e1, _, _⟩ | h
      · exact absurd e1 hji
      · exact (hH.map j es cl hq t h).mono hmono (hother _ (hH.dom _ _ _ h).2 (hne h hji))
  · rw [AHeap.put_get] at hq
    split at hq
    · rename_i he
      subst he
      obtain rfl : r' = q := by simpa using hq
      unfold Ren.set
      rw [if_neg (by rintro ⟨_, h⟩; omega)]
      exact hH.future j r v hg (by omega)
    · rename_i hji
      unfold Ren.set
      rw [if_neg (by rintro ⟨h, _⟩; exact hji h)]
      exact hH.future j q v hq hlt
  · refine hother b hb fun e => ?_
    rcases hblk with hb' | hb'
    · exact hn i v0 s0 hs0 (hb'.symm.trans e.symm)
    · omega
  · rcases Ren.set_cases h with ⟨_, _, e3⟩ | h
    · rcases hblk with hb | hb
      · exact .inl ⟨i, v0, s0, hs0, by rw [e3, hb]⟩
      · exact .inr (by rw [e3, hb]; exact Nat.le_refl _)
    · exact .inl ⟨j, v, t, h, rfl⟩
  · rw [AHeap.put_get, if_neg]
    rintro rfl
    rw [h v0] at hs0
    cases hs0
  · unfold Ren.set
    rw [if_neg, h v]
    rintro ⟨rfl, _⟩
    rw [h v0] at hs0
    cases hs0
  · have hji : j ≠ i := by
      rintro rfl
      rw [hg] at hq
      obtain rfl : r = q := by simpa using hq
      rw [hrw] at hqr
      cases hqr
    exact ⟨by rw [AHeap.put_get, if_neg hji]; exact hq, fun v t ht => hother _ (hH.dom j v t ht).2 (hne ht hji)⟩

end Go.Ae

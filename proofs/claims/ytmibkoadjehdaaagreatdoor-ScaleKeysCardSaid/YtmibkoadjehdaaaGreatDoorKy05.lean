/- append and copy over the abstract heap. No condition. -/
import Derived.Test.YtmibkoadjehdaaaGreatDoorKy04
set_option linter.unusedVariables false
set_option linter.unusedSimpArgs false
namespace Go.Ae

def srcD : TypeDesc → Bool
  | .slice _ | .string => true
  | _ => false

/-- How many elements, and their cells. -/
def srcA (H : AHeap) (k : Nat) (x : Value) : Option (Nat × List Value) :=
  match x with
  | .slice none 0 _ => some (0, [])
  | .slice (some a) n _ => if n = 0 then some (0, []) else (H.cellsAt a (n * k)).map fun l => (n, l)
  | .string s => if k = 1 then some (s.size, s.data.toList.map fun b => .int .u8 b.toNat) else none
  | _ => none
theorem srcA_sim {P : Program} {ρ : Ren} {H : AHeap} {w : World} (hH : RelH P ρ H w) {k n : Nat} {x x' : Value} {l : List Value} (h : srcA H k x = some (n, l)) (hx : VR ρ x x') :
    l.length = n * k ∧ ∃ l', VRs ρ l l' ∧ (∀ w1, (Builtin.lenOf x').run P w1 = .ok n w1) ∧ ∀ w1 : World, w1.heap = w.heap → (Builtin.firstCells k n x').run P w1 = .ok l'.toArray w1 := by
  unfold srcA at h
  split at h
  · simp only [Option.some.injEq, Prod.mk.injEq] at h
    obtain ⟨rfl, rfl⟩ := h
    cases hx
    exact ⟨by simp, [], .nil, fun w1 => by simp [Builtin.lenOf], fun w1 _ => by simp [Builtin.firstCells]⟩
  · rename_i a m c
    split at h
    · rename_i h0
      simp only [Option.some.injEq, Prod.mk.injEq] at h
      obtain ⟨rfl, rfl⟩ := h
      subst h0
      cases hx
      exact ⟨by simp, [], .nil, fun w1 => by simp [Builtin.lenOf], fun w1 _ => by simp [Builtin.firstCells, loadCells, loadCellsFrom]⟩
    · rename_i h0
      simp only [Option.map_eq_some_iff, Prod.mk.injEq] at h
      obtain ⟨l0, hl, rfl, rfl⟩ := h
      cases hx with
      | slice hp =>
        rename_i b cap'
        have hpr : PR ρ a b := by
          rcases hp with ⟨e1, _⟩ | ⟨_, _, hp⟩ | ⟨_, s, h1, h2, h3, _⟩
          · exact absurd e1 h0
          · exact hp
          · exact ⟨s, h1, h2, h3⟩
        obtain ⟨hn, l', hv, hc⟩ := cellsAt_sim hH hpr hl
        refine ⟨hn, l', hv, fun w1 => by simp [Builtin.lenOf], fun w1 hw => ?_⟩
        have hr := run_loadCells_list (P := P) w1 b l' (fun j v hj => by
          have := hc j v hj
          simp only [World.cell?, hw] at this ⊢
          exact this)
        rw [← hv.length, hn] at hr
        simpa [Builtin.firstCells] using hr
  · rename_i s
    split at h
    case isFalse => cases h
    rename_i hk
    subst hk
    simp only [Option.some.injEq, Prod.mk.injEq] at h
    obtain ⟨rfl, rfl⟩ := h
    cases hx
    refine ⟨by simp, _, VRs.of_simple (fun x hx => ?_), fun w1 => by simp [Builtin.lenOf], fun w1 _ => ?_⟩
    · simp only [List.mem_map] at hx
      obtain ⟨b, _, rfl⟩ := hx
      rfl
    · have : (s.extract 0 s.size) = s := by simp
      simp only [Builtin.firstCells, this, Sem.run_pure]
      congr 1
      apply Array.ext'
      simp
  · cases h

theorem run_append_room' {P : Program} {w w' : World} {t u ty e : TypeId} {du : TypeDesc} {k : Nat} (ht : P.underlying t = some (.slice e)) (hu : P.underlying u = some du) (hd : srcD du = true) (hs : szT P e = some k)
    {base : Option Addr} {sLen sCap n : Nat} {x' : Value} {l' : List Value} (hlen : ∀ w1, (Builtin.lenOf x').run P w1 = .ok n w1) (hfirst : (Builtin.firstCells k n x').run P w = .ok l'.toArray w)
    (hroom : sLen + n ≤ sCap) (hst : ∀ a, base = some a → (storeCells (a.add (sLen * k)) l').run P w = .ok () w') (hnone : base = none → w' = w) :
    (Builtin.append_ #[t, u] ty #[.slice base sLen sCap, x']).run P w = .ok (.slice base (sLen + n) sCap) w' := by
  cases base with
  | none =>
    obtain rfl := hnone rfl
    cases du <;> simp only [srcD, Bool.false_eq_true] at hd <;> simp [Builtin.append_, run_underlying ht, run_underlying hu, run_sizeT hs, hlen, hroom, hfirst]
  | some a =>
    have h1 := hst a rfl
    cases du <;> simp only [srcD, Bool.false_eq_true] at hd <;> simp [Builtin.append_, run_underlying ht, run_underlying hu, run_sizeT hs, hlen, hroom, hfirst, h1]

theorem run_append_grow' {P : Program} {w : World} {t u ty e : TypeId} {du : TypeDesc} {k by' : Nat} {zs : List Value} (ht : P.underlying t = some (.slice e)) (hu : P.underlying u = some du) (hd : srcD du = true)
    (hs : szT P e = some k) (hb : byT P e = some by') (hz : zeroT P e = some zs) {base : Option Addr} {sLen sCap n : Nat} {x' : Value} {o' l' : List Value}
    (hlen : ∀ w1, (Builtin.lenOf x').run P w1 = .ok n w1) (hfirst : ∀ w1 : World, w1.heap = w.heap → (Builtin.firstCells k n x').run P w1 = .ok l'.toArray w1)
    (hold : ∀ w1 : World, w1.heap = w.heap → (Builtin.firstCells k sLen (.slice base sLen sCap)).run P w1 = .ok o'.toArray w1)
    (hroom : sCap < sLen + n) (hby0 : 0 < by') (hby : (sLen + n) * by' ≤ 140737488355328) :
    ∃ cap, sLen + n ≤ cap ∧ (Builtin.append_ #[t, u] ty #[.slice base sLen sCap, x']).run P w =
      .ok (.slice (some ⟨w.heap.size, 0, none⟩) (sLen + n) cap) (w.drew.alloc (.cells (o' ++ l' ++ zrep (cap - (sLen + n)) zs).toArray e)) := by
  obtain ⟨i, z, h1, h2, rfl, h4, h5⟩ := zeroT_spec hz
  have hbi : i.bytes = by' := by simpa [byT, h1] using hb
  have hnl : sLen + n ≤ (sLen + n) * by' := Nat.le_mul_of_pos_right _ hby0
  have hng : ¬ (sLen + n ≤ sCap) := by omega
  have h63 : ¬ (9223372036854775807 < ((sLen : Int) + (n : Int))) := by omega
  have h48 : ¬ (281474976710656 < Builtin.nextslicecap (sLen + n) sCap * i.bytes) := by
    have := growslice_fits hroom hby
    rw [hbi]
    omega
  have hfo := hold w.drew rfl
  have hfn := hfirst w.drew rfl
  refine ⟨grownCap w (sLen + n) sCap e, grownCap_ge _ _ _ _, ?_⟩
  have hcells : ∀ c : Nat, (o'.toArray ++ l'.toArray ++ Builtin.zeroCells z.cells c) = (o' ++ l' ++ zrep c z.cells.toList).toArray := by
    intro c
    apply Array.ext'
    simp only [Array.toList_append, List.append_assoc]
    rw [← range_zrep]
    rfl
  rw [← hcells]
  cases du <;> simp only [srcD, Bool.false_eq_true] at hd <;>
    simp [Builtin.append_, run_underlying ht, run_underlying hu, run_sizeT hs, typeInfo, zeroValue, h1, h2, hlen, hng, h63, h48, hfo, hfn, Question.forced, newRow, grownCap] <;>
    rw [← Array.append_assoc] <;> simp

def oldA (H : AHeap) (a : Addr) (n : Nat) : Option (List Value) := if n = 0 then some [] else H.cellsAt a n

def appendA (P : Program) (H : AHeap) (t u : TypeId) (s x : Value) : Option (Value × AHeap) :=
  match P.underlying t, P.underlying u, s with
  | some (.slice e), some du, .slice base sLen sCap =>
    match srcD du, szT P e, byT P e, zeroT P e with
    | true, some (k + 1), some (b + 1), some _ =>
      match srcA H (k + 1) x with
      | none => none
      | some (n, news) =>
        if n = 0 then if sLen ≤ sCap then some (s, H) else none
        else if (sLen + n) * (b + 1) ≤ 140737488355328 then
          match base with
          | none => if sLen = 0 ∧ sCap = 0 then some (.slice (some ⟨H.next, 0, none⟩) n (openCap + (k + 1)), H.push (.row ⟨news, e, 0, true⟩)) else none
          | some a =>
            if sCap < openCap then
              if sLen + n ≤ sCap then (H.setCells (aadd a (sLen * (k + 1))) news).map fun H' => (.slice (some a) (sLen + n) sCap, H')
              else (oldA H a (sLen * (k + 1))).map fun olds => (.slice (some ⟨H.next, 0, none⟩) (sLen + n) (openCap + (k + 1)), H.push (.row ⟨olds ++ news, e, 0, true⟩))
            else if sCap = openCap + (k + 1) then
              match H.rowAt a with
              | none => none
              | some r =>
                if r.rw && r.elem == e && news.all Value.oneCell' then
                  if a.off + sLen * (k + 1) = r.cells.length then
                    some (.slice (some ⟨a.block, a.off, spotOf (r.ver + 1)⟩) (sLen + n) sCap, H.put a.block (.row { r with cells := r.cells ++ news, ver := r.ver + 1 }))
                  else (H.setCells (aadd a (sLen * (k + 1))) news).map fun H' => (.slice (some a) (sLen + n) sCap, H')
                else none
            else none
        else none
    | _, _, _, _ => none
  | _, _, _ => none

/-- A row grows: a new version of it, at the place s'. -/
theorem grow_place {P : Program} {ρ : Ren} {H : AHeap} {w : World} (hH : RelH P ρ H w) {i : Nat} {r r' : Row} (hg : H.get i = some (.row r)) (hrw : r.rw = true) (hv : r'.ver = r.ver + 1)
    {s0 : Seg} {v0 : Nat} (hs0 : ρ i v0 = some s0) {s' : Seg} {w' : World} (hblk : s'.blk = s0.blk ∨ s'.blk = w.heap.size) (hin : s'.blk < w'.heap.size)
    (hrow : RowOk P (ρ.set i r'.ver s') r' s' w') (hother : ∀ k, k < w.heap.size → k ≠ s'.blk → w'.heap[k]? = w.heap[k]?) (hsize : w.heap.size ≤ w'.heap.size) (hos : w'.os = w.os) (hout : w'.output = w.output) :
    RelH P (ρ.set i r'.ver s') (H.put i (.row r')) w' ∧ Ext ρ H w (ρ.set i r'.ver s') (H.put i (.row r')) w' := by
  have hi := (hH.dom i _ s0 hs0).1
  have hnone : ρ i r'.ver = none := hH.future i r _ hg (by omega)
  have hmono : ρ.le (ρ.set i r'.ver s') := Ren.le_set hnone _
  have hne : ∀ {j v t}, ρ j v = some t → j ≠ i → t.blk ≠ s'.blk := by
    intro j v t h hji he
    rcases hblk with hb | hb
    · exact hji (hH.apart' hg hrw h hs0 (he.trans hb))
    · have := (hH.dom j v t h).2; omega
  refine ⟨⟨fun j hj => ?_, fun j v t h => ?_, fun j l u v t t' h h' he => ?_, fun j q hq t h => ?_, fun j o hq ho t h => ?_, fun j q v hq hlt => ?_, hH.glob.mono hmono⟩,
    ⟨hmono, hsize, Nat.le_refl _, fun b hb hn => ?_, fun j v t h => ?_, fun j hj h => ⟨?_, fun v => ?_⟩, fun j q _ hq hqr => ?_, hos, hout⟩⟩
  · rw [AHeap.put_next] at hj
    rw [AHeap.put_get, if_neg (by omega)]
    exact hH.wf j hj
  · rcases Ren.set_cases h with ⟨e1, _, e3⟩ | h
    · exact ⟨by rw [AHeap.put_next]; omega, by rw [e3]; exact hin⟩
    · have := hH.dom j v t h
      exact ⟨this.1, by omega⟩
  · rcases Ren.set_cases h with ⟨e1, _, e3⟩ | g <;> rcases Ren.set_cases h' with ⟨e4, _, e6⟩ | g'
    · exact .inl (by rw [e1, e4])
    · by_cases hl : l = i
      · exact .inl (by rw [e1, hl])
      · rw [e3] at he; exact absurd he.symm (hne g' hl)
    · by_cases hl : j = i
      · exact .inl (by rw [e4, hl])
      · rw [e6] at he; exact absurd he (hne g hl)
    · exact (hH.apart j l u v t t' g g' he).imp id fun h => ⟨AHeap.ro_put hg hrw h.1, AHeap.ro_put hg hrw h.2⟩
  · rw [AHeap.put_get] at hq
    split at hq
    · rename_i he
      subst he
      obtain rfl : r' = q := by simpa using hq
      rw [Ren.set_same] at h
      obtain rfl := Option.some.inj h
      exact hrow
    · rename_i hji
      rcases Ren.set_cases h with ⟨e1, _, _⟩ | h
      · exact absurd e1 hji
      · exact (hH.row j q hq t h).mono hmono (hother _ (hH.dom _ _ _ h).2 (hne h hji))
  · rw [AHeap.put_get] at hq
    split at hq
    · obtain rfl := Option.some.inj hq; cases ho
    · rename_i hji
      rcases Ren.set_cases h with ⟨e1, _, _⟩ | h
      · exact absurd e1 hji
      · exact (hH.obj j o hq ho t h).mono hmono (hother _ (hH.dom _ _ _ h).2 (hne h hji))
  · rw [AHeap.put_get] at hq
    split at hq
    · rename_i he
      subst he
      obtain rfl : r' = q := by simpa using hq
      unfold Ren.set
      rw [if_neg (by rintro ⟨_, h⟩; omega)]
      exact hH.future j r v hg (by omega)
    · rename_i hji
      unfold Ren.set
      rw [if_neg (by rintro ⟨h, _⟩; exact hji h)]
      exact hH.future j q v hq hlt
  · refine hother b hb fun e => ?_
    rcases hblk with hb' | hb'
    · exact hn i v0 s0 hs0 (hb'.symm.trans e.symm)
    · omega
  · rcases Ren.set_cases h with ⟨_, _, e3⟩ | h
    · rcases hblk with hb | hb
      · exact .inl ⟨i, v0, s0, hs0, by rw [e3, hb]⟩
      · exact .inr (by rw [e3, hb]; exact Nat.le_refl _)
    · exact .inl ⟨j, v, t, h, rfl⟩
  · rw [AHeap.put_get, if_neg]
    rintro rfl
    rw [h v0] at hs0
    cases hs0
  · unfold Ren.set
    rw [if_neg, h v]
    rintro ⟨rfl, _⟩
    rw [h v0] at hs0
    cases hs0
  · have hji : j ≠ i := by
      rintro rfl
      rw [hg] at hq
      obtain rfl : r = q := by simpa using hq
      rw [hrw] at hqr
      cases hqr
    exact ⟨by rw [AHeap.put_get, if_neg hji]; exact hq, fun v t ht => hother _ (hH.dom j v t ht).2 (hne ht hji)⟩

end Go.Ae

/- append over the abstract heap is append over the model's: the proof. No condition. -/
namespace Go.Ae

theorem oldA_sim {P : Program} {ρ : Ren} {H : AHeap} {w : World} (hH : RelH P ρ H w) {a b : Addr} {n k len cap : Nat} {l : List Value} (h : oldA H a (n * k) = some l) (hk : 0 < k) (hp : n ≠ 0 → PR ρ a b) :
    l.length = n * k ∧ ∃ l', VRs ρ l l' ∧ ∀ w1 : World, w1.heap = w.heap → (Builtin.firstCells k n (.slice (some b) len cap)).run P w1 = .ok l'.toArray w1 := by
  unfold oldA at h
  split at h
  · rename_i h0
    obtain rfl := Option.some.inj h
    obtain rfl : n = 0 := by rcases Nat.mul_eq_zero.1 h0 with h | h <;> omega
    exact ⟨by simp, [], .nil, fun w1 _ => by simp [Builtin.firstCells, loadCells, loadCellsFrom]⟩
  · rename_i h0
    have hn0 : n ≠ 0 := fun e => h0 (by rw [e, Nat.zero_mul])
    obtain ⟨hn, l', hv, hc⟩ := cellsAt_sim hH (hp hn0) h
    refine ⟨hn, l', hv, fun w1 hw => ?_⟩
    have hr := run_loadCells_list (P := P) w1 b l' (fun j v hj => by
      have := hc j v hj
      simp only [World.cell?, hw] at this ⊢
      exact this)
    rw [← hv.length, hn] at hr
    simpa [Builtin.firstCells] using hr

theorem RelH.drew' {P : Program} {ρ : Ren} {H : AHeap} {w : World} (h : RelH P ρ H w) : RelH P ρ H w.drew := h.drew _

/-- A fresh row: what is appended to moves. -/
theorem fresh_sim {P : Program} {ρ : Ren} {H : AHeap} {w : World} (hH : RelH P ρ H w) {e : TypeId} {k need cap : Nat} {cells : List Value} {o' l' zs : List Value} (hs : szT P e = some k)
    (hv : VRs ρ cells (o' ++ l')) (hlen : cells.length = need * k) (hcap : need ≤ cap) (hz : zs.length = k) (hneed : need < openCap) :
    ∃ ρ', VR ρ' (.slice (some ⟨H.next, 0, none⟩) need (openCap + k)) (.slice (some ⟨w.heap.size, 0, none⟩) need cap) ∧
      RelH P ρ' (H.push (.row ⟨cells, e, 0, true⟩)) (w.drew.alloc (.cells (o' ++ l' ++ zrep (cap - need) zs).toArray e)) ∧
      Ext ρ H w ρ' (H.push (.row ⟨cells, e, 0, true⟩)) (w.drew.alloc (.cells (o' ++ l' ++ zrep (cap - need) zs).toArray e)) := by
  have hl := hv.length
  have hsize : (o' ++ l' ++ zrep (cap - need) zs).toArray.size = cap * k := by
    rw [List.size_toArray, List.length_append, zrep_length, hz, ← hl, hlen, ← Nat.add_mul]
    congr 1
    omega
  have hle : cells.length ≤ (o' ++ l' ++ zrep (cap - need) zs).toArray.size := by
    rw [List.size_toArray, List.length_append]; omega
  have h1 := place_new (P := P) (ρ := ρ) (H := H.push (.row ⟨cells, e, 0, true⟩)) (w := w.drew) (hH.drew'.push _) (n := H.next) (r := ⟨cells, e, 0, true⟩) (by simp [AHeap.push_get])
    (fun v => hH.noPlace (Nat.le_refl _) v) (by rw [AHeap.push_next]; omega) rfl hs (cs := (o' ++ l' ++ zrep (cap - need) zs).toArray) hle (by
      dsimp only
      rw [hl, List.take_left]
      exact hv)
  refine ⟨_, .slice (.inr (.inr ⟨Nat.le_add_right _ _, _, Ren.set_same _ _ _ _, Nat.zero_le _, ?_, rfl, hneed, hcap, ?_, ?_⟩)), h1.1, ?_⟩
  · simp [Seg.at]
  · simp only [Nat.zero_add, Nat.sub_zero, hlen]
    exact Nat.mul_le_mul_right _ hcap
  · simp only [Nat.zero_add, hsize]
    exact Nat.le_refl _
  · have h2 := (h1.2 H.next (Nat.le_refl _))
    have h3 : ExtN H.next ρ H w ρ (H.push (.row ⟨cells, e, 0, true⟩)) w.drew := (ExtN.drewRight _).trans (ExtN.push _ _ (Nat.le_refl _))
    exact h3.trans h2

theorem appendA_sim {P : Program} {ρ : Ren} {H H' : AHeap} {w : World} (hH : RelH P ρ H w) {t u ty : TypeId} {s s' x x' v : Value} (h : appendA P H t u s x = some (v, H')) (hsv : VR ρ s s') (hxv : VR ρ x x') :
    ∃ v' ρ' w', (Builtin.append_ #[t, u] ty #[s', x']).run P w = .ok v' w' ∧ VR ρ' v v' ∧ RelH P ρ' H' w' ∧ Ext ρ H w ρ' H' w' := by
  have hop : openCap = 9223372036854775808 := rfl
  unfold appendA at h
  split at h
  case h_2 => cases h
  rename_i e du base sLen sCap ht hu
  split at h
  case h_2 => cases h
  rename_i k b zs hd hs hb hz
  split at h
  · cases h
  rename_i n news hsrc
  obtain ⟨hnl, l', hvn, hlen, hfirst⟩ := srcA_sim (P := P) hH hsrc hxv
  obtain ⟨zi, zv, hz1, hz2, hz3, hz4, hz5⟩ := zeroT_spec hz
  have hzk : zs.length = k + 1 := by rw [hz5]; simpa [szT, hz1] using hs
  split at h
  · -- nothing is appended
    rename_i h0
    subst h0
    split at h
    case isFalse => cases h
    rename_i hle
    simp only [Option.some.injEq, Prod.mk.injEq] at h
    obtain ⟨rfl, rfl⟩ := h
    have hl0 : l' = [] := List.eq_nil_of_length_eq_zero (by rw [← hvn.length, hnl]; simp)
    subst hl0
    cases hsv with
    | nilslice =>
      exact ⟨_, ρ, w, run_append_room' ht hu hd hs hlen (hfirst w rfl) (by omega) (fun a ha => by cases ha) (fun _ => rfl), .nilslice _ _, hH, ExtN.refl _ _ _ _⟩
    | slice hp =>
      rename_i a a' cap'
      have hlc : sLen + 0 ≤ cap' := by
        rcases hp with ⟨e1, e2, _⟩ | ⟨_, e2, _⟩ | ⟨_, s, _, _, _, _, _, e2, _⟩ <;> omega
      exact ⟨_, ρ, w, run_append_room' ht hu hd hs hlen (hfirst w rfl) hlc (fun a ha => rfl) (fun _ => rfl), .slice hp, hH, ExtN.refl _ _ _ _⟩
  · rename_i hn0
    split at h
    case isFalse => cases h
    rename_i hby
    have hneed : sLen + n < openCap := by
      have : sLen + n ≤ (sLen + n) * (b + 1) := Nat.le_mul_of_pos_right _ (by omega)
      omega
    split at h
    · -- onto nil
      split at h
      case isFalse => cases h
      rename_i hnil
      obtain ⟨rfl, rfl⟩ := hnil
      simp only [Option.some.injEq, Prod.mk.injEq] at h
      obtain ⟨rfl, rfl⟩ := h
      cases hsv
      obtain ⟨cap, hcap, hrun⟩ := run_append_grow' (ty := ty) (sLen := 0) (sCap := 0) (base := none) (o' := []) ht hu hd hs hb hz hlen hfirst (fun w1 _ => by simp [Builtin.firstCells]) (by omega) (by omega) hby
      simp only [Nat.zero_add] at hrun hcap hneed
      obtain ⟨ρ', h1, h2, h3⟩ := fresh_sim (e := e) (o' := []) (l' := l') (zs := zs) hH hs (by simpa using hvn) hnl hcap hzk hneed
      exact ⟨_, ρ', _, hrun, h1, h2, h3⟩
    · rename_i a
      cases hsv with
      | slice hp =>
      rename_i a' cap'
      split at h
      · -- the capacity is known
        rename_i hclt
        have hcap : cap' = sCap := by rcases hp with ⟨e1, e2, e3⟩ | ⟨_, e2, _⟩ | ⟨e1, _⟩ <;> first | omega | (rcases e3 with e3 | ⟨s, _, _, _, e3⟩ <;> omega)
        have hpr : sLen ≠ 0 ∨ sCap ≠ 0 → PR ρ a a' := by
          intro hne
          rcases hp with ⟨e1, e2, _⟩ | ⟨_, _, hp⟩ | ⟨e1, _⟩
          · omega
          · exact hp
          · omega
        subst hcap
        split at h
        · rename_i hroom
          simp only [Option.map_eq_some_iff, Prod.mk.injEq] at h
          obtain ⟨H1, hset, rfl, rfl⟩ := h
          have hp' := hpr (by omega)
          obtain ⟨w', h1, h2, h3⟩ := setCells_sim hH (hp'.add (sLen * (k + 1))) hset hvn
          exact ⟨_, ρ, w', run_append_room' ht hu hd hs hlen (hfirst w rfl) hroom (fun q hq => by obtain rfl := Option.some.inj hq; exact h1) (fun h => by cases h),
            .slice (.inr (.inl ⟨hclt, rfl, hp'⟩)), h2, h3⟩
        · rename_i hroom
          simp only [Option.map_eq_some_iff, Prod.mk.injEq] at h
          obtain ⟨olds, hold, rfl, rfl⟩ := h
          obtain ⟨hol, o', hvo, hfo⟩ := oldA_sim (len := sLen) (cap := cap') hH hold (by omega) (fun h0 => hpr (.inl h0))
          obtain ⟨cap, hcap, hrun⟩ := run_append_grow' (ty := ty) ht hu hd hs hb hz hlen hfirst hfo (by omega) (by omega) hby
          obtain ⟨ρ', h1, h2, h3⟩ := fresh_sim (e := e) (o' := o') (l' := l') (zs := zs) hH hs (hvo.append hvn) (by rw [List.length_append, hol, hnl, Nat.add_mul]) hcap hzk hneed
          exact ⟨_, ρ', _, hrun, h1, h2, h3⟩
      · -- the capacity is not known
        rename_i hcge
        split at h
        case isFalse => cases h
        rename_i hceq
        split at h
        · cases h
        rename_i r hr
        obtain ⟨hg, hver⟩ := AHeap.rowAt_spec hr
        split at h
        case isFalse => cases h
        rename_i hcond
        simp only [Bool.and_eq_true, beq_iff_eq] at hcond
        obtain ⟨⟨hrw, helem⟩, hone⟩ := hcond
        -- where the row lies
        have hplace : ∃ s, ρ a.block (verOf a) = some s ∧ s.lo ≤ a.off ∧ s.esz = k + 1 ∧ ((sLen = 0 ∧ cap' = 0 ∧ s.hi ≤ a.off) ∨ (a' = s.at a.off ∧ sLen ≤ cap' ∧
            s.base + (s.hi - s.lo) ≤ a'.off + cap' * s.esz ∧ a'.off + cap' * s.esz ≤ s.sz)) := by
          rcases hp with ⟨e1, e2, e3⟩ | ⟨e1, _⟩ | ⟨_, s, e1, e2, e3, e4, _, e6, e7, e8⟩
          · rcases e3 with e3 | ⟨s, e3, e4, e5, e6⟩
            · omega
            · exact ⟨s, e3, e4, by omega, .inl ⟨e1, e2, e5⟩⟩
          · omega
          · exact ⟨s, e1, e2, by omega, .inr ⟨e3, e6, e7, e8⟩⟩
        obtain ⟨s, hsρ, hlo, hesz, hcase⟩ := hplace
        have hsρ' : ρ a.block r.ver = some s := hver ▸ hsρ
        obtain ⟨g1, g2, g3, c, fz, hc, hsz, hfit, hcells, hfz⟩ := hH.row _ _ hg s hsρ'
        split at h
        · -- the row grows
          rename_i hend
          simp only [Option.some.injEq, Prod.mk.injEq] at h
          obtain ⟨rfl, rfl⟩ := h
          have hnk : n * (k + 1) = news.length := hnl.symm
          have hmul : (sLen + n) * (k + 1) = sLen * (k + 1) + n * (k + 1) := Nat.add_mul _ _ _
          by_cases hroom : sLen + n ≤ cap'
          · -- in place
            rcases hcase with ⟨e1, e2, _⟩ | ⟨rfl, _, hb1, hb2⟩
            · omega
            have hoff : (s.at a.off).off = s.base + (a.off - s.lo) := rfl
            rw [hoff, hesz] at hb1 hb2
            have hcm : (sLen + n) * (k + 1) ≤ cap' * (k + 1) := Nat.mul_le_mul_right _ hroom
            have hadd : (s.at a.off).add (sLen * (k + 1)) = ⟨s.blk, s.base + (s.hi - s.lo), none⟩ := by
              rw [Seg.at_add s hlo]
              simp only [Seg.at, Addr.mk.injEq, and_true, true_and]
              omega
            have hvl := hvn.length
            have hbnd : s.base + (s.hi - s.lo) + l'.length ≤ c.size := by omega
            obtain ⟨k1, k2, k3, k4, k5⟩ := setCells_heap s.blk l' (s.base + (s.hi - s.lo)) w c r.elem fz hc hbnd
            have hst := run_storeCells_cells (P := P) s.blk (s.base + (s.hi - s.lo)) l' 0 w
              (fun j hj => by
                simp only [World.cell?, hc, Option.isSome_none, Bool.false_eq_true, if_false]
                rw [Array.getElem?_eq_getElem (by omega)]
                rfl)
              (fun j hj => by
                have := hfz hrw (s.base + (s.hi - s.lo) + 0 + j) (by omega) (by omega)
                simp only [World.frozen?, hc, Bool.and_eq_false_iff, decide_eq_false_iff_not]
                by_cases h0 : fz.1 ≤ s.base + (s.hi - s.lo) + 0 + j
                · exact .inr fun h => this ⟨h0, h⟩
                · exact .inl h0)
              (hvn.all hone)
            simp only [Nat.add_zero] at hst
            have hnone : ρ a.block (r.ver + 1) = none := hH.future _ r _ hg (by omega)
            have hrowok : RowOk P (ρ.set a.block (r.ver + 1) { s with hi := s.hi + news.length }) { r with cells := r.cells ++ news, ver := r.ver + 1 } { s with hi := s.hi + news.length } (w.setCells s.blk (s.base + (s.hi - s.lo)) l') := by
              refine ⟨by simp [g1], by dsimp only; omega, fun h => ⟨(g3 h).1, fun h0 => absurd h0 (Nat.succ_ne_zero _)⟩, _, fz, k1, (seg_size hbnd).trans hsz, by dsimp only; omega, fun i x hi hx => ?_, hfz⟩
              dsimp only at hi hx ⊢
              rw [seg_get hbnd]
              rw [List.getElem?_append] at hx
              split at hx
              · rename_i hlt
                rw [if_pos (by omega)]
                obtain ⟨y, hy, hvy⟩ := hcells i x hi hx
                exact ⟨y, hy, hvy.mono (Ren.le_set hnone _)⟩
              · rename_i hlt
                have hlt2 : i - r.cells.length < news.length := by
                  rcases Nat.lt_or_ge (i - r.cells.length) news.length with h | h
                  · exact h
                  · rw [List.getElem?_eq_none h] at hx; cases hx
                rw [if_neg (by omega), if_pos (by omega), show s.base + (i - s.lo) - (s.base + (s.hi - s.lo)) = i - r.cells.length by omega]
                obtain ⟨y, hy, hvy⟩ := hvn.get _ x hx
                exact ⟨y, hy, hvy.mono (Ren.le_set hnone _)⟩
            obtain ⟨q1, q2⟩ := grow_place (r' := { r with cells := r.cells ++ news, ver := r.ver + 1 }) (s' := { s with hi := s.hi + news.length }) hH hg hrw rfl hsρ (.inl rfl) (by rw [k3]; exact (hH.dom _ _ _ hsρ).2) hrowok
              (fun k _ hk => k2 k hk) (by omega) k4 k5
            refine ⟨_, _, _, run_append_room' ht hu hd hs hlen (hfirst w rfl) hroom (fun q hq => by obtain rfl := Option.some.inj hq; rw [hadd]; exact hst) (fun h => by cases h), ?_, q1, q2⟩
            refine .slice (.inr (.inr ⟨by omega, { s with hi := s.hi + news.length }, ?_, hlo, rfl, by dsimp only; omega, hneed, hroom, ?_, ?_⟩))
            · simp only [verOf_mk]
              exact Ren.set_same _ _ _ _
            · dsimp only; rw [hoff, hesz]; omega
            · dsimp only; rw [hoff, hesz]; omega
          · -- in a new block
            obtain ⟨hol, o', hvo, hfo⟩ : (r.cells.drop a.off).length = sLen * (k + 1) ∧ ∃ o', VRs ρ (r.cells.drop a.off) o' ∧
                ∀ w1 : World, w1.heap = w.heap → (Builtin.firstCells (k + 1) sLen (.slice (some a') sLen cap')).run P w1 = .ok o'.toArray w1 := by
              refine ⟨by rw [List.length_drop]; omega, ?_⟩
              have hold : oldA H a (sLen * (k + 1)) = some (r.cells.drop a.off) := by
                unfold oldA
                split
                · rename_i h0
                  rw [List.drop_eq_nil_of_le (by omega)]
                · simp only [AHeap.cellsAt, hr, Option.bind_some]
                  rw [if_pos (by omega), List.take_of_length_le (by rw [List.length_drop]; omega)]
              obtain ⟨_, o', h1, h2⟩ := oldA_sim (len := sLen) (cap := cap') (b := a') hH hold (by omega) (fun h0 => by
                rcases hcase with ⟨e1, _⟩ | ⟨e1, _⟩
                · exact absurd e1 h0
                · exact ⟨s, hsρ, hlo, e1⟩)
              exact ⟨o', h1, h2⟩
            obtain ⟨cap, hcap, hrun⟩ := run_append_grow' (ty := ty) ht hu hd hs hb hz hlen hfirst hfo (by omega) (by omega) hby
            have hvol := hvo.length
            have hvl := hvn.length
            have hsize : (o' ++ l' ++ zrep (cap - (sLen + n)) zs).toArray.size = cap * (k + 1) := by
              rw [List.size_toArray, List.length_append, List.length_append, zrep_length, hzk, ← hvol, ← hvl, hol, ← hnk, ← Nat.add_mul, ← Nat.add_mul]
              congr 1
              omega
            have hcm : (sLen + n) * (k + 1) ≤ cap * (k + 1) := Nat.mul_le_mul_right _ hcap
            have hnone : ρ a.block (r.ver + 1) = none := hH.future _ r _ hg (by omega)
            let s' : Seg := ⟨w.heap.size, 0, a.off, r.cells.length + news.length, cap * (k + 1), k + 1⟩
            have hheap : ∀ q, q < w.heap.size → (w.drew.alloc (.cells (o' ++ l' ++ zrep (cap - (sLen + n)) zs).toArray e)).heap[q]? = w.heap[q]? := fun q hq => by
              show (w.heap.push _)[q]? = _
              rw [Array.getElem?_push, if_neg (by omega)]
            have hrowok : RowOk P (ρ.set a.block (r.ver + 1) s') { r with cells := r.cells ++ news, ver := r.ver + 1 } s' (w.drew.alloc (.cells (o' ++ l' ++ zrep (cap - (sLen + n)) zs).toArray e)) := by
              refine ⟨by simp [s'], by simp only [s']; omega, fun _ => ⟨by show _ = some (k + 1); rw [← hesz]; exact (g3 hrw).1, fun h0 => absurd h0 (Nat.succ_ne_zero _)⟩, (o' ++ l' ++ zrep (cap - (sLen + n)) zs).toArray, (0, 0), ?_, hsize, by simp only [s']; omega, fun i x hi hx => ?_, fun _ q _ _ => by simp⟩
              · show (w.heap.push (Obj.cells _ e))[w.heap.size]? = some (Obj.cells _ r.elem (0, 0))
                rw [helem]
                simp
              · simp only [s'] at hi ⊢
                dsimp only at hx
                have hx' : (r.cells.drop a.off ++ news)[i - a.off]? = some x := by
                  rw [List.getElem?_append] at hx ⊢
                  rw [hol]
                  split at hx
                  · rename_i h1
                    rw [if_pos (by omega), List.getElem?_drop, ← hx]
                    congr 1
                    omega
                  · rename_i h1
                    rw [if_neg (by omega), ← hx]
                    congr 1
                    omega
                obtain ⟨y, hy, hvy⟩ := (hvo.append hvn).get _ x hx'
                refine ⟨y, ?_, hvy.mono (Ren.le_set hnone _)⟩
                have hlt : i - a.off < (o' ++ l').length := by
                  rcases Nat.lt_or_ge (i - a.off) (o' ++ l').length with h | h
                  · exact h
                  · rw [List.getElem?_eq_none h] at hy; cases hy
                rw [Nat.zero_add, List.getElem?_toArray, List.getElem?_append_left hlt]
                exact hy
            obtain ⟨q1, q2⟩ := grow_place (r' := { r with cells := r.cells ++ news, ver := r.ver + 1 }) (s' := s') hH hg hrw rfl hsρ (.inr rfl) (by show w.heap.size < (w.heap.push _).size; simp) hrowok
              (fun q hq _ => hheap q hq) (by show w.heap.size ≤ (w.heap.push _).size; simp) rfl rfl
            refine ⟨_, _, _, hrun, ?_, q1, q2⟩
            refine .slice (.inr (.inr ⟨by omega, s', ?_, Nat.le_refl _, ?_, by simp only [s']; omega, hneed, hcap, ?_, ?_⟩))
            · simp only [verOf_mk]
              exact Ren.set_same _ _ _ _
            · simp [Seg.at, s']
            · simp only [s']; omega
            · simp only [s']; omega
        · -- within what is known
          rename_i hend
          simp only [Option.map_eq_some_iff, Prod.mk.injEq] at h
          obtain ⟨H1, hset, rfl, rfl⟩ := h
          have hfits : a.off + sLen * (k + 1) + news.length ≤ r.cells.length := by
            unfold AHeap.setCells at hset
            have : H.rowAt (aadd a (sLen * (k + 1))) = some r := by
              unfold AHeap.rowAt
              simp [hg, hver]
            rw [this] at hset
            simp only [Option.bind_some] at hset
            split at hset
            · rename_i hc'
              simp only [Bool.and_eq_true, aadd_off] at hc'
              exact of_decide_eq_true hc'.1.2
            · cases hset
          have hnn : 0 < n * (k + 1) := Nat.mul_pos (by omega) (by omega)
          rcases hcase with ⟨e1, e2, e3⟩ | ⟨rfl, hlc, hb1, hb2⟩
          · rw [hnl] at hfits
            omega
          · have hpr : PR ρ a (s.at a.off) := ⟨s, hsρ, hlo, rfl⟩
            have hroom : sLen + n ≤ cap' := by
              have hoff : (s.at a.off).off = s.base + (a.off - s.lo) := rfl
              rw [hoff, hesz] at hb1
              have h1 : (sLen + n) * (k + 1) ≤ cap' * (k + 1) := by
                rw [Nat.add_mul]
                omega
              exact Nat.le_of_mul_le_mul_right h1 (by omega)
            obtain ⟨w', h1, h2, h3⟩ := setCells_sim hH (hpr.add (sLen * (k + 1))) hset hvn
            exact ⟨_, ρ, w', run_append_room' ht hu hd hs hlen (hfirst w rfl) hroom (fun q hq => by obtain rfl := Option.some.inj hq; exact h1) (fun h => by cases h),
              .slice (.inr (.inr ⟨by omega, s, hsρ, hlo, rfl, by omega, hneed, hroom, by assumption, by assumption⟩)), h2, h3⟩

end Go.Ae

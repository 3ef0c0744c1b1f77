/- append over the abstract heap is append over the model's: the proof. No condition. -/
import Derived.Test.YtfhpgikgjheobaaAeApp
namespace Go.Ae

theorem oldA_sim {P : Program} {ρ : Ren} {H : AHeap} {w : World} (hH : RelH P ρ H w) {a b : Addr} {n k len cap : Nat} {l : List Value} (h : oldA H a (n * k) = some l) (hk : 0 < k) (hp : n ≠ 0 → PR ρ a b) :
    l.length = n * k ∧ ∃ l', VRs ρ l l' ∧ ∀ w1 : World, w1.heap = w.heap → (Builtin.firstCells k n (.slice (some b) len cap)).run P w1 = .ok l'.toArray w1 := by
  unfold oldA at h
  split at h
  · rename_i h0
    obtain rfl := Option.some.inj h
    obtain rfl : n = 0 := by rcases Nat.mul_eq_zero.1 h0 with h | h <;> omega
    exact ⟨by simp, [], .nil, fun w1 _ => by simp [Builtin.firstCells, loadCells, loadCellsFrom]⟩
  · rename_i h0
    have hn0 : n ≠ 0 := fun e => h0 (by rw [e, Nat.zero_mul])
    obtain ⟨hn, l', hv, hc⟩ := cellsAt_sim hH (hp hn0) h
    refine ⟨hn, l', hv, fun w1 hw => ?_⟩
    have hr := run_loadCells_list (P := P) w1 b l' (fun j v hj => by
      have := hc j v hj
      simp only [World.cell?, hw] at this ⊢
      exact this)
    rw [← hv.length, hn] at hr
    simpa [Builtin.firstCells] using hr

theorem drew_heap (w : World) : w.drew.heap = w.heap := rfl
theorem RelH.drew' {P : Program} {ρ : Ren} {H : AHeap} {w : World} (h : RelH P ρ H w) : RelH P ρ H w.drew := h.drew _

/-- A fresh row: what is appended to moves. -/
theorem fresh_sim {P : Program} {ρ : Ren} {H : AHeap} {w : World} (hH : RelH P ρ H w) {e : TypeId} {k need cap : Nat} {cells : List Value} {o' l' zs : List Value} (hs : szT P e = some k)
    (hv : VRs ρ cells (o' ++ l')) (hlen : cells.length = need * k) (hcap : need ≤ cap) (hz : zs.length = k) (hneed : need < openCap) :
    ∃ ρ', VR ρ' (.slice (some ⟨H.next, 0, none⟩) need (openCap + k)) (.slice (some ⟨w.heap.size, 0, none⟩) need cap) ∧
      RelH P ρ' (H.push (.row ⟨cells, e, 0, true⟩)) (w.drew.alloc (.cells (o' ++ l' ++ zrep (cap - need) zs).toArray e)) ∧
      Ext ρ H w ρ' (H.push (.row ⟨cells, e, 0, true⟩)) (w.drew.alloc (.cells (o' ++ l' ++ zrep (cap - need) zs).toArray e)) := by
  have hl := hv.length
  have hsize : (o' ++ l' ++ zrep (cap - need) zs).toArray.size = cap * k := by
    rw [List.size_toArray, List.length_append, zrep_length, hz, ← hl, hlen, ← Nat.add_mul]
    congr 1
    omega
  have hle : cells.length ≤ (o' ++ l' ++ zrep (cap - need) zs).toArray.size := by
    rw [List.size_toArray, List.length_append]; omega
  have h1 := place_new (P := P) (ρ := ρ) (H := H.push (.row ⟨cells, e, 0, true⟩)) (w := w.drew) (hH.drew'.push _) (n := H.next) (r := ⟨cells, e, 0, true⟩) (by simp [AHeap.push_get])
    (fun v => hH.noPlace (Nat.le_refl _) v) (by rw [AHeap.push_next]; omega) rfl hs (cs := (o' ++ l' ++ zrep (cap - need) zs).toArray) hle (by
      dsimp only
      rw [hl, List.take_left]
      exact hv)
  refine ⟨_, .slice (.inr (.inr ⟨Nat.le_add_right _ _, _, Ren.set_same _ _ _ _, Nat.zero_le _, ?_, rfl, hneed, hcap, ?_, ?_⟩)), h1.1, ?_⟩
  · simp [Seg.at]
  · simp only [Nat.zero_add, Nat.sub_zero, hlen]
    exact Nat.mul_le_mul_right _ hcap
  · simp only [Nat.zero_add, hsize]
    exact Nat.le_refl _
  · have h2 := (h1.2 H.next (Nat.le_refl _))
    have h3 : ExtN H.next ρ H w ρ (H.push (.row ⟨cells, e, 0, true⟩)) w.drew := (ExtN.drewRight _).trans (ExtN.push _ _ (Nat.le_refl _))
    exact h3.trans h2

theorem appendA_sim {P : Program} {ρ : Ren} {H H' : AHeap} {w : World} (hH : RelH P ρ H w) {t u ty : TypeId} {s s' x x' v : Value} (h : appendA P H t u s x = some (v, H')) (hsv : VR ρ s s') (hxv : VR ρ x x') :
    ∃ v' ρ' w', (Builtin.append_ #[t, u] ty #[s', x']).run P w = .ok v' w' ∧ VR ρ' v v' ∧ RelH P ρ' H' w' ∧ Ext ρ H w ρ' H' w' := by
  have hop : openCap = 9223372036854775808 := rfl
  unfold appendA at h
  split at h
  case h_2 => cases h
  rename_i e du base sLen sCap ht hu
  split at h
  case h_2 => cases h
  rename_i k b zs hd hs hb hz
  split at h
  · cases h
  rename_i n news hsrc
  obtain ⟨hnl, l', hvn, hlen, hfirst⟩ := srcA_sim (P := P) hH hsrc hxv
  obtain ⟨zi, zv, hz1, hz2, hz3, hz4, hz5⟩ := zeroT_spec hz
  have hzk : zs.length = k + 1 := by rw [hz5]; simpa [szT, hz1] using hs
  split at h
  · -- nothing is appended
    rename_i h0
    subst h0
    split at h
    case isFalse => cases h
    rename_i hle
    simp only [Option.some.injEq, Prod.mk.injEq] at h
    obtain ⟨rfl, rfl⟩ := h
    have hl0 : l' = [] := List.eq_nil_of_length_eq_zero (by rw [← hvn.length, hnl]; simp)
    subst hl0
    cases hsv with
    | nilslice =>
      exact ⟨_, ρ, w, run_append_room' ht hu hd hs hlen (hfirst w rfl) (by omega) (fun a ha => by cases ha) (fun _ => rfl), .nilslice _ _, hH, ExtN.refl _ _ _ _⟩
    | slice hp =>
      rename_i a a' cap'
      have hlc : sLen + 0 ≤ cap' := by
        rcases hp with ⟨e1, e2, _⟩ | ⟨_, e2, _⟩ | ⟨_, s, _, _, _, _, _, e2, _⟩ <;> omega
      exact ⟨_, ρ, w, run_append_room' ht hu hd hs hlen (hfirst w rfl) hlc (fun a ha => rfl) (fun _ => rfl), .slice hp, hH, ExtN.refl _ _ _ _⟩
  · rename_i hn0
    split at h
    case isFalse => cases h
    rename_i hby
    have hneed : sLen + n < openCap := by
      have : sLen + n ≤ (sLen + n) * (b + 1) := Nat.le_mul_of_pos_right _ (by omega)
      omega
    split at h
    · -- onto nil
      split at h
      case isFalse => cases h
      rename_i hnil
      obtain ⟨rfl, rfl⟩ := hnil
      simp only [Option.some.injEq, Prod.mk.injEq] at h
      obtain ⟨rfl, rfl⟩ := h
      cases hsv
      obtain ⟨cap, hcap, hrun⟩ := run_append_grow' (ty := ty) (sLen := 0) (sCap := 0) (base := none) (o' := []) ht hu hd hs hb hz hlen hfirst (fun w1 _ => by simp [Builtin.firstCells]) (by omega) (by omega) hby
      simp only [Nat.zero_add] at hrun hcap hneed
      obtain ⟨ρ', h1, h2, h3⟩ := fresh_sim (e := e) (o' := []) (l' := l') (zs := zs) hH hs (by simpa using hvn) hnl hcap hzk hneed
      exact ⟨_, ρ', _, hrun, h1, h2, h3⟩
    · rename_i a
      cases hsv with
      | slice hp =>
      rename_i a' cap'
      split at h
      · -- the capacity is known
        rename_i hclt
        have hcap : cap' = sCap := by rcases hp with ⟨e1, e2, e3⟩ | ⟨_, e2, _⟩ | ⟨e1, _⟩ <;> first | omega | (rcases e3 with e3 | ⟨s, _, _, _, e3⟩ <;> omega)
        have hpr : sLen ≠ 0 ∨ sCap ≠ 0 → PR ρ a a' := by
          intro hne
          rcases hp with ⟨e1, e2, _⟩ | ⟨_, _, hp⟩ | ⟨e1, _⟩
          · omega
          · exact hp
          · omega
        subst hcap
        split at h
        · rename_i hroom
          simp only [Option.map_eq_some_iff, Prod.mk.injEq] at h
          obtain ⟨H1, hset, rfl, rfl⟩ := h
          have hp' := hpr (by omega)
          obtain ⟨w', h1, h2, h3⟩ := setCells_sim hH (hp'.add (sLen * (k + 1))) hset hvn
          exact ⟨_, ρ, w', run_append_room' ht hu hd hs hlen (hfirst w rfl) hroom (fun q hq => by obtain rfl := Option.some.inj hq; exact h1) (fun h => by cases h),
            .slice (.inr (.inl ⟨hclt, rfl, hp'⟩)), h2, h3⟩
        · rename_i hroom
          simp only [Option.map_eq_some_iff, Prod.mk.injEq] at h
          obtain ⟨olds, hold, rfl, rfl⟩ := h
          obtain ⟨hol, o', hvo, hfo⟩ := oldA_sim (len := sLen) (cap := cap') hH hold (by omega) (fun h0 => hpr (.inl h0))
          obtain ⟨cap, hcap, hrun⟩ := run_append_grow' (ty := ty) ht hu hd hs hb hz hlen hfirst hfo (by omega) (by omega) hby
          obtain ⟨ρ', h1, h2, h3⟩ := fresh_sim (e := e) (o' := o') (l' := l') (zs := zs) hH hs (hvo.append hvn) (by rw [List.length_append, hol, hnl, Nat.add_mul]) hcap hzk hneed
          exact ⟨_, ρ', _, hrun, h1, h2, h3⟩
      · -- the capacity is not known
        rename_i hcge
        split at h
        case isFalse => cases h
        rename_i hceq
        split at h
        · cases h
        rename_i r hr
        obtain ⟨hg, hver⟩ := AHeap.rowAt_spec hr
        split at h
        case isFalse => cases h
        rename_i hcond
        simp only [Bool.and_eq_true, beq_iff_eq] at hcond
        obtain ⟨⟨hrw, helem⟩, hone⟩ := hcond
        -- where the row lies
        have hplace : ∃ s, ρ a.block (verOf a) = some s ∧ s.lo ≤ a.off ∧ s.esz = k + 1 ∧ ((sLen = 0 ∧ cap' = 0 ∧ s.hi ≤ a.off) ∨ (a' = s.at a.off ∧ sLen ≤ cap' ∧
            s.base + (s.hi - s.lo) ≤ a'.off + cap' * s.esz ∧ a'.off + cap' * s.esz ≤ s.sz)) := by
          rcases hp with ⟨e1, e2, e3⟩ | ⟨e1, _⟩ | ⟨_, s, e1, e2, e3, e4, _, e6, e7, e8⟩
          · rcases e3 with e3 | ⟨s, e3, e4, e5, e6⟩
            · omega
            · exact ⟨s, e3, e4, by omega, .inl ⟨e1, e2, e5⟩⟩
          · omega
          · exact ⟨s, e1, e2, by omega, .inr ⟨e3, e6, e7, e8⟩⟩
        obtain ⟨s, hsρ, hlo, hesz, hcase⟩ := hplace
        have hsρ' : ρ a.block r.ver = some s := hver ▸ hsρ
        obtain ⟨g1, g2, g3, c, fz, hc, hsz, hfit, hcells, hfz⟩ := hH.row _ _ hg s hsρ'
        split at h
        · -- the row grows
          rename_i hend
          simp only [Option.some.injEq, Prod.mk.injEq] at h
          obtain ⟨rfl, rfl⟩ := h
          have hnk : n * (k + 1) = news.length := hnl.symm
          have hmul : (sLen + n) * (k + 1) = sLen * (k + 1) + n * (k + 1) := Nat.add_mul _ _ _
          by_cases hroom : sLen + n ≤ cap'
          · -- in place
            rcases hcase with ⟨e1, e2, _⟩ | ⟨rfl, _, hb1, hb2⟩
            · omega
            have hoff : (s.at a.off).off = s.base + (a.off - s.lo) := rfl
            rw [hoff, hesz] at hb1 hb2
            have hcm : (sLen + n) * (k + 1) ≤ cap' * (k + 1) := Nat.mul_le_mul_right _ hroom
            have hadd : (s.at a.off).add (sLen * (k + 1)) = ⟨s.blk, s.base + (s.hi - s.lo), none⟩ := by
              rw [Seg.at_add s hlo]
              simp only [Seg.at, Addr.mk.injEq, and_true, true_and]
              omega
            have hvl := hvn.length
            have hbnd : s.base + (s.hi - s.lo) + l'.length ≤ c.size := by omega
            obtain ⟨k1, k2, k3, k4, k5⟩ := setCells_heap s.blk l' (s.base + (s.hi - s.lo)) w c r.elem fz hc hbnd
            have hst := run_storeCells_cells (P := P) s.blk (s.base + (s.hi - s.lo)) l' 0 w
              (fun j hj => by
                simp only [World.cell?, hc, Option.isSome_none, Bool.false_eq_true, if_false]
                rw [Array.getElem?_eq_getElem (by omega)]
                rfl)
              (fun j hj => by
                have := hfz hrw (s.base + (s.hi - s.lo) + 0 + j) (by omega) (by omega)
                simp only [World.frozen?, hc, Bool.and_eq_false_iff, decide_eq_false_iff_not]
                by_cases h0 : fz.1 ≤ s.base + (s.hi - s.lo) + 0 + j
                · exact .inr fun h => this ⟨h0, h⟩
                · exact .inl h0)
              (hvn.all hone)
            simp only [Nat.add_zero] at hst
            have hnone : ρ a.block (r.ver + 1) = none := hH.future _ r _ hg (by omega)
            have hrowok : RowOk P (ρ.set a.block (r.ver + 1) { s with hi := s.hi + news.length }) { r with cells := r.cells ++ news, ver := r.ver + 1 } { s with hi := s.hi + news.length } (w.setCells s.blk (s.base + (s.hi - s.lo)) l') := by
              refine ⟨by simp [g1], by dsimp only; omega, g3, _, fz, k1, (seg_size hbnd).trans hsz, by dsimp only; omega, fun i x hi hx => ?_, hfz⟩
              dsimp only at hi hx ⊢
              rw [seg_get hbnd]
              rw [List.getElem?_append] at hx
              split at hx
              · rename_i hlt
                rw [if_pos (by omega)]
                obtain ⟨y, hy, hvy⟩ := hcells i x hi hx
                exact ⟨y, hy, hvy.mono (Ren.le_set hnone _)⟩
              · rename_i hlt
                have hlt2 : i - r.cells.length < news.length := by
                  rcases Nat.lt_or_ge (i - r.cells.length) news.length with h | h
                  · exact h
                  · rw [List.getElem?_eq_none h] at hx; cases hx
                rw [if_neg (by omega), if_pos (by omega), show s.base + (i - s.lo) - (s.base + (s.hi - s.lo)) = i - r.cells.length by omega]
                obtain ⟨y, hy, hvy⟩ := hvn.get _ x hx
                exact ⟨y, hy, hvy.mono (Ren.le_set hnone _)⟩
            obtain ⟨q1, q2⟩ := grow_place (r' := { r with cells := r.cells ++ news, ver := r.ver + 1 }) (s' := { s with hi := s.hi + news.length }) hH hg hrw rfl hsρ (.inl rfl) (by rw [k3]; exact (hH.dom _ _ _ hsρ).2) hrowok
              (fun k _ hk => k2 k hk) (by omega) k4 k5
            refine ⟨_, _, _, run_append_room' ht hu hd hs hlen (hfirst w rfl) hroom (fun q hq => by obtain rfl := Option.some.inj hq; rw [hadd]; exact hst) (fun h => by cases h), ?_, q1, q2⟩
            refine .slice (.inr (.inr ⟨by omega, { s with hi := s.hi + news.length }, ?_, hlo, rfl, by dsimp only; omega, hneed, hroom, ?_, ?_⟩))
            · simp only [verOf_mk]
              exact Ren.set_same _ _ _ _
            · dsimp only; rw [hoff, hesz]; omega
            · dsimp only; rw [hoff, hesz]; omega
          · -- in a new block
            obtain ⟨hol, o', hvo, hfo⟩ : (r.cells.drop a.off).length = sLen * (k + 1) ∧ ∃ o', VRs ρ (r.cells.drop a.off) o' ∧
                ∀ w1 : World, w1.heap = w.heap → (Builtin.firstCells (k + 1) sLen (.slice (some a') sLen cap')).run P w1 = .ok o'.toArray w1 := by
              refine ⟨by rw [List.length_drop]; omega, ?_⟩
              have hold : oldA H a (sLen * (k + 1)) = some (r.cells.drop a.off) := by
                unfold oldA
                split
                · rename_i h0
                  rw [List.drop_eq_nil_of_le (by omega)]
                · simp only [AHeap.cellsAt, hr, Option.bind_some]
                  rw [if_pos (by omega), List.take_of_length_le (by rw [List.length_drop]; omega)]
              obtain ⟨_, o', h1, h2⟩ := oldA_sim (len := sLen) (cap := cap') (b := a') hH hold (by omega) (fun h0 => by
                rcases hcase with ⟨e1, _⟩ | ⟨e1, _⟩
                · exact absurd e1 h0
                · exact ⟨s, hsρ, hlo, e1⟩)
              exact ⟨o', h1, h2⟩
            obtain ⟨cap, hcap, hrun⟩ := run_append_grow' (ty := ty) ht hu hd hs hb hz hlen hfirst hfo (by omega) (by omega) hby
            have hvol := hvo.length
            have hvl := hvn.length
            have hsize : (o' ++ l' ++ zrep (cap - (sLen + n)) zs).toArray.size = cap * (k + 1) := by
              rw [List.size_toArray, List.length_append, List.length_append, zrep_length, hzk, ← hvol, ← hvl, hol, ← hnk, ← Nat.add_mul, ← Nat.add_mul]
              congr 1
              omega
            have hcm : (sLen + n) * (k + 1) ≤ cap * (k + 1) := Nat.mul_le_mul_right _ hcap
            have hnone : ρ a.block (r.ver + 1) = none := hH.future _ r _ hg (by omega)
            let s' : Seg := ⟨w.heap.size, 0, a.off, r.cells.length + news.length, cap * (k + 1), k + 1⟩
            have hheap : ∀ q, q < w.heap.size → (w.drew.alloc (.cells (o' ++ l' ++ zrep (cap - (sLen + n)) zs).toArray e)).heap[q]? = w.heap[q]? := fun q hq => by
              show (w.heap.push _)[q]? = _
              rw [Array.getElem?_push, if_neg (by omega)]
            have hrowok : RowOk P (ρ.set a.block (r.ver + 1) s') { r with cells := r.cells ++ news, ver := r.ver + 1 } s' (w.drew.alloc (.cells (o' ++ l' ++ zrep (cap - (sLen + n)) zs).toArray e)) := by
              refine ⟨by simp [s'], by simp only [s']; omega, by intro _; show _ = some (k + 1); rw [← hesz]; exact g3 hrw, (o' ++ l' ++ zrep (cap - (sLen + n)) zs).toArray, (0, 0), ?_, hsize, by simp only [s']; omega, fun i x hi hx => ?_, fun _ q _ _ => by simp⟩
              · show (w.heap.push (Obj.cells _ e))[w.heap.size]? = some (Obj.cells _ r.elem (0, 0))
                rw [helem]
                simp
              · simp only [s'] at hi ⊢
                dsimp only at hx
                have hx' : (r.cells.drop a.off ++ news)[i - a.off]? = some x := by
                  rw [List.getElem?_append] at hx ⊢
                  rw [hol]
                  split at hx
                  · rename_i h1
                    rw [if_pos (by omega), List.getElem?_drop, ← hx]
                    congr 1
                    omega
                  · rename_i h1
                    rw [if_neg (by omega), ← hx]
                    congr 1
                    omega
                obtain ⟨y, hy, hvy⟩ := (hvo.append hvn).get _ x hx'
                refine ⟨y, ?_, hvy.mono (Ren.le_set hnone _)⟩
                have hlt : i - a.off < (o' ++ l').length := by
                  rcases Nat.lt_or_ge (i - a.off) (o' ++ l').length with h | h
                  · exact h
                  · rw [List.getElem?_eq_none h] at hy; cases hy
                rw [Nat.zero_add, List.getElem?_toArray, List.getElem?_append_left hlt]
                exact hy
            obtain ⟨q1, q2⟩ := grow_place (r' := { r with cells := r.cells ++ news, ver := r.ver + 1 }) (s' := s') hH hg hrw rfl hsρ (.inr rfl) (by show w.heap.size < (w.heap.push _).size; simp) hrowok
              (fun q hq _ => hheap q hq) (by show w.heap.size ≤ (w.heap.push _).size; simp) rfl rfl
            refine ⟨_, _, _, hrun, ?_, q1, q2⟩
            refine .slice (.inr (.inr ⟨by omega, s', ?_, Nat.le_refl _, ?_, by simp only [s']; omega, hneed, hcap, ?_, ?_⟩))
            · simp only [verOf_mk]
              exact Ren.set_same _ _ _ _
            · simp [Seg.at, s']
            · simp only [s']; omega
            · simp only [s']; omega
        · -- within what is known
          rename_i hend
          simp only [Option.map_eq_some_iff, Prod.mk.injEq] at h
          obtain ⟨H1, hset, rfl, rfl⟩ := h
          have hfits : a.off + sLen * (k + 1) + news.length ≤ r.cells.length := by
            unfold AHeap.setCells at hset
            have : H.rowAt (aadd a (sLen * (k + 1))) = some r := by
              unfold AHeap.rowAt
              simp [hg, hver]
            rw [this] at hset
            simp only [Option.bind_some] at hset
            split at hset
            · rename_i hc'
              simp only [Bool.and_eq_true, aadd_off] at hc'
              exact of_decide_eq_true hc'.1.2
            · cases hset
          have hnn : 0 < n * (k + 1) := Nat.mul_pos (by omega) (by omega)
          rcases hcase with ⟨e1, e2, e3⟩ | ⟨rfl, hlc, hb1, hb2⟩
          · rw [hnl] at hfits
            omega
          · have hpr : PR ρ a (s.at a.off) := ⟨s, hsρ, hlo, rfl⟩
            have hroom : sLen + n ≤ cap' := by
              have hoff : (s.at a.off).off = s.base + (a.off - s.lo) := rfl
              rw [hoff, hesz] at hb1
              have h1 : (sLen + n) * (k + 1) ≤ cap' * (k + 1) := by
                rw [Nat.add_mul]
                omega
              exact Nat.le_of_mul_le_mul_right h1 (by omega)
            obtain ⟨w', h1, h2, h3⟩ := setCells_sim hH (hpr.add (sLen * (k + 1))) hset hvn
            exact ⟨_, ρ, w', run_append_room' ht hu hd hs hlen (hfirst w rfl) hroom (fun q hq => by obtain rfl := Option.some.inj hq; exact h1) (fun h => by cases h),
              .slice (.inr (.inr ⟨by omega, s, hsρ, hlo, rfl, by omega, hneed, hroom, by assumption, by assumption⟩)), h2, h3⟩

end Go.Ae

/- Slices of one's own that grow, of any elements. No condition. -/
import Derived.Test.YtmibkoadjehdaaaGreatDoorAeFrame
namespace Go.Ae

/-- A slice that can be read and laid on: n elements of k cells. -/
def Opn (H : AHeap) (F : Blks) (e k : Nat) (sv : Value) (n : Nat) (cells : List Value) : Prop :=
  (sv = .slice none 0 0 ∧ n = 0 ∧ cells = []) ∨
  ∃ ad c r, sv = .slice (some ad) n c ∧ F ad.block ∧ ad.block < H.next ∧ H.get ad.block = some (.row r) ∧ verOf ad = r.ver ∧ r.elem = e ∧ ad.off + n * k ≤ r.cells.length ∧
    (r.cells.drop ad.off).take (n * k) = cells ∧ r.rw = true ∧ (c = n ∨ c = openCap + k ∧ ad.off + n * k = r.cells.length)
section
variable {F G : Blks} {H H' : AHeap} {sv : Value} {P : Program} {e k n : Nat} {cells : List Value}
theorem Opn.nil : Opn H F e k (.slice none 0 0) 0 [] := .inl ⟨rfl, rfl, rfl⟩
theorem Opn.rd (h : Opn H F e k sv n cells) : Rd H F k sv n cells := by
  rcases h with ⟨rfl, rfl, rfl⟩ | ⟨ad, c, r, rfl, hF, hlt, hg, hv, he, hle, ht, _⟩
  · exact .empty _ _
  · by_cases h0 : n = 0
    · subst h0
      rw [Nat.zero_mul, List.take_zero] at ht
      subst ht
      exact .empty _ _
    · exact .full ad _ c _ h0 hF hlt (by rw [cellsAt_get hg hv hle, ht])
theorem Opn.keep (h : Opn H F e k sv n cells) (hk : Keep G H H') (hd : ∀ b, b < H.next → F b → (∀ r, H.get b = some (.row r) → r.elem = e) → ¬ G b) : Opn H' F e k sv n cells := by
  rcases h with ⟨rfl, rfl, rfl⟩ | ⟨ad, c, r, rfl, hF, hlt, hg, hv, he, hle, ht, ho⟩
  · exact .inl ⟨rfl, rfl, rfl⟩
  · refine .inr ⟨ad, c, r, rfl, hF, Nat.lt_of_lt_of_le hlt hk.1, hk.get hg hlt (hd _ hlt hF fun r' hr' => ?_), hv, he, hle, ht, ho⟩
    rw [hg] at hr'
    simp only [Option.some.injEq, AObj.row.injEq] at hr'
    exact hr' ▸ he
theorem Opn.keep0 (h : Opn H F e k sv n cells) (hk : Keep No H H') : Opn H' F e k sv n cells := h.keep hk fun _ _ _ _ h => h
theorem Opn.weak (h : Opn H F e k sv n cells) (hd : ∀ b, F b → G b) : Opn H G e k sv n cells := by
  rcases h with h | ⟨ad, c, r, rfl, hF, rest⟩
  · exact .inl h
  · exact .inr ⟨ad, c, r, rfl, hd _ hF, rest⟩
/-- More elements. -/
theorem Opn.snoc {t u b m : Nat} {x : Value} {news : List Value} (T : AppT P t u e k b) (h : Opn H F e (k + 1) sv n cells) (hx : srcA H (k + 1) x = some (m, news)) (hm : m ≠ 0) (hnl : news.length = m * (k + 1)) (h1 : news.all Value.oneCell' = true)
    (hL : (n + m) * (b + 1) ≤ 140737488355328) :
    ∃ sv' H', appendA P H t u sv x = some (sv', H') ∧ Opn H' (Or F (New H H')) e (k + 1) sv' (n + m) (cells ++ news) ∧ Keep F H H' ∧ H'.next ≤ H.next + 1 ∧ (∀ i r, H.get i = some (.row r) → i < H.next → r.elem ≠ e → H'.get i = H.get i) := by
  have hcl := h.rd.length
  have fresh : ∀ cells', cells' = cells ++ news → Opn (H.push (.row ⟨cells', e, 0, true⟩)) (Or F (New H (H.push (.row ⟨cells', e, 0, true⟩)))) e (k + 1) (.slice (some ⟨H.next, 0, none⟩) (n + m) (openCap + (k + 1))) (n + m) (cells ++ news) := by
    rintro _ rfl
    have hl : (cells ++ news).length = (n + m) * (k + 1) := by rw [List.length_append, hcl, hnl, Nat.add_mul]
    refine .inr ⟨⟨H.next, 0, none⟩, openCap + (k + 1), ⟨cells ++ news, e, 0, true⟩, rfl, .inr ⟨by simp, by simp⟩, by simp, by rw [AHeap.push_get, if_pos rfl], rfl, rfl, by rw [hl]; simp, ?_, rfl, .inr ⟨rfl, by rw [hl]; simp⟩⟩
    rw [List.drop_zero, List.take_of_length_le (by rw [hl]; exact Nat.le_refl _)]
  have old : ∀ cells', (∀ i r, H.get i = some (.row r) → i < H.next → r.elem ≠ e → (H.push (.row ⟨cells', e, 0, true⟩)).get i = H.get i) := by
    intro cells' i r _ hi _
    rw [AHeap.push_get, if_neg (by omega)]
  rcases h with ⟨rfl, rfl, rfl⟩ | ⟨ad, c, r, rfl, hF, hlt, hg, hv, he, hle, ht, hrw, rfl | ⟨rfl, hend⟩⟩
  · refine ⟨_, _, app_nil T hx hm (by simpa using hL), ?_, Keep.refl.push, by simp, old _⟩
    have := fresh news (by simp)
    simpa using this
  · have ho : oldA H ad (c * (k + 1)) = some cells := by
      unfold oldA
      split
      · rename_i h0
        rw [h0, List.take_zero] at ht
        rw [ht]
      · rw [cellsAt_get hg hv hle, ht]
    have hm' : c + m ≤ (c + m) * (b + 1) := Nat.le_mul_of_pos_right _ (by omega)
    have hop : c < openCap := by unfold openCap; omega
    exact ⟨_, _, app_grow T hx hm hL hop (by omega) ho, fresh _ rfl, Keep.refl.push, by simp, old _⟩
  · refine ⟨_, _, app_open T hx hm hL rfl hg hv hrw he h1 hend, ?_, Keep.refl.put fun _ => hF, by simp, ?_⟩
    · refine .inr ⟨⟨ad.block, ad.off, spotOf (r.ver + 1)⟩, openCap + (k + 1), { r with cells := r.cells ++ news, ver := r.ver + 1 }, rfl, .inl hF, hlt, by rw [AHeap.put_get, if_pos rfl], by simp, he, ?_, ?_, hrw, .inr ⟨rfl, ?_⟩⟩
      · simp only [List.length_append, hnl, Nat.add_mul]; omega
      · have h2 : r.cells.drop ad.off = cells := by rw [← ht, List.take_of_length_le]; simp; omega
        have h3 : ad.off - r.cells.length = 0 := by omega
        simp only [List.drop_append, h2, h3, List.drop_zero]
        rw [List.take_of_length_le]
        simp only [List.length_append, hcl, hnl, Nat.add_mul]; omega
      · simp only [List.length_append, hnl, Nat.add_mul]; omega
    · intro i r' hi hlt' hne
      rw [AHeap.put_get, if_neg]
      rintro rfl
      rw [hg] at hi
      simp only [Option.some.injEq, AObj.row.injEq] at hi
      exact hne (hi ▸ he)
/-- The row of a slice that isn't empty. -/
theorem Opn.at_row (h : Opn H F e k sv n cells) (hn : n ≠ 0) : ∃ ad c rc vr, sv = .slice (some ad) n c ∧ F ad.block ∧ ad.block < H.next ∧ H.get ad.block = some (.row ⟨rc, e, vr, true⟩) ∧ verOf ad = vr ∧ ad.off + n * k ≤ rc.length ∧
    (rc.drop ad.off).take (n * k) = cells ∧ (c = n ∨ c = openCap + k ∧ ad.off + n * k = rc.length) := by
  rcases h with ⟨_, rfl, _⟩ | ⟨ad, c, r, rfl, hF, hlt, hg, hv, he, hle, ht, hrw, ho⟩
  · exact absurd rfl hn
  · obtain ⟨rc, e', vr, rw'⟩ := r
    simp only at hv he hle ht hrw ho
    subst he hrw
    exact ⟨ad, c, rc, vr, rfl, hF, hlt, hg, hv, hle, ht, ho⟩
theorem lset_mid {l vs : List Value} {o q : Nat} {n k : Nat} (hq : q < n) (hv : vs.length = k) (hl : o + n * k ≤ l.length) : ((lset l (o + q * k) vs).drop o).take (n * k) = lset ((l.drop o).take (n * k)) (q * k) vs := by
  have h1 : (q + 1) * k ≤ n * k := Nat.mul_le_mul_right k hq
  rw [Nat.add_mul, Nat.one_mul] at h1
  apply List.ext_getElem?
  intro i
  rw [lset_get (by rw [List.length_take, List.length_drop]; omega), List.getElem?_take]
  by_cases hi : i < n * k
  · rw [if_pos hi, List.getElem?_drop, lset_get (by omega), List.getElem?_take, if_pos hi, List.getElem?_drop]
    by_cases h2 : i < q * k
    · rw [if_pos (by omega), if_pos h2]
    · rw [if_neg (by omega), if_neg h2]
      by_cases h3 : i < q * k + vs.length
      · rw [if_pos (by omega), if_pos h3]; congr 1; omega
      · rw [if_neg (by omega), if_neg h3]
  · rw [if_neg hi, if_neg (by omega), if_neg (by omega), List.getElem?_take, if_neg hi]
theorem lset_slot {l vs : List Value} {q i k : Nat} (hv : vs.length = k) (hl : (q + 1) * k ≤ l.length) : ((lset l (q * k) vs).drop (i * k)).take k = if i = q then vs else (l.drop (i * k)).take k := by
  rw [Nat.add_mul, Nat.one_mul] at hl
  apply List.ext_getElem?
  intro j
  rw [List.getElem?_take]
  by_cases hj : j < k
  · rw [if_pos hj, List.getElem?_drop, lset_get (by omega)]
    by_cases hi : i = q
    · subst hi
      rw [if_neg (by omega), if_pos (by omega), if_pos rfl]
      congr 1; omega
    · rw [if_neg hi, List.getElem?_take, if_pos hj, List.getElem?_drop]
      rcases Nat.lt_or_gt_of_ne hi with h | h
      · have : (i + 1) * k ≤ q * k := Nat.mul_le_mul_right k h
        rw [Nat.add_mul, Nat.one_mul] at this
        rw [if_pos (by omega)]
      · have : (q + 1) * k ≤ i * k := Nat.mul_le_mul_right k h
        rw [Nat.add_mul, Nat.one_mul] at this
        rw [if_neg (by omega), if_neg (by omega)]
  · rw [if_neg hj]
    split
    · rw [List.getElem?_eq_none (by omega)]
    · rw [List.getElem?_take, if_neg hj]
/-- An element is written. -/
theorem Opn.set {ad : Addr} {rc vs : List Value} {vr q c : Nat} (hF : F ad.block) (hlt : ad.block < H.next) (hv : verOf ad = vr) (hle : ad.off + n * k ≤ rc.length) (ht : (rc.drop ad.off).take (n * k) = cells)
    (ho : c = n ∨ c = openCap + k ∧ ad.off + n * k = rc.length) (hq : q < n) (hvs : vs.length = k) :
    Opn (H.put ad.block (.row ⟨lset rc (ad.off + q * k) vs, e, vr, true⟩)) F e k (.slice (some ad) n c) n (lset cells (q * k) vs) := by
  have h1 : (q + 1) * k ≤ n * k := Nat.mul_le_mul_right k hq
  rw [Nat.add_mul, Nat.one_mul] at h1
  have hl : (lset rc (ad.off + q * k) vs).length = rc.length := lset_length (by omega)
  refine .inr ⟨ad, c, ⟨lset rc (ad.off + q * k) vs, e, vr, true⟩, rfl, hF, by simpa using hlt, by rw [AHeap.put_get, if_pos rfl], hv, rfl, by dsimp only; omega, ?_, rfl, ho.imp id fun h => ⟨h.1, by dsimp only; omega⟩⟩
  rw [← ht]
  exact lset_mid hq hvs hle
end

end Go.Ae

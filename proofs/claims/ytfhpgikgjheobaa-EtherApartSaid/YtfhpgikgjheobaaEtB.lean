/- The state of package ether over the abstract heap: packets, the list of packets, a network. No condition. -/
import Derived.Test.YtfhpgikgjheobaaAeFrame
namespace Go.Ae

/-- A packet, with the block of its bytes. -/
structure Pk where
  fr : Int
  to : Int
  data : List UInt8
  blk : Nat
def Pk.dv (p : Pk) : Value := .slice (some ⟨p.blk, 0, none⟩) p.data.length p.data.length
def Pk.cells (p : Pk) : List Value := [.int .i64 p.fr, .int .i64 p.to, p.dv]
def Pk.val (p : Pk) : Value := .agg #[.int .i64 p.fr, .int .i64 p.to, p.dv]
def flCells : List Pk → List Value
  | [] => []
  | p :: L => p.cells ++ flCells L
@[simp] theorem flCells_length (L : List Pk) : (flCells L).length = L.length * 3 := by
  induction L with
  | nil => rfl
  | cons p L ih => simp [flCells, Pk.cells, ih]; omega
theorem flCells_append (L M : List Pk) : flCells (L ++ M) = flCells L ++ flCells M := by
  induction L with
  | nil => rfl
  | cons p L ih => simp [flCells, ih]
theorem flCells_take (L : List Pk) (i : Nat) : flCells (L.take i) = (flCells L).take (i * 3) := by
  induction L generalizing i with
  | nil => simp [flCells]
  | cons p L ih =>
    cases i with
    | zero => simp [flCells]
    | succ i => rw [List.take_succ_cons, flCells, ih, flCells, Nat.add_mul, List.take_append]; simp [Pk.cells]
theorem flCells_drop (L : List Pk) (i : Nat) : flCells (L.drop i) = (flCells L).drop (i * 3) := by
  induction L generalizing i with
  | nil => simp [flCells]
  | cons p L ih =>
    cases i with
    | zero => simp
    | succ i => rw [List.drop_succ_cons, ih, flCells, Nat.add_mul, List.drop_append]; simp [Pk.cells]
theorem flCells_at {L : List Pk} {i : Nat} {p : Pk} (h : L[i]? = some p) : ((flCells L).drop (i * 3)).take 3 = p.cells := by
  rw [← flCells_drop]
  obtain ⟨hi, rfl⟩ := List.getElem?_eq_some_iff.1 h
  rw [List.drop_eq_getElem_cons hi]
  simp [flCells, Pk.cells]
@[simp] theorem flCells_one (L : List Pk) : (flCells L).all Value.oneCell' = true := by
  induction L with
  | nil => rfl
  | cons p L ih => simp only [flCells, List.all_append, ih, Bool.and_true]; rfl

/-- The list of packets, as it can be read and laid on. -/
def Fli (H : AHeap) (F : Blks) (sv : Value) (L : List Pk) : Prop :=
  (sv = .slice none 0 0 ∧ L = []) ∨
  ∃ ad c r, sv = .slice (some ad) L.length c ∧ F ad.block ∧ ad.block < H.next ∧ H.get ad.block = some (.row r) ∧ verOf ad = r.ver ∧ r.elem = 32 ∧ ad.off + L.length * 3 ≤ r.cells.length ∧
    (r.cells.drop ad.off).take (L.length * 3) = flCells L ∧ (c = L.length ∨ c = openCap + 3 ∧ r.rw = true ∧ ad.off + L.length * 3 = r.cells.length)
section
variable {F G : Blks} {H H' : AHeap} {sv : Value} {L : List Pk} {P : Program}
theorem Fli.rd (h : Fli H F sv L) : Rd H F 3 sv L.length (flCells L) := by
  rcases h with ⟨rfl, rfl⟩ | ⟨ad, c, r, rfl, hF, hlt, hg, hv, he, hle, ht, _⟩
  · exact .empty _ _
  · by_cases h0 : L.length = 0
    · obtain rfl := List.eq_nil_of_length_eq_zero h0
      exact .empty _ _
    · exact .full ad _ c _ h0 hF hlt (by rw [cellsAt_get hg hv hle, ht])
theorem Fli.keep (h : Fli H F sv L) (hk : Keep G H H') (hd : ∀ b, b < H.next → F b → (∀ r, H.get b = some (.row r) → r.elem = 32) → ¬ G b) : Fli H' F sv L := by
  rcases h with ⟨rfl, rfl⟩ | ⟨ad, c, r, rfl, hF, hlt, hg, hv, he, hle, ht, ho⟩
  · exact .inl ⟨rfl, rfl⟩
  · refine .inr ⟨ad, c, r, rfl, hF, Nat.lt_of_lt_of_le hlt hk.1, hk.get hg hlt (hd _ hlt hF fun r' hr' => ?_), hv, he, hle, ht, ho⟩
    rw [hg] at hr'
    simp only [Option.some.injEq, AObj.row.injEq] at hr'
    exact hr' ▸ he
theorem Fli.weak (h : Fli H F sv L) (hd : ∀ b, F b → G b) : Fli H G sv L := by
  rcases h with ⟨rfl, rfl⟩ | ⟨ad, c, r, rfl, hF, rest⟩
  · exact .inl ⟨rfl, rfl⟩
  · exact .inr ⟨ad, c, r, rfl, hd _ hF, rest⟩
/-- One more packet. -/
theorem Fli.snoc {b : Nat} {x : Value} {p : Pk} (T : AppT P 36 36 32 2 b) (h : Fli H F sv L) (hx : srcA H 3 x = some (1, p.cells)) (hL : (L.length + 1) * (b + 1) ≤ 140737488355328) :
    ∃ sv' H', appendA P H 36 36 sv x = some (sv', H') ∧ Fli H' (Or F (New H H')) sv' (L ++ [p]) ∧ Keep F H H' ∧ H'.next ≤ H.next + 1 ∧ (∀ i r, H.get i = some (.row r) → i < H.next → r.elem ≠ 32 → H'.get i = H.get i) := by
  have hp : flCells [p] = p.cells := by simp [flCells]
  have fresh : ∀ cells, cells = flCells (L ++ [p]) → Fli (H.push (.row ⟨cells, 32, 0, true⟩)) (Or F (New H (H.push (.row ⟨cells, 32, 0, true⟩)))) (.slice (some ⟨H.next, 0, none⟩) (L.length + 1) (openCap + 3)) (L ++ [p]) := by
    rintro _ rfl
    refine .inr ⟨⟨H.next, 0, none⟩, openCap + 3, ⟨flCells (L ++ [p]), 32, 0, true⟩, by simp, .inr ⟨by simp, by simp⟩, by simp, by rw [AHeap.push_get, if_pos rfl], rfl, rfl, by simp, ?_, .inr ⟨rfl, rfl, by simp⟩⟩
    simp only [List.drop_zero]
    rw [List.take_of_length_le (by simp)]
  have old : ∀ cells, (∀ i r, H.get i = some (.row r) → i < H.next → r.elem ≠ 32 → (H.push (.row ⟨cells, 32, 0, true⟩)).get i = H.get i) := by
    intro cells i r _ hi _
    rw [AHeap.push_get, if_neg (by omega)]
  rcases h with ⟨rfl, rfl⟩ | ⟨ad, c, r, rfl, hF, hlt, hg, hv, he, hle, ht, rfl | ⟨rfl, hrw, hend⟩⟩
  · refine ⟨_, _, app_nil T hx (by omega) (by simpa using hL), fresh p.cells (by simp [flCells]), Keep.refl.push, by simp, old _⟩
  · have ho : oldA H ad (L.length * (2 + 1)) = some (flCells L) := by
      unfold oldA
      split
      · rename_i h0
        have : L = [] := List.eq_nil_of_length_eq_zero (by omega)
        subst this; rfl
      · rw [cellsAt_get hg hv hle, ht]
    have hm : L.length + 1 ≤ (L.length + 1) * (b + 1) := Nat.le_mul_of_pos_right _ (by omega)
    have hop : L.length < openCap := by unfold openCap; omega
    refine ⟨_, _, app_grow T hx (by omega) hL hop (by omega) ho, fresh _ (by rw [flCells_append, hp]), Keep.refl.push, by simp, old _⟩
  · refine ⟨_, _, app_open T hx (by omega) hL rfl hg hv hrw he (by simp [Pk.cells, Value.oneCell', Pk.dv]) hend, ?_, Keep.refl.put fun _ => hF, by simp, ?_⟩
    · refine .inr ⟨⟨ad.block, ad.off, spotOf (r.ver + 1)⟩, openCap + 3, { r with cells := r.cells ++ p.cells, ver := r.ver + 1 }, by simp, .inl hF, hlt, by rw [AHeap.put_get, if_pos rfl], by simp, he, ?_, ?_, .inr ⟨rfl, hrw, ?_⟩⟩
      · simp [Pk.cells]; omega
      · have h1 : r.cells.drop ad.off = flCells L := by rw [← ht, List.take_of_length_le]; simp; omega
        show ((r.cells ++ p.cells).drop ad.off).take ((L ++ [p]).length * 3) = flCells (L ++ [p])
        rw [List.drop_append, h1, flCells_append, hp]
        have : ad.off - r.cells.length = 0 := by omega
        rw [this, List.drop_zero, List.take_of_length_le]
        simp [Pk.cells]; omega
      · simp [Pk.cells]; omega
    · intro i r' hi hlt' hne
      rw [AHeap.put_get, if_neg]
      rintro rfl
      rw [hg] at hi
      simp only [Option.some.injEq, AObj.row.injEq] at hi
      exact hne (hi ▸ he)
end

theorem eraseIdx_eq {α : Type} (L : List α) (i : Nat) : L.eraseIdx i = L.take i ++ L.drop (i + 1) := List.eraseIdx_eq_take_drop_succ L i
/-- One packet out. -/
theorem Fli.cut {F : Blks} {H : AHeap} {sv : Value} {L : List Pk} {P : Program} {b i : Nat} (T : AppT P 36 36 32 2 b) (h : Fli H F sv L) (hi : i < L.length) (hL : L.length * (b + 1) ≤ 140737488355328) (hb : 140737488355328 < openCap) :
    ∃ s1 s2 sv' H', sliceA P 36 sv none (some (.int .i64 i)) (some (.int .i64 i)) = some s1 ∧ sliceA P 36 sv (some (.int .i64 ((i + 1 : Nat) : Int))) none none = some s2 ∧
      appendA P H 36 36 s1 s2 = some (sv', H') ∧ Fli H' (Or F (New H H')) sv' (L.eraseIdx i) ∧ Keep No H H' := by
  rcases h with ⟨rfl, rfl⟩ | ⟨ad, c, r, rfl, hF, hlt, hg, hv, he, hle, ht, hc⟩
  · simp at hi
  have hm : L.length ≤ L.length * (b + 1) := Nat.le_mul_of_pos_right _ (by omega)
  have hlen : L.length < openCap := by omega
  have h1 : sliceA P 36 (.slice (some ad) L.length c) none (some (.int .i64 i)) (some (.int .i64 i)) = some (.slice (some ad) i i) ∨ sliceA P 36 (.slice (some ad) L.length c) none (some (.int .i64 i)) (some (.int .i64 i)) = some (.slice (some (aadd ad 0)) i i) := by
    rcases hc with rfl | ⟨rfl, hrw, hend⟩
    · have h2 : ¬ openCap ≤ L.length := by omega
      by_cases h0 : i = 0
      · subst h0
        simp [sliceA, T.ht, T.hs, h2, boundsA, boundA, lowA, advA]
      · have : (i : Int) ≤ L.length := by omega
        right
        simp [sliceA, T.ht, T.hs, h2, boundsA, boundA, lowA, advA, this, h0]
    · have : (i : Int) ≤ L.length := by omega
      by_cases h0 : i = 0
      · subst h0
        simp [sliceA, T.ht, T.hs, boundsA, boundA, lowA, advA]
      · right
        simp [sliceA, T.ht, T.hs, boundsA, boundA, lowA, advA, this, h0]
  have e0 : aadd ad 0 = ad := rfl
  rw [e0, or_self] at h1
  have h2 : ∃ s2, sliceA P 36 (.slice (some ad) L.length c) (some (.int .i64 ((i + 1 : Nat) : Int))) none none = some s2 ∧ srcA H 3 s2 = some (L.length - (i + 1), flCells (L.drop (i + 1))) := by
    have hx : ∀ c', srcA H 3 (.slice (some (aadd ad ((i + 1) * 3))) (L.length - (i + 1)) c') = some (L.length - (i + 1), flCells (L.drop (i + 1))) := by
      intro c'
      by_cases h0 : L.length - (i + 1) = 0
      · have : L.drop (i + 1) = [] := List.drop_of_length_le (by omega)
        simp [srcA, h0, this, flCells]
      · have hc := cellsAt_sub (cellsAt_get hg hv hle) (j := (i + 1) * 3) (i := (L.length - (i + 1)) * 3) (by omega)
        simp only [srcA, h0, if_false, hc, ht, ← flCells_drop]
        rw [List.take_of_length_le (by simp)]
        rfl
    have hb : ((i + 1 : Nat) : Int) ≤ L.length := by omega
    have hb0 : (0 : Int) ≤ ((i + 1 : Nat) : Int) := by omega
    rcases hc with rfl | ⟨rfl, hrw, hend⟩
    · have h2 : ¬ openCap ≤ L.length := by omega
      by_cases h0 : L.length = i + 1
      · refine ⟨.slice (some ad) 0 0, ?_, ?_⟩
        · simp only [sliceA, T.ht, T.hs, h2, if_false, boundsA, boundA, lowA, advA, hb, hb0, and_self, if_true, Option.bind_some, Option.map_some, Int.toNat_natCast]
          simp [h0]
        · have : L.drop (i + 1) = [] := List.drop_of_length_le (by omega)
          simp [srcA, h0, this, flCells]
      · refine ⟨_, ?_, hx (L.length - (i + 1))⟩
        simp only [sliceA, T.ht, T.hs, h2, if_false, boundsA, boundA, lowA, advA, hb, hb0, and_self, if_true, Option.bind_some, Option.map_some, Int.toNat_natCast, h0]
    · refine ⟨_, ?_, hx (openCap + 3)⟩
      simp only [sliceA, T.ht, T.hs, boundsA, boundA, lowA, advA, hb, hb0, and_self, if_true, Option.bind_some, Option.map_some, Int.toNat_natCast]
      simp
  obtain ⟨s2, h2, hx⟩ := h2
  by_cases h0 : L.length - (i + 1) = 0
  · refine ⟨_, s2, .slice (some ad) i i, H, h1, h2, app_none T (by rw [hx, h0]) (Nat.le_refl _), ?_, Keep.refl⟩
    have hL' : L.eraseIdx i = L.take i := by rw [eraseIdx_eq, List.drop_of_length_le (by omega), List.append_nil]
    have hl : (L.take i).length = i := by simp; omega
    rw [hL']
    refine .inr ⟨ad, i, r, by rw [hl], .inl hF, hlt, hg, hv, he, by rw [hl]; omega, ?_, .inl hl.symm⟩
    rw [hl, flCells_take, ← ht, List.take_take, Nat.min_eq_left (by omega)]
  · have ho : oldA H ad (i * (2 + 1)) = some (flCells (L.take i)) := by
      unfold oldA
      split
      · rename_i h0
        have : i = 0 := by omega
        subst this; rfl
      · have := cellsAt_sub (cellsAt_get hg hv hle) (j := 0) (i := i * 3) (by omega)
        rw [e0, ht, List.drop_zero, ← flCells_take] at this
        exact this
    refine ⟨_, s2, _, _, h1, h2, app_grow T hx h0 (by rw [show i + (L.length - (i + 1)) = L.length - 1 by omega]; exact Nat.le_trans (Nat.mul_le_mul_right _ (by omega)) hL) (by omega) (by omega) ho, ?_, Keep.refl.push⟩
    have hl : (L.eraseIdx i).length = i + (L.length - (i + 1)) := by rw [List.length_eraseIdx]; simp [hi]; omega
    refine .inr ⟨⟨H.next, 0, none⟩, openCap + 3, ⟨flCells (L.take i) ++ flCells (L.drop (i + 1)), 32, 0, true⟩, by rw [hl], .inr ⟨by simp, by simp⟩, by simp, by rw [AHeap.push_get, if_pos rfl], rfl, rfl, ?_, ?_, .inr ⟨rfl, rfl, ?_⟩⟩
    · rw [hl]; simp; omega
    · rw [eraseIdx_eq, flCells_append, List.drop_zero, List.take_of_length_le]
      rw [← eraseIdx_eq, hl]; simp; omega
    · rw [hl]; simp; omega

theorem Fli.cut' {F : Blks} {H : AHeap} {sv : Value} {L : List Pk} {P : Program} {b i : Nat} (T : AppT P 36 36 32 2 b) (h : Fli H F sv L) (hi : i < L.length) (hL : L.length * (b + 1) ≤ 140737488355328) :
    ∃ s1 s2, sliceA P 36 sv none (some (.int .i64 i)) (some (.int .i64 i)) = some s1 ∧ sliceA P 36 sv (some (.int .i64 ((i : Int) + 1))) none none = some s2 ∧
      ∀ H1, Keep No H H1 → ∃ sv' H', appendA P H1 36 36 s1 s2 = some (sv', H') ∧ Fli H' (Or F (New H1 H')) sv' (L.eraseIdx i) ∧ Keep No H1 H' := by
  obtain ⟨s1, s2, _, _, h1, h2, _⟩ := Fli.cut T h hi hL (by unfold openCap; omega)
  refine ⟨s1, s2, h1, h2, fun H1 hk => ?_⟩
  obtain ⟨s1', s2', sv', H', h1', h2', h3, h4, h5⟩ := Fli.cut T (h.keep hk fun _ _ _ _ h => h) hi hL (by unfold openCap; omega)
  obtain rfl := Option.some.inj (h1.symm.trans h1')
  obtain rfl := Option.some.inj (h2.symm.trans h2')
  exact ⟨sv', H', h3, h4, h5⟩
/-- The slices are the same in each heap. -/
theorem Fli.strict {F : Blks} {H : AHeap} {sv : Value} {L : List Pk} {b : Nat} {r : Row} (h : Fli H F sv L) (hb : H.get b = some (.row r)) (hr : r.elem ≠ 32) : Fli H (fun x => F x ∧ x ≠ b) sv L := by
  rcases h with ⟨rfl, rfl⟩ | ⟨ad, c, r', rfl, hF, hlt, hg, hv, he, rest⟩
  · exact .inl ⟨rfl, rfl⟩
  · refine .inr ⟨ad, c, r', rfl, ⟨hF, ?_⟩, hlt, hg, hv, he, rest⟩
    intro heq
    rw [heq, hb] at hg
    simp only [Option.some.injEq, AObj.row.injEq] at hg
    exact hr (hg ▸ he)

/-- A network: its block e, its machines, its packets; F: the blocks that are its own. -/
structure Net (H : AHeap) (F : Blks) (e : Nat) (m : Int) (L : List Pk) : Prop where
  bound : ∀ b, F b → b < H.next
  fe : F e
  node : ∃ sv, H.get e = some (.row ⟨[.int .i64 m, sv], 84, 0, true⟩) ∧ Fli H F sv L
  data : ∀ p ∈ L, H.get p.blk = some (.row ⟨bytesV p.data, 5, 0, true⟩) ∧ F p.blk
  nodup : (L.map Pk.blk).Nodup
theorem Pk.data_ne {H : AHeap} {F : Blks} {e : Nat} {m : Int} {L : List Pk} (h : Net H F e m L) : ∀ p ∈ L, p.blk ≠ e := by
  intro p hp he
  obtain ⟨sv, hg, _⟩ := h.node
  have := (h.data p hp).1
  rw [he, hg] at this
  simp at this
theorem Net.keep {F G : Blks} {H H' : AHeap} {e : Nat} {m : Int} {L : List Pk} (h : Net H F e m L) (hk : Keep G H H') (hd : ∀ b, F b → ¬ G b) : Net H' F e m L := by
  refine ⟨fun b hb => Nat.lt_of_lt_of_le (h.bound b hb) hk.1, h.fe, ?_, fun p hp => ⟨hk.get (h.data p hp).1 (h.bound _ (h.data p hp).2) (hd _ (h.data p hp).2), (h.data p hp).2⟩, h.nodup⟩
  obtain ⟨sv, hg, hf⟩ := h.node
  exact ⟨sv, hk.get hg (h.bound _ h.fe) (hd _ h.fe), hf.keep hk fun b _ hb _ => hd b hb⟩
theorem Net.keep0 {F : Blks} {H H' : AHeap} {e : Nat} {m : Int} {L : List Pk} (h : Net H F e m L) (hk : Keep No H H') : Net H' F e m L := h.keep hk fun _ _ h => h
/-- One more packet. -/
theorem Net.laid {F : Blks} {H H2 : AHeap} {e : Nat} {m : Int} {L : List Pk} {sv' : Value} {p : Pk} (h : Net H F e m L) (hk : Keep F H H2) (hg : H2.get e = some (.row ⟨[.int .i64 m, sv'], 84, 0, true⟩)) (hf : Fli H2 (Or F (New H H2)) sv' (L ++ [p]))
    (hd : ∀ q ∈ L, H2.get q.blk = H.get q.blk) (hp : H2.get p.blk = some (.row ⟨bytesV p.data, 5, 0, true⟩)) (h1 : H.next ≤ p.blk) (h2 : p.blk < H2.next) : Net H2 (Or F (New H H2)) e m (L ++ [p]) := by
  refine ⟨?_, .inl h.fe, ⟨sv', hg, hf⟩, ?_, ?_⟩
  · rintro b (hb | hb)
    · exact Nat.lt_of_lt_of_le (h.bound b hb) hk.1
    · exact hb.2
  · intro q hq
    rcases List.mem_append.1 hq with hq | hq
    · exact ⟨(hd q hq).trans (h.data q hq).1, .inl (h.data q hq).2⟩
    · obtain rfl := List.mem_singleton.1 hq
      exact ⟨hp, .inr ⟨h1, h2⟩⟩
  · rw [List.map_append, List.nodup_append]
    refine ⟨h.nodup, by simp, ?_⟩
    intro x hx y hy
    simp only [List.map_cons, List.map_nil, List.mem_singleton] at hy
    subst hy
    obtain ⟨q, hq, rfl⟩ := List.mem_map.1 hx
    have := h.bound _ (h.data q hq).2
    omega
/-- One more packet, as lay lays it: the copy made (H1), the list laid on (H2), the struct written. -/
theorem Net.laid' {F : Blks} {H H1 H2 : AHeap} {e : Nat} {m : Int} {L : List Pk} {sv' : Value} {p : Pk} (h : Net H F e m L) (hk1 : Keep No H H1) (hk2 : Keep F H1 H2) (hf : Fli H2 (Or F (New H1 H2)) sv' (L ++ [p]))
    (hd : ∀ i r, H1.get i = some (.row r) → i < H1.next → r.elem ≠ 32 → H2.get i = H1.get i) (hp : H1.get p.blk = some (.row ⟨bytesV p.data, 5, 0, true⟩)) (h1 : H.next ≤ p.blk) (h2 : p.blk < H1.next) :
    Keep F H (H2.put e (.row ⟨[.int .i64 m, sv'], 84, 0, true⟩)) ∧ Net (H2.put e (.row ⟨[.int .i64 m, sv'], 84, 0, true⟩)) (Or F (New H (H2.put e (.row ⟨[.int .i64 m, sv'], 84, 0, true⟩)))) e m (L ++ [p]) := by
  have hkF : Keep F H (H2.put e (.row ⟨[.int .i64 m, sv'], 84, 0, true⟩)) := ((hk1.no).trans hk2 fun _ _ h => h).put fun _ => h.fe
  obtain ⟨sv, hge, _⟩ := h.node
  have he := h.bound e h.fe
  have hge1 := hk1.get0 hge he
  have hge2 := (hd e _ hge1 (Nat.lt_of_lt_of_le he hk1.1) (show (84 : Nat) ≠ 32 by decide)).trans hge1
  have row2 : ∀ b l, H1.get b = some (.row ⟨l, 5, 0, true⟩) → b < H1.next → (H2.put e (.row ⟨[.int .i64 m, sv'], 84, 0, true⟩)).get b = some (.row ⟨l, 5, 0, true⟩) := by
    intro b l hb hlt
    rw [AHeap.put_get, if_neg]
    · rw [hd b _ hb hlt (show (5 : Nat) ≠ 32 by decide)]; exact hb
    · rintro rfl
      rw [hge1] at hb
      simp at hb
  refine ⟨hkF, h.laid hkF (by rw [AHeap.put_get, if_pos rfl]) ?_ ?_ (row2 _ _ hp h2) h1 (Nat.lt_of_lt_of_le h2 hk2.1)⟩
  · refine (hf.keep (G := fun b => b = e) (Keep.refl.put fun _ => rfl) ?_).weak ?_
    · rintro b _ _ h32 rfl
      have := h32 _ hge2
      simp at this
    · rintro b (hb | ⟨hb, hb'⟩)
      · exact .inl hb
      · exact .inr ⟨Nat.le_trans hk1.1 hb, hb'⟩
  · intro q hq
    have hq1 := (h.data q hq).1
    have hlt := h.bound _ (h.data q hq).2
    rw [row2 _ _ (hk1.get0 hq1 hlt) (Nat.lt_of_lt_of_le hlt hk1.1), hq1]

/-- One packet out: the heap as it is at the end. -/
theorem Net.out {F : Blks} {H H' : AHeap} {e i : Nat} {m : Int} {L : List Pk} {sv' : Value} {p : Pk} (h : Net H F e m L) (hi : L[i]? = some p) (hn : H.next ≤ H'.next) (hge : H'.get e = some (.row ⟨[.int .i64 m, sv'], 84, 0, true⟩))
    (hf : Fli H' (Or F (New H H')) sv' (L.eraseIdx i)) (hd : ∀ q ∈ L, H'.get q.blk = H.get q.blk) : Net H' (Or (fun b => F b ∧ b ≠ p.blk) (New H H')) e m (L.eraseIdx i) := by
  obtain ⟨hi', hp⟩ := List.getElem?_eq_some_iff.1 hi
  have hpm : p ∈ L := hp ▸ List.getElem_mem hi'
  have hpb := h.bound _ (h.data p hpm).2
  have hsub := List.eraseIdx_sublist L i
  refine ⟨?_, .inl ⟨h.fe, ?_⟩, ⟨sv', hge, ?_⟩, ?_, ?_⟩
  · rintro b (⟨hb, _⟩ | hb)
    · exact Nat.lt_of_lt_of_le (h.bound b hb) hn
    · exact hb.2
  · exact fun he => Pk.data_ne h p hpm he.symm
  · have hg := (hd p hpm).trans (h.data p hpm).1
    refine (hf.strict hg (show (5 : Nat) ≠ 32 by decide)).weak ?_
    rintro b ⟨hb | hb, hne⟩
    · exact .inl ⟨hb, hne⟩
    · exact .inr hb
  · intro q hq
    have hq' := hsub.subset hq
    refine ⟨(hd q hq').trans (h.data q hq').1, .inl ⟨(h.data q hq').2, ?_⟩⟩
    have hnd := h.nodup
    rw [List.nodup_iff_pairwise_ne, List.pairwise_map] at hnd
    intro heq
    obtain ⟨j, hj, hqj⟩ := List.getElem_of_mem hq
    rw [List.getElem_eraseIdx] at hqj
    have key := List.pairwise_iff_getElem.1 hnd
    split at hqj
    · rename_i hlt
      have hl : j < L.length := by omega
      exact key j i hl hi' hlt (by rw [hqj, hp]; exact heq)
    · rename_i hge'
      have hl : j + 1 < L.length := by rw [List.length_eraseIdx] at hj; simp only [hi', if_true] at hj; omega
      exact key i (j + 1) hi' hl (by omega) (by rw [hqj, hp]; exact heq.symm)
  · exact h.nodup.sublist (hsub.map _)

theorem Net.weak {F G : Blks} {H : AHeap} {e : Nat} {m : Int} {L : List Pk} (h : Net H F e m L) (hs : ∀ b, F b → G b) (hb : ∀ b, G b → b < H.next) : Net H G e m L := by
  refine ⟨hb, hs _ h.fe, ?_, fun p hp => ⟨(h.data p hp).1, hs _ (h.data p hp).2⟩, h.nodup⟩
  obtain ⟨sv, hg, hf⟩ := h.node
  exact ⟨sv, hg, hf.weak hs⟩
/-- A call between pushes ahead and writing of new rows behind: the footprint seen from the beginning. -/
theorem Net.grown {F G : Blks} {H H1 H2 H' : AHeap} {e : Nat} {m : Int} {L : List Pk} (h : Net H2 (Or F (New H1 H2)) e m L) (h1 : H.next ≤ H1.next) (hk : Keep G H2 H') (hG : ∀ b, G b → ¬ F b ∧ b < H1.next) : Net H' (Or F (New H H')) e m L := by
  refine (h.keep hk ?_).weak ?_ ?_
  · rintro b (hb | hb) hg
    · exact (hG b hg).1 hb
    · have := (hG b hg).2
      have := hb.1
      omega
  · rintro b (hb | hb)
    · exact .inl hb
    · exact .inr ⟨Nat.le_trans h1 hb.1, Nat.lt_of_lt_of_le hb.2 hk.1⟩
  · rintro b (hb | hb)
    · exact Nat.lt_of_lt_of_le (h.bound b (.inl hb)) hk.1
    · exact hb.2

theorem rd_row {H : AHeap} {F : Blks} {b n c : Nat} {bs : List UInt8} {e : TypeId} {rw' : Bool} (hg : H.get b = some (.row ⟨bytesV bs, e, 0, rw'⟩)) (hF : F b) (hb : b < H.next) (hn : n = bs.length := by rfl) : BR H F (.slice (some ⟨b, 0, none⟩) n c) bs := by
  subst hn
  unfold BR
  by_cases h0 : bs.length = 0
  · obtain rfl := List.eq_nil_of_length_eq_zero h0
    exact .empty _ _
  · exact .full _ _ _ _ h0 hF hb (cellsAt_of hg rfl (by simp) (List.take_of_length_le (by simp)))

end Go.Ae

/- What a flip does to bytes; parts of lists of packets; two networks and a list beside one another. No condition. -/
import Derived.Test.YtfhpgikgjheobaaEtK
set_option linter.unusedSimpArgs false
set_option linter.unusedVariables false
set_option linter.unnecessarySimpa false
namespace Go.Ae
open Go.Proofs

theorem xor_self' (x y : UInt8) : (x ^^^ y) ^^^ y = x := by
  apply UInt8.toBitVec_inj.1
  simp [BitVec.xor_assoc]
theorem xor_mask (x y : UInt8) : (x ^^^ y) ^^^ x = y := by
  apply UInt8.toBitVec_inj.1
  simp only [UInt8.toBitVec_xor]
  rw [BitVec.xor_comm x.toBitVec, BitVec.xor_assoc, BitVec.xor_self, BitVec.xor_zero]
theorem xor_same (x : UInt8) : x ^^^ x = 0 := by
  apply UInt8.toBitVec_inj.1
  simp
theorem flipB_flipB (d : List UInt8) (bit : Int) (h : (bit / 8).toNat < d.length) : flipB (flipB d bit) bit = d := by
  unfold flipB
  apply List.ext_getElem?
  intro k
  by_cases hk : (bit / 8).toNat = k
  · subst hk
    rw [List.getElem?_set_self (by simpa using h)]
    simp [List.getD, h, xor_self']
  · rw [List.getElem?_set_ne hk, List.getElem?_set_ne hk]
theorem flipB_at (d : List UInt8) (bit : Int) (h : (bit / 8).toNat < d.length) : (flipB d bit)[(bit / 8).toNat]? = some (d.getD (bit / 8).toNat 0 ^^^ maskB bit) := by
  unfold flipB
  rw [List.getElem?_set_self h]
theorem mask_cases (bit : Int) (h : 0 ≤ bit) : (maskB bit).toNat = 2 ^ (bit % 8).toNat ∧ popN (maskB bit).toNat = 1 := by
  unfold maskB
  obtain ⟨k, hk⟩ : ∃ k, k = (bit % 8).toNat := ⟨_, rfl⟩
  rw [← hk]
  have : k < 8 := by omega
  have p1 : ∀ x, 0 < x → popN x = x % 2 + popN (x / 2) := fun x hx => popN_pos hx
  have hc : k = 0 ∨ k = 1 ∨ k = 2 ∨ k = 3 ∨ k = 4 ∨ k = 5 ∨ k = 6 ∨ k = 7 := by omega
  rcases hc with rfl | rfl | rfl | rfl | rfl | rfl | rfl | rfl <;> refine ⟨by decide, ?_⟩ <;> simp [p1, popN_zero, UInt8.toNat_ofNat]
theorem bitsS_same (a b : List UInt8) (i : Nat) (h : ∀ k, k < i → a.getD k 0 = b.getD k 0) : bitsS a b i = 0 := by
  induction i with
  | zero => rfl
  | succ i ih =>
    rw [bitsS, ih fun k hk => h k (by omega), h i (by omega), xor_same]
    simp [popN_zero]
theorem bitsS_flip (d : List UInt8) (bit : Int) (h0 : 0 ≤ bit) (h : (bit / 8).toNat < d.length) : ∀ i, bitsS (flipB d bit) d i = if (bit / 8).toNat < i then 1 else 0 := by
  intro i
  have hne : ∀ k, (bit / 8).toNat ≠ k → (flipB d bit).getD k 0 = d.getD k 0 := fun k hk => by unfold flipB; simp only [List.getD]; rw [List.getElem?_set_ne hk]
  induction i with
  | zero => rw [if_neg (by omega)]; rfl
  | succ i ih =>
    rw [bitsS, ih]
    by_cases hk : (bit / 8).toNat = i
    · have e1 : (flipB d bit).getD i 0 = d.getD i 0 ^^^ maskB bit := by rw [← hk]; simp only [List.getD, flipB_at d bit h]; rfl
      rw [if_neg (by omega), if_pos (by omega), e1, xor_mask, (mask_cases bit h0).2]
    · rw [hne i hk, xor_same]
      simp only [UInt8.toNat_zero, popN_zero, Nat.add_zero]
      by_cases hlt : (bit / 8).toNat < i
      · rw [if_pos hlt, if_pos (by omega)]
      · rw [if_neg hlt, if_neg (by omega)]
theorem bitsP_flip (d : List UInt8) (bit : Int) (h0 : 0 ≤ bit) (h : (bit / 8).toNat < d.length) : bitsP (flipB d bit) d = 1 := by
  rw [bitsP, if_pos (by simp), bitsS_flip d bit h0 h, if_pos (by simpa using h)]
  rfl

/-- A list's slice as the program's own calls give it. -/
def Shp (v : Value) : Prop := ∃ z len c, v = .slice z len c ∧ (z = none → len = 0 ∧ c = 0) ∧ (c = len ∨ c = openCap + 3) ∧ len < openCap
theorem Lst.shp {F : Blks} {H : AHeap} {v : Value} {L : List Pk} (h : Lst H F v L) (hl : L.length < openCap) : Shp v := by
  rcases h.fli with ⟨rfl, rfl⟩ | ⟨ad, c, r, rfl, _, _, _, _, _, _, _, hc⟩
  · exact ⟨none, 0, 0, rfl, fun _ => ⟨rfl, rfl⟩, .inl rfl, by unfold openCap; omega⟩
  · exact ⟨some ad, L.length, c, rfl, (fun h => by cases h), hc.imp id (fun h => h.1), hl⟩
theorem FlR.takeS {F : Blks} {H : AHeap} {v : Value} {M : List Msg} (h : FlR H F v M) (hs : Shp v) {j : Nat} (hj : j ≤ M.length) : ∃ v', sliceA Try.prog 36 v none (some (.int .i64 j)) none = some v' ∧ FlR H F v' (M.take j) := by
  obtain ⟨z, c, rfl⟩ := h.slice
  obtain ⟨z', len, c', hv, h0, hc, hlt⟩ := hs
  simp only [Value.slice.injEq] at hv
  obtain ⟨rfl, rfl, rfl⟩ := hv
  have hlen : (M.take j).length = j := by simp; omega
  have hjj : ((j : Nat) : Int) ≤ M.length := by omega
  obtain ⟨cells, h1, h2⟩ := h
  have rest : ∀ (w : Value), (j = 0 → ∃ z c, w = .slice z 0 c) → (∀ ad, z = some ad → j ≠ 0 → ∃ c, w = .slice (some ad) j c) → (z = none → ∃ z c, w = .slice z 0 c) → FlR H F w (M.take j) := by
    intro w hw0 hw1 hw2
    refine ⟨cells.take (j * 3), ?_, fun i x hx => ?_⟩
    · rw [hlen]
      by_cases hj0 : j = 0
      · obtain ⟨z, c, rfl⟩ := hw0 hj0
        subst hj0
        exact .empty _ _
      · generalize hn : M.length = n at h1
        cases h1 with
        | empty z c => omega
        | full ad n c cells hn' hF hlt' hcell =>
          obtain ⟨c2, rfl⟩ := hw1 ad rfl hj0
          refine .full ad j c2 _ hj0 hF hlt' ?_
          have := cellsAt_sub hcell (j := 0) (i := j * 3) (by omega)
          rw [List.drop_zero] at this
          exact this
    · have hi : i < j := by have := (List.getElem?_eq_some_iff.1 hx).1; omega
      rw [List.getElem?_take, if_pos hi] at hx
      obtain ⟨dv, h3, h4⟩ := h2 i x hx
      refine ⟨dv, ?_, h4⟩
      rw [← h3, List.drop_take, List.take_take, Nat.min_eq_left (by omega)]
  cases z with
  | none =>
    obtain ⟨hl0, rfl⟩ := h0 rfl
    have hj0 : j = 0 := by omega
    subst hj0
    refine ⟨.slice none 0 0, by simp [sliceA, Try.underlying36, sz32, boundsA, boundA, lowA], rest _ (fun _ => ⟨_, _, rfl⟩) (fun ad h => by cases h) (fun _ => ⟨_, _, rfl⟩)⟩
  | some ad =>
    rcases hc with rfl | rfl
    · have h3 : ¬ openCap ≤ M.length := by omega
      by_cases hl0 : M.length = 0
      · have hj0 : j = 0 := by omega
        subst hj0
        exact ⟨.slice (some ad) 0 0, by simp [sliceA, Try.underlying36, sz32, h3, boundsA, boundA, lowA, advA, hl0]; simp [openCap], rest _ (fun _ => ⟨_, _, rfl⟩) (fun _ _ h => absurd rfl h) (fun h => by cases h)⟩
      · refine ⟨.slice (some (aadd ad 0)) j M.length, by simp [sliceA, Try.underlying36, sz32, h3, boundsA, boundA, lowA, advA, hjj, hl0], rest _ ?_ ?_ (fun h => by cases h)⟩
        · rintro rfl; exact ⟨_, _, rfl⟩
        · intro ad' h' _
          obtain rfl := Option.some.inj h'
          exact ⟨_, rfl⟩
    · refine ⟨.slice (some (aadd ad (0 * 3))) j (openCap + 3), by simp [sliceA, Try.underlying36, sz32, boundsA, boundA, lowA, hjj], rest _ ?_ ?_ (fun h => by cases h)⟩
      · rintro rfl; exact ⟨_, _, rfl⟩
      · intro ad' h' _
        obtain rfl := Option.some.inj h'
        exact ⟨_, rfl⟩
theorem FlR.dropS {F : Blks} {H : AHeap} {v : Value} {M : List Msg} (h : FlR H F v M) (hs : Shp v) {j : Nat} (hj : j ≤ M.length) {ji : Int} (hji : ji = (j : Nat)) : ∃ v', sliceA Try.prog 36 v (some (.int .i64 ji)) none none = some v' ∧ FlR H F v' (M.drop j) := by
  subst hji
  obtain ⟨z, c, rfl⟩ := h.slice
  obtain ⟨z', len, c', hv, h0, hc, hlt⟩ := hs
  simp only [Value.slice.injEq] at hv
  obtain ⟨rfl, rfl, rfl⟩ := hv
  have hlen : (M.drop j).length = M.length - j := by simp
  have hjj : ((j : Nat) : Int) ≤ M.length := by omega
  have hj00 : (0 : Int) ≤ (j : Nat) := by omega
  obtain ⟨cells, h1, h2⟩ := h
  have rest : ∀ (w : Value), (M.length - j = 0 → ∃ z c, w = .slice z 0 c) → (∀ ad, z = some ad → M.length - j ≠ 0 → ∃ c, w = .slice (some (aadd ad (j * 3))) (M.length - j) c) → FlR H F w (M.drop j) := by
    intro w hw0 hw1
    have hcl := h1.length
    refine ⟨cells.drop (j * 3), ?_, fun i x hx => ?_⟩
    · rw [hlen]
      by_cases hj0 : M.length - j = 0
      · obtain ⟨z, c, rfl⟩ := hw0 hj0
        have : cells.drop (j * 3) = [] := List.drop_of_length_le (by omega)
        rw [hj0, this]
        exact .empty _ _
      · generalize hn : M.length = n at h1 hw1 hj0
        cases h1 with
        | empty z c => omega
        | full ad n c cells hn' hF hlt' hcell =>
          obtain ⟨c2, rfl⟩ := hw1 ad rfl hj0
          refine .full _ _ c2 _ hj0 hF hlt' ?_
          have := cellsAt_sub hcell (j := j * 3) (i := (M.length - j) * 3) (by omega)
          rw [hn] at this
          rw [this, List.take_of_length_le]
          rw [List.length_drop]
          have := cellsAt_length hcell
          omega
    · rw [List.getElem?_drop] at hx
      obtain ⟨dv, h3, h4⟩ := h2 (j + i) x hx
      refine ⟨dv, ?_, h4⟩
      rw [← h3, List.drop_drop, Nat.add_mul]
  cases z with
  | none =>
    obtain ⟨hl0, rfl⟩ := h0 rfl
    have hj0 : j = 0 := by omega
    subst hj0
    refine ⟨.slice none 0 0, by simp [sliceA, Try.underlying36, sz32, boundsA, boundA, lowA, hl0], rest _ (fun _ => ⟨_, _, rfl⟩) (fun ad h => by cases h)⟩
  | some ad =>
    rcases hc with rfl | rfl
    · have h3 : ¬ openCap ≤ M.length := by omega
      by_cases hl0 : M.length = j
      · refine ⟨.slice (some ad) 0 0, ?_, rest _ (fun _ => ⟨_, _, rfl⟩) (fun _ _ h => absurd (by omega) h)⟩
        simp only [sliceA, Try.underlying36, sz32, h3, if_false, boundsA, boundA, lowA, advA, hjj, hj00, and_self, if_true, Option.bind_some, Option.map_some, Int.toNat_natCast]
        simp [hl0]
      · refine ⟨.slice (some (aadd ad (j * 3))) (M.length - j) (M.length - j), ?_, rest _ (fun h => absurd h (by omega)) ?_⟩
        · simp only [sliceA, Try.underlying36, sz32, h3, if_false, boundsA, boundA, lowA, advA, hjj, hj00, and_self, if_true, Option.bind_some, Option.map_some, Int.toNat_natCast, hl0]
        · intro ad' h' _
          obtain rfl := Option.some.inj h'
          exact ⟨_, rfl⟩
    · refine ⟨.slice (some (aadd ad (j * 3))) (M.length - j) (openCap + 3), ?_, rest _ ?_ ?_⟩
      · simp only [sliceA, Try.underlying36, sz32, boundsA, boundA, lowA, hjj, hj00, and_self, if_true, Option.bind_some, Option.map_some, Int.toNat_natCast]
        simp
      · intro h; rw [h]; exact ⟨_, _, rfl⟩
      · intro ad' h' _
        obtain rfl := Option.some.inj h'
        exact ⟨_, rfl⟩

/-- Two networks and a list that was told, apart from one another. -/
structure Tri (H0 H : AHeap) (ea eb : Nat) (Ma Mb : List Msg) (Fa Fb G : Blks) (w : Value) (W : List Msg) : Prop where
  k : Keep No H0 H
  a : NetM H Fa ea 3 Ma
  b : NetM H Fb eb 3 Mb
  w : FlR H G w W
  ab : ∀ x, Fa x → ¬ Fb x
  ag : ∀ x, Fa x → ¬ G x
  bg : ∀ x, Fb x → ¬ G x
  gb : ∀ x, G x → x < H.next
  a0 : ∀ x, Fa x → H0.next ≤ x
  b0 : ∀ x, Fb x → H0.next ≤ x
theorem Tri.keep0 {H0 H H' : AHeap} {ea eb : Nat} {Ma Mb : List Msg} {Fa Fb G : Blks} {w : Value} {W : List Msg} (t : Tri H0 H ea eb Ma Mb Fa Fb G w W) (hk : Keep No H H') : Tri H0 H' ea eb Ma Mb Fa Fb G w W :=
  ⟨t.k.after hk, t.a.keep0 hk, t.b.keep0 hk, t.w.keep0 hk, t.ab, t.ag, t.bg, fun x hx => Nat.lt_of_lt_of_le (t.gb x hx) hk.1, t.a0, t.b0⟩
theorem Tri.stepA {H0 H H' : AHeap} {ea eb : Nat} {Ma Ma' Mb : List Msg} {Fa Fa' Fb G : Blks} {w : Value} {W : List Msg} (t : Tri H0 H ea eb Ma Mb Fa Fb G w W) (hk : Keep Fa H H') (hN : NetM H' Fa' ea 3 Ma') (hg : Grow Fa Fa' H) : Tri H0 H' ea eb Ma' Mb Fa' Fb G w W :=
  ⟨t.k.own hk t.a0, hN, t.b.keep hk fun x _ hb ha => t.ab x ha hb, t.w.keep hk fun x _ hx ha => t.ag x ha hx,
    fun x hx hb => (hg x hx).elim (fun h => t.ab x h hb) fun h => by have := t.b.bound x hb; omega,
    fun x hx hb => (hg x hx).elim (fun h => t.ag x h hb) fun h => by have := t.gb x hb; omega, t.bg, fun x hx => Nat.lt_of_lt_of_le (t.gb x hx) hk.1, hg.own t.k.1 t.a0, t.b0⟩
theorem Tri.stepB {H0 H H' : AHeap} {ea eb : Nat} {Ma Mb Mb' : List Msg} {Fa Fb Fb' G : Blks} {w : Value} {W : List Msg} (t : Tri H0 H ea eb Ma Mb Fa Fb G w W) (hk : Keep Fb H H') (hN : NetM H' Fb' eb 3 Mb') (hg : Grow Fb Fb' H) : Tri H0 H' ea eb Ma Mb' Fa Fb' G w W :=
  ⟨t.k.own hk t.b0, t.a.keep hk fun x _ ha hb => t.ab x ha hb, hN, t.w.keep hk fun x _ hx hb => t.bg x hb hx,
    fun x ha hb => (hg x hb).elim (fun h => t.ab x ha h) fun h => by have := t.a.bound x ha; omega, t.ag,
    fun x hx hb => (hg x hx).elim (fun h => t.bg x h hb) fun h => by have := t.gb x hb; omega, fun x hx => Nat.lt_of_lt_of_le (t.gb x hx) hk.1, t.a0, hg.own t.k.1 t.b0⟩

end Go.Ae

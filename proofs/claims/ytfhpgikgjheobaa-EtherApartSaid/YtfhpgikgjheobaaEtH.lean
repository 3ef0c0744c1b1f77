/- Package ether by what its packets say: each call as a function of lists. No condition. -/
import Derived.Test.YtfhpgikgjheobaaEtF
import Derived.Test.YtfhpgikgjheobaaEtG
set_option linter.unusedSimpArgs false
set_option linter.unusedVariables false
set_option linter.unnecessarySimpa false
namespace Go.Ae
open Go.Proofs
attribute [local irreducible] awC wpSeq wpS nRes aw aE acall ACalls szT isAggT zeroT byT elemSz fieldOff Program.underlying appendA copyA thenA inBlockA bodyA AHeap.push AHeap.put AHeap.cellsAt AHeap.setCells resV loadA intBin EW EC EX Nr Nc Er Cr Agree

theorem map_eraseIdx {α β : Type} (f : α → β) : ∀ (L : List α) (i : Nat), (L.eraseIdx i).map f = (L.map f).eraseIdx i
  | [], _ => by simp
  | x :: L, 0 => by simp
  | x :: L, i + 1 => by simp [map_eraseIdx f L i]
abbrev Msg := Int × Int × List UInt8
/-- The i-th, if there is one. -/
def atI {α : Type} (M : List α) (i : Int) : Option α := if 0 ≤ i then M[i.toNat]? else none
theorem atI_nat {α : Type} (M : List α) (j : Nat) : atI M (j : Int) = M[j]? := by simp [atI]
theorem atI_none {α : Type} {M : List α} {i : Int} (h : ¬ (0 ≤ i ∧ i < M.length)) : atI M i = none := by
  unfold atI
  by_cases h0 : 0 ≤ i
  · rw [if_pos h0, List.getElem?_eq_none]; omega
  · rw [if_neg h0]
theorem atI_some {α : Type} {M : List α} {i : Int} {x : α} (h : atI M i = some x) : 0 ≤ i ∧ i < M.length := by
  unfold atI at h
  split at h
  · have := (List.getElem?_eq_some_iff.1 h).1; omega
  · cases h
theorem atI_isSome {α : Type} (M : List α) (i : Int) : (atI M i).isSome = decide (0 ≤ i ∧ i < M.length) := by
  by_cases h : 0 ≤ i ∧ i < M.length
  · have : i.toNat < M.length := by omega
    simp [atI, h.1, h.2, this]
  · rw [atI_none h]; simp [h]

def sendP (m : Int) (M : List Msg) (f t : Int) (bs : List UInt8) : Int × List Msg :=
  if ¬ (0 ≤ f ∧ f < m ∧ 0 ≤ t ∧ t < m ∧ f ≠ t) then (221, M) else if 32776 < bs.length then (222, M) else if M.length = 256 then (223, M) else (0, M ++ [(f, t, bs)])
def copyP (M : List Msg) (i : Int) : Int × List Msg :=
  match atI M i with
  | none => (224, M)
  | some x => if M.length = 256 then (223, M) else (0, M ++ [x])
def cutP (M : List Msg) (i : Int) : List Msg := match atI M i with | none => M | some _ => M.eraseIdx i.toNat
def flipP (M : List Msg) (i bit : Int) : Bool × List Msg :=
  match atI M i with
  | none => (false, M)
  | some x => if bit < 0 ∨ (x.2.2.length : Int) ≤ bit / 8 then (false, M) else (true, M.set i.toNat (x.1, x.2.1, flipB x.2.2 bit))

/-- A network, by what its packets say. -/
structure NetM (H : AHeap) (F : Blks) (e : Nat) (m : Int) (M : List Msg) : Prop where
  net : ∃ L, Net H F e m L ∧ L.map Pk.msg = M
  len : M.length ≤ 256
  sizes : ∀ x ∈ M, x.2.2.length ≤ 32776
/-- The new footprint: of the old one, or new. -/
def Grow (F F' : Blks) (H : AHeap) : Prop := ∀ b, F' b → F b ∨ H.next ≤ b
theorem Grow.refl {F : Blks} {H : AHeap} : Grow F F H := fun _ h => .inl h

theorem NetM.keep {F G : Blks} {H H' : AHeap} {e : Nat} {m : Int} {M : List Msg} (h : NetM H F e m M) (hk : Keep G H H') (hd : ∀ b, b < H.next → F b → ¬ G b) : NetM H' F e m M := by
  obtain ⟨⟨L, hN, hM⟩, h1, h2⟩ := h
  exact ⟨⟨L, hN.keep hk fun b hb => hd b (hN.bound b hb) hb, hM⟩, h1, h2⟩
theorem NetM.keep0 {F : Blks} {H H' : AHeap} {e : Nat} {m : Int} {M : List Msg} (h : NetM H F e m M) (hk : Keep No H H') : NetM H' F e m M := h.keep hk fun _ _ _ h => h
theorem NetM.bound {F : Blks} {H : AHeap} {e : Nat} {m : Int} {M : List Msg} (h : NetM H F e m M) : ∀ b, F b → b < H.next := by
  obtain ⟨⟨L, hN, hM⟩, h1, h2⟩ := h
  exact hN.bound
theorem NetM.at_ {F : Blks} {H : AHeap} {e : Nat} {m : Int} {M : List Msg} (h : NetM H F e m M) : F e := by
  obtain ⟨⟨L, hN, hM⟩, h1, h2⟩ := h
  exact hN.fe

theorem newM (m : Int) (H : AHeap) :
    ACalls Try.prog 14 #[.int .i64 m] H fun v H' =>
      (¬ (1 ≤ m ∧ m ≤ 8) ∧ v = .tuple #[.pointer none, .int .i64 220] ∧ H' = H) ∨
      (1 ≤ m ∧ m ≤ 8) ∧ ∃ e, v = .tuple #[.pointer (some ⟨e, 0, none⟩), .int .i64 0] ∧ NetM H' (New H H') e m [] ∧ Keep No H H' := by
  refine (new_calls m H).mono fun v H' h => h.imp id ?_
  rintro ⟨h1, rfl, h2, h3⟩
  exact ⟨h1, _, rfl, ⟨⟨[], h2, rfl⟩, by simp, by simp⟩, h3⟩

section
variable {F G : Blks} {H : AHeap} {e : Nat} {m : Int} {M : List Msg}
theorem sendM (f t : Int) {dv : Value} {bs : List UInt8} (hN : NetM H F e m M) (hd : BR H G dv bs) (hl : bs.length ≤ 140737488355328) :
    ACalls Try.prog 15 #[.pointer (some ⟨e, 0, none⟩), .int .i64 f, .int .i64 t, dv] H fun v H' =>
      v = .int .i64 (sendP m M f t bs).1 ∧ Keep F H H' ∧ ∃ F', NetM H' F' e m (sendP m M f t bs).2 ∧ Grow F F' H := by
  obtain ⟨⟨L, hN, rfl⟩, h1, h2⟩ := hN
  rw [List.length_map] at h1
  refine (send_calls f t dv bs H hN h1 hd hl).mono fun v H' h => ?_
  unfold sendP
  rcases h with ⟨hc, rfl, rfl⟩ | ⟨hc, ⟨h3, rfl, rfl⟩ | ⟨h3, ⟨h4, rfl, hN', hk⟩ | ⟨h4, rfl, hk, b, hb, hN'⟩⟩⟩
  · rw [if_pos hc]
    exact ⟨rfl, Keep.refl, F, ⟨⟨L, hN, rfl⟩, by simpa using h1, h2⟩, Grow.refl⟩
  · rw [if_neg (fun h => h hc), if_pos h3]
    exact ⟨rfl, Keep.refl, F, ⟨⟨L, hN, rfl⟩, by simpa using h1, h2⟩, Grow.refl⟩
  · rw [if_neg (fun h => h hc), if_neg (by omega), if_pos (by simpa using h4)]
    exact ⟨rfl, hk.no, F, ⟨⟨L, hN', rfl⟩, by simpa using h1, h2⟩, Grow.refl⟩
  · rw [if_neg (fun h => h hc), if_neg (by omega), if_neg (by simp; omega)]
    refine ⟨rfl, hk, _, ⟨⟨_, hN', by simp [Pk.msg]⟩, by simp; omega, ?_⟩, fun b hb => hb.imp id fun h => h.1⟩
    intro x hx
    rcases List.mem_append.1 hx with hx | hx
    · exact h2 x hx
    · obtain rfl := List.mem_singleton.1 hx
      exact h3
theorem sizes_erase {M : List Msg} {i : Nat} (h : ∀ x ∈ M, x.2.2.length ≤ 32776) : ∀ x ∈ M.eraseIdx i, x.2.2.length ≤ 32776 := fun x hx => h x ((List.eraseIdx_sublist M i).subset hx)
theorem big_of {L : List Pk} (h : ∀ x ∈ L.map Pk.msg, x.2.2.length ≤ 32776) : ∀ p ∈ L, p.data.length ≤ 140737488355328 := fun p hp => by
  have := h _ (List.mem_map_of_mem hp)
  simp only [Pk.msg] at this
  omega
theorem deliverM (i : Int) (hN : NetM H F e m M) :
    ACalls Try.prog 16 #[.pointer (some ⟨e, 0, none⟩), .int .i64 i] H fun v H' =>
      (atI M i = none ∧ v = .tuple #[.agg #[.int .i64 0, .int .i64 0, .slice none 0 0], .bool false] ∧ Keep No H H') ∨
      ∃ x b, atI M i = some x ∧ v = .tuple #[.agg #[.int .i64 x.1, .int .i64 x.2.1, .slice (some ⟨b, 0, none⟩) x.2.2.length x.2.2.length], .bool true] ∧ Keep F H H' ∧ F b ∧ b < H.next ∧
        H'.get b = some (.row ⟨bytesV x.2.2, 5, 0, true⟩) ∧ ∃ F', NetM H' F' e m (M.eraseIdx i.toNat) ∧ Grow F F' H ∧ ¬ F' b := by
  obtain ⟨⟨L, hN, rfl⟩, h1, h2⟩ := hN
  have h1' : L.length ≤ 256 := by simpa using h1
  refine (deliver_calls (i := i) H hN h1').mono fun v H' h => ?_
  rcases h with ⟨hc, rfl, hk⟩ | ⟨j, p, rfl, hp, rfl, hk, hN', hd⟩
  · exact .inl ⟨atI_none (by simpa using hc), rfl, hk⟩
  · have hpm := List.mem_of_getElem? hp
    have hpF := (hN.data p hpm).2
    have hpb := hN.bound _ hpF
    refine .inr ⟨p.msg, p.blk, by rw [atI_nat, List.getElem?_map, hp]; rfl, rfl, hk, hpF, hpb, hd, _, ⟨⟨_, hN', ?_⟩, ?_, sizes_erase h2⟩, fun b hb => hb.imp (fun h => h.1) fun h => h.1, ?_⟩
    · rw [Int.toNat_natCast, map_eraseIdx]
    · exact Nat.le_trans (List.eraseIdx_sublist _ _).length_le h1
    · rintro (⟨_, h⟩ | h)
      · exact h rfl
      · have := h.1; omega
theorem dropM (i : Int) (hN : NetM H F e m M) :
    ACalls Try.prog 33 #[.pointer (some ⟨e, 0, none⟩), .int .i64 i] H fun v H' =>
      v = .bool (atI M i).isSome ∧ Keep F H H' ∧ ∃ F', NetM H' F' e m (cutP M i) ∧ Grow F F' H := by
  obtain ⟨⟨L, hN, rfl⟩, h1, h2⟩ := hN
  have h1' : L.length ≤ 256 := by simpa using h1
  refine (drop_calls (i := i) H hN h1').mono fun v H' h => ?_
  unfold cutP
  rcases h with ⟨hc, rfl, rfl⟩ | ⟨j, p, rfl, hp, rfl, hk, hN'⟩
  · rw [atI_none (by simpa using hc)]
    exact ⟨rfl, Keep.refl, F, ⟨⟨L, hN, rfl⟩, h1, h2⟩, Grow.refl⟩
  · have : atI (L.map Pk.msg) (j : Int) = some p.msg := by rw [atI_nat, List.getElem?_map, hp]; rfl
    rw [this]
    refine ⟨rfl, hk, _, ⟨⟨_, hN', ?_⟩, ?_, sizes_erase h2⟩, fun b hb => hb.imp (fun h => h.1) fun h => h.1⟩
    · rw [Int.toNat_natCast, map_eraseIdx]
    · exact Nat.le_trans (List.eraseIdx_sublist _ _).length_le h1
theorem copyM (i : Int) (hN : NetM H F e m M) :
    ACalls Try.prog 20 #[.pointer (some ⟨e, 0, none⟩), .int .i64 i] H fun v H' =>
      v = .int .i64 (copyP M i).1 ∧ Keep F H H' ∧ ∃ F', NetM H' F' e m (copyP M i).2 ∧ Grow F F' H := by
  obtain ⟨⟨L, hN, rfl⟩, h1, h2⟩ := hN
  have h1' : L.length ≤ 256 := by simpa using h1
  refine (copy_calls (i := i) H hN h1' (big_of h2)).mono fun v H' h => ?_
  unfold copyP
  rcases h with ⟨hc, rfl, rfl⟩ | ⟨j, p, rfl, hp, ⟨h4, rfl, hN', hk⟩ | ⟨h4, rfl, hk, b, hb, hN'⟩⟩
  · rw [atI_none (by simpa using hc)]
    exact ⟨rfl, Keep.refl, F, ⟨⟨L, hN, rfl⟩, h1, h2⟩, Grow.refl⟩
  · have : atI (L.map Pk.msg) (j : Int) = some p.msg := by rw [atI_nat, List.getElem?_map, hp]; rfl
    rw [this]
    simp only [List.length_map, h4, if_true]
    exact ⟨trivial, hk.no, F, ⟨⟨L, hN', rfl⟩, h1, h2⟩, Grow.refl⟩
  · have : atI (L.map Pk.msg) (j : Int) = some p.msg := by rw [atI_nat, List.getElem?_map, hp]; rfl
    rw [this]
    have h5 : ¬ L.length = 256 := by omega
    simp only [List.length_map, h5, if_false]
    refine ⟨trivial, hk, _, ⟨⟨_, hN', by simp [Pk.msg]⟩, by simp; omega, ?_⟩, fun b hb => hb.imp id fun h => h.1⟩
    intro x hx
    rcases List.mem_append.1 hx with hx | hx
    · exact h2 x hx
    · obtain rfl := List.mem_singleton.1 hx
      exact h2 _ (List.mem_map_of_mem (List.mem_of_getElem? hp))
theorem flipM (i bit : Int) (hN : NetM H F e m M) (hb1 : -9223372036854775808 ≤ bit) (hb2 : bit ≤ 9223372036854775807) :
    ACalls Try.prog 31 #[.pointer (some ⟨e, 0, none⟩), .int .i64 i, .int .i64 bit] H fun v H' =>
      v = .bool (flipP M i bit).1 ∧ Keep F H H' ∧ NetM H' F e m (flipP M i bit).2 := by
  obtain ⟨⟨L, hN, rfl⟩, h1, h2⟩ := hN
  have h1' : L.length ≤ 256 := by simpa using h1
  refine (flip_calls i bit H hN h1' (big_of h2) hb1 hb2).mono fun v H' h => ?_
  unfold flipP
  rcases h with ⟨hc, rfl, rfl⟩ | ⟨j, p, rfl, hp, hb0, hb8, rfl, hk, hN'⟩
  · by_cases hin : 0 ≤ i ∧ i < L.length
    · obtain ⟨j, rfl⟩ : ∃ j : Nat, i = j := ⟨i.toNat, by omega⟩
      have hp : L[j]? = some L[j] := List.getElem?_eq_getElem (by omega)
      have : atI (L.map Pk.msg) (j : Int) = some L[j].msg := by rw [atI_nat, List.getElem?_map, hp]; rfl
      rw [this]
      have hcc : bit < 0 ∨ (L[j].msg.2.2.length : Int) ≤ bit / 8 := by
        rcases hc with hc | hc | hc
        · exact absurd hin hc
        · exact .inl hc
        · exact .inr (hc _ (by simpa using hp))
      simp only [hcc, if_true]
      exact ⟨trivial, Keep.refl, ⟨⟨L, hN, rfl⟩, h1, h2⟩⟩
    · rw [atI_none (by simpa using hin)]
      exact ⟨rfl, Keep.refl, ⟨⟨L, hN, rfl⟩, h1, h2⟩⟩
  · have : atI (L.map Pk.msg) (j : Int) = some p.msg := by rw [atI_nat, List.getElem?_map, hp]; rfl
    rw [this]
    have hcc : ¬ (bit < 0 ∨ (p.msg.2.2.length : Int) ≤ bit / 8) := by simp only [Pk.msg]; omega
    simp only [hcc, if_false]
    refine ⟨trivial, hk, ⟨⟨_, hN', ?_⟩, by simpa using h1, ?_⟩⟩
    · rw [List.map_set, Int.toNat_natCast]; rfl
    · intro x hx
      rcases List.mem_or_eq_of_mem_set hx with hx | rfl
      · exact h2 x hx
      · simp only [flipB_length]
        exact h2 _ (List.mem_map_of_mem (List.mem_of_getElem? hp))
theorem listM (hN : NetM H F e m M) : ACalls Try.prog 18 #[.pointer (some ⟨e, 0, none⟩)] H fun v H' => Keep No H H' ∧ ∃ L', Lst H' (New H H') v L' ∧ L'.map Pk.msg = M := by
  obtain ⟨⟨L, hN, rfl⟩, h1, h2⟩ := hN
  exact list_calls H hN (by simpa using h1) (big_of h2)
end

theorem Keep.own {F : Blks} {H H1 H2 : AHeap} (h : Keep No H H1) (h' : Keep F H1 H2) (hF : ∀ b, F b → H.next ≤ b) : Keep No H H2 := h.trans h' fun i hi hf => by have := hF i hf; omega
theorem Grow.own {F F' : Blks} {H H1 : AHeap} (h : Grow F F' H1) (hle : H.next ≤ H1.next) (hF : ∀ b, F b → H.next ≤ b) : ∀ b, F' b → H.next ≤ b := fun b hb => (h b hb).elim (hF b) fun h => Nat.le_trans hle h

end Go.Ae

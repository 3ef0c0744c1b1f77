/- The law EtherHonest over the abstract heap. No condition. -/
import Derived.Test.YtfhpgikgjheobaaEtO
set_option linter.unusedSimpArgs false
set_option linter.unusedVariables false
set_option linter.unnecessarySimpa false
set_option maxRecDepth 100000
set_option maxHeartbeats 1600000
namespace Go.Ae
open Go.Proofs
attribute [local irreducible] awC wpSeq wpS nRes aw aE acall ACalls szT isAggT zeroT byT elemSz fieldOff Program.underlying appendA copyA thenA inBlockA bodyA AHeap.push AHeap.put AHeap.cellsAt AHeap.setCells resV loadA intBin EW EC EX Nr Nc Er Cr Agree

def tbl10 : Tbl := [(14, [0, 1, 2, 3, 4, 5, 6, 7, 8, 9, 10, 11, 12, 13, 14, 15, 16, 17, 18, 19, 20, 21, 22, 23, 24, 25, 26, 27], [0, 1, 3, 7, 15, 31, 63, 127, 255, 15, 527, 1551, 3599, 8191, 15, 16399, 49167, 114703, 15, 262159, 786447, 1835023, 4177935, 15, 8388623, 33538063, 67108863, 134217727]), (22, [0, 1, 2, 3, 4, 5, 6, 7, 8, 9, 10, 11, 12, 13, 14, 15, 16, 17, 18, 19, 20, 21, 22, 23, 24, 25, 26, 27, 28, 29, 30, 31, 32], [0, 1, 3, 7, 15, 31, 63, 127, 255, 511, 1023, 2047, 4095, 255, 8447, 24831, 57599, 131071, 255, 262399, 786687, 1835263, 255, 4194559, 12583167, 29360383, 66846975, 255, 134217983, 536609023, 1073741823, 2147483647, 4294967295])]

/-! One bit turned: one more or one less -/
def pop8 (x : Nat) : Nat := x % 2 + (x / 2) % 2 + (x / 4) % 2 + (x / 8) % 2 + (x / 16) % 2 + (x / 32) % 2 + (x / 64) % 2 + (x / 128) % 2
theorem popN_step (x : Nat) : popN x = x % 2 + popN (x / 2) := by
  by_cases h : x = 0
  · subst h; simp [popN_zero]
  · exact popN_pos (by omega)
theorem popN_eq (x : Nat) (h : x < 256) : popN x = pop8 x := by
  rw [popN_step x, popN_step (x / 2), popN_step (x / 2 / 2), popN_step (x / 2 / 2 / 2), popN_step (x / 2 / 2 / 2 / 2), popN_step (x / 2 / 2 / 2 / 2 / 2), popN_step (x / 2 / 2 / 2 / 2 / 2 / 2), popN_step (x / 2 / 2 / 2 / 2 / 2 / 2 / 2)]
  have h0 : x / 2 / 2 / 2 / 2 / 2 / 2 / 2 / 2 = 0 := by omega
  rw [h0, popN_zero]
  simp only [pop8, Nat.div_div_eq_div_mul]
  omega
theorem pop8_flip : ∀ x, x < 256 → ∀ j, j < 8 → pop8 (x ^^^ 2 ^ j) ≤ pop8 x + 1 := by decide +kernel
theorem pop_mask (x : UInt8) (bit : Int) (h0 : 0 ≤ bit) : popN (x ^^^ maskB bit).toNat ≤ popN x.toNat + 1 := by
  have h1 := x.toNat_lt
  have h2 := (x ^^^ maskB bit).toNat_lt
  rw [popN_eq _ h2, popN_eq _ h1, UInt8.toNat_xor, (mask_cases bit h0).1]
  exact pop8_flip _ h1 _ (by omega)
theorem bitsS_turn (a d : List UInt8) (bit : Int) (h0 : 0 ≤ bit) (h : (bit / 8).toNat < d.length) : ∀ i, bitsS a (flipB d bit) i ≤ bitsS a d i + (if (bit / 8).toNat < i then 1 else 0) := by
  intro i
  induction i with
  | zero => simp [bitsS]
  | succ i ih =>
    rw [bitsS, bitsS]
    by_cases hk : (bit / 8).toNat = i
    · have e1 : (flipB d bit).getD i 0 = d.getD i 0 ^^^ maskB bit := by rw [← hk]; simp only [List.getD, flipB_at d bit h]; rfl
      have e2 := pop_mask (a.getD i 0 ^^^ d.getD i 0) bit h0
      have e3 : a.getD i 0 ^^^ (d.getD i 0 ^^^ maskB bit) = (a.getD i 0 ^^^ d.getD i 0) ^^^ maskB bit := by apply UInt8.toBitVec_inj.1; simp [BitVec.xor_assoc]
      rw [e1, e3, if_pos (by omega)]
      rw [if_neg (by omega)] at ih
      omega
    · have e1 : (flipB d bit).getD i 0 = d.getD i 0 := by unfold flipB; simp only [List.getD]; rw [List.getElem?_set_ne hk]
      rw [e1]
      by_cases hlt : (bit / 8).toNat < i
      · rw [if_pos (by omega)]; rw [if_pos hlt] at ih; omega
      · rw [if_neg (by omega)]; rw [if_neg hlt] at ih; omega
theorem bitsP_turn (a d : List UInt8) (bit : Int) (h0 : 0 ≤ bit) (h : (bit / 8).toNat < d.length) : bitsP a (flipB d bit) ≤ bitsP a d + 1 ∧ (0 ≤ bitsP a d → 0 ≤ bitsP a (flipB d bit)) := by
  unfold bitsP
  rw [flipB_length]
  split
  · have := bitsS_turn a d bit h0 h a.length
    split at this <;> exact ⟨by omega, fun _ => by omega⟩
  · exact ⟨by omega, fun h => h⟩
theorem bitsP_same (a : List UInt8) : bitsP a a = 0 := by rw [bitsP, if_pos rfl, bitsS_same _ _ _ fun _ _ => rfl]; rfl

/-! What holds of the book and the network -/
theorem known_more {S T : List Msg} {fl fl' : Nat} {x : Msg} (h : knownP S fl x = true) (hf : fl ≤ fl') : knownP (S ++ T) fl' x = true := by
  unfold knownP at h ⊢
  rw [List.any_eq_true] at h ⊢
  obtain ⟨s, hs, hk⟩ := h
  refine ⟨s, List.mem_append_left _ hs, ?_⟩
  unfold knows1 at hk ⊢
  have := of_decide_eq_true hk
  exact decide_eq_true ⟨this.1, this.2.1, this.2.2.1, by omega⟩
theorem known_flip {S : List Msg} {fl : Nat} {x : Msg} {bit : Int} (h : knownP S fl x = true) (h0 : 0 ≤ bit) (hl : (bit / 8).toNat < x.2.2.length) : knownP S (fl + 1) (x.1, x.2.1, flipB x.2.2 bit) = true := by
  unfold knownP at h ⊢
  rw [List.any_eq_true] at h ⊢
  obtain ⟨s, hs, hk⟩ := h
  refine ⟨s, hs, ?_⟩
  unfold knows1 at hk ⊢
  have := of_decide_eq_true hk
  have ht := bitsP_turn s.2.2 x.2.2 bit h0 hl
  have h9 : bitsP s.2.2 (flipB x.2.2 bit) ≤ ((fl + 1 : Nat) : Int) := by have := ht.1; omega
  exact decide_eq_true ⟨this.1, this.2.1, ht.2 this.2.2.1, h9⟩
structure Good (n : Nat) (M S : List Msg) (c d p fl : Nat) : Prop where
  sum : S.length + c = d + p + M.length
  all : ∀ x ∈ M, knownP S fl x = true
  sizes : ∀ s ∈ S, s.2.2.length ≤ 32776
  sn : S.length ≤ n
  cn : c ≤ n
  dn : d ≤ n
  pn : p ≤ n
  fn : fl ≤ n
theorem Good.more {n : Nat} {M S : List Msg} {c d p fl : Nat} (h : Good n M S c d p fl) : Good (n + 1) M S c d p fl :=
  ⟨h.sum, h.all, h.sizes, Nat.le_succ_of_le h.sn, Nat.le_succ_of_le h.cn, Nat.le_succ_of_le h.dn, Nat.le_succ_of_le h.pn, Nat.le_succ_of_le h.fn⟩
theorem atI_idx {M : List Msg} {a : Int} {x : Msg} (h : atI M a = some x) : M[a.toNat]? = some x := by
  unfold atI at h
  split at h
  · exact h
  · cases h
theorem Good.step {m : Int} {n : Nat} {M S M' S' : List Msg} {c d p fl c' d' p' fl' : Nat} {kind a b : Int} {dat : List UInt8} {r : Bool} (h : Good n M S c d p fl) (hs : StepR m M S c d p fl kind a b dat r M' S' c' d' p' fl') : r = true ∧ Good (n + 1) M' S' c' d' p' fl' := by
  have hm := h.more
  have s1 := h.sn
  have s2 := h.cn
  have s3 := h.dn
  have s4 := h.pn
  have s5 := h.fn
  have cutn : ∀ x, atI M a = some x → (M.eraseIdx a.toNat).length + 1 = M.length := by
    intro x hx
    have := (List.getElem?_eq_some_iff.1 (atI_idx hx)).1
    rw [List.length_eraseIdx, if_pos this]; omega
  have cuta : ∀ x ∈ M.eraseIdx a.toNat, x ∈ M := fun x hx => (List.eraseIdx_sublist M _).subset hx
  cases hs with
  | send hk hs =>
    have he : sendP m M a b dat = (0, M ++ [(a, b, dat)]) ∧ dat.length ≤ 32776 := by
      unfold sendP at hs ⊢
      split at hs
      · cases hs
      · rename_i h1
        split at hs
        · cases hs
        · rename_i h2
          split at hs
          · cases hs
          · rename_i h3
            rw [if_neg h1, if_neg h2, if_neg h3]
            exact ⟨rfl, by omega⟩
    rw [he.1]
    refine ⟨rfl, ⟨by simp; have := h.sum; omega, fun x hx => ?_, fun s hs' => ?_, by simp; omega, by omega, by omega, by omega, by omega⟩⟩
    · rcases List.mem_append.1 hx with hx | hx
      · exact known_more (h.all x hx) (Nat.le_refl _)
      · obtain rfl := List.mem_singleton.1 hx
        unfold knownP
        rw [List.any_eq_true]
        refine ⟨(a, b, dat), by simp, ?_⟩
        unfold knows1
        exact decide_eq_true ⟨rfl, rfl, by rw [bitsP_same]; omega, by rw [bitsP_same]; omega⟩
    · rcases List.mem_append.1 hs' with hs' | hs'
      · exact h.sizes s hs'
      · obtain rfl := List.mem_singleton.1 hs'
        exact he.2
  | nosend hk hs =>
    have he : (sendP m M a b dat).2 = M := by
      unfold sendP at hs ⊢
      split
      · rfl
      · rename_i h1
        split
        · rfl
        · rename_i h2
          split
          · rfl
          · rename_i h3
            rw [if_neg h1, if_neg h2, if_neg h3] at hs
            exact absurd rfl hs
    rw [he]
    exact ⟨rfl, hm⟩
  | none hk hn => exact ⟨rfl, hm⟩
  | got hk x hx =>
    have hl := cutn x hx
    exact ⟨h.all x (List.mem_of_getElem? (atI_idx hx)), ⟨by have := h.sum; omega, fun y hy => h.all y (cuta y hy), h.sizes, by omega, by omega, by omega, by omega, by omega⟩⟩
  | drop hk hx =>
    obtain ⟨x, hx⟩ := Option.isSome_iff_exists.1 hx
    have hl := cutn x hx
    have hc : cutP M a = M.eraseIdx a.toNat := by unfold cutP; rw [hx]
    rw [hc]
    exact ⟨rfl, ⟨by have := h.sum; omega, fun y hy => h.all y (cuta y hy), h.sizes, by omega, by omega, by omega, by omega, by omega⟩⟩
  | nodrop hk hx =>
    have hc : cutP M a = M := by
      unfold cutP
      cases hat : atI M a with
      | none => rfl
      | some x => rw [hat] at hx; cases hx
    rw [hc]
    exact ⟨rfl, hm⟩
  | copy hk hc =>
    cases hat : atI M a with
    | none => unfold copyP at hc; rw [hat] at hc; cases hc
    | some x =>
      have he : copyP M a = (0, M ++ [x]) := by
        unfold copyP at hc ⊢
        rw [hat] at hc ⊢
        simp only at hc ⊢
        split at hc
        · cases hc
        · rename_i h1; rw [if_neg h1]
      rw [he]
      refine ⟨rfl, ⟨by simp; have := h.sum; omega, fun y hy => ?_, h.sizes, by omega, by omega, by omega, by omega, by omega⟩⟩
      rcases List.mem_append.1 hy with hy | hy
      · exact h.all y hy
      · obtain rfl := List.mem_singleton.1 hy
        exact h.all _ (List.mem_of_getElem? (atI_idx hat))
  | nocopy hk hc =>
    have he : (copyP M a).2 = M := by
      unfold copyP at hc ⊢
      split
      · rfl
      · rename_i x hat
        rw [hat] at hc
        simp only at hc ⊢
        split
        · rfl
        · rename_i h1
          rw [if_neg h1] at hc
          exact absurd rfl hc
    rw [he]
    exact ⟨rfl, hm⟩
  | flip hk hf =>
    cases hat : atI M a with
    | none => unfold flipP at hf; rw [hat] at hf; cases hf
    | some x =>
      have hcond : ¬ (b < 0 ∨ (x.2.2.length : Int) ≤ b / 8) := by
        intro hc
        unfold flipP at hf
        rw [hat] at hf
        simp only [if_pos hc] at hf
        cases hf
      have he : flipP M a b = (true, M.set a.toNat (x.1, x.2.1, flipB x.2.2 b)) := by unfold flipP; rw [hat]; simp only [if_neg hcond]
      rw [he]
      refine ⟨rfl, ⟨by rw [List.length_set]; exact h.sum, fun y hy => ?_, h.sizes, by omega, by omega, by omega, by omega, by omega⟩⟩
      rcases List.mem_or_eq_of_mem_set hy with hy | rfl
      · have := known_more (T := []) (h.all y hy) (Nat.le_succ fl)
        simpa using this
      · exact known_flip (h.all _ (List.mem_of_getElem? (atI_idx hat))) (by omega) (by omega)
  | noflip hk hf =>
    have he : (flipP M a b).2 = M := by
      unfold flipP at hf ⊢
      split
      · rfl
      · rename_i x hat
        rw [hat] at hf
        simp only at hf ⊢
        split
        · rfl
        · rename_i h1
          rw [if_neg h1] at hf
          cases hf
    rw [he]
    exact ⟨rfl, hm⟩
  | other hk => exact ⟨rfl, hm⟩

end Go.Ae

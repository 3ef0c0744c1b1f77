/- eddylaw20.ScaleKeys answers true. Conditions: what value.Print gives of a text (PrOk), what expr.Canon gives of a text that is too long (LongOk). -/
import Derived.Test.YtmibkoadjehdaaaGreatDoorKy38
import Derived.Test.YtmibkoadjehdaaaGreatDoorKy39
import Derived.Test.YtmibkoadjehdaaaGreatDoorKy41
set_option linter.unusedVariables false
set_option linter.unusedSimpArgs false
set_option linter.unusedSimpArgs false
set_option linter.unusedVariables false
set_option linter.unnecessarySimpa false
set_option maxRecDepth 100000
set_option maxHeartbeats 400000
namespace Go.Ae
open Go.Proofs Go.Proofs.YtmibkoadjehdaaaGreatDoor
theorem r_nilN {P : Program} {N : Nat} {E : Env} {H : AHeap} {d : Nat} {t yt ty : TypeId} {p : String} {af : Array Edge} {g : Option (Nat × Bool)} {x : Operand} {ms : Array (String × TypeId)} (un : UnT P t (.interface ms) := by exact inferInstance) (hx : evE E x = some .nilIface := by exact rfl) : Nr P N E H ⟨some d, .binOp .neq t x (.const .nilIface) yt, ty, p, af, g⟩ (.bool false) H := ⟨rfl, rfl, fun a ha => by
  have hx := ha.eval hx
  have hy : a.eval (.const .nilIface) = .nilIface := rfl
  have he : quiet P (Op.equal t .nilIface .nilIface) = some true := by
    unfold Op.equal Op.maxDepth Op.equalIn
    simp [quiet_bind, quiet_underlying, un.h, quiet_pure]
  have hq : quiet P (execOp a.eval ⟨some d, .binOp .neq t x (.const .nilIface) yt, ty, p, af, g⟩) = some (.value (.bool false)) := by
    simp [execOp, hx, hy, quiet_bind, quiet_pure, quiet_map, eqGuard, binOp, he]
  have h2 : quietOp P a.eval ⟨some d, .binOp .neq t x (.const .nilIface) yt, ty, p, af, g⟩ = some _ := quietOp_of (by simp [Op.operands, hx, hy, simpleV]) hq rfl
  simp [nRes, aP, hx, hy, simpleV, h2]⟩
attribute [local irreducible] awC wpSeq wpS nRes aw aE acall ACalls szT isAggT zeroT byT elemSz fieldOff Program.underlying appendA copyA thenA inBlockA bodyA AHeap.push AHeap.put AHeap.cellsAt AHeap.setCells resV loadA intBin EW EC EX Nr Nc Er Cr Agree
def tbl6 : Tbl := []
theorem cond_is {X : List UInt8 → List UInt8} (hX : PrOk X) (hLong : LongOk) {bs : List (List UInt8)} {z : Option Addr} {c : Nat} (hz : bs ≠ [] → z = some ⟨14, 0, none⟩) (hl : bs.length ≤ 8796093022000) {v : Value} (hv : ∀ v', CoV bs v' → v' = v) : CondIs bs (.slice z bs.length c) v := by
  intro H r h15 h14 hc hver hg
  have hd : SR2 H (fun _ => True) (.slice z bs.length c) bs := by
    by_cases h0 : bs = []
    · subst h0
      exact .empty z c
    · rw [hz h0]
      refine .full _ _ _ _ (fun h => h0 (List.eq_nil_of_length_eq_zero h)) trivial (show 14 < H.next by omega) ?_
      have hlen : (strV bs).length = bs.length := by simp [strV]
      refine cellsAt_of h14 (by exact hver.symm) (by rw [hc, hlen]; simp) ?_
      rw [hc, List.drop_zero, Nat.mul_one, ← hlen, List.take_length]
  exact (cond_calls hX hLong hd hl hg (by omega)).mono fun v' H' ⟨h1, h2⟩ => ⟨hv v' h1, h2⟩
theorem sr_at {bs : List (List UInt8)} {z : Option Addr} {c : Nat} {e : TypeId} (hz : bs ≠ [] → z = some ⟨14, 0, none⟩) {H : AHeap} (hH : IsH (strV bs) e H) : SR2 H (fun _ => True) (.slice z bs.length c) bs := by
  by_cases h0 : bs = []
  · subst h0
    exact .empty z c
  · rw [hz h0]
    refine .full _ _ _ _ (fun h => h0 (List.eq_nil_of_length_eq_zero h)) trivial (show 14 < H.next by rw [hH.1]; omega) ?_
    have hlen : (strV bs).length = bs.length := by simp [strV]
    refine cellsAt_of hH.2.1 rfl (by rw [hlen]; simp) ?_
    rw [List.drop_zero, Nat.mul_one, ← hlen, List.take_length]
theorem keys_bad {X : List UInt8 → List UInt8} (hX : PrOk X) (hLong : LongOk) {bs : List (List UInt8)} {z : Option Addr} {c : Nat} {e : TypeId} (hz : bs ≠ [] → z = some ⟨14, 0, none⟩) (hl : bs.length ≤ 8796093022000) {key : List UInt8} {H : AHeap} (hH : IsH (strV bs) e H) (hR : ¬ Ris bs) :
    ACalls Tryz.prog 6 #[.string (strB key), .slice z bs.length c] H fun v _ => v = .bool true := by
  have hg := hH.2.2.1
  have hd := sr_at (c := c) hz hH
  have hpl := placeN_le key bs
  have hplace := place_any (key := key) hd hl hg
  have hC : CondIs bs (.slice z bs.length c) (.tuple #[.string .empty, .bool false]) := cond_is hX hLong hz hl fun v' h => by
    rcases h with ⟨h1, h2, _⟩ | ⟨_, h⟩
    · exact absurd h1 hR
    · exact h
  obtain ⟨v1, g1, g2, a1, a2⟩ := spread_bad hC hH
  refine k_open (args := [.string (strB key), .slice z bs.length c]) (E0 := [(0, .string (strB key)), (1, .slice z bs.length c)]) tbl6 Tryz.func6 rfl follows (by kernel_rfl) Tryz.ntmps6 rfl rfl ?_
  repeat' (first
    | (show EW _ _ _ _ _; first | refine ew_p (h := ?_) | refine ew_bu (h := ?_) | refine ew_skip (h := ?_) | refine ew_ld (h := ?_) | (refine ew_fresh ?_; intro b hb; refine ew_nw hb (h := ?_); (try simp only [AHeap.push_next, AHeap.put_next] at hb)) | refine ew_st (h := ?_) | (refine ew_df (ht := ?_) (hf := ?_) <;> intro _) | refine ew_ar (h := ?_) | (refine ew_callS (hc := cr_call) (hR := works_calls hg) (h := ?_); rintro _ Hz ⟨rfl, he⟩; obtain rfl := he.symm) | (refine ew_callS (hc := cr_call) (hR := hplace) (h := ?_); rintro _ Hz ⟨rfl, he⟩; obtain rfl := he.symm) | refine w_nil ?_)
    | (show EC _ _ _ _ _ _ _; first | refine k_seq ?_ | refine k_region ?_ | refine k_skip ?_ | refine k_ret ?_ | refine k_exit ?_ | refine k_block ?_ | refine k_true (h := ?_) | refine k_false (h := ?_))
    | (show EX _ (bodyA _ _ _) _ _ _; first | refine x_end1 (hq := ?_))
    | (show EX _ _ _ _ _; first | refine x_normal ?_ | refine x_ret ?_ | refine x_exit ?_ | refine x_same ?_ | refine x_other (h := ?_) | refine x_bnormal ?_ | refine x_bret ?_))
  refine ew_callS (hc := cr_call) (hR := rising_calls hd hl) (h := ?_)
  rintro _ Hz ⟨⟨t, rfl, ht⟩, he⟩
  obtain rfl := he.symm
  obtain rfl : t = false := by cases t; rfl; exact absurd (ht.1 rfl) hR
  repeat' (first
    | (show EW _ _ _ _ _; first | refine ew_p (h := ?_) | refine ew_bu (h := ?_) | refine ew_skip (h := ?_) | refine ew_ld (h := ?_) | (refine ew_fresh ?_; intro b hb; refine ew_nw hb (h := ?_); (try simp only [AHeap.push_next, AHeap.put_next] at hb)) | refine ew_st (h := ?_) | (refine ew_df (ht := ?_) (hf := ?_) <;> intro _) | refine ew_ar (h := ?_) | refine w_nil ?_)
    | (show EC _ _ _ _ _ _ _; first | refine k_seq ?_ | refine k_region ?_ | refine k_skip ?_ | refine k_ret ?_ | refine k_exit ?_ | refine k_block ?_ | refine k_true (h := ?_) | refine k_false (h := ?_))
    | (show EX _ (bodyA _ _ _) _ _ _; first | refine x_end1 (hq := ?_))
    | (show EX _ _ _ _ _; first | refine x_normal ?_ | refine x_ret ?_ | refine x_exit ?_ | refine x_same ?_ | refine x_other (h := ?_) | refine x_bnormal ?_ | refine x_bret ?_))
  refine ew_callS (hc := cr_call) (hR := a1) (h := ?_)
  rintro _ _ ⟨rfl, rfl⟩
  repeat' (first
    | (show EW _ _ _ _ _; first | refine ew_p (h := ?_) | refine ew_bu (h := ?_) | refine ew_skip (h := ?_) | refine ew_ld (h := ?_) | (refine ew_fresh ?_; intro b hb; refine ew_nw hb (h := ?_); (try simp only [AHeap.push_next, AHeap.put_next] at hb)) | refine ew_st (h := ?_) | (refine ew_df (ht := ?_) (hf := ?_) <;> intro _) | refine ew_ar (h := ?_) | refine w_nil ?_)
    | (show EC _ _ _ _ _ _ _; first | refine k_seq ?_ | refine k_region ?_ | refine k_skip ?_ | refine k_ret ?_ | refine k_exit ?_ | refine k_block ?_ | refine k_true (h := ?_) | refine k_false (h := ?_))
    | (show EX _ (bodyA _ _ _) _ _ _; first | refine x_end1 (hq := ?_))
    | (show EX _ _ _ _ _; first | refine x_normal ?_ | refine x_ret ?_ | refine x_exit ?_ | refine x_same ?_ | refine x_other (h := ?_) | refine x_bnormal ?_ | refine x_bret ?_))
  refine ew_callS (hc := cr_call) (hR := a2) (h := ?_)
  rintro _ _ ⟨rfl, rfl⟩
  unfold badV
  repeat' (first
    | (show EW _ _ _ _ _; first | refine ew_p (h := ?_) | refine ew_bu (h := ?_) | refine ew_skip (h := ?_) | refine ew_ld (h := ?_) | (refine ew_fresh ?_; intro b hb; refine ew_nw hb (h := ?_); (try simp only [AHeap.push_next, AHeap.put_next] at hb)) | refine ew_st (h := ?_) | (refine ew_df (ht := ?_) (hf := ?_) <;> intro _) | refine ew_ar (h := ?_) | refine w_nil ?_)
    | (show EC _ _ _ _ _ _ _; first | refine k_seq ?_ | refine k_region ?_ | refine k_skip ?_ | refine k_ret ?_ | refine k_exit ?_ | refine k_block ?_ | refine k_true (h := ?_) | refine k_false (h := ?_))
    | (show EX _ (bodyA _ _ _) _ _ _; first | refine x_end1 (hq := ?_))
    | (show EX _ _ _ _ _; first | refine x_normal ?_ | refine x_ret ?_ | refine x_exit ?_ | refine x_same ?_ | refine x_other (h := ?_) | refine x_bnormal ?_ | refine x_bret ?_))
  rfl
theorem keys_long {X : List UInt8 → List UInt8} (hX : PrOk X) (hLong : LongOk) {bs : List (List UInt8)} {c : Nat} {e : TypeId} (hl : bs.length ≤ 8796093022000) {key : List UInt8} {H : AHeap} (hH : IsH (strV bs) e H) (hR : Ris bs) (hT : 100 < (textK bs).length) :
    ACalls Tryz.prog 6 #[.string (strB key), .slice (some ⟨14, 0, none⟩) bs.length c] H fun v _ => v = .bool true := by
  have hg := hH.2.2.1
  have hz : bs ≠ [] → some (⟨14, 0, none⟩ : Addr) = some ⟨14, 0, none⟩ := fun _ => rfl
  have hd := sr_at (c := c) hz hH
  have hC : CondIs bs (.slice (some ⟨14, 0, none⟩) bs.length c) (.tuple #[.string .empty, .bool false]) := cond_is hX hLong hz hl fun v' h => by
    rcases h with ⟨h1, h2, _⟩ | ⟨_, h⟩
    · omega
    · exact h
  obtain ⟨v1, g1, g2, a1, a2⟩ := spread_bad hC hH
  have hpl := placeN_le key bs
  have hplace := place_any (key := key) hd hl hg
  have hat := place_lt hR key
  generalize placeN key bs = n at hpl hplace hat
  have b1 := hR.1
  have b3 := hR.2.1
  have hA : ∀ h : n - 1 < bs.length, 0 < n → leB bs[n - 1] key = true := fun h hp => (hat (n - 1) _ (List.getElem?_eq_getElem h)).2 (by omega)
  have hB : ∀ h : n < bs.length, ¬ leB bs[n] key = true := fun h h' => absurd ((hat n _ (List.getElem?_eq_getElem h)).1 h') (by omega)
  by_cases p1 : 0 < n
  · have h1 : n - 1 < bs.length := by omega
    have hA1 := hA h1 p1
    obtain ⟨ad, c', hv, _, _, hcA⟩ := SR2.at hd h1
    obtain ⟨rfl, rfl⟩ : (⟨14, 0, none⟩ : Addr) = ad ∧ c = c' := by simpa using hv
    have hci : ((n - 1 : Nat) : Int) = (n : Int) - 1 := by omega
    rw [hci] at hcA
    by_cases p2 : n < bs.length
    · have hB1 := hB p2
      obtain ⟨ad, c', hv, _, _, hcB⟩ := SR2.at hd p2
      obtain ⟨rfl, rfl⟩ : (⟨14, 0, none⟩ : Addr) = ad ∧ c = c' := by simpa using hv
      refine k_open (args := [.string (strB key), .slice (some ⟨14, 0, none⟩) bs.length c]) (E0 := [(0, .string (strB key)), (1, .slice (some ⟨14, 0, none⟩) bs.length c)]) tbl6 Tryz.func6 rfl follows (by kernel_rfl) Tryz.ntmps6 rfl rfl ?_
      repeat' (first
    | (show EW _ _ _ _ _; first | refine ew_p (h := ?_) | refine ew_bu (h := ?_) | refine ew_skip (h := ?_) | refine ew_ld (h := ?_) | (refine ew_fresh ?_; intro b hb; refine ew_nw hb (h := ?_); (try simp only [AHeap.push_next, AHeap.put_next] at hb)) | refine ew_st (h := ?_) | (refine ew_df (ht := ?_) (hf := ?_) <;> intro _) | refine ew_ar (h := ?_) | (refine ew_callS (hc := cr_call) (hR := works_calls hg) (h := ?_); rintro _ Hz ⟨rfl, he⟩; obtain rfl := he.symm) | (refine ew_callS (hc := cr_call) (hR := hplace) (h := ?_); rintro _ Hz ⟨rfl, he⟩; obtain rfl := he.symm) | refine w_nil ?_)
    | (show EC _ _ _ _ _ _ _; first | refine k_seq ?_ | refine k_region ?_ | refine k_skip ?_ | refine k_ret ?_ | refine k_exit ?_ | refine k_block ?_ | refine k_true (h := ?_) | refine k_false (h := ?_))
    | (show EX _ (bodyA _ _ _) _ _ _; first | refine x_end1 (hq := ?_))
    | (show EX _ _ _ _ _; first | refine x_normal ?_ | refine x_ret ?_ | refine x_exit ?_ | refine x_same ?_ | refine x_other (h := ?_) | refine x_bnormal ?_ | refine x_bret ?_))
      refine ew_callS (hc := cr_call) (hR := rising_calls hd hl) (h := ?_)
      rintro _ Hz ⟨⟨t, rfl, ht⟩, he⟩
      obtain rfl := he.symm
      obtain rfl : t = true := ht.2 hR
      repeat' (first
    | (show EW _ _ _ _ _; first | refine ew_p (h := ?_) | refine ew_bu (h := ?_) | refine ew_skip (h := ?_) | refine ew_ld (h := ?_) | (refine ew_fresh ?_; intro b hb; refine ew_nw hb (h := ?_); (try simp only [AHeap.push_next, AHeap.put_next] at hb)) | refine ew_st (h := ?_) | (refine ew_df (ht := ?_) (hf := ?_) <;> intro _) | refine ew_ar (h := ?_) | refine ew_p2 (h := ?_) | (refine ew_df2 (ht := ?_) (hf := ?_) <;> intro _) | refine w_nil ?_)
    | (show EC _ _ _ _ _ _ _; first | refine k_seq ?_ | refine k_region ?_ | refine k_skip ?_ | refine k_ret ?_ | refine k_exit ?_ | refine k_block ?_ | refine k_true (h := ?_) | refine k_false (h := ?_))
    | (show EX _ (bodyA _ _ _) _ _ _; first | refine x_end1 (hq := ?_))
    | (show EX _ _ _ _ _; first | refine x_normal ?_ | refine x_ret ?_ | refine x_exit ?_ | refine x_same ?_ | refine x_other (h := ?_) | refine x_bnormal ?_ | refine x_bret ?_))
      all_goals first | (exfalso; contradiction; done) | skip
      refine ew_callS (hc := cr_call) (hR := a1) (h := ?_)
      rintro _ _ ⟨rfl, rfl⟩
      repeat' (first
    | (show EW _ _ _ _ _; first | refine ew_p (h := ?_) | refine ew_bu (h := ?_) | refine ew_skip (h := ?_) | refine ew_ld (h := ?_) | (refine ew_fresh ?_; intro b hb; refine ew_nw hb (h := ?_); (try simp only [AHeap.push_next, AHeap.put_next] at hb)) | refine ew_st (h := ?_) | (refine ew_df (ht := ?_) (hf := ?_) <;> intro _) | refine ew_ar (h := ?_) | refine w_nil ?_)
    | (show EC _ _ _ _ _ _ _; first | refine k_seq ?_ | refine k_region ?_ | refine k_skip ?_ | refine k_ret ?_ | refine k_exit ?_ | refine k_block ?_ | refine k_true (h := ?_) | refine k_false (h := ?_))
    | (show EX _ (bodyA _ _ _) _ _ _; first | refine x_end1 (hq := ?_))
    | (show EX _ _ _ _ _; first | refine x_normal ?_ | refine x_ret ?_ | refine x_exit ?_ | refine x_same ?_ | refine x_other (h := ?_) | refine x_bnormal ?_ | refine x_bret ?_))
      refine ew_callS (hc := cr_call) (hR := a2) (h := ?_)
      rintro _ _ ⟨rfl, rfl⟩
      unfold badV
      repeat' (first
    | (show EW _ _ _ _ _; first | refine ew_p (h := ?_) | refine ew_bu (h := ?_) | refine ew_skip (h := ?_) | refine ew_ld (h := ?_) | (refine ew_fresh ?_; intro b hb; refine ew_nw hb (h := ?_); (try simp only [AHeap.push_next, AHeap.put_next] at hb)) | refine ew_st (h := ?_) | (refine ew_df (ht := ?_) (hf := ?_) <;> intro _) | refine ew_ar (h := ?_) | refine w_nil ?_)
    | (show EC _ _ _ _ _ _ _; first | refine k_seq ?_ | refine k_region ?_ | refine k_skip ?_ | refine k_ret ?_ | refine k_exit ?_ | refine k_block ?_ | refine k_true (h := ?_) | refine k_false (h := ?_))
    | (show EX _ (bodyA _ _ _) _ _ _; first | refine x_end1 (hq := ?_))
    | (show EX _ _ _ _ _; first | refine x_normal ?_ | refine x_ret ?_ | refine x_exit ?_ | refine x_same ?_ | refine x_other (h := ?_) | refine x_bnormal ?_ | refine x_bret ?_))
      rfl
    · obtain rfl : n = bs.length := by omega
      refine k_open (args := [.string (strB key), .slice (some ⟨14, 0, none⟩) bs.length c]) (E0 := [(0, .string (strB key)), (1, .slice (some ⟨14, 0, none⟩) bs.length c)]) tbl6 Tryz.func6 rfl follows (by kernel_rfl) Tryz.ntmps6 rfl rfl ?_
      repeat' (first
    | (show EW _ _ _ _ _; first | refine ew_p (h := ?_) | refine ew_bu (h := ?_) | refine ew_skip (h := ?_) | refine ew_ld (h := ?_) | (refine ew_fresh ?_; intro b hb; refine ew_nw hb (h := ?_); (try simp only [AHeap.push_next, AHeap.put_next] at hb)) | refine ew_st (h := ?_) | (refine ew_df (ht := ?_) (hf := ?_) <;> intro _) | refine ew_ar (h := ?_) | (refine ew_callS (hc := cr_call) (hR := works_calls hg) (h := ?_); rintro _ Hz ⟨rfl, he⟩; obtain rfl := he.symm) | (refine ew_callS (hc := cr_call) (hR := hplace) (h := ?_); rintro _ Hz ⟨rfl, he⟩; obtain rfl := he.symm) | refine w_nil ?_)
    | (show EC _ _ _ _ _ _ _; first | refine k_seq ?_ | refine k_region ?_ | refine k_skip ?_ | refine k_ret ?_ | refine k_exit ?_ | refine k_block ?_ | refine k_true (h := ?_) | refine k_false (h := ?_))
    | (show EX _ (bodyA _ _ _) _ _ _; first | refine x_end1 (hq := ?_))
    | (show EX _ _ _ _ _; first | refine x_normal ?_ | refine x_ret ?_ | refine x_exit ?_ | refine x_same ?_ | refine x_other (h := ?_) | refine x_bnormal ?_ | refine x_bret ?_))
      refine ew_callS (hc := cr_call) (hR := rising_calls hd hl) (h := ?_)
      rintro _ Hz ⟨⟨t, rfl, ht⟩, he⟩
      obtain rfl := he.symm
      obtain rfl : t = true := ht.2 hR
      repeat' (first
    | (show EW _ _ _ _ _; first | refine ew_p (h := ?_) | refine ew_bu (h := ?_) | refine ew_skip (h := ?_) | refine ew_ld (h := ?_) | (refine ew_fresh ?_; intro b hb; refine ew_nw hb (h := ?_); (try simp only [AHeap.push_next, AHeap.put_next] at hb)) | refine ew_st (h := ?_) | (refine ew_df (ht := ?_) (hf := ?_) <;> intro _) | refine ew_ar (h := ?_) | refine ew_p2 (h := ?_) | (refine ew_df2 (ht := ?_) (hf := ?_) <;> intro _) | refine w_nil ?_)
    | (show EC _ _ _ _ _ _ _; first | refine k_seq ?_ | refine k_region ?_ | refine k_skip ?_ | refine k_ret ?_ | refine k_exit ?_ | refine k_block ?_ | refine k_true (h := ?_) | refine k_false (h := ?_))
    | (show EX _ (bodyA _ _ _) _ _ _; first | refine x_end1 (hq := ?_))
    | (show EX _ _ _ _ _; first | refine x_normal ?_ | refine x_ret ?_ | refine x_exit ?_ | refine x_same ?_ | refine x_other (h := ?_) | refine x_bnormal ?_ | refine x_bret ?_))
      all_goals first | (exfalso; contradiction; done) | skip
      refine ew_callS (hc := cr_call) (hR := a1) (h := ?_)
      rintro _ _ ⟨rfl, rfl⟩
      repeat' (first
    | (show EW _ _ _ _ _; first | refine ew_p (h := ?_) | refine ew_bu (h := ?_) | refine ew_skip (h := ?_) | refine ew_ld (h := ?_) | (refine ew_fresh ?_; intro b hb; refine ew_nw hb (h := ?_); (try simp only [AHeap.push_next, AHeap.put_next] at hb)) | refine ew_st (h := ?_) | (refine ew_df (ht := ?_) (hf := ?_) <;> intro _) | refine ew_ar (h := ?_) | refine w_nil ?_)
    | (show EC _ _ _ _ _ _ _; first | refine k_seq ?_ | refine k_region ?_ | refine k_skip ?_ | refine k_ret ?_ | refine k_exit ?_ | refine k_block ?_ | refine k_true (h := ?_) | refine k_false (h := ?_))
    | (show EX _ (bodyA _ _ _) _ _ _; first | refine x_end1 (hq := ?_))
    | (show EX _ _ _ _ _; first | refine x_normal ?_ | refine x_ret ?_ | refine x_exit ?_ | refine x_same ?_ | refine x_other (h := ?_) | refine x_bnormal ?_ | refine x_bret ?_))
      refine ew_callS (hc := cr_call) (hR := a2) (h := ?_)
      rintro _ _ ⟨rfl, rfl⟩
      unfold badV
      repeat' (first
    | (show EW _ _ _ _ _; first | refine ew_p (h := ?_) | refine ew_bu (h := ?_) | refine ew_skip (h := ?_) | refine ew_ld (h := ?_) | (refine ew_fresh ?_; intro b hb; refine ew_nw hb (h := ?_); (try simp only [AHeap.push_next, AHeap.put_next] at hb)) | refine ew_st (h := ?_) | (refine ew_df (ht := ?_) (hf := ?_) <;> intro _) | refine ew_ar (h := ?_) | refine w_nil ?_)
    | (show EC _ _ _ _ _ _ _; first | refine k_seq ?_ | refine k_region ?_ | refine k_skip ?_ | refine k_ret ?_ | refine k_exit ?_ | refine k_block ?_ | refine k_true (h := ?_) | refine k_false (h := ?_))
    | (show EX _ (bodyA _ _ _) _ _ _; first | refine x_end1 (hq := ?_))
    | (show EX _ _ _ _ _; first | refine x_normal ?_ | refine x_ret ?_ | refine x_exit ?_ | refine x_same ?_ | refine x_other (h := ?_) | refine x_bnormal ?_ | refine x_bret ?_))
      rfl
  · obtain rfl : n = 0 := by omega
    have p2 : 0 < bs.length := by omega
    have hB1 := hB p2
    obtain ⟨ad, c', hv, _, _, hcB⟩ := SR2.at hd p2
    obtain ⟨rfl, rfl⟩ : (⟨14, 0, none⟩ : Addr) = ad ∧ c = c' := by simpa using hv
    refine k_open (args := [.string (strB key), .slice (some ⟨14, 0, none⟩) bs.length c]) (E0 := [(0, .string (strB key)), (1, .slice (some ⟨14, 0, none⟩) bs.length c)]) tbl6 Tryz.func6 rfl follows (by kernel_rfl) Tryz.ntmps6 rfl rfl ?_
    repeat' (first
    | (show EW _ _ _ _ _; first | refine ew_p (h := ?_) | refine ew_bu (h := ?_) | refine ew_skip (h := ?_) | refine ew_ld (h := ?_) | (refine ew_fresh ?_; intro b hb; refine ew_nw hb (h := ?_); (try simp only [AHeap.push_next, AHeap.put_next] at hb)) | refine ew_st (h := ?_) | (refine ew_df (ht := ?_) (hf := ?_) <;> intro _) | refine ew_ar (h := ?_) | (refine ew_callS (hc := cr_call) (hR := works_calls hg) (h := ?_); rintro _ Hz ⟨rfl, he⟩; obtain rfl := he.symm) | (refine ew_callS (hc := cr_call) (hR := hplace) (h := ?_); rintro _ Hz ⟨rfl, he⟩; obtain rfl := he.symm) | refine w_nil ?_)
    | (show EC _ _ _ _ _ _ _; first | refine k_seq ?_ | refine k_region ?_ | refine k_skip ?_ | refine k_ret ?_ | refine k_exit ?_ | refine k_block ?_ | refine k_true (h := ?_) | refine k_false (h := ?_))
    | (show EX _ (bodyA _ _ _) _ _ _; first | refine x_end1 (hq := ?_))
    | (show EX _ _ _ _ _; first | refine x_normal ?_ | refine x_ret ?_ | refine x_exit ?_ | refine x_same ?_ | refine x_other (h := ?_) | refine x_bnormal ?_ | refine x_bret ?_))
    refine ew_callS (hc := cr_call) (hR := rising_calls hd hl) (h := ?_)
    rintro _ Hz ⟨⟨t, rfl, ht⟩, he⟩
    obtain rfl := he.symm
    obtain rfl : t = true := ht.2 hR
    repeat' (first
    | (show EW _ _ _ _ _; first | refine ew_p (h := ?_) | refine ew_bu (h := ?_) | refine ew_skip (h := ?_) | refine ew_ld (h := ?_) | (refine ew_fresh ?_; intro b hb; refine ew_nw hb (h := ?_); (try simp only [AHeap.push_next, AHeap.put_next] at hb)) | refine ew_st (h := ?_) | (refine ew_df (ht := ?_) (hf := ?_) <;> intro _) | refine ew_ar (h := ?_) | refine ew_p2 (h := ?_) | (refine ew_df2 (ht := ?_) (hf := ?_) <;> intro _) | refine w_nil ?_)
    | (show EC _ _ _ _ _ _ _; first | refine k_seq ?_ | refine k_region ?_ | refine k_skip ?_ | refine k_ret ?_ | refine k_exit ?_ | refine k_block ?_ | refine k_true (h := ?_) | refine k_false (h := ?_))
    | (show EX _ (bodyA _ _ _) _ _ _; first | refine x_end1 (hq := ?_))
    | (show EX _ _ _ _ _; first | refine x_normal ?_ | refine x_ret ?_ | refine x_exit ?_ | refine x_same ?_ | refine x_other (h := ?_) | refine x_bnormal ?_ | refine x_bret ?_))
    all_goals first | (exfalso; contradiction; done) | skip
    refine ew_callS (hc := cr_call) (hR := a1) (h := ?_)
    rintro _ _ ⟨rfl, rfl⟩
    repeat' (first
    | (show EW _ _ _ _ _; first | refine ew_p (h := ?_) | refine ew_bu (h := ?_) | refine ew_skip (h := ?_) | refine ew_ld (h := ?_) | (refine ew_fresh ?_; intro b hb; refine ew_nw hb (h := ?_); (try simp only [AHeap.push_next, AHeap.put_next] at hb)) | refine ew_st (h := ?_) | (refine ew_df (ht := ?_) (hf := ?_) <;> intro _) | refine ew_ar (h := ?_) | refine w_nil ?_)
    | (show EC _ _ _ _ _ _ _; first | refine k_seq ?_ | refine k_region ?_ | refine k_skip ?_ | refine k_ret ?_ | refine k_exit ?_ | refine k_block ?_ | refine k_true (h := ?_) | refine k_false (h := ?_))
    | (show EX _ (bodyA _ _ _) _ _ _; first | refine x_end1 (hq := ?_))
    | (show EX _ _ _ _ _; first | refine x_normal ?_ | refine x_ret ?_ | refine x_exit ?_ | refine x_same ?_ | refine x_other (h := ?_) | refine x_bnormal ?_ | refine x_bret ?_))
    refine ew_callS (hc := cr_call) (hR := a2) (h := ?_)
    rintro _ _ ⟨rfl, rfl⟩
    unfold badV
    repeat' (first
    | (show EW _ _ _ _ _; first | refine ew_p (h := ?_) | refine ew_bu (h := ?_) | refine ew_skip (h := ?_) | refine ew_ld (h := ?_) | (refine ew_fresh ?_; intro b hb; refine ew_nw hb (h := ?_); (try simp only [AHeap.push_next, AHeap.put_next] at hb)) | refine ew_st (h := ?_) | (refine ew_df (ht := ?_) (hf := ?_) <;> intro _) | refine ew_ar (h := ?_) | refine w_nil ?_)
    | (show EC _ _ _ _ _ _ _; first | refine k_seq ?_ | refine k_region ?_ | refine k_skip ?_ | refine k_ret ?_ | refine k_exit ?_ | refine k_block ?_ | refine k_true (h := ?_) | refine k_false (h := ?_))
    | (show EX _ (bodyA _ _ _) _ _ _; first | refine x_end1 (hq := ?_))
    | (show EX _ _ _ _ _; first | refine x_normal ?_ | refine x_ret ?_ | refine x_exit ?_ | refine x_same ?_ | refine x_other (h := ?_) | refine x_bnormal ?_ | refine x_bret ?_))
    rfl
theorem ew_gen {P : Program} {N : Nat} {m : Mode} {E : Env} {H : AHeap} (h : ∀ H3, H3 = H → EW P N m E H3) : EW P N m E H := h H rfl
theorem keys_ok {X : List UInt8 → List UInt8} (hX : PrOk X) (hLong : LongOk) {bs : List (List UInt8)} {c : Nat} {e : TypeId} (hl : bs.length ≤ 8796093022000) {key : List UInt8} {H : AHeap} (hH : IsH (strV bs) e H) (hR : Ris bs) (hT : (textK bs).length ≤ 100) :
    ACalls Tryz.prog 6 #[.string (strB key), .slice (some ⟨14, 0, none⟩) bs.length c] H fun v _ => v = .bool true := by
  have hg := hH.2.2.1
  have hz : bs ≠ [] → some (⟨14, 0, none⟩ : Addr) = some ⟨14, 0, none⟩ := fun _ => rfl
  have hd := sr_at (c := c) hz hH
  have hC : CondIs bs (bvS bs.length c) (.tuple #[.string (strB (textK bs)), .bool true]) := cond_is hX hLong hz hl fun v' h => by
    rcases h with ⟨_, _, h⟩ | ⟨h1, h⟩
    · exact h.symm ▸ rfl
    · exact absurd hR (by rcases h1 with h1 | h1; exact h1; omega)
  have hpl := placeN_le key bs
  have hplace := place_any (key := key) hd hl hg
  have hat := place_lt hR key
  generalize placeN key bs = n at hpl hplace hat
  have b1 := hR.1
  have b3 := hR.2.1
  have hne : bs ≠ [] := fun h => by rw [h] at b1; simp at b1
  have hb12 : ∀ s ∈ bs, s.length ≤ 12 := fun s hs => by
    obtain ⟨j, hj, rfl⟩ := List.getElem_of_mem hs
    have := (hR.2.2 j hj).1
    simpa [List.getD_eq_getElem?_getD, hj] using this
  obtain ⟨v1, g1, v2, g2, a1, a2, hP⟩ := spread_ok hne b3 hC (fun H hg => check_calls hne b3 hb12 hT hg) hH
  obtain ⟨ta, c1, ea, n2, c2, xa, c3, rfl, q1, q2, q3, q4, q5, q6⟩ := hP
  generalize toH g1 = G1 at a1 a2
  generalize toH g2 = G2 at a2 q1 q2 q3 q4 q5 q6
  have hA : ∀ h : n - 1 < bs.length, 0 < n → leB bs[n - 1] key = true := fun h hp => (hat (n - 1) _ (List.getElem?_eq_getElem h)).2 (by omega)
  have hB : ∀ h : n < bs.length, ¬ leB bs[n] key = true := fun h h' => absurd ((hat n _ (List.getElem?_eq_getElem h)).1 h') (by omega)
  by_cases p1 : 0 < n
  · have h1 : n - 1 < bs.length := by omega
    have hA1 := hA h1 p1
    obtain ⟨ad, c', hv, _, _, hcA⟩ := SR2.at hd h1
    obtain ⟨rfl, rfl⟩ : (⟨14, 0, none⟩ : Addr) = ad ∧ c = c' := by simpa using hv
    have hci : ((n - 1 : Nat) : Int) = (n : Int) - 1 := by omega
    rw [hci] at hcA
    by_cases p2 : n < bs.length
    · have hB1 := hB p2
      obtain ⟨ad, c', hv, _, _, hcB⟩ := SR2.at hd p2
      obtain ⟨rfl, rfl⟩ : (⟨14, 0, none⟩ : Addr) = ad ∧ c = c' := by simpa using hv
      refine k_open (args := [.string (strB key), .slice (some ⟨14, 0, none⟩) bs.length c]) (E0 := [(0, .string (strB key)), (1, .slice (some ⟨14, 0, none⟩) bs.length c)]) tbl6 Tryz.func6 rfl follows (by kernel_rfl) Tryz.ntmps6 rfl rfl ?_
      repeat' (first
    | (show EW _ _ _ _ _; first | refine ew_p (h := ?_) | refine ew_bu (h := ?_) | refine ew_skip (h := ?_) | refine ew_ld (h := ?_) | (refine ew_fresh ?_; intro b hb; refine ew_nw hb (h := ?_); (try simp only [AHeap.push_next, AHeap.put_next] at hb)) | refine ew_st (h := ?_) | (refine ew_df (ht := ?_) (hf := ?_) <;> intro _) | refine ew_ar (h := ?_) | (refine ew_callS (hc := cr_call) (hR := works_calls hg) (h := ?_); rintro _ Hz ⟨rfl, he⟩; obtain rfl := he.symm) | (refine ew_callS (hc := cr_call) (hR := hplace) (h := ?_); rintro _ Hz ⟨rfl, he⟩; obtain rfl := he.symm) | refine w_nil ?_)
    | (show EC _ _ _ _ _ _ _; first | refine k_seq ?_ | refine k_region ?_ | refine k_skip ?_ | refine k_ret ?_ | refine k_exit ?_ | refine k_block ?_ | refine k_true (h := ?_) | refine k_false (h := ?_))
    | (show EX _ (bodyA _ _ _) _ _ _; first | refine x_end1 (hq := ?_))
    | (show EX _ _ _ _ _; first | refine x_normal ?_ | refine x_ret ?_ | refine x_exit ?_ | refine x_same ?_ | refine x_other (h := ?_) | refine x_bnormal ?_ | refine x_bret ?_))
      refine ew_callS (hc := cr_call) (hR := rising_calls hd hl) (h := ?_)
      rintro _ Hz ⟨⟨t, rfl, ht⟩, he⟩
      obtain rfl := he.symm
      obtain rfl : t = true := ht.2 hR
      repeat' (first
    | (show EW _ _ _ _ _; first | refine ew_p (h := ?_) | refine ew_bu (h := ?_) | refine ew_skip (h := ?_) | refine ew_ld (h := ?_) | (refine ew_fresh ?_; intro b hb; refine ew_nw hb (h := ?_); (try simp only [AHeap.push_next, AHeap.put_next] at hb)) | refine ew_st (h := ?_) | (refine ew_df (ht := ?_) (hf := ?_) <;> intro _) | refine ew_ar (h := ?_) | refine ew_p2 (h := ?_) | (refine ew_df2 (ht := ?_) (hf := ?_) <;> intro _) | refine w_nil ?_)
    | (show EC _ _ _ _ _ _ _; first | refine k_seq ?_ | refine k_region ?_ | refine k_skip ?_ | refine k_ret ?_ | refine k_exit ?_ | refine k_block ?_ | refine k_true (h := ?_) | refine k_false (h := ?_))
    | (show EX _ (bodyA _ _ _) _ _ _; first | refine x_end1 (hq := ?_))
    | (show EX _ _ _ _ _; first | refine x_normal ?_ | refine x_ret ?_ | refine x_exit ?_ | refine x_same ?_ | refine x_other (h := ?_) | refine x_bnormal ?_ | refine x_bret ?_))
      all_goals first | (exfalso; contradiction; done) | skip
      refine ew_callS (hc := cr_call) (hR := a1) (h := ?_)
      rintro _ _ ⟨rfl, rfl⟩
      repeat' (first
    | (show EW _ _ _ _ _; first | refine ew_p (h := ?_) | refine ew_bu (h := ?_) | refine ew_skip (h := ?_) | refine ew_ld (h := ?_) | (refine ew_fresh ?_; intro b hb; refine ew_nw hb (h := ?_); (try simp only [AHeap.push_next, AHeap.put_next] at hb)) | refine ew_st (h := ?_) | (refine ew_df (ht := ?_) (hf := ?_) <;> intro _) | refine ew_ar (h := ?_) | refine w_nil ?_)
    | (show EC _ _ _ _ _ _ _; first | refine k_seq ?_ | refine k_region ?_ | refine k_skip ?_ | refine k_ret ?_ | refine k_exit ?_ | refine k_block ?_ | refine k_true (h := ?_) | refine k_false (h := ?_))
    | (show EX _ (bodyA _ _ _) _ _ _; first | refine x_end1 (hq := ?_))
    | (show EX _ _ _ _ _; first | refine x_normal ?_ | refine x_ret ?_ | refine x_exit ?_ | refine x_same ?_ | refine x_other (h := ?_) | refine x_bnormal ?_ | refine x_bret ?_))
      refine ew_callS (hc := cr_call) (hR := a2) (h := ?_)
      rintro _ G3 ⟨rfl, he2⟩
      obtain rfl := he2.symm
      repeat' (first
    | (show EW _ _ _ _ _; first | refine ew_p (h := ?_) | refine ew_bu (h := ?_) | refine ew_skip (h := ?_) | refine ew_ld (h := ?_) | (refine ew_fresh ?_; intro b hb; refine ew_nw hb (h := ?_); (try simp only [AHeap.push_next, AHeap.put_next] at hb)) | (refine ew_df (ht := ?_) (hf := ?_) <;> intro _) | refine ew_ar (h := ?_) | refine w_nil ?_)
    | (show EC _ _ _ _ _ _ _; first | refine k_seq ?_ | refine k_region ?_ | refine k_skip ?_ | refine k_ret ?_ | refine k_exit ?_ | refine k_block ?_ | refine k_true (h := ?_) | refine k_false (h := ?_))
    | (show EX _ (bodyA _ _ _) _ _ _; first | refine x_end1 (hq := ?_))
    | (show EX _ _ _ _ _; first | refine x_normal ?_ | refine x_ret ?_ | refine x_exit ?_ | refine x_same ?_ | refine x_other (h := ?_) | refine x_bnormal ?_ | refine x_bret ?_))
      refine ew_st (h := ?_)
      refine ew_gen fun H3 hH3 => ?_
      have k3 : Keep No G2 H3 := by rw [hH3]; exact kp
      have g8 : H3.get b = some (.row ⟨[.int .i64 2, .slice (some ta) (bs.length + 5) c1, .slice (some ea) n2 c2], 42, 0, true⟩) := by rw [hH3]; exact rdx
      have q1' : H3.cellsAt (aadd (aadd ta ((3 : Int).toNat * 4)) 3) 1 = some [.slice (some xa) 1 c3] := by
        have h1 : H3.cellsAt (aadd ta 15) 1 = G2.cellsAt (aadd ta 15) 1 := k3.cells (ad := aadd ta 15) q3 id
        have h2 : aadd (aadd ta ((3 : Int).toNat * 4)) 3 = aadd ta 15 := by simp [aadd]
        rw [h2, h1]
        exact q1
      have q2' : H3.cellsAt (aadd xa ((0 : Int).toNat * 1)) 1 = some [.string (strB (textK bs))] := by
        have h1 : H3.cellsAt xa 1 = G2.cellsAt xa 1 := k3.cells q4 id
        have h2 : aadd xa ((0 : Int).toNat * 1) = xa := by simp [aadd]
        rw [h2, h1]
        exact q2
      have hg3 := gk q6 (by omega) k3
      have n3 := k3.1
      clear hH3
      have hhi : ∀ b : List UInt8, bs[n]? = some b → leB b key = false := fun b hi => by
        cases h : leB b key with
        | false => rfl
        | true => exact absurd ((hat _ b hi).1 h) (Nat.lt_irrefl _)
      have un77 : UnT Tryz.prog 77 _ := ⟨Tryz.underlying77⟩
      repeat' (first
    | (show EW _ _ _ _ _; first | refine ew_p (h := ?_) | refine ew_bu (h := ?_) | refine ew_skip (h := ?_) | refine ew_ld (h := ?_) | (refine ew_fresh ?_; intro b hb; refine ew_nw hb (h := ?_); (try simp only [AHeap.push_next, AHeap.put_next] at hb)) | refine ew_st (h := ?_) | (refine ew_df (ht := ?_) (hf := ?_) <;> intro _) | refine ew_ar (h := ?_) | (refine ew_callS (hc := cr_call) (hR := canon_calls hX hne b3 hb12 hT hg3) (h := ?_); rintro _ Hz ⟨rfl, he⟩; obtain rfl := he.symm) | refine w_nil ?_)
    | (show EC _ _ _ _ _ _ _; first | refine k_seq ?_ | refine k_region ?_ | refine k_skip ?_ | refine k_ret ?_ | refine k_exit ?_ | refine k_block ?_ | refine k_true (h := ?_) | refine k_false (h := ?_))
    | (show EX _ (bodyA _ _ _) _ _ _; first | refine x_end1 (hq := ?_))
    | (show EX _ _ _ _ _; first | refine x_normal ?_ | refine x_ret ?_ | refine x_exit ?_ | refine x_same ?_ | refine x_other (h := ?_) | refine x_bnormal ?_ | refine x_bret ?_))
      have hks := strB_size key
      by_cases hkey : key.length ≤ 12
      · refine ew_callS (hc := cr_call) (hR := eval_short hX hne b3 hb12 hT hkey hpl (fun i b hi hlt => (hat i b hi).2 hlt) hhi hg3) (h := ?_)
        rintro _ Hz ⟨rfl, he⟩
        obtain rfl := he.symm
        unfold intV
        repeat' (first
    | (show EW _ _ _ _ _; first | refine ew_n (hn := r_nilN un77) (h := ?_) | refine ew_p (h := ?_) | refine ew_bu (h := ?_) | refine ew_skip (h := ?_) | refine ew_ld (h := ?_) | (refine ew_fresh ?_; intro b hb; refine ew_nw hb (h := ?_); (try simp only [AHeap.push_next, AHeap.put_next] at hb)) | refine ew_st (h := ?_) | (refine ew_df (ht := ?_) (hf := ?_) <;> intro _) | refine ew_ar (h := ?_) | refine ew_p2 (h := ?_) | (refine ew_df2 (ht := ?_) (hf := ?_) <;> intro _) | refine w_nil ?_)
    | (show EC _ _ _ _ _ _ _; first | refine k_seq ?_ | refine k_region ?_ | refine k_skip ?_ | refine k_ret ?_ | refine k_exit ?_ | refine k_block ?_ | refine k_true (h := ?_) | refine k_false (h := ?_))
    | (show EX _ (bodyA _ _ _) _ _ _; first | refine x_end1 (hq := ?_))
    | (show EX _ _ _ _ _; first | refine x_normal ?_ | refine x_ret ?_ | refine x_exit ?_ | refine x_same ?_ | refine x_other (h := ?_) | refine x_bnormal ?_ | refine x_bret ?_))
        all_goals first | (exfalso; omega) | (exfalso; contradiction; done) | rfl
      · refine ew_callS (hc := cr_call) (hR := eval_long hX hne b3 hb12 hT (by omega) hg3) (h := ?_)
        rintro _ Hz ⟨rfl, he⟩
        obtain rfl := he.symm
        unfold intV
        repeat' (first
    | (show EW _ _ _ _ _; first | refine ew_n (hn := r_nilN un77) (h := ?_) | refine ew_p (h := ?_) | refine ew_bu (h := ?_) | refine ew_skip (h := ?_) | refine ew_ld (h := ?_) | (refine ew_fresh ?_; intro b hb; refine ew_nw hb (h := ?_); (try simp only [AHeap.push_next, AHeap.put_next] at hb)) | refine ew_st (h := ?_) | (refine ew_df (ht := ?_) (hf := ?_) <;> intro _) | refine ew_ar (h := ?_) | refine ew_p2 (h := ?_) | (refine ew_df2 (ht := ?_) (hf := ?_) <;> intro _) | refine w_nil ?_)
    | (show EC _ _ _ _ _ _ _; first | refine k_seq ?_ | refine k_region ?_ | refine k_skip ?_ | refine k_ret ?_ | refine k_exit ?_ | refine k_block ?_ | refine k_true (h := ?_) | refine k_false (h := ?_))
    | (show EX _ (bodyA _ _ _) _ _ _; first | refine x_end1 (hq := ?_))
    | (show EX _ _ _ _ _; first | refine x_normal ?_ | refine x_ret ?_ | refine x_exit ?_ | refine x_same ?_ | refine x_other (h := ?_) | refine x_bnormal ?_ | refine x_bret ?_))
        all_goals first | (exfalso; omega) | (exfalso; contradiction; done) | rfl
    · obtain rfl : n = bs.length := by omega
      refine k_open (args := [.string (strB key), .slice (some ⟨14, 0, none⟩) bs.length c]) (E0 := [(0, .string (strB key)), (1, .slice (some ⟨14, 0, none⟩) bs.length c)]) tbl6 Tryz.func6 rfl follows (by kernel_rfl) Tryz.ntmps6 rfl rfl ?_
      repeat' (first
    | (show EW _ _ _ _ _; first | refine ew_p (h := ?_) | refine ew_bu (h := ?_) | refine ew_skip (h := ?_) | refine ew_ld (h := ?_) | (refine ew_fresh ?_; intro b hb; refine ew_nw hb (h := ?_); (try simp only [AHeap.push_next, AHeap.put_next] at hb)) | refine ew_st (h := ?_) | (refine ew_df (ht := ?_) (hf := ?_) <;> intro _) | refine ew_ar (h := ?_) | (refine ew_callS (hc := cr_call) (hR := works_calls hg) (h := ?_); rintro _ Hz ⟨rfl, he⟩; obtain rfl := he.symm) | (refine ew_callS (hc := cr_call) (hR := hplace) (h := ?_); rintro _ Hz ⟨rfl, he⟩; obtain rfl := he.symm) | refine w_nil ?_)
    | (show EC _ _ _ _ _ _ _; first | refine k_seq ?_ | refine k_region ?_ | refine k_skip ?_ | refine k_ret ?_ | refine k_exit ?_ | refine k_block ?_ | refine k_true (h := ?_) | refine k_false (h := ?_))
    | (show EX _ (bodyA _ _ _) _ _ _; first | refine x_end1 (hq := ?_))
    | (show EX _ _ _ _ _; first | refine x_normal ?_ | refine x_ret ?_ | refine x_exit ?_ | refine x_same ?_ | refine x_other (h := ?_) | refine x_bnormal ?_ | refine x_bret ?_))
      refine ew_callS (hc := cr_call) (hR := rising_calls hd hl) (h := ?_)
      rintro _ Hz ⟨⟨t, rfl, ht⟩, he⟩
      obtain rfl := he.symm
      obtain rfl : t = true := ht.2 hR
      repeat' (first
    | (show EW _ _ _ _ _; first | refine ew_p (h := ?_) | refine ew_bu (h := ?_) | refine ew_skip (h := ?_) | refine ew_ld (h := ?_) | (refine ew_fresh ?_; intro b hb; refine ew_nw hb (h := ?_); (try simp only [AHeap.push_next, AHeap.put_next] at hb)) | refine ew_st (h := ?_) | (refine ew_df (ht := ?_) (hf := ?_) <;> intro _) | refine ew_ar (h := ?_) | refine ew_p2 (h := ?_) | (refine ew_df2 (ht := ?_) (hf := ?_) <;> intro _) | refine w_nil ?_)
    | (show EC _ _ _ _ _ _ _; first | refine k_seq ?_ | refine k_region ?_ | refine k_skip ?_ | refine k_ret ?_ | refine k_exit ?_ | refine k_block ?_ | refine k_true (h := ?_) | refine k_false (h := ?_))
    | (show EX _ (bodyA _ _ _) _ _ _; first | refine x_end1 (hq := ?_))
    | (show EX _ _ _ _ _; first | refine x_normal ?_ | refine x_ret ?_ | refine x_exit ?_ | refine x_same ?_ | refine x_other (h := ?_) | refine x_bnormal ?_ | refine x_bret ?_))
      all_goals first | (exfalso; contradiction; done) | skip
      refine ew_callS (hc := cr_call) (hR := a1) (h := ?_)
      rintro _ _ ⟨rfl, rfl⟩
      repeat' (first
    | (show EW _ _ _ _ _; first | refine ew_p (h := ?_) | refine ew_bu (h := ?_) | refine ew_skip (h := ?_) | refine ew_ld (h := ?_) | (refine ew_fresh ?_; intro b hb; refine ew_nw hb (h := ?_); (try simp only [AHeap.push_next, AHeap.put_next] at hb)) | refine ew_st (h := ?_) | (refine ew_df (ht := ?_) (hf := ?_) <;> intro _) | refine ew_ar (h := ?_) | refine w_nil ?_)
    | (show EC _ _ _ _ _ _ _; first | refine k_seq ?_ | refine k_region ?_ | refine k_skip ?_ | refine k_ret ?_ | refine k_exit ?_ | refine k_block ?_ | refine k_true (h := ?_) | refine k_false (h := ?_))
    | (show EX _ (bodyA _ _ _) _ _ _; first | refine x_end1 (hq := ?_))
    | (show EX _ _ _ _ _; first | refine x_normal ?_ | refine x_ret ?_ | refine x_exit ?_ | refine x_same ?_ | refine x_other (h := ?_) | refine x_bnormal ?_ | refine x_bret ?_))
      refine ew_callS (hc := cr_call) (hR := a2) (h := ?_)
      rintro _ G3 ⟨rfl, he2⟩
      obtain rfl := he2.symm
      repeat' (first
    | (show EW _ _ _ _ _; first | refine ew_p (h := ?_) | refine ew_bu (h := ?_) | refine ew_skip (h := ?_) | refine ew_ld (h := ?_) | (refine ew_fresh ?_; intro b hb; refine ew_nw hb (h := ?_); (try simp only [AHeap.push_next, AHeap.put_next] at hb)) | (refine ew_df (ht := ?_) (hf := ?_) <;> intro _) | refine ew_ar (h := ?_) | refine w_nil ?_)
    | (show EC _ _ _ _ _ _ _; first | refine k_seq ?_ | refine k_region ?_ | refine k_skip ?_ | refine k_ret ?_ | refine k_exit ?_ | refine k_block ?_ | refine k_true (h := ?_) | refine k_false (h := ?_))
    | (show EX _ (bodyA _ _ _) _ _ _; first | refine x_end1 (hq := ?_))
    | (show EX _ _ _ _ _; first | refine x_normal ?_ | refine x_ret ?_ | refine x_exit ?_ | refine x_same ?_ | refine x_other (h := ?_) | refine x_bnormal ?_ | refine x_bret ?_))
      refine ew_st (h := ?_)
      refine ew_gen fun H3 hH3 => ?_
      have k3 : Keep No G2 H3 := by rw [hH3]; exact kp
      have g8 : H3.get b = some (.row ⟨[.int .i64 2, .slice (some ta) (bs.length + 5) c1, .slice (some ea) n2 c2], 42, 0, true⟩) := by rw [hH3]; exact rdx
      have q1' : H3.cellsAt (aadd (aadd ta ((3 : Int).toNat * 4)) 3) 1 = some [.slice (some xa) 1 c3] := by
        have h1 : H3.cellsAt (aadd ta 15) 1 = G2.cellsAt (aadd ta 15) 1 := k3.cells (ad := aadd ta 15) q3 id
        have h2 : aadd (aadd ta ((3 : Int).toNat * 4)) 3 = aadd ta 15 := by simp [aadd]
        rw [h2, h1]
        exact q1
      have q2' : H3.cellsAt (aadd xa ((0 : Int).toNat * 1)) 1 = some [.string (strB (textK bs))] := by
        have h1 : H3.cellsAt xa 1 = G2.cellsAt xa 1 := k3.cells q4 id
        have h2 : aadd xa ((0 : Int).toNat * 1) = xa := by simp [aadd]
        rw [h2, h1]
        exact q2
      have hg3 := gk q6 (by omega) k3
      have n3 := k3.1
      clear hH3
      have hhi : ∀ b : List UInt8, bs[bs.length]? = some b → leB b key = false := fun b hi => by
        cases h : leB b key with
        | false => rfl
        | true => exact absurd ((hat _ b hi).1 h) (Nat.lt_irrefl _)
      have un77 : UnT Tryz.prog 77 _ := ⟨Tryz.underlying77⟩
      repeat' (first
    | (show EW _ _ _ _ _; first | refine ew_p (h := ?_) | refine ew_bu (h := ?_) | refine ew_skip (h := ?_) | refine ew_ld (h := ?_) | (refine ew_fresh ?_; intro b hb; refine ew_nw hb (h := ?_); (try simp only [AHeap.push_next, AHeap.put_next] at hb)) | refine ew_st (h := ?_) | (refine ew_df (ht := ?_) (hf := ?_) <;> intro _) | refine ew_ar (h := ?_) | (refine ew_callS (hc := cr_call) (hR := canon_calls hX hne b3 hb12 hT hg3) (h := ?_); rintro _ Hz ⟨rfl, he⟩; obtain rfl := he.symm) | refine w_nil ?_)
    | (show EC _ _ _ _ _ _ _; first | refine k_seq ?_ | refine k_region ?_ | refine k_skip ?_ | refine k_ret ?_ | refine k_exit ?_ | refine k_block ?_ | refine k_true (h := ?_) | refine k_false (h := ?_))
    | (show EX _ (bodyA _ _ _) _ _ _; first | refine x_end1 (hq := ?_))
    | (show EX _ _ _ _ _; first | refine x_normal ?_ | refine x_ret ?_ | refine x_exit ?_ | refine x_same ?_ | refine x_other (h := ?_) | refine x_bnormal ?_ | refine x_bret ?_))
      have hks := strB_size key
      by_cases hkey : key.length ≤ 12
      · refine ew_callS (hc := cr_call) (hR := eval_short hX hne b3 hb12 hT hkey hpl (fun i b hi hlt => (hat i b hi).2 hlt) hhi hg3) (h := ?_)
        rintro _ Hz ⟨rfl, he⟩
        obtain rfl := he.symm
        unfold intV
        repeat' (first
    | (show EW _ _ _ _ _; first | refine ew_n (hn := r_nilN un77) (h := ?_) | refine ew_p (h := ?_) | refine ew_bu (h := ?_) | refine ew_skip (h := ?_) | refine ew_ld (h := ?_) | (refine ew_fresh ?_; intro b hb; refine ew_nw hb (h := ?_); (try simp only [AHeap.push_next, AHeap.put_next] at hb)) | refine ew_st (h := ?_) | (refine ew_df (ht := ?_) (hf := ?_) <;> intro _) | refine ew_ar (h := ?_) | refine ew_p2 (h := ?_) | (refine ew_df2 (ht := ?_) (hf := ?_) <;> intro _) | refine w_nil ?_)
    | (show EC _ _ _ _ _ _ _; first | refine k_seq ?_ | refine k_region ?_ | refine k_skip ?_ | refine k_ret ?_ | refine k_exit ?_ | refine k_block ?_ | refine k_true (h := ?_) | refine k_false (h := ?_))
    | (show EX _ (bodyA _ _ _) _ _ _; first | refine x_end1 (hq := ?_))
    | (show EX _ _ _ _ _; first | refine x_normal ?_ | refine x_ret ?_ | refine x_exit ?_ | refine x_same ?_ | refine x_other (h := ?_) | refine x_bnormal ?_ | refine x_bret ?_))
        all_goals first | (exfalso; omega) | (exfalso; contradiction; done) | rfl
      · refine ew_callS (hc := cr_call) (hR := eval_long hX hne b3 hb12 hT (by omega) hg3) (h := ?_)
        rintro _ Hz ⟨rfl, he⟩
        obtain rfl := he.symm
        unfold intV
        repeat' (first
    | (show EW _ _ _ _ _; first | refine ew_n (hn := r_nilN un77) (h := ?_) | refine ew_p (h := ?_) | refine ew_bu (h := ?_) | refine ew_skip (h := ?_) | refine ew_ld (h := ?_) | (refine ew_fresh ?_; intro b hb; refine ew_nw hb (h := ?_); (try simp only [AHeap.push_next, AHeap.put_next] at hb)) | refine ew_st (h := ?_) | (refine ew_df (ht := ?_) (hf := ?_) <;> intro _) | refine ew_ar (h := ?_) | refine ew_p2 (h := ?_) | (refine ew_df2 (ht := ?_) (hf := ?_) <;> intro _) | refine w_nil ?_)
    | (show EC _ _ _ _ _ _ _; first | refine k_seq ?_ | refine k_region ?_ | refine k_skip ?_ | refine k_ret ?_ | refine k_exit ?_ | refine k_block ?_ | refine k_true (h := ?_) | refine k_false (h := ?_))
    | (show EX _ (bodyA _ _ _) _ _ _; first | refine x_end1 (hq := ?_))
    | (show EX _ _ _ _ _; first | refine x_normal ?_ | refine x_ret ?_ | refine x_exit ?_ | refine x_same ?_ | refine x_other (h := ?_) | refine x_bnormal ?_ | refine x_bret ?_))
        all_goals first | (exfalso; omega) | (exfalso; contradiction; done) | rfl
  · obtain rfl : n = 0 := by omega
    have p2 : 0 < bs.length := by omega
    have hB1 := hB p2
    obtain ⟨ad, c', hv, _, _, hcB⟩ := SR2.at hd p2
    obtain ⟨rfl, rfl⟩ : (⟨14, 0, none⟩ : Addr) = ad ∧ c = c' := by simpa using hv
    refine k_open (args := [.string (strB key), .slice (some ⟨14, 0, none⟩) bs.length c]) (E0 := [(0, .string (strB key)), (1, .slice (some ⟨14, 0, none⟩) bs.length c)]) tbl6 Tryz.func6 rfl follows (by kernel_rfl) Tryz.ntmps6 rfl rfl ?_
    repeat' (first
    | (show EW _ _ _ _ _; first | refine ew_p (h := ?_) | refine ew_bu (h := ?_) | refine ew_skip (h := ?_) | refine ew_ld (h := ?_) | (refine ew_fresh ?_; intro b hb; refine ew_nw hb (h := ?_); (try simp only [AHeap.push_next, AHeap.put_next] at hb)) | refine ew_st (h := ?_) | (refine ew_df (ht := ?_) (hf := ?_) <;> intro _) | refine ew_ar (h := ?_) | (refine ew_callS (hc := cr_call) (hR := works_calls hg) (h := ?_); rintro _ Hz ⟨rfl, he⟩; obtain rfl := he.symm) | (refine ew_callS (hc := cr_call) (hR := hplace) (h := ?_); rintro _ Hz ⟨rfl, he⟩; obtain rfl := he.symm) | refine w_nil ?_)
    | (show EC _ _ _ _ _ _ _; first | refine k_seq ?_ | refine k_region ?_ | refine k_skip ?_ | refine k_ret ?_ | refine k_exit ?_ | refine k_block ?_ | refine k_true (h := ?_) | refine k_false (h := ?_))
    | (show EX _ (bodyA _ _ _) _ _ _; first | refine x_end1 (hq := ?_))
    | (show EX _ _ _ _ _; first | refine x_normal ?_ | refine x_ret ?_ | refine x_exit ?_ | refine x_same ?_ | refine x_other (h := ?_) | refine x_bnormal ?_ | refine x_bret ?_))
    refine ew_callS (hc := cr_call) (hR := rising_calls hd hl) (h := ?_)
    rintro _ Hz ⟨⟨t, rfl, ht⟩, he⟩
    obtain rfl := he.symm
    obtain rfl : t = true := ht.2 hR
    repeat' (first
    | (show EW _ _ _ _ _; first | refine ew_p (h := ?_) | refine ew_bu (h := ?_) | refine ew_skip (h := ?_) | refine ew_ld (h := ?_) | (refine ew_fresh ?_; intro b hb; refine ew_nw hb (h := ?_); (try simp only [AHeap.push_next, AHeap.put_next] at hb)) | refine ew_st (h := ?_) | (refine ew_df (ht := ?_) (hf := ?_) <;> intro _) | refine ew_ar (h := ?_) | refine ew_p2 (h := ?_) | (refine ew_df2 (ht := ?_) (hf := ?_) <;> intro _) | refine w_nil ?_)
    | (show EC _ _ _ _ _ _ _; first | refine k_seq ?_ | refine k_region ?_ | refine k_skip ?_ | refine k_ret ?_ | refine k_exit ?_ | refine k_block ?_ | refine k_true (h := ?_) | refine k_false (h := ?_))
    | (show EX _ (bodyA _ _ _) _ _ _; first | refine x_end1 (hq := ?_))
    | (show EX _ _ _ _ _; first | refine x_normal ?_ | refine x_ret ?_ | refine x_exit ?_ | refine x_same ?_ | refine x_other (h := ?_) | refine x_bnormal ?_ | refine x_bret ?_))
    all_goals first | (exfalso; contradiction; done) | skip
    refine ew_callS (hc := cr_call) (hR := a1) (h := ?_)
    rintro _ _ ⟨rfl, rfl⟩
    repeat' (first
    | (show EW _ _ _ _ _; first | refine ew_p (h := ?_) | refine ew_bu (h := ?_) | refine ew_skip (h := ?_) | refine ew_ld (h := ?_) | (refine ew_fresh ?_; intro b hb; refine ew_nw hb (h := ?_); (try simp only [AHeap.push_next, AHeap.put_next] at hb)) | refine ew_st (h := ?_) | (refine ew_df (ht := ?_) (hf := ?_) <;> intro _) | refine ew_ar (h := ?_) | refine w_nil ?_)
    | (show EC _ _ _ _ _ _ _; first | refine k_seq ?_ | refine k_region ?_ | refine k_skip ?_ | refine k_ret ?_ | refine k_exit ?_ | refine k_block ?_ | refine k_true (h := ?_) | refine k_false (h := ?_))
    | (show EX _ (bodyA _ _ _) _ _ _; first | refine x_end1 (hq := ?_))
    | (show EX _ _ _ _ _; first | refine x_normal ?_ | refine x_ret ?_ | refine x_exit ?_ | refine x_same ?_ | refine x_other (h := ?_) | refine x_bnormal ?_ | refine x_bret ?_))
    refine ew_callS (hc := cr_call) (hR := a2) (h := ?_)
    rintro _ G3 ⟨rfl, he2⟩
    obtain rfl := he2.symm
    repeat' (first
    | (show EW _ _ _ _ _; first | refine ew_p (h := ?_) | refine ew_bu (h := ?_) | refine ew_skip (h := ?_) | refine ew_ld (h := ?_) | (refine ew_fresh ?_; intro b hb; refine ew_nw hb (h := ?_); (try simp only [AHeap.push_next, AHeap.put_next] at hb)) | (refine ew_df (ht := ?_) (hf := ?_) <;> intro _) | refine ew_ar (h := ?_) | refine w_nil ?_)
    | (show EC _ _ _ _ _ _ _; first | refine k_seq ?_ | refine k_region ?_ | refine k_skip ?_ | refine k_ret ?_ | refine k_exit ?_ | refine k_block ?_ | refine k_true (h := ?_) | refine k_false (h := ?_))
    | (show EX _ (bodyA _ _ _) _ _ _; first | refine x_end1 (hq := ?_))
    | (show EX _ _ _ _ _; first | refine x_normal ?_ | refine x_ret ?_ | refine x_exit ?_ | refine x_same ?_ | refine x_other (h := ?_) | refine x_bnormal ?_ | refine x_bret ?_))
    refine ew_st (h := ?_)
    refine ew_gen fun H3 hH3 => ?_
    have k3 : Keep No G2 H3 := by rw [hH3]; exact kp
    have g8 : H3.get b = some (.row ⟨[.int .i64 2, .slice (some ta) (bs.length + 5) c1, .slice (some ea) n2 c2], 42, 0, true⟩) := by rw [hH3]; exact rdx
    have q1' : H3.cellsAt (aadd (aadd ta ((3 : Int).toNat * 4)) 3) 1 = some [.slice (some xa) 1 c3] := by
      have h1 : H3.cellsAt (aadd ta 15) 1 = G2.cellsAt (aadd ta 15) 1 := k3.cells (ad := aadd ta 15) q3 id
      have h2 : aadd (aadd ta ((3 : Int).toNat * 4)) 3 = aadd ta 15 := by simp [aadd]
      rw [h2, h1]
      exact q1
    have q2' : H3.cellsAt (aadd xa ((0 : Int).toNat * 1)) 1 = some [.string (strB (textK bs))] := by
      have h1 : H3.cellsAt xa 1 = G2.cellsAt xa 1 := k3.cells q4 id
      have h2 : aadd xa ((0 : Int).toNat * 1) = xa := by simp [aadd]
      rw [h2, h1]
      exact q2
    have hg3 := gk q6 (by omega) k3
    have n3 := k3.1
    clear hH3
    have hhi : ∀ b : List UInt8, bs[0]? = some b → leB b key = false := fun b hi => by
      cases h : leB b key with
      | false => rfl
      | true => exact absurd ((hat _ b hi).1 h) (Nat.lt_irrefl _)
    have un77 : UnT Tryz.prog 77 _ := ⟨Tryz.underlying77⟩
    repeat' (first
    | (show EW _ _ _ _ _; first | refine ew_p (h := ?_) | refine ew_bu (h := ?_) | refine ew_skip (h := ?_) | refine ew_ld (h := ?_) | (refine ew_fresh ?_; intro b hb; refine ew_nw hb (h := ?_); (try simp only [AHeap.push_next, AHeap.put_next] at hb)) | refine ew_st (h := ?_) | (refine ew_df (ht := ?_) (hf := ?_) <;> intro _) | refine ew_ar (h := ?_) | (refine ew_callS (hc := cr_call) (hR := canon_calls hX hne b3 hb12 hT hg3) (h := ?_); rintro _ Hz ⟨rfl, he⟩; obtain rfl := he.symm) | refine w_nil ?_)
    | (show EC _ _ _ _ _ _ _; first | refine k_seq ?_ | refine k_region ?_ | refine k_skip ?_ | refine k_ret ?_ | refine k_exit ?_ | refine k_block ?_ | refine k_true (h := ?_) | refine k_false (h := ?_))
    | (show EX _ (bodyA _ _ _) _ _ _; first | refine x_end1 (hq := ?_))
    | (show EX _ _ _ _ _; first | refine x_normal ?_ | refine x_ret ?_ | refine x_exit ?_ | refine x_same ?_ | refine x_other (h := ?_) | refine x_bnormal ?_ | refine x_bret ?_))
    have hks := strB_size key
    by_cases hkey : key.length ≤ 12
    · refine ew_callS (hc := cr_call) (hR := eval_short hX hne b3 hb12 hT hkey hpl (fun i b hi hlt => (hat i b hi).2 hlt) hhi hg3) (h := ?_)
      rintro _ Hz ⟨rfl, he⟩
      obtain rfl := he.symm
      unfold intV
      repeat' (first
    | (show EW _ _ _ _ _; first | refine ew_n (hn := r_nilN un77) (h := ?_) | refine ew_p (h := ?_) | refine ew_bu (h := ?_) | refine ew_skip (h := ?_) | refine ew_ld (h := ?_) | (refine ew_fresh ?_; intro b hb; refine ew_nw hb (h := ?_); (try simp only [AHeap.push_next, AHeap.put_next] at hb)) | refine ew_st (h := ?_) | (refine ew_df (ht := ?_) (hf := ?_) <;> intro _) | refine ew_ar (h := ?_) | refine ew_p2 (h := ?_) | (refine ew_df2 (ht := ?_) (hf := ?_) <;> intro _) | refine w_nil ?_)
    | (show EC _ _ _ _ _ _ _; first | refine k_seq ?_ | refine k_region ?_ | refine k_skip ?_ | refine k_ret ?_ | refine k_exit ?_ | refine k_block ?_ | refine k_true (h := ?_) | refine k_false (h := ?_))
    | (show EX _ (bodyA _ _ _) _ _ _; first | refine x_end1 (hq := ?_))
    | (show EX _ _ _ _ _; first | refine x_normal ?_ | refine x_ret ?_ | refine x_exit ?_ | refine x_same ?_ | refine x_other (h := ?_) | refine x_bnormal ?_ | refine x_bret ?_))
      all_goals first | (exfalso; omega) | (exfalso; contradiction; done) | rfl
    · refine ew_callS (hc := cr_call) (hR := eval_long hX hne b3 hb12 hT (by omega) hg3) (h := ?_)
      rintro _ Hz ⟨rfl, he⟩
      obtain rfl := he.symm
      unfold intV
      repeat' (first
    | (show EW _ _ _ _ _; first | refine ew_n (hn := r_nilN un77) (h := ?_) | refine ew_p (h := ?_) | refine ew_bu (h := ?_) | refine ew_skip (h := ?_) | refine ew_ld (h := ?_) | (refine ew_fresh ?_; intro b hb; refine ew_nw hb (h := ?_); (try simp only [AHeap.push_next, AHeap.put_next] at hb)) | refine ew_st (h := ?_) | (refine ew_df (ht := ?_) (hf := ?_) <;> intro _) | refine ew_ar (h := ?_) | refine ew_p2 (h := ?_) | (refine ew_df2 (ht := ?_) (hf := ?_) <;> intro _) | refine w_nil ?_)
    | (show EC _ _ _ _ _ _ _; first | refine k_seq ?_ | refine k_region ?_ | refine k_skip ?_ | refine k_ret ?_ | refine k_exit ?_ | refine k_block ?_ | refine k_true (h := ?_) | refine k_false (h := ?_))
    | (show EX _ (bodyA _ _ _) _ _ _; first | refine x_end1 (hq := ?_))
    | (show EX _ _ _ _ _; first | refine x_normal ?_ | refine x_ret ?_ | refine x_exit ?_ | refine x_same ?_ | refine x_other (h := ?_) | refine x_bnormal ?_ | refine x_bret ?_))
      all_goals first | (exfalso; omega) | (exfalso; contradiction; done) | rfl
end Go.Ae

/- ScalePlaces over the abstract heap. No condition. -/
import Derived.Test.YtmibkoadjehdaaaGreatDoorSpX
import Derived.Test.YtmibkoadjehdaaaGreatDoorSpP
import Derived.Test.YtmibkoadjehdaaaGreatDoorAeEy
import Derived.Test.YtmibkoadjehdaaaGreatDoorAeGl
set_option linter.unusedSimpArgs false
set_option linter.unusedVariables false
set_option linter.unnecessarySimpa false
set_option maxRecDepth 100000
set_option maxHeartbeats 800000
namespace Go.Ae
open Go.Proofs
attribute [local irreducible] awC wpSeq wpS nRes aw aE acall ACalls szT isAggT zeroT byT elemSz fieldOff Program.underlying appendA copyA thenA inBlockA bodyA AHeap.push AHeap.put AHeap.cellsAt AHeap.setCells resV loadA intBin EW EC EX Nr Nc Er Cr Agree
def tbl3 : Tbl := []
def tbl7 : Tbl := []
/-- The list that Texts hands back. -/
theorem Rt.texts {H0 H : AHeap} {rr : Nat} {ad : Addr} {cf : Nat} {cs : List (List UInt8)} (t : Rt H0 H rr ad cf cs) : SR2 H (fun _ => True) (.slice (some (aadd ad 0)) cs.length (cs.length + 40)) cs := by
  obtain ⟨O1, O2, sv, hr, ho2, ho1, _, _⟩ := t.row
  obtain ⟨ad', c', rc, vr, he, hO, hl, hg, hv, hle, ht, _⟩ := ho1.at_row (by omega)
  simp only [Value.slice.injEq, Option.some.injEq, true_and] at he
  obtain ⟨rfl, rfl⟩ := he
  unfold SR2
  by_cases h0 : cs.length = 0
  · obtain rfl := List.eq_nil_of_length_eq_zero h0
    exact .empty _ _
  · refine .full _ _ _ _ h0 trivial hl (cellsAt_of (ad := aadd ad 0) hg hv (by simp; omega) ?_)
    have h1 : ((rc.drop ad.off).take ((cs.length + 40) * 1)).take cs.length = (strV (cs ++ marksS 40)).take cs.length := by rw [ht]
    rw [List.take_take, Nat.min_eq_left (by omega)] at h1
    simp only [aadd_off, Nat.add_zero, Nat.mul_one]
    rw [h1, strV_append]
    have h2 : (strV cs).length = cs.length := strV_length cs
    rw [← h2, List.take_left]
theorem lends_calls (H : AHeap) : ACalls Tryz.prog 7 #[] H fun v H' => ∃ k rr, v = .pointer (some ⟨k, 0, none⟩) ∧ Keep No H H' ∧ H.next ≤ rr ∧ rr < H'.next ∧ H.next ≤ k ∧ k < H'.next ∧ k ≠ rr ∧
    H'.get rr = some (.row ⟨[.slice none 0 0, .slice none 0 0, .slice none 0 0, .slice none 0 0, .slice none 0 0, .slice none 0 0, .slice none 0 0, .slice none 0 0, .slice none 0 0, .slice none 0 0], 94, 0, true⟩) ∧
    H'.get k = some (.row ⟨[.pointer (some ⟨rr, 0, none⟩), .slice none 0 0, .slice none 0 0, .slice none 0 0, .slice none 0 0, .slice none 0 0], 32, 0, true⟩) := by
  refine k_open (args := []) (E0 := []) tbl7 Tryz.func7 rfl follows (by kernel_rfl) Tryz.ntmps7 rfl rfl ?_
  repeat' (first
    | (show EW _ _ _ _ _; first | refine ew_p (h := ?_) | refine ew_bu (h := ?_) | (refine ew_fresh ?_; intro b hb; refine ew_nw hb (h := ?_); (try simp only [AHeap.push_next, AHeap.put_next] at hb)) | refine w_nil ?_)
    | (show EC _ _ _ _ _ _ _; first | refine k_seq ?_ | refine k_region ?_ | refine k_skip ?_ | refine k_ret ?_ | refine k_exit ?_ | refine k_block ?_ | refine k_true (h := ?_) | refine k_false (h := ?_))
    | (show EX _ (bodyA _ _ _) _ _ _; first | refine x_end1 (hq := ?_))
    | (show EX _ _ _ _ _; first | refine x_normal ?_ | refine x_ret ?_ | refine x_exit ?_ | refine x_same ?_ | refine x_other (h := ?_) | refine x_bnormal ?_ | refine x_bret ?_))
  rename_i b0 hb0
  refine ⟨b, b0, rfl, by exact kp, by omega, by simp only [AHeap.push_next]; omega, by omega, by simp only [AHeap.push_next]; omega, by omega, ?_, ?_⟩
  · rw [AHeap.push_get, if_neg (by rw [AHeap.push_next]; omega), AHeap.push_get, if_pos hb0]
  · rw [AHeap.push_get, if_pos (by rw [AHeap.push_next]; omega)]
theorem places_calls {H : AHeap} {F : Blks} {dv : Value} {k : List UInt8} {cs : List (List UInt8)} (hd : SR2 H F dv cs) (hl : cs.length ≤ 8796093022000) (hg : ∀ p ∈ globs, H.get p.1 = some (.row p.2)) (hn : 14 ≤ H.next) :
    ACalls Tryz.prog 3 #[.string (strB k), dv] H fun v _ => v = .bool true := by
  obtain ⟨zd, cd, rfl⟩ := Rd.slice hd
  have hgl : ∀ H', Keep No H H' → ∀ p ∈ globs, H'.get p.1 = some (.row p.2) := fun H' hk p hp => hk.row0 (hg p hp) (Nat.lt_of_lt_of_le (glob_lt p hp) hn)
  refine k_open (args := [.string (strB k), .slice zd cs.length cd]) (E0 := [(0, .string (strB k)), (1, .slice zd cs.length cd)]) tbl3 Tryz.func3 rfl follows (by kernel_rfl) Tryz.ntmps3 rfl rfl ?_
  repeat' (first
    | (show EW _ _ _ _ _; first | refine ew_p (h := ?_) | refine ew_skip (h := ?_) | refine ew_ld (h := ?_) | (refine ew_df (ht := ?_) (hf := ?_) <;> intro _) | refine w_nil ?_)
    | (show EC _ _ _ _ _ _ _; first | refine k_seq ?_ | refine k_region ?_ | refine k_skip ?_ | refine k_ret ?_ | refine k_exit ?_ | refine k_block ?_ | refine k_true (h := ?_) | refine k_false (h := ?_))
    | (show EX _ (bodyA _ _ _) _ _ _; first | refine x_end1 (hq := ?_))
    | (show EX _ _ _ _ _; first | refine x_normal ?_ | refine x_ret ?_ | refine x_exit ?_ | refine x_same ?_ | refine x_other (h := ?_) | refine x_bnormal ?_ | refine x_bret ?_))
  (first | (refine' ew_callS (hc := cr_call) (hR := ?_) (h := ?_); rotate_left 1) | (refine' ew_call (hc := cr_call) (hR := ?_) (h := ?_); rotate_left 1))
  · exact lends_calls H
  rintro _ H1 ⟨kk, rr, rfl, hk1, hr1, hr2, hk2, hk3, hne, hgr, hgk⟩
  repeat' (first
    | (show EW _ _ _ _ _; first | refine ew_p (h := ?_) | refine ew_skip (h := ?_) | refine ew_ld (h := ?_) | (refine ew_df (ht := ?_) (hf := ?_) <;> intro _) | refine w_nil ?_)
    | (show EC _ _ _ _ _ _ _; first | refine k_seq ?_ | refine k_region ?_ | refine k_skip ?_ | refine k_ret ?_ | refine k_exit ?_ | refine k_block ?_ | refine k_true (h := ?_) | refine k_false (h := ?_))
    | (show EX _ (bodyA _ _ _) _ _ _; first | refine x_end1 (hq := ?_))
    | (show EX _ _ _ _ _; first | refine x_normal ?_ | refine x_ret ?_ | refine x_exit ?_ | refine x_same ?_ | refine x_other (h := ?_) | refine x_bnormal ?_ | refine x_bret ?_))
  (first | (refine' ew_callS (hc := cr_call) (hR := ?_) (h := ?_); rotate_left 1) | (refine' ew_call (hc := cr_call) (hR := ?_) (h := ?_); rotate_left 1))
  · exact texts_calls (H0 := H) hk1 hr1 hr2 hgr (Rd.keep0 hd hk1) hl
  rintro _ H2 ⟨ad, cf, rfl, hkt, t⟩
  have hk12 : Keep No H H2 := hk1.own hkt fun b hb => by have : b = rr := hb; omega
  have hgk2 := hkt.row hgk hk3 (fun h => hne h)
  have hs6 : SR2 H2 _ (.slice (some (aadd ad 0)) cs.length (cs.length + 40)) cs := t.texts
  repeat' (first
    | (show EW _ _ _ _ _; first | refine ew_p (h := ?_) | refine ew_skip (h := ?_) | refine ew_ld (h := ?_) | (refine ew_df (ht := ?_) (hf := ?_) <;> intro _) | refine w_nil ?_)
    | (show EC _ _ _ _ _ _ _; first | refine k_seq ?_ | refine k_region ?_ | refine k_skip ?_ | refine k_ret ?_ | refine k_exit ?_ | refine k_block ?_ | refine k_true (h := ?_) | refine k_false (h := ?_))
    | (show EX _ (bodyA _ _ _) _ _ _; first | refine x_end1 (hq := ?_))
    | (show EX _ _ _ _ _; first | refine x_normal ?_ | refine x_ret ?_ | refine x_exit ?_ | refine x_same ?_ | refine x_other (h := ?_) | refine x_bnormal ?_ | refine x_bret ?_))
  (first | (refine' ew_callS (hc := cr_call) (hR := ?_) (h := ?_); rotate_left 1) | (refine' ew_call (hc := cr_call) (hR := ?_) (h := ?_); rotate_left 1))
  · exact place_calls hs6 hl
  rintro _ H3 ⟨rfl, hk23⟩
  have hk13 := hk12.after hk23
  repeat' (first
    | (show EW _ _ _ _ _; first | refine ew_p (h := ?_) | refine ew_skip (h := ?_) | refine ew_ld (h := ?_) | (refine ew_df (ht := ?_) (hf := ?_) <;> intro _) | refine w_nil ?_)
    | (show EC _ _ _ _ _ _ _; first | refine k_seq ?_ | refine k_region ?_ | refine k_skip ?_ | refine k_ret ?_ | refine k_exit ?_ | refine k_block ?_ | refine k_true (h := ?_) | refine k_false (h := ?_))
    | (show EX _ (bodyA _ _ _) _ _ _; first | refine x_end1 (hq := ?_))
    | (show EX _ _ _ _ _; first | refine x_normal ?_ | refine x_ret ?_ | refine x_exit ?_ | refine x_same ?_ | refine x_other (h := ?_) | refine x_bnormal ?_ | refine x_bret ?_))
  (first | (refine' ew_callS (hc := cr_call) (hR := ?_) (h := ?_); rotate_left 1) | (refine' ew_call (hc := cr_call) (hR := ?_) (h := ?_); rotate_left 1))
  · exact refPlace_calls (Rd.keep0 hd hk13) hl
  rintro _ H4 ⟨rfl, rfl⟩
  repeat' (first
    | (show EW _ _ _ _ _; first | refine ew_p (h := ?_) | refine ew_skip (h := ?_) | refine ew_ld (h := ?_) | (refine ew_df (ht := ?_) (hf := ?_) <;> intro _) | refine w_nil ?_)
    | (show EC _ _ _ _ _ _ _; first | refine k_seq ?_ | refine k_region ?_ | refine k_skip ?_ | refine k_ret ?_ | refine k_exit ?_ | refine k_block ?_ | refine k_true (h := ?_) | refine k_false (h := ?_))
    | (show EX _ (bodyA _ _ _) _ _ _; first | refine x_end1 (hq := ?_))
    | (show EX _ _ _ _ _; first | refine x_normal ?_ | refine x_ret ?_ | refine x_exit ?_ | refine x_same ?_ | refine x_other (h := ?_) | refine x_bnormal ?_ | refine x_bret ?_))
  (first | (refine' ew_callS (hc := cr_call) (hR := ?_) (h := ?_); rotate_left 1) | (refine' ew_call (hc := cr_call) (hR := ?_) (h := ?_); rotate_left 1))
  · exact same_calls (Rd.keep0 hs6 hk23) (Rd.keep0 hd hk13) hl
  rintro _ H4 ⟨rfl, rfl⟩
  repeat' (first
    | (show EW _ _ _ _ _; first | refine ew_p (h := ?_) | refine ew_skip (h := ?_) | refine ew_ld (h := ?_) | (refine ew_df (ht := ?_) (hf := ?_) <;> intro _) | refine w_nil ?_)
    | (show EC _ _ _ _ _ _ _; first | refine k_seq ?_ | refine k_region ?_ | refine k_skip ?_ | refine k_ret ?_ | refine k_exit ?_ | refine k_block ?_ | refine k_true (h := ?_) | refine k_false (h := ?_))
    | (show EX _ (bodyA _ _ _) _ _ _; first | refine x_end1 (hq := ?_))
    | (show EX _ _ _ _ _; first | refine x_normal ?_ | refine x_ret ?_ | refine x_exit ?_ | refine x_same ?_ | refine x_other (h := ?_) | refine x_bnormal ?_ | refine x_bret ?_))
  (first | (refine' ew_callS (hc := cr_call) (hR := ?_) (h := ?_); rotate_left 1) | (refine' ew_call (hc := cr_call) (hR := ?_) (h := ?_); rotate_left 1))
  · exact holds_calls (t.keep0 hk23) hl (hk23.row0 hgk2 (Nat.lt_of_lt_of_le hk3 hkt.1))
  rintro _ H4 ⟨rfl, rfl⟩
  repeat' (first
    | (show EW _ _ _ _ _; first | refine ew_p (h := ?_) | refine ew_skip (h := ?_) | refine ew_ld (h := ?_) | (refine ew_df (ht := ?_) (hf := ?_) <;> intro _) | refine w_nil ?_)
    | (show EC _ _ _ _ _ _ _; first | refine k_seq ?_ | refine k_region ?_ | refine k_skip ?_ | refine k_ret ?_ | refine k_exit ?_ | refine k_block ?_ | refine k_true (h := ?_) | refine k_false (h := ?_))
    | (show EX _ (bodyA _ _ _) _ _ _; first | refine x_end1 (hq := ?_))
    | (show EX _ _ _ _ _; first | refine x_normal ?_ | refine x_ret ?_ | refine x_exit ?_ | refine x_same ?_ | refine x_other (h := ?_) | refine x_bnormal ?_ | refine x_bret ?_))
  (first | (refine' ew_callS (hc := cr_call) (hR := ?_) (h := ?_); rotate_left 1) | (refine' ew_call (hc := cr_call) (hR := ?_) (h := ?_); rotate_left 1))
  · exact works_calls (hgl _ hk13)
  rintro _ H4 ⟨rfl, rfl⟩
  repeat' (first
    | (show EW _ _ _ _ _; first | refine ew_p (h := ?_) | refine ew_skip (h := ?_) | refine ew_ld (h := ?_) | (refine ew_df (ht := ?_) (hf := ?_) <;> intro _) | refine w_nil ?_)
    | (show EC _ _ _ _ _ _ _; first | refine k_seq ?_ | refine k_region ?_ | refine k_skip ?_ | refine k_ret ?_ | refine k_exit ?_ | refine k_block ?_ | refine k_true (h := ?_) | refine k_false (h := ?_))
    | (show EX _ (bodyA _ _ _) _ _ _; first | refine x_end1 (hq := ?_))
    | (show EX _ _ _ _ _; first | refine x_normal ?_ | refine x_ret ?_ | refine x_exit ?_ | refine x_same ?_ | refine x_other (h := ?_) | refine x_bnormal ?_ | refine x_bret ?_))
  exact rfl
end Go.Ae

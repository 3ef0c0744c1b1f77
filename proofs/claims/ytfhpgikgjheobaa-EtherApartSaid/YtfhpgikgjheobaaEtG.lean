/- The small functions of package eddylaw22 over the abstract heap. No condition. -/
import Derived.Test.YtfhpgikgjheobaaEtE
set_option linter.unusedSimpArgs false
set_option linter.unusedVariables false
set_option maxRecDepth 100000
set_option maxHeartbeats 400000
namespace Go.Ae
open Go.Proofs
attribute [local irreducible] awC wpSeq wpS nRes aw aE acall ACalls szT isAggT zeroT byT elemSz fieldOff Program.underlying appendA copyA thenA inBlockA bodyA AHeap.push AHeap.put AHeap.cellsAt AHeap.setCells resV loadA intBin EW EC EX Nr Nc Er Cr Agree

def tbl17 : Tbl := []
def tbl19 : Tbl := []
def tbl26 : Tbl := []
def tbl13 : Tbl := []

theorem sameBytes_calls {F G : Blks} {x y : Value} {bs cs : List UInt8} (H : AHeap) (hx : BR H F x bs) (hy : BR H G y cs) :
    ACalls Try.prog 17 #[x, y] H fun v H' => v = .bool (decide (bs = cs)) ∧ H' = H := by
  refine k_open (args := [x, y]) (E0 := [(0, x), (1, y)]) tbl17 Try.func17 rfl follows (by kernel_rfl) Try.ntmps17 rfl rfl ?_
  repeat' (first
    | (show EW _ _ _ _ _; first | refine ew_p (h := ?_) | refine ew_ci (h := ?_) | refine ew_conv (hn := r_conv_br (h := by first | assumption | (apply Rd.keep0; (focus assumption); exact kp))) (h := ?_) | (refine ew_df (ht := ?_) (hf := ?_) <;> intro _) | refine w_nil ?_)
    | (show EC _ _ _ _ _ _ _; first | refine k_seq ?_ | refine k_region ?_ | refine k_skip ?_ | refine k_ret ?_ | refine k_exit ?_ | refine k_block ?_ | refine k_true (h := ?_) | refine k_false (h := ?_))
    | (show EX _ (bodyA _ _ _) _ _ _; first | refine x_end1 (hq := ?_))
    | (show EX _ _ _ _ _; first | refine x_normal ?_ | refine x_ret ?_ | refine x_exit ?_ | refine x_same ?_ | refine x_other (h := ?_) | refine x_bnormal ?_ | refine x_bret ?_))
  all_goals exact ⟨by simp [*], rfl⟩

/-- n in 0 .. k-1. -/
def modI (n k : Int) : Int := if k < 1 then 0 else (n.tmod k + k).tmod k
theorem modI_range (n k : Int) (hk : 1 ≤ k) : 0 ≤ modI n k ∧ modI n k < k := by
  unfold modI
  rw [if_neg (by omega)]
  have h1 : -k < n.tmod k := by have := Int.lt_tmod_of_pos n (show 0 < k by omega); omega
  have h2 : 0 ≤ n.tmod k + k := by omega
  rw [Int.tmod_eq_emod_of_nonneg h2]
  exact ⟨Int.emod_nonneg _ (by omega), Int.emod_lt_of_pos _ (by omega)⟩
theorem modI_in (n k : Int) (h0 : 0 ≤ n) (hk : n < k) : modI n k = n := by
  unfold modI
  rw [if_neg (by omega), Int.tmod_eq_of_lt h0 hk, Int.tmod_eq_emod_of_nonneg (by omega), Int.add_emod_right, Int.emod_eq_of_lt h0 hk]
theorem mod_calls (n k : Int) (H : AHeap) (hk : k ≤ 4611686018427387903) : ACalls Try.prog 19 #[.int .i64 n, .int .i64 k] H fun v H' => v = .int .i64 (modI n k) ∧ H' = H := by
  refine k_open (args := [.int .i64 n, .int .i64 k]) (E0 := [(0, .int .i64 n), (1, .int .i64 k)]) tbl19 Try.func19 rfl follows (by kernel_rfl) Try.ntmps19 rfl rfl ?_
  by_cases hk1 : k < 1
  · repeat' (first
    | (show EW _ _ _ _ _; first | refine ew_p (h := ?_) | (refine ew_df (ht := ?_) (hf := ?_) <;> intro _) | refine ew_ar (h := ?_) | refine w_nil ?_)
    | (show EC _ _ _ _ _ _ _; first | refine k_seq ?_ | refine k_region ?_ | refine k_skip ?_ | refine k_ret ?_ | refine k_exit ?_ | refine k_block ?_ | refine k_true (h := ?_) | refine k_false (h := ?_))
    | (show EX _ (bodyA _ _ _) _ _ _; first | refine x_end1 (hq := ?_))
    | (show EX _ _ _ _ _; first | refine x_normal ?_ | refine x_ret ?_ | refine x_exit ?_ | refine x_same ?_ | refine x_other (h := ?_) | refine x_bnormal ?_ | refine x_bret ?_))
    exact ⟨by rw [modI, if_pos hk1], rfl⟩
  · have q1 : -k < n.tmod k := by have := Int.lt_tmod_of_pos n (show 0 < k by omega); omega
    have q2 : n.tmod k < k := Int.tmod_lt_of_pos n (by omega)
    repeat' (first
    | (show EW _ _ _ _ _; first | refine ew_p (h := ?_) | (refine ew_df (ht := ?_) (hf := ?_) <;> intro _) | refine ew_ar (h := ?_) | refine w_nil ?_)
    | (show EC _ _ _ _ _ _ _; first | refine k_seq ?_ | refine k_region ?_ | refine k_skip ?_ | refine k_ret ?_ | refine k_exit ?_ | refine k_block ?_ | refine k_true (h := ?_) | refine k_false (h := ?_))
    | (show EX _ (bodyA _ _ _) _ _ _; first | refine x_end1 (hq := ?_))
    | (show EX _ _ _ _ _; first | refine x_normal ?_ | refine x_ret ?_ | refine x_exit ?_ | refine x_same ?_ | refine x_other (h := ?_) | refine x_bnormal ?_ | refine x_bret ?_))
    exact ⟨by rw [modI, if_neg hk1], rfl⟩

theorem sameFlight_calls {F G : Blks} {f t f' t' : Int} {x y : Value} {bs cs : List UInt8} (H : AHeap) (hx : BR H F x bs) (hy : BR H G y cs) :
    ACalls Try.prog 26 #[.agg #[.int .i64 f, .int .i64 t, x], .agg #[.int .i64 f', .int .i64 t', y]] H fun v H' => v = .bool (decide (f = f' ∧ t = t' ∧ bs = cs)) ∧ Keep No H H' := by
  refine k_open (args := [.agg #[.int .i64 f, .int .i64 t, x], .agg #[.int .i64 f', .int .i64 t', y]]) (E0 := [(0, .agg #[.int .i64 f, .int .i64 t, x]), (1, .agg #[.int .i64 f', .int .i64 t', y])]) tbl26 Try.func26 rfl follows (by kernel_rfl) Try.ntmps26 rfl rfl ?_
  repeat' (first
    | (show EW _ _ _ _ _; first | refine ew_p (h := ?_) | refine ew_skip (h := ?_) | refine ew_ld (h := ?_) | (refine ew_fresh ?_; intro b hb; refine ew_nw hb (h := ?_); (try simp only [AHeap.push_next, AHeap.put_next] at hb)) | (refine ew_df (ht := ?_) (hf := ?_) <;> intro _) | refine w_nil ?_)
    | (show EC _ _ _ _ _ _ _; first | refine k_seq ?_ | refine k_region ?_ | refine k_skip ?_ | refine k_ret ?_ | refine k_exit ?_ | refine k_block ?_ | refine k_true (h := ?_) | refine k_false (h := ?_))
    | (show EX _ (bodyA _ _ _) _ _ _; first | refine x_end1 (hq := ?_))
    | (show EX _ _ _ _ _; first | refine x_normal ?_ | refine x_ret ?_ | refine x_exit ?_ | refine x_same ?_ | refine x_other (h := ?_) | refine x_bnormal ?_ | refine x_bret ?_))
  · (first | (refine' ew_callS (hc := cr_call) (hR := ?_) (h := ?_); rotate_left 1) | (refine' ew_call (hc := cr_call) (hR := ?_) (h := ?_); rotate_left 1))
    · exact sameBytes_calls _ (hx.keep0 (by exact kp)) (hy.keep0 (by exact kp))
    rintro _ H1 ⟨rfl, rfl⟩
    repeat' (first
    | (show EW _ _ _ _ _; first | refine ew_p (h := ?_) | refine ew_skip (h := ?_) | refine ew_ld (h := ?_) | (refine ew_fresh ?_; intro b hb; refine ew_nw hb (h := ?_); (try simp only [AHeap.push_next, AHeap.put_next] at hb)) | (refine ew_df (ht := ?_) (hf := ?_) <;> intro _) | refine w_nil ?_)
    | (show EC _ _ _ _ _ _ _; first | refine k_seq ?_ | refine k_region ?_ | refine k_skip ?_ | refine k_ret ?_ | refine k_exit ?_ | refine k_block ?_ | refine k_true (h := ?_) | refine k_false (h := ?_))
    | (show EX _ (bodyA _ _ _) _ _ _; first | refine x_end1 (hq := ?_))
    | (show EX _ _ _ _ _; first | refine x_normal ?_ | refine x_ret ?_ | refine x_exit ?_ | refine x_same ?_ | refine x_other (h := ?_) | refine x_bnormal ?_ | refine x_bret ?_))
    exact ⟨by simp [*], by exact kp⟩
  · exact ⟨by simp [*], by exact kp⟩
  · exact ⟨by simp [*], by exact kp⟩

theorem works_calls (H : AHeap) : ACalls Try.prog 13 #[] H fun v H' => v = .bool true ∧ Keep No H H' := by
  refine k_open (args := []) (E0 := []) tbl13 Try.func13 rfl follows (by kernel_rfl) Try.ntmps13 rfl rfl ?_
  repeat' (first
    | (show EW _ _ _ _ _; first | refine ew_p (h := ?_) | refine ew_skip (h := ?_) | refine ew_ld (h := ?_) | (refine ew_fresh ?_; intro b hb; refine ew_nw hb (h := ?_); (try simp only [AHeap.push_next, AHeap.put_next] at hb)) | refine ew_st (h := ?_) | (refine ew_df (ht := ?_) (hf := ?_) <;> intro _) | refine w_nil ?_)
    | (show EC _ _ _ _ _ _ _; first | refine k_seq ?_ | refine k_region ?_ | refine k_skip ?_ | refine k_ret ?_ | refine k_exit ?_ | refine k_block ?_ | refine k_true (h := ?_) | refine k_false (h := ?_))
    | (show EX _ (bodyA _ _ _) _ _ _; first | refine x_end1 (hq := ?_))
    | (show EX _ _ _ _ _; first | refine x_normal ?_ | refine x_ret ?_ | refine x_exit ?_ | refine x_same ?_ | refine x_other (h := ?_) | refine x_bnormal ?_ | refine x_bret ?_))
  (first | (refine' ew_callS (hc := cr_call) (hR := ?_) (h := ?_); rotate_left 1) | (refine' ew_call (hc := cr_call) (hR := ?_) (h := ?_); rotate_left 1))
  · exact new_calls 2 _
  rintro v H1 (⟨h, _⟩ | ⟨_, rfl, hN, hk1⟩)
  · exact absurd h (by decide)
  repeat' (first
    | (show EW _ _ _ _ _; first | refine ew_p (h := ?_) | refine ew_skip (h := ?_) | refine ew_ld (h := ?_) | (refine ew_fresh ?_; intro b hb; refine ew_nw hb (h := ?_); (try simp only [AHeap.push_next, AHeap.put_next] at hb)) | refine ew_st (h := ?_) | (refine ew_df (ht := ?_) (hf := ?_) <;> intro _) | refine w_nil ?_)
    | (show EC _ _ _ _ _ _ _; first | refine k_seq ?_ | refine k_region ?_ | refine k_skip ?_ | refine k_ret ?_ | refine k_exit ?_ | refine k_block ?_ | refine k_true (h := ?_) | refine k_false (h := ?_))
    | (show EX _ (bodyA _ _ _) _ _ _; first | refine x_end1 (hq := ?_))
    | (show EX _ _ _ _ _; first | refine x_normal ?_ | refine x_ret ?_ | refine x_exit ?_ | refine x_same ?_ | refine x_other (h := ?_) | refine x_bnormal ?_ | refine x_bret ?_))
  (first | (refine' ew_callS (hc := cr_call) (hR := ?_) (h := ?_); rotate_left 1) | (refine' ew_call (hc := cr_call) (hR := ?_) (h := ?_); rotate_left 1))
  · refine send_calls (G := fun b => b = H1.next) 0 1 _ [5] _ (hN.keep0 (by exact kp)) (Nat.zero_le _) (rd_row (e := 5) (rw' := true) (n := 1) (by exact rdx) (by omega) (by simp only [AHeap.push_next]; omega)) (by decide)
  rintro v H2 hpost
  rcases hpost with ⟨h, _⟩ | ⟨_, ⟨h, _⟩ | ⟨_, ⟨h, _⟩ | ⟨_, rfl, hk2, bp, hbp, hN2⟩⟩⟩
  · exact absurd h (by decide)
  · exact absurd h (by decide)
  · exact absurd h (by decide)
  repeat' (first
    | (show EW _ _ _ _ _; first | refine ew_p (h := ?_) | refine ew_skip (h := ?_) | refine ew_ld (h := ?_) | (refine ew_fresh ?_; intro b hb; refine ew_nw hb (h := ?_); (try simp only [AHeap.push_next, AHeap.put_next] at hb)) | refine ew_st (h := ?_) | (refine ew_df (ht := ?_) (hf := ?_) <;> intro _) | refine w_nil ?_)
    | (show EC _ _ _ _ _ _ _; first | refine k_seq ?_ | refine k_region ?_ | refine k_skip ?_ | refine k_ret ?_ | refine k_exit ?_ | refine k_block ?_ | refine k_true (h := ?_) | refine k_false (h := ?_))
    | (show EX _ (bodyA _ _ _) _ _ _; first | refine x_end1 (hq := ?_))
    | (show EX _ _ _ _ _; first | refine x_normal ?_ | refine x_ret ?_ | refine x_exit ?_ | refine x_same ?_ | refine x_other (h := ?_) | refine x_bnormal ?_ | refine x_bret ?_))
  (first | (refine' ew_callS (hc := cr_call) (hR := ?_) (h := ?_); rotate_left 1) | (refine' ew_call (hc := cr_call) (hR := ?_) (h := ?_); rotate_left 1))
  · exact deliver_calls _ hN2 (by simp)
  rintro v H3 hpost
  rcases hpost with ⟨h, _⟩ | ⟨j, p, hj, hp, hv, hk3, hN3, hd3⟩
  · exact absurd h (by simp)
  obtain rfl : j = 0 := by omega
  simp only [List.nil_append, List.getElem?_cons_zero, Option.some.injEq] at hp
  subst hp
  have hv' : v = .tuple #[.agg #[.int .i64 0, .int .i64 1, .slice (some ⟨bp, 0, none⟩) 1 1], .bool true] := hv
  clear hv
  subst hv'
  have hd4 : H3.get bp = some (.row ⟨[.int .u8 5], 5, 0, true⟩) := hd3
  have hb2 : bp < H2.next := hN2.bound _ (hN2.data ⟨0, 1, [5], bp⟩ (by simp)).2
  have hle1 := hk1.1
  have hle2 := hk2.1
  have hle3 := hk3.1
  simp only [AHeap.push_next] at hle2 hbp
  have hkA : Keep No H H2 := (hk1.after (by exact kp : Keep No H1 (H1.push _))).trans hk2 fun i hi h => by have := h.1; omega
  have hkB : Keep No H H3 := hkA.trans hk3 fun i hi h => by
    rcases h with h | h
    · have := h.1; omega
    · have := h.1; simp only [AHeap.push_next] at this; omega
  repeat' (first
    | (show EW _ _ _ _ _; first | refine ew_p (h := ?_) | refine ew_skip (h := ?_) | refine ew_ld (h := ?_) | (refine ew_fresh ?_; intro b hb; refine ew_nw hb (h := ?_); (try simp only [AHeap.push_next, AHeap.put_next] at hb)) | refine ew_st (h := ?_) | (refine ew_df (ht := ?_) (hf := ?_) <;> intro _) | refine w_nil ?_)
    | (show EC _ _ _ _ _ _ _; first | refine k_seq ?_ | refine k_region ?_ | refine k_skip ?_ | refine k_ret ?_ | refine k_exit ?_ | refine k_block ?_ | refine k_true (h := ?_) | refine k_false (h := ?_))
    | (show EX _ (bodyA _ _ _) _ _ _; first | refine x_end1 (hq := ?_))
    | (show EX _ _ _ _ _; first | refine x_normal ?_ | refine x_ret ?_ | refine x_exit ?_ | refine x_same ?_ | refine x_other (h := ?_) | refine x_bnormal ?_ | refine x_bret ?_))
  exact ⟨rfl, by exact kp⟩

end Go.Ae

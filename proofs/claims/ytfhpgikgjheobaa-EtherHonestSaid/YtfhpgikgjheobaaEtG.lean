/- The small functions of package eddylaw22 over the abstract heap. No condition. -/
import Derived.Test.YtfhpgikgjheobaaEtE
set_option linter.unusedSimpArgs false
set_option linter.unusedVariables false
set_option maxRecDepth 100000
set_option maxHeartbeats 400000
namespace Go.Ae
open Go.Proofs
attribute [local irreducible] awC wpSeq wpS nRes aw aE acall ACalls szT isAggT zeroT byT elemSz fieldOff Program.underlying appendA copyA thenA inBlockA bodyA AHeap.push AHeap.put AHeap.cellsAt AHeap.setCells resV loadA intBin EW EC EX Nr Nc Er Cr Agree

def tbl17 : Tbl := []
def tbl19 : Tbl := []
def tbl26 : Tbl := []
def tbl13 : Tbl := []

theorem sameBytes_calls {F G : Blks} {x y : Value} {bs cs : List UInt8} (H : AHeap) (hx : BR H F x bs) (hy : BR H G y cs) :
    ACalls Try.prog 17 #[x, y] H fun v H' => v = .bool (decide (bs = cs)) ∧ H' = H := by
  refine k_open (args := [x, y]) (E0 := [(0, x), (1, y)]) tbl17 Try.func17 rfl follows (by kernel_rfl) Try.ntmps17 rfl rfl ?_
  repeat' (first
    | (show EW _ _ _ _ _; first
      | refine ew_n (hn := r_move) (h := ?_)
      | refine ew_n (hn := r_assign) (h := ?_)
      | refine ew_n (hn := r_nil_eq) (h := ?_)
      | refine ew_n (hn := r_beq) (h := ?_)
      | refine ew_n (hn := (r_bin (hr := by first | (apply cmp_t; (focus (first | exact ib_eql)); omega) | (apply cmp_f; (focus (first | exact ib_eql)); omega)))) (h := ?_)
      | refine ew_convI _ (hv := by first | exact conv_u8 _ | exact rfl) (h := ?_)
      | refine ew_conv (hn := r_conv_br (h := by first | assumption | (apply Rd.keep0; (focus assumption); ((repeat' (first | exact Keep.refl | assumption | (apply Keep.push) | (refine Keep.put ?_ ?_; rotate_left; (focus (intro hlt; first | assumption | omega | (exfalso; simp only [AHeap.push_next, AHeap.put_next, aadd_block] at hlt; omega)))))); done)))) (h := ?_)
      | (refine ew_dec (hn := r_streq) (ht := ?_) (hf := ?_) <;> intro _)
      | (refine ew_dec (hn := (r_bin (hr := by (first | exact ib_eql)))) (ht := ?_) (hf := ?_) <;> intro _)
      | (refine w_nil ?_))
    | (show EC _ _ _ _ _ _ _; first | (refine k_seq ?_) | (refine k_region ?_) | (refine k_skip ?_) | (refine k_ret ?_) | (refine k_exit ?_) | (refine k_block ?_) | (refine k_true (h := ?_)) | (refine k_false (h := ?_)))
    | (show EX _ (bodyA _ _ _) _ _ _; first | (refine x_end1 (hq := ?_)))
    | (show EX _ _ _ _ _; first | (refine x_normal ?_) | (refine x_ret ?_) | (refine x_exit ?_) | (refine x_same ?_) | (refine x_other (h := ?_)) | (refine x_bnormal ?_) | (refine x_bret ?_)))
  all_goals exact ⟨by simp [*], rfl⟩

/-- n in 0 .. k-1. -/
def modI (n k : Int) : Int := if k < 1 then 0 else (n.tmod k + k).tmod k
theorem modI_range (n k : Int) (hk : 1 ≤ k) : 0 ≤ modI n k ∧ modI n k < k := by
  unfold modI
  rw [if_neg (by omega)]
  have h1 : -k < n.tmod k := by have := Int.lt_tmod_of_pos n (show 0 < k by omega); omega
  have h2 : 0 ≤ n.tmod k + k := by omega
  rw [Int.tmod_eq_emod_of_nonneg h2]
  exact ⟨Int.emod_nonneg _ (by omega), Int.emod_lt_of_pos _ (by omega)⟩
theorem modI_in (n k : Int) (h0 : 0 ≤ n) (hk : n < k) : modI n k = n := by
  unfold modI
  rw [if_neg (by omega), Int.tmod_eq_of_lt h0 hk, Int.tmod_eq_emod_of_nonneg (by omega), Int.add_emod_right, Int.emod_eq_of_lt h0 hk]
theorem mod_calls (n k : Int) (H : AHeap) (hk : k ≤ 4611686018427387903) : ACalls Try.prog 19 #[.int .i64 n, .int .i64 k] H fun v H' => v = .int .i64 (modI n k) ∧ H' = H := by
  refine k_open (args := [.int .i64 n, .int .i64 k]) (E0 := [(0, .int .i64 n), (1, .int .i64 k)]) tbl19 Try.func19 rfl follows (by kernel_rfl) Try.ntmps19 rfl rfl ?_
  by_cases hk1 : k < 1
  · repeat' (first
    | (show EW _ _ _ _ _; first
      | refine ew_n (hn := r_move) (h := ?_)
      | refine ew_n (hn := r_assign) (h := ?_)
      | refine ew_n (hn := (r_bin (hr := by first | (apply cmp_t; (focus (first | exact ib_lss)); omega) | (apply cmp_f; (focus (first | exact ib_lss)); omega)))) (h := ?_)
      | (refine ew_dec (hn := (r_bin (hr := by (first | exact ib_lss)))) (ht := ?_) (hf := ?_) <;> intro _)
      | refine ew_n (hn := r_bin (hr := by (first | exact ib_xor8 _ _ | (simp (disch := omega) only [intBin, wrap_in, wrap8_in, tdiv_in, tmod_in, if_false, reduceIte]; exact rfl) | (apply ib_rem; omega)))) (h := ?_)
      | (refine w_nil ?_))
    | (show EC _ _ _ _ _ _ _; first | (refine k_seq ?_) | (refine k_region ?_) | (refine k_skip ?_) | (refine k_ret ?_) | (refine k_exit ?_) | (refine k_block ?_) | (refine k_true (h := ?_)) | (refine k_false (h := ?_)))
    | (show EX _ (bodyA _ _ _) _ _ _; first | (refine x_end1 (hq := ?_)))
    | (show EX _ _ _ _ _; first | (refine x_normal ?_) | (refine x_ret ?_) | (refine x_exit ?_) | (refine x_same ?_) | (refine x_other (h := ?_)) | (refine x_bnormal ?_) | (refine x_bret ?_)))
    exact ⟨by rw [modI, if_pos hk1], rfl⟩
  · have q1 : -k < n.tmod k := by have := Int.lt_tmod_of_pos n (show 0 < k by omega); omega
    have q2 : n.tmod k < k := Int.tmod_lt_of_pos n (by omega)
    repeat' (first
    | (show EW _ _ _ _ _; first
      | refine ew_n (hn := r_move) (h := ?_)
      | refine ew_n (hn := r_assign) (h := ?_)
      | refine ew_n (hn := (r_bin (hr := by first | (apply cmp_t; (focus (first | exact ib_lss)); omega) | (apply cmp_f; (focus (first | exact ib_lss)); omega)))) (h := ?_)
      | (refine ew_dec (hn := (r_bin (hr := by (first | exact ib_lss)))) (ht := ?_) (hf := ?_) <;> intro _)
      | refine ew_n (hn := r_bin (hr := by (first | exact ib_xor8 _ _ | (simp (disch := omega) only [intBin, wrap_in, wrap8_in, tdiv_in, tmod_in, if_false, reduceIte]; exact rfl) | (apply ib_rem; omega)))) (h := ?_)
      | (refine w_nil ?_))
    | (show EC _ _ _ _ _ _ _; first | (refine k_seq ?_) | (refine k_region ?_) | (refine k_skip ?_) | (refine k_ret ?_) | (refine k_exit ?_) | (refine k_block ?_) | (refine k_true (h := ?_)) | (refine k_false (h := ?_)))
    | (show EX _ (bodyA _ _ _) _ _ _; first | (refine x_end1 (hq := ?_)))
    | (show EX _ _ _ _ _; first | (refine x_normal ?_) | (refine x_ret ?_) | (refine x_exit ?_) | (refine x_same ?_) | (refine x_other (h := ?_)) | (refine x_bnormal ?_) | (refine x_bret ?_)))
    exact ⟨by rw [modI, if_neg hk1], rfl⟩

theorem sameFlight_calls {F G : Blks} {f t f' t' : Int} {x y : Value} {bs cs : List UInt8} (H : AHeap) (hx : BR H F x bs) (hy : BR H G y cs) :
    ACalls Try.prog 26 #[.agg #[.int .i64 f, .int .i64 t, x], .agg #[.int .i64 f', .int .i64 t', y]] H fun v H' => v = .bool (decide (f = f' ∧ t = t' ∧ bs = cs)) ∧ Keep No H H' := by
  refine k_open (args := [.agg #[.int .i64 f, .int .i64 t, x], .agg #[.int .i64 f', .int .i64 t', y]]) (E0 := [(0, .agg #[.int .i64 f, .int .i64 t, x]), (1, .agg #[.int .i64 f', .int .i64 t', y])]) tbl26 Try.func26 rfl follows (by kernel_rfl) Try.ntmps26 rfl rfl ?_
  repeat' (first
    | (show EW _ _ _ _ _; first
      | refine ew_n (hn := r_move) (h := ?_)
      | refine ew_n (hn := r_assign) (h := ?_)
      | refine ew_n (hn := r_pick_t) (h := ?_)
      | refine ew_n (hn := r_pick_f) (h := ?_)
      | refine ew_n (hn := r_field) (h := ?_)
      | refine ew_n (hn := r_nil_eq) (h := ?_)
      | refine ew_n (hn := r_beq) (h := ?_)
      | refine ew_n (hn := (r_bin (hr := by first | (apply cmp_t; (focus (first | exact ib_eql)); omega) | (apply cmp_f; (focus (first | exact ib_eql)); omega)))) (h := ?_)
      | refine ew_skip (h := ?_)
      | refine ew_load (hc := by (first | assumption | (apply cells_row; (focus ((repeat' (first | assumption | (rw [aadd_block]) | (apply gN; (focus (first | exact rfl | omega | (simp only [AHeap.push_next, AHeap.put_next, aadd_block] <;> omega))); (focus exact rfl)) | (apply gO; (focus (first | omega | (simp only [AHeap.push_next, AHeap.put_next, aadd_block, ne_eq] <;> omega)))) | (apply gS; (focus (first | exact rfl | omega | (simp only [AHeap.push_next, AHeap.put_next, aadd_block] <;> omega))); (focus exact rfl)) | (apply gP; (focus (first | omega | (simp only [AHeap.push_next, AHeap.put_next, aadd_block, ne_eq] <;> omega)))) | exact rfl)); done)); (focus exact rfl); (focus exact rfl); (focus (first | exact (rfl : _ = some [_]) | exact (rfl : _ = some [_, _, _])))) | (apply cells_k; (focus assumption); (focus (first | assumption | (simp only [aadd_block] <;> first | assumption | omega))); (focus ((repeat' (first | exact Keep.refl | assumption | (apply Keep.push) | (refine Keep.put ?_ ?_; rotate_left; (focus (intro hlt; first | assumption | omega | (exfalso; simp only [AHeap.push_next, AHeap.put_next, aadd_block] at hlt; omega)))))); done))))) (hv := by exact rfl) (h := ?_)
      | (refine ew_fresh ?_; intro b hb; (first | refine ew_n (hn := (r_box hb [_])) (h := ?_) | refine ew_n (hn := (r_box hb [_, _, _])) (h := ?_)); (try simp only [AHeap.push_next, AHeap.put_next] at hb))
      | (refine ew_dec (hn := r_streq) (ht := ?_) (hf := ?_) <;> intro _)
      | (refine ew_dec (hn := (r_bin (hr := by (first | exact ib_eql)))) (ht := ?_) (hf := ?_) <;> intro _)
      | (refine w_nil ?_))
    | (show EC _ _ _ _ _ _ _; first | (refine k_seq ?_) | (refine k_region ?_) | (refine k_skip ?_) | (refine k_ret ?_) | (refine k_exit ?_) | (refine k_block ?_) | (refine k_true (h := ?_)) | (refine k_false (h := ?_)))
    | (show EX _ (bodyA _ _ _) _ _ _; first | (refine x_end1 (hq := ?_)))
    | (show EX _ _ _ _ _; first | (refine x_normal ?_) | (refine x_ret ?_) | (refine x_exit ?_) | (refine x_same ?_) | (refine x_other (h := ?_)) | (refine x_bnormal ?_) | (refine x_bret ?_)))
  · (first | (refine' ew_callS (hc := cr_call) (hR := ?_) (h := ?_); rotate_left 1) | (refine' ew_call (hc := cr_call) (hR := ?_) (h := ?_); rotate_left 1))
    · exact sameBytes_calls _ (hx.keep0 (by ((repeat' (first | exact Keep.refl | assumption | (apply Keep.push) | (refine Keep.put ?_ ?_; rotate_left; (focus (intro hlt; first | assumption | omega | (exfalso; simp only [AHeap.push_next, AHeap.put_next, aadd_block] at hlt; omega)))))); done))) (hy.keep0 (by ((repeat' (first | exact Keep.refl | assumption | (apply Keep.push) | (refine Keep.put ?_ ?_; rotate_left; (focus (intro hlt; first | assumption | omega | (exfalso; simp only [AHeap.push_next, AHeap.put_next, aadd_block] at hlt; omega)))))); done)))
    rintro _ H1 ⟨rfl, rfl⟩
    repeat' (first
    | (show EW _ _ _ _ _; first
      | refine ew_n (hn := r_move) (h := ?_)
      | refine ew_n (hn := r_assign) (h := ?_)
      | refine ew_n (hn := r_pick_t) (h := ?_)
      | refine ew_n (hn := r_pick_f) (h := ?_)
      | refine ew_n (hn := r_field) (h := ?_)
      | refine ew_n (hn := r_nil_eq) (h := ?_)
      | refine ew_n (hn := r_beq) (h := ?_)
      | refine ew_n (hn := (r_bin (hr := by first | (apply cmp_t; (focus (first | exact ib_eql)); omega) | (apply cmp_f; (focus (first | exact ib_eql)); omega)))) (h := ?_)
      | refine ew_skip (h := ?_)
      | refine ew_load (hc := by (first | assumption | (apply cells_row; (focus ((repeat' (first | assumption | (rw [aadd_block]) | (apply gN; (focus (first | exact rfl | omega | (simp only [AHeap.push_next, AHeap.put_next, aadd_block] <;> omega))); (focus exact rfl)) | (apply gO; (focus (first | omega | (simp only [AHeap.push_next, AHeap.put_next, aadd_block, ne_eq] <;> omega)))) | (apply gS; (focus (first | exact rfl | omega | (simp only [AHeap.push_next, AHeap.put_next, aadd_block] <;> omega))); (focus exact rfl)) | (apply gP; (focus (first | omega | (simp only [AHeap.push_next, AHeap.put_next, aadd_block, ne_eq] <;> omega)))) | exact rfl)); done)); (focus exact rfl); (focus exact rfl); (focus (first | exact (rfl : _ = some [_]) | exact (rfl : _ = some [_, _, _])))) | (apply cells_k; (focus assumption); (focus (first | assumption | (simp only [aadd_block] <;> first | assumption | omega))); (focus ((repeat' (first | exact Keep.refl | assumption | (apply Keep.push) | (refine Keep.put ?_ ?_; rotate_left; (focus (intro hlt; first | assumption | omega | (exfalso; simp only [AHeap.push_next, AHeap.put_next, aadd_block] at hlt; omega)))))); done))))) (hv := by exact rfl) (h := ?_)
      | (refine ew_fresh ?_; intro b hb; (first | refine ew_n (hn := (r_box hb [_])) (h := ?_) | refine ew_n (hn := (r_box hb [_, _, _])) (h := ?_)); (try simp only [AHeap.push_next, AHeap.put_next] at hb))
      | (refine ew_dec (hn := r_streq) (ht := ?_) (hf := ?_) <;> intro _)
      | (refine ew_dec (hn := (r_bin (hr := by (first | exact ib_eql)))) (ht := ?_) (hf := ?_) <;> intro _)
      | (refine w_nil ?_))
    | (show EC _ _ _ _ _ _ _; first | (refine k_seq ?_) | (refine k_region ?_) | (refine k_skip ?_) | (refine k_ret ?_) | (refine k_exit ?_) | (refine k_block ?_) | (refine k_true (h := ?_)) | (refine k_false (h := ?_)))
    | (show EX _ (bodyA _ _ _) _ _ _; first | (refine x_end1 (hq := ?_)))
    | (show EX _ _ _ _ _; first | (refine x_normal ?_) | (refine x_ret ?_) | (refine x_exit ?_) | (refine x_same ?_) | (refine x_other (h := ?_)) | (refine x_bnormal ?_) | (refine x_bret ?_)))
    exact ⟨by simp [*], by ((repeat' (first | exact Keep.refl | assumption | (apply Keep.push) | (refine Keep.put ?_ ?_; rotate_left; (focus (intro hlt; first | assumption | omega | (exfalso; simp only [AHeap.push_next, AHeap.put_next, aadd_block] at hlt; omega)))))); done)⟩
  · exact ⟨by simp [*], by ((repeat' (first | exact Keep.refl | assumption | (apply Keep.push) | (refine Keep.put ?_ ?_; rotate_left; (focus (intro hlt; first | assumption | omega | (exfalso; simp only [AHeap.push_next, AHeap.put_next, aadd_block] at hlt; omega)))))); done)⟩
  · exact ⟨by simp [*], by ((repeat' (first | exact Keep.refl | assumption | (apply Keep.push) | (refine Keep.put ?_ ?_; rotate_left; (focus (intro hlt; first | assumption | omega | (exfalso; simp only [AHeap.push_next, AHeap.put_next, aadd_block] at hlt; omega)))))); done)⟩

theorem works_calls (H : AHeap) : ACalls Try.prog 13 #[] H fun v H' => v = .bool true ∧ Keep No H H' := by
  refine k_open (args := []) (E0 := []) tbl13 Try.func13 rfl follows (by kernel_rfl) Try.ntmps13 rfl rfl ?_
  repeat' (first
    | (show EW _ _ _ _ _; first
      | refine ew_n (hn := r_move) (h := ?_)
      | refine ew_n (hn := r_assign) (h := ?_)
      | refine ew_n (hn := r_pick_t) (h := ?_)
      | refine ew_n (hn := r_pick_f) (h := ?_)
      | refine ew_n (hn := r_field) (h := ?_)
      | refine ew_n (hn := r_len) (h := ?_)
      | refine ew_n (hn := r_len_str) (h := ?_)
      | refine ew_n (hn := r_extract) (h := ?_)
      | refine ew_n (hn := (r_index (h0 := by omega) (h1 := by first | omega | (simp; done) | (simp; omega)))) (h := ?_)
      | refine ew_n (hn := r_nil_eq) (h := ?_)
      | refine ew_n (hn := r_beq) (h := ?_)
      | refine ew_n (hn := r_nil_ne) (h := ?_)
      | refine ew_n (hn := r_bne) (h := ?_)
      | refine ew_n (hn := (r_bin (hr := by first | (apply cmp_t; (focus (first | exact ib_eql | exact ib_neq)); omega) | (apply cmp_f; (focus (first | exact ib_eql | exact ib_neq)); omega)))) (h := ?_)
      | refine ew_skip (h := ?_)
      | refine ew_load (hc := by (first | assumption | (apply cells_row; (focus ((repeat' (first | assumption | (rw [aadd_block]) | (apply gN; (focus (first | exact rfl | omega | (simp only [AHeap.push_next, AHeap.put_next, aadd_block] <;> omega))); (focus exact rfl)) | (apply gO; (focus (first | omega | (simp only [AHeap.push_next, AHeap.put_next, aadd_block, ne_eq] <;> omega)))) | (apply gS; (focus (first | exact rfl | omega | (simp only [AHeap.push_next, AHeap.put_next, aadd_block] <;> omega))); (focus exact rfl)) | (apply gP; (focus (first | omega | (simp only [AHeap.push_next, AHeap.put_next, aadd_block, ne_eq] <;> omega)))) | exact rfl)); done)); (focus exact rfl); (focus exact rfl); (focus (first | exact (rfl : _ = some [_]) | exact (rfl : _ = some [_, _, _])))) | (apply cells_k; (focus assumption); (focus (first | assumption | (simp only [aadd_block] <;> first | assumption | omega))); (focus ((repeat' (first | exact Keep.refl | assumption | (apply Keep.push) | (refine Keep.put ?_ ?_; rotate_left; (focus (intro hlt; first | assumption | omega | (exfalso; simp only [AHeap.push_next, AHeap.put_next, aadd_block] at hlt; omega)))))); done))))) (hv := by exact rfl) (h := ?_)
      | (refine ew_fresh ?_; intro b hb; (first | refine ew_n (hn := (r_alloc hb)) (h := ?_) | refine ew_n (hn := (r_buildSlice hb [])) (h := ?_) | refine ew_n (hn := (r_buildSlice hb [_])) (h := ?_) | refine ew_n (hn := (r_buildSlice hb [_, _, _])) (h := ?_)); (try simp only [AHeap.push_next, AHeap.put_next] at hb))
      | refine ew_e (he := er_store (hc := by (apply setCells_at; (focus ((repeat' (first | assumption | (rw [aadd_block]) | (apply gN; (focus (first | exact rfl | omega | (simp only [AHeap.push_next, AHeap.put_next, aadd_block] <;> omega))); (focus exact rfl)) | (apply gO; (focus (first | omega | (simp only [AHeap.push_next, AHeap.put_next, aadd_block, ne_eq] <;> omega)))) | (apply gS; (focus (first | exact rfl | omega | (simp only [AHeap.push_next, AHeap.put_next, aadd_block] <;> omega))); (focus exact rfl)) | (apply gP; (focus (first | omega | (simp only [AHeap.push_next, AHeap.put_next, aadd_block, ne_eq] <;> omega)))) | exact rfl)); done)); (focus exact rfl); (focus (first | exact Nat.le_of_ble_eq_true rfl | (simp; omega) | (simp; done) | (simp [Value.cells]; omega))); (focus (first | exact rfl | (simp; done))); (focus (first | exact (rfl : _ = [_]) | exact (rfl : _ = [_, _, _]) | exact rfl)); (focus (first | exact aadd_block _ _ | exact rfl))))) (hk := by (first | exact Mode.kept_seq rfl | (dsimp only [Mode.kept, Mode.logged, Mode.at]; (repeat' (first | exact (fun _ h => absurd h List.not_mem_nil) | (refine List.forall_mem_cons.2 ⟨?_, ?_⟩) | (refine .inl ?_; exact rfl) | (refine .inl ?_; dsimp only; decide))); done))) (h := ?_)
      | (refine ew_dec (hn := r_streq) (ht := ?_) (hf := ?_) <;> intro _)
      | (refine ew_dec (hn := (r_bin (hr := by (first | exact ib_eql | exact ib_neq)))) (ht := ?_) (hf := ?_) <;> intro _)
      | (refine w_nil ?_))
    | (show EC _ _ _ _ _ _ _; first | (refine k_seq ?_) | (refine k_region ?_) | (refine k_skip ?_) | (refine k_ret ?_) | (refine k_exit ?_) | (refine k_block ?_) | (refine k_true (h := ?_)) | (refine k_false (h := ?_)))
    | (show EX _ (bodyA _ _ _) _ _ _; first | (refine x_end1 (hq := ?_)))
    | (show EX _ _ _ _ _; first | (refine x_normal ?_) | (refine x_ret ?_) | (refine x_exit ?_) | (refine x_same ?_) | (refine x_other (h := ?_)) | (refine x_bnormal ?_) | (refine x_bret ?_)))
  (first | (refine' ew_callS (hc := cr_call) (hR := ?_) (h := ?_); rotate_left 1) | (refine' ew_call (hc := cr_call) (hR := ?_) (h := ?_); rotate_left 1))
  · exact new_calls 2 _
  rintro v H1 (⟨h, _⟩ | ⟨_, rfl, hN, hk1⟩)
  · exact absurd h (by decide)
  repeat' (first
    | (show EW _ _ _ _ _; first
      | refine ew_n (hn := r_move) (h := ?_)
      | refine ew_n (hn := r_assign) (h := ?_)
      | refine ew_n (hn := r_pick_t) (h := ?_)
      | refine ew_n (hn := r_pick_f) (h := ?_)
      | refine ew_n (hn := r_field) (h := ?_)
      | refine ew_n (hn := r_len) (h := ?_)
      | refine ew_n (hn := r_len_str) (h := ?_)
      | refine ew_n (hn := r_extract) (h := ?_)
      | refine ew_n (hn := (r_index (h0 := by omega) (h1 := by first | omega | (simp; done) | (simp; omega)))) (h := ?_)
      | refine ew_n (hn := r_nil_eq) (h := ?_)
      | refine ew_n (hn := r_beq) (h := ?_)
      | refine ew_n (hn := r_nil_ne) (h := ?_)
      | refine ew_n (hn := r_bne) (h := ?_)
      | refine ew_n (hn := (r_bin (hr := by first | (apply cmp_t; (focus (first | exact ib_eql | exact ib_neq)); omega) | (apply cmp_f; (focus (first | exact ib_eql | exact ib_neq)); omega)))) (h := ?_)
      | refine ew_skip (h := ?_)
      | refine ew_load (hc := by (first | assumption | (apply cells_row; (focus ((repeat' (first | assumption | (rw [aadd_block]) | (apply gN; (focus (first | exact rfl | omega | (simp only [AHeap.push_next, AHeap.put_next, aadd_block] <;> omega))); (focus exact rfl)) | (apply gO; (focus (first | omega | (simp only [AHeap.push_next, AHeap.put_next, aadd_block, ne_eq] <;> omega)))) | (apply gS; (focus (first | exact rfl | omega | (simp only [AHeap.push_next, AHeap.put_next, aadd_block] <;> omega))); (focus exact rfl)) | (apply gP; (focus (first | omega | (simp only [AHeap.push_next, AHeap.put_next, aadd_block, ne_eq] <;> omega)))) | exact rfl)); done)); (focus exact rfl); (focus exact rfl); (focus (first | exact (rfl : _ = some [_]) | exact (rfl : _ = some [_, _, _])))) | (apply cells_k; (focus assumption); (focus (first | assumption | (simp only [aadd_block] <;> first | assumption | omega))); (focus ((repeat' (first | exact Keep.refl | assumption | (apply Keep.push) | (refine Keep.put ?_ ?_; rotate_left; (focus (intro hlt; first | assumption | omega | (exfalso; simp only [AHeap.push_next, AHeap.put_next, aadd_block] at hlt; omega)))))); done))))) (hv := by exact rfl) (h := ?_)
      | (refine ew_fresh ?_; intro b hb; (first | refine ew_n (hn := (r_alloc hb)) (h := ?_) | refine ew_n (hn := (r_buildSlice hb [])) (h := ?_) | refine ew_n (hn := (r_buildSlice hb [_])) (h := ?_) | refine ew_n (hn := (r_buildSlice hb [_, _, _])) (h := ?_)); (try simp only [AHeap.push_next, AHeap.put_next] at hb))
      | refine ew_e (he := er_store (hc := by (apply setCells_at; (focus ((repeat' (first | assumption | (rw [aadd_block]) | (apply gN; (focus (first | exact rfl | omega | (simp only [AHeap.push_next, AHeap.put_next, aadd_block] <;> omega))); (focus exact rfl)) | (apply gO; (focus (first | omega | (simp only [AHeap.push_next, AHeap.put_next, aadd_block, ne_eq] <;> omega)))) | (apply gS; (focus (first | exact rfl | omega | (simp only [AHeap.push_next, AHeap.put_next, aadd_block] <;> omega))); (focus exact rfl)) | (apply gP; (focus (first | omega | (simp only [AHeap.push_next, AHeap.put_next, aadd_block, ne_eq] <;> omega)))) | exact rfl)); done)); (focus exact rfl); (focus (first | exact Nat.le_of_ble_eq_true rfl | (simp; omega) | (simp; done) | (simp [Value.cells]; omega))); (focus (first | exact rfl | (simp; done))); (focus (first | exact (rfl : _ = [_]) | exact (rfl : _ = [_, _, _]) | exact rfl)); (focus (first | exact aadd_block _ _ | exact rfl))))) (hk := by (first | exact Mode.kept_seq rfl | (dsimp only [Mode.kept, Mode.logged, Mode.at]; (repeat' (first | exact (fun _ h => absurd h List.not_mem_nil) | (refine List.forall_mem_cons.2 ⟨?_, ?_⟩) | (refine .inl ?_; exact rfl) | (refine .inl ?_; dsimp only; decide))); done))) (h := ?_)
      | (refine ew_dec (hn := r_streq) (ht := ?_) (hf := ?_) <;> intro _)
      | (refine ew_dec (hn := (r_bin (hr := by (first | exact ib_eql | exact ib_neq)))) (ht := ?_) (hf := ?_) <;> intro _)
      | (refine w_nil ?_))
    | (show EC _ _ _ _ _ _ _; first | (refine k_seq ?_) | (refine k_region ?_) | (refine k_skip ?_) | (refine k_ret ?_) | (refine k_exit ?_) | (refine k_block ?_) | (refine k_true (h := ?_)) | (refine k_false (h := ?_)))
    | (show EX _ (bodyA _ _ _) _ _ _; first | (refine x_end1 (hq := ?_)))
    | (show EX _ _ _ _ _; first | (refine x_normal ?_) | (refine x_ret ?_) | (refine x_exit ?_) | (refine x_same ?_) | (refine x_other (h := ?_)) | (refine x_bnormal ?_) | (refine x_bret ?_)))
  (first | (refine' ew_callS (hc := cr_call) (hR := ?_) (h := ?_); rotate_left 1) | (refine' ew_call (hc := cr_call) (hR := ?_) (h := ?_); rotate_left 1))
  · refine send_calls (G := fun b => b = H1.next) 0 1 _ [5] _ (hN.keep0 (by ((repeat' (first | exact Keep.refl | assumption | (apply Keep.push) | (refine Keep.put ?_ ?_; rotate_left; (focus (intro hlt; first | assumption | omega | (exfalso; simp only [AHeap.push_next, AHeap.put_next, aadd_block] at hlt; omega)))))); done))) (Nat.zero_le _) (rd_row (e := 5) (rw' := true) (n := 1) (by ((repeat' (first | assumption | (rw [aadd_block]) | (apply gN; (focus (first | exact rfl | omega | (simp only [AHeap.push_next, AHeap.put_next, aadd_block] <;> omega))); (focus exact rfl)) | (apply gO; (focus (first | omega | (simp only [AHeap.push_next, AHeap.put_next, aadd_block, ne_eq] <;> omega)))) | (apply gS; (focus (first | exact rfl | omega | (simp only [AHeap.push_next, AHeap.put_next, aadd_block] <;> omega))); (focus exact rfl)) | (apply gP; (focus (first | omega | (simp only [AHeap.push_next, AHeap.put_next, aadd_block, ne_eq] <;> omega)))) | exact rfl)); done)) (by omega) (by simp only [AHeap.push_next]; omega)) (by decide)
  rintro v H2 hpost
  rcases hpost with ⟨h, _⟩ | ⟨_, ⟨h, _⟩ | ⟨_, ⟨h, _⟩ | ⟨_, rfl, hk2, bp, hbp, hN2⟩⟩⟩
  · exact absurd h (by decide)
  · exact absurd h (by decide)
  · exact absurd h (by decide)
  repeat' (first
    | (show EW _ _ _ _ _; first
      | refine ew_n (hn := r_move) (h := ?_)
      | refine ew_n (hn := r_assign) (h := ?_)
      | refine ew_n (hn := r_pick_t) (h := ?_)
      | refine ew_n (hn := r_pick_f) (h := ?_)
      | refine ew_n (hn := r_field) (h := ?_)
      | refine ew_n (hn := r_len) (h := ?_)
      | refine ew_n (hn := r_len_str) (h := ?_)
      | refine ew_n (hn := r_extract) (h := ?_)
      | refine ew_n (hn := (r_index (h0 := by omega) (h1 := by first | omega | (simp; done) | (simp; omega)))) (h := ?_)
      | refine ew_n (hn := r_nil_eq) (h := ?_)
      | refine ew_n (hn := r_beq) (h := ?_)
      | refine ew_n (hn := r_nil_ne) (h := ?_)
      | refine ew_n (hn := r_bne) (h := ?_)
      | refine ew_n (hn := (r_bin (hr := by first | (apply cmp_t; (focus (first | exact ib_eql | exact ib_neq)); omega) | (apply cmp_f; (focus (first | exact ib_eql | exact ib_neq)); omega)))) (h := ?_)
      | refine ew_skip (h := ?_)
      | refine ew_load (hc := by (first | assumption | (apply cells_row; (focus ((repeat' (first | assumption | (rw [aadd_block]) | (apply gN; (focus (first | exact rfl | omega | (simp only [AHeap.push_next, AHeap.put_next, aadd_block] <;> omega))); (focus exact rfl)) | (apply gO; (focus (first | omega | (simp only [AHeap.push_next, AHeap.put_next, aadd_block, ne_eq] <;> omega)))) | (apply gS; (focus (first | exact rfl | omega | (simp only [AHeap.push_next, AHeap.put_next, aadd_block] <;> omega))); (focus exact rfl)) | (apply gP; (focus (first | omega | (simp only [AHeap.push_next, AHeap.put_next, aadd_block, ne_eq] <;> omega)))) | exact rfl)); done)); (focus exact rfl); (focus exact rfl); (focus (first | exact (rfl : _ = some [_]) | exact (rfl : _ = some [_, _, _])))) | (apply cells_k; (focus assumption); (focus (first | assumption | (simp only [aadd_block] <;> first | assumption | omega))); (focus ((repeat' (first | exact Keep.refl | assumption | (apply Keep.push) | (refine Keep.put ?_ ?_; rotate_left; (focus (intro hlt; first | assumption | omega | (exfalso; simp only [AHeap.push_next, AHeap.put_next, aadd_block] at hlt; omega)))))); done))))) (hv := by exact rfl) (h := ?_)
      | (refine ew_fresh ?_; intro b hb; (first | refine ew_n (hn := (r_alloc hb)) (h := ?_) | refine ew_n (hn := (r_buildSlice hb [])) (h := ?_) | refine ew_n (hn := (r_buildSlice hb [_])) (h := ?_) | refine ew_n (hn := (r_buildSlice hb [_, _, _])) (h := ?_)); (try simp only [AHeap.push_next, AHeap.put_next] at hb))
      | refine ew_e (he := er_store (hc := by (apply setCells_at; (focus ((repeat' (first | assumption | (rw [aadd_block]) | (apply gN; (focus (first | exact rfl | omega | (simp only [AHeap.push_next, AHeap.put_next, aadd_block] <;> omega))); (focus exact rfl)) | (apply gO; (focus (first | omega | (simp only [AHeap.push_next, AHeap.put_next, aadd_block, ne_eq] <;> omega)))) | (apply gS; (focus (first | exact rfl | omega | (simp only [AHeap.push_next, AHeap.put_next, aadd_block] <;> omega))); (focus exact rfl)) | (apply gP; (focus (first | omega | (simp only [AHeap.push_next, AHeap.put_next, aadd_block, ne_eq] <;> omega)))) | exact rfl)); done)); (focus exact rfl); (focus (first | exact Nat.le_of_ble_eq_true rfl | (simp; omega) | (simp; done) | (simp [Value.cells]; omega))); (focus (first | exact rfl | (simp; done))); (focus (first | exact (rfl : _ = [_]) | exact (rfl : _ = [_, _, _]) | exact rfl)); (focus (first | exact aadd_block _ _ | exact rfl))))) (hk := by (first | exact Mode.kept_seq rfl | (dsimp only [Mode.kept, Mode.logged, Mode.at]; (repeat' (first | exact (fun _ h => absurd h List.not_mem_nil) | (refine List.forall_mem_cons.2 ⟨?_, ?_⟩) | (refine .inl ?_; exact rfl) | (refine .inl ?_; dsimp only; decide))); done))) (h := ?_)
      | (refine ew_dec (hn := r_streq) (ht := ?_) (hf := ?_) <;> intro _)
      | (refine ew_dec (hn := (r_bin (hr := by (first | exact ib_eql | exact ib_neq)))) (ht := ?_) (hf := ?_) <;> intro _)
      | (refine w_nil ?_))
    | (show EC _ _ _ _ _ _ _; first | (refine k_seq ?_) | (refine k_region ?_) | (refine k_skip ?_) | (refine k_ret ?_) | (refine k_exit ?_) | (refine k_block ?_) | (refine k_true (h := ?_)) | (refine k_false (h := ?_)))
    | (show EX _ (bodyA _ _ _) _ _ _; first | (refine x_end1 (hq := ?_)))
    | (show EX _ _ _ _ _; first | (refine x_normal ?_) | (refine x_ret ?_) | (refine x_exit ?_) | (refine x_same ?_) | (refine x_other (h := ?_)) | (refine x_bnormal ?_) | (refine x_bret ?_)))
  (first | (refine' ew_callS (hc := cr_call) (hR := ?_) (h := ?_); rotate_left 1) | (refine' ew_call (hc := cr_call) (hR := ?_) (h := ?_); rotate_left 1))
  · exact deliver_calls _ hN2 (by simp)
  rintro v H3 hpost
  rcases hpost with ⟨h, _⟩ | ⟨j, p, hj, hp, hv, hk3, hN3, hd3⟩
  · exact absurd h (by simp)
  obtain rfl : j = 0 := by omega
  simp only [List.nil_append, List.getElem?_cons_zero, Option.some.injEq] at hp
  subst hp
  have hv' : v = .tuple #[.agg #[.int .i64 0, .int .i64 1, .slice (some ⟨bp, 0, none⟩) 1 1], .bool true] := hv
  clear hv
  subst hv'
  have hd4 : H3.get bp = some (.row ⟨[.int .u8 5], 5, 0, true⟩) := hd3
  have hb2 : bp < H2.next := hN2.bound _ (hN2.data ⟨0, 1, [5], bp⟩ (by simp)).2
  have hle1 := hk1.1
  have hle2 := hk2.1
  have hle3 := hk3.1
  simp only [AHeap.push_next] at hle2 hbp
  have hkA : Keep No H H2 := (hk1.after (by ((repeat' (first | exact Keep.refl | assumption | (apply Keep.push) | (refine Keep.put ?_ ?_; rotate_left; (focus (intro hlt; first | assumption | omega | (exfalso; simp only [AHeap.push_next, AHeap.put_next, aadd_block] at hlt; omega)))))); done) : Keep No H1 (H1.push _))).trans hk2 fun i hi h => by have := h.1; omega
  have hkB : Keep No H H3 := hkA.trans hk3 fun i hi h => by
    rcases h with h | h
    · have := h.1; omega
    · have := h.1; simp only [AHeap.push_next] at this; omega
  repeat' (first
    | (show EW _ _ _ _ _; first
      | refine ew_n (hn := r_move) (h := ?_)
      | refine ew_n (hn := r_assign) (h := ?_)
      | refine ew_n (hn := r_pick_t) (h := ?_)
      | refine ew_n (hn := r_pick_f) (h := ?_)
      | refine ew_n (hn := r_field) (h := ?_)
      | refine ew_n (hn := r_len) (h := ?_)
      | refine ew_n (hn := r_len_str) (h := ?_)
      | refine ew_n (hn := r_extract) (h := ?_)
      | refine ew_n (hn := (r_index (h0 := by omega) (h1 := by first | omega | (simp; done) | (simp; omega)))) (h := ?_)
      | refine ew_n (hn := r_nil_eq) (h := ?_)
      | refine ew_n (hn := r_beq) (h := ?_)
      | refine ew_n (hn := r_nil_ne) (h := ?_)
      | refine ew_n (hn := r_bne) (h := ?_)
      | refine ew_n (hn := (r_bin (hr := by first | (apply cmp_t; (focus (first | exact ib_eql | exact ib_neq)); omega) | (apply cmp_f; (focus (first | exact ib_eql | exact ib_neq)); omega)))) (h := ?_)
      | refine ew_skip (h := ?_)
      | refine ew_load (hc := by (first | assumption | (apply cells_row; (focus ((repeat' (first | assumption | (rw [aadd_block]) | (apply gN; (focus (first | exact rfl | omega | (simp only [AHeap.push_next, AHeap.put_next, aadd_block] <;> omega))); (focus exact rfl)) | (apply gO; (focus (first | omega | (simp only [AHeap.push_next, AHeap.put_next, aadd_block, ne_eq] <;> omega)))) | (apply gS; (focus (first | exact rfl | omega | (simp only [AHeap.push_next, AHeap.put_next, aadd_block] <;> omega))); (focus exact rfl)) | (apply gP; (focus (first | omega | (simp only [AHeap.push_next, AHeap.put_next, aadd_block, ne_eq] <;> omega)))) | exact rfl)); done)); (focus exact rfl); (focus exact rfl); (focus (first | exact (rfl : _ = some [_]) | exact (rfl : _ = some [_, _, _])))) | (apply cells_k; (focus assumption); (focus (first | assumption | (simp only [aadd_block] <;> first | assumption | omega))); (focus ((repeat' (first | exact Keep.refl | assumption | (apply Keep.push) | (refine Keep.put ?_ ?_; rotate_left; (focus (intro hlt; first | assumption | omega | (exfalso; simp only [AHeap.push_next, AHeap.put_next, aadd_block] at hlt; omega)))))); done))))) (hv := by exact rfl) (h := ?_)
      | (refine ew_fresh ?_; intro b hb; (first | refine ew_n (hn := (r_alloc hb)) (h := ?_) | refine ew_n (hn := (r_buildSlice hb [])) (h := ?_) | refine ew_n (hn := (r_buildSlice hb [_])) (h := ?_) | refine ew_n (hn := (r_buildSlice hb [_, _, _])) (h := ?_)); (try simp only [AHeap.push_next, AHeap.put_next] at hb))
      | refine ew_e (he := er_store (hc := by (apply setCells_at; (focus ((repeat' (first | assumption | (rw [aadd_block]) | (apply gN; (focus (first | exact rfl | omega | (simp only [AHeap.push_next, AHeap.put_next, aadd_block] <;> omega))); (focus exact rfl)) | (apply gO; (focus (first | omega | (simp only [AHeap.push_next, AHeap.put_next, aadd_block, ne_eq] <;> omega)))) | (apply gS; (focus (first | exact rfl | omega | (simp only [AHeap.push_next, AHeap.put_next, aadd_block] <;> omega))); (focus exact rfl)) | (apply gP; (focus (first | omega | (simp only [AHeap.push_next, AHeap.put_next, aadd_block, ne_eq] <;> omega)))) | exact rfl)); done)); (focus exact rfl); (focus (first | exact Nat.le_of_ble_eq_true rfl | (simp; omega) | (simp; done) | (simp [Value.cells]; omega))); (focus (first | exact rfl | (simp; done))); (focus (first | exact (rfl : _ = [_]) | exact (rfl : _ = [_, _, _]) | exact rfl)); (focus (first | exact aadd_block _ _ | exact rfl))))) (hk := by (first | exact Mode.kept_seq rfl | (dsimp only [Mode.kept, Mode.logged, Mode.at]; (repeat' (first | exact (fun _ h => absurd h List.not_mem_nil) | (refine List.forall_mem_cons.2 ⟨?_, ?_⟩) | (refine .inl ?_; exact rfl) | (refine .inl ?_; dsimp only; decide))); done))) (h := ?_)
      | (refine ew_dec (hn := r_streq) (ht := ?_) (hf := ?_) <;> intro _)
      | (refine ew_dec (hn := (r_bin (hr := by (first | exact ib_eql | exact ib_neq)))) (ht := ?_) (hf := ?_) <;> intro _)
      | (refine w_nil ?_))
    | (show EC _ _ _ _ _ _ _; first | (refine k_seq ?_) | (refine k_region ?_) | (refine k_skip ?_) | (refine k_ret ?_) | (refine k_exit ?_) | (refine k_block ?_) | (refine k_true (h := ?_)) | (refine k_false (h := ?_)))
    | (show EX _ (bodyA _ _ _) _ _ _; first | (refine x_end1 (hq := ?_)))
    | (show EX _ _ _ _ _; first | (refine x_normal ?_) | (refine x_ret ?_) | (refine x_exit ?_) | (refine x_same ?_) | (refine x_other (h := ?_)) | (refine x_bnormal ?_) | (refine x_bret ?_)))
  exact ⟨rfl, by ((repeat' (first | exact Keep.refl | assumption | (apply Keep.push) | (refine Keep.put ?_ ?_; rotate_left; (focus (intro hlt; first | assumption | omega | (exfalso; simp only [AHeap.push_next, AHeap.put_next, aadd_block] at hlt; omega)))))); done)⟩

end Go.Ae

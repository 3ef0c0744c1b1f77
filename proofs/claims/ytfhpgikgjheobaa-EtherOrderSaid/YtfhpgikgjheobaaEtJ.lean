/- The law EtherOrder over the abstract heap. No condition. -/
import Derived.Test.YtfhpgikgjheobaaEtH
import Derived.Test.YtfhpgikgjheobaaAeImp
import Derived.Test.YtfhpgikgjheobaaEtI
set_option linter.unusedSimpArgs false
set_option linter.unusedVariables false
set_option maxRecDepth 100000
set_option maxHeartbeats 400000
namespace Go.Ae
open Go.Proofs
attribute [local irreducible] awC wpSeq wpS nRes aw aE acall ACalls szT isAggT zeroT byT elemSz fieldOff Program.underlying appendA copyA thenA inBlockA bodyA AHeap.push AHeap.put AHeap.cellsAt AHeap.setCells resV loadA intBin EW EC EX Nr Nc Er Cr Agree

def tbl7 : Tbl := [(22, [0, 1, 2, 3, 4, 5, 6, 7, 8, 9, 10, 11, 12, 13, 14, 15, 16, 17, 18, 19, 20, 21, 22], [0, 1, 0, 4, 15, 31, 63, 127, 63, 319, 831, 2047, 4095, 8191, 16383, 32767, 16383, 16383, 212991, 475135, 1048575, 2097151, 4194303])]

/-- What flies: the packets came .. sent - 1. -/
def flyM (ds : List (List UInt8)) (came n : Nat) : List Msg := (List.range' came n).map fun (k : Nat) => ((k : Int) % 3, ((k : Int) + 1) % 3, ds.getD k [])
theorem flyM_succ (ds : List (List UInt8)) (came n : Nat) : flyM ds came (n + 1) = flyM ds came n ++ [(((came + n : Nat) : Int) % 3, (((came + n : Nat) : Int) + 1) % 3, ds.getD (came + n) [])] := by
  unfold flyM
  rw [List.range'_concat]
  simp
theorem flyM_cons (ds : List (List UInt8)) (came n : Nat) : flyM ds came (n + 1) = (((came : Nat) : Int) % 3, (((came : Nat) : Int) + 1) % 3, ds.getD came []) :: flyM ds (came + 1) n := by
  unfold flyM
  rw [List.range'_succ]
  simp
theorem flyM_len (ds : List (List UInt8)) (came n : Nat) : (flyM ds came n).length = n := by simp [flyM]

def OrderI (H0 : AHeap) (v0 v1 : Value) (e : Nat) (ds : List (List UInt8)) (ts : List Bool) (n : Nat) (E : Env) (H : AHeap) : Prop :=
  Keep No H0 H ∧ ∃ (i s c : Nat) (F : Blks), n = 2 * (ts.length - i) + (s - c) ∧ c ≤ s ∧ s ≤ ds.length ∧ s - c ≤ 256 ∧ i ≤ ts.length + c ∧
    E = [(5, .pointer (some ⟨e, 0, none⟩)), (7, .int .i64 s), (8, .int .i64 c), (9, .int .i64 i), (0, v0), (1, v1)] ∧ NetM H F e 3 (flyM ds c (s - c)) ∧ (∀ b, F b → H0.next ≤ b)

theorem order_calls (H : AHeap) (v0 v1 : Value) (ds : List (List UInt8)) (ts : List Bool) (r0 : SlR 1 24 ByR H [v0] ds) (r1 : SlR 1 1 BoolR H [v1] ts) : ACalls Try.prog 7 #[v0, v1] H fun v H' => v = .bool true := by
  obtain ⟨z0, c0, rfl, w0⟩ := r0.slice
  obtain ⟨z1, c1, rfl, w1⟩ := r1.slice
  have hrb : reachBytes = 140737488351232 := rfl
  rw [hrb] at w0 w1
  refine k_open (args := [.slice z0 ds.length c0, .slice z1 ts.length c1]) (E0 := [(0, .slice z0 ds.length c0), (1, .slice z1 ts.length c1)]) tbl7 Try.func7 rfl follows (by kernel_rfl) Try.ntmps7 rfl rfl ?_
  repeat' (first
    | (show EW _ _ _ _ _; first
      | refine ew_n (hn := r_move) (h := ?_)
      | refine ew_n (hn := r_assign) (h := ?_)
      | refine ew_n (hn := r_pick_t) (h := ?_)
      | refine ew_n (hn := r_pick_f) (h := ?_)
      | refine ew_n (hn := r_field) (h := ?_)
      | refine ew_n (hn := r_len) (h := ?_)
      | refine ew_n (hn := r_len_str) (h := ?_)
      | refine ew_n (hn := r_not) (h := ?_)
      | refine ew_n (hn := r_extract) (h := ?_)
      | refine ew_n (hn := (r_index (h0 := by omega) (h1 := by first | omega | (simp; done) | (simp; omega)))) (h := ?_)
      | refine ew_n (hn := r_nil_eq) (h := ?_)
      | refine ew_n (hn := r_beq) (h := ?_)
      | refine ew_n (hn := r_nil_ne) (h := ?_)
      | refine ew_n (hn := r_bne) (h := ?_)
      | refine ew_n (hn := (r_bin (hr := by first | (apply cmp_t; (focus (first | exact ib_eql | exact ib_gtr | exact ib_lss | exact ib_neq)); omega) | (apply cmp_f; (focus (first | exact ib_eql | exact ib_gtr | exact ib_lss | exact ib_neq)); omega)))) (h := ?_)
      | refine ew_skip (h := ?_)
      | refine ew_load (hc := by (first | assumption | (apply cells_row; (focus ((repeat' (first | assumption | (rw [aadd_block]) | (apply gN; (focus (first | exact rfl | omega | (simp only [AHeap.push_next, AHeap.put_next, aadd_block] <;> omega))); (focus exact rfl)) | (apply gO; (focus (first | omega | (simp only [AHeap.push_next, AHeap.put_next, aadd_block, ne_eq] <;> omega)))) | (apply gS; (focus (first | exact rfl | omega | (simp only [AHeap.push_next, AHeap.put_next, aadd_block] <;> omega))); (focus exact rfl)) | (apply gP; (focus (first | omega | (simp only [AHeap.push_next, AHeap.put_next, aadd_block, ne_eq] <;> omega)))) | exact rfl)); done)); (focus exact rfl); (focus exact rfl); (focus (first | exact (rfl : _ = some [_]) | exact (rfl : _ = some [_, _, _])))) | (apply cells_k; (focus assumption); (focus (first | assumption | (simp only [aadd_block] <;> first | assumption | omega))); (focus ((repeat' (first | exact Keep.refl | assumption | (apply Keep.push) | (refine Keep.put ?_ ?_; rotate_left; (focus (intro hlt; first | assumption | omega | (exfalso; simp only [AHeap.push_next, AHeap.put_next, aadd_block] at hlt; omega)))))); done))))) (hv := by exact rfl) (h := ?_)
      | (refine ew_fresh ?_; intro b hb; (first | refine ew_n (hn := (r_alloc hb)) (h := ?_)); (try simp only [AHeap.push_next, AHeap.put_next] at hb))
      | refine ew_e (he := er_store (hc := by (apply setCells_at; (focus ((repeat' (first | assumption | (rw [aadd_block]) | (apply gN; (focus (first | exact rfl | omega | (simp only [AHeap.push_next, AHeap.put_next, aadd_block] <;> omega))); (focus exact rfl)) | (apply gO; (focus (first | omega | (simp only [AHeap.push_next, AHeap.put_next, aadd_block, ne_eq] <;> omega)))) | (apply gS; (focus (first | exact rfl | omega | (simp only [AHeap.push_next, AHeap.put_next, aadd_block] <;> omega))); (focus exact rfl)) | (apply gP; (focus (first | omega | (simp only [AHeap.push_next, AHeap.put_next, aadd_block, ne_eq] <;> omega)))) | exact rfl)); done)); (focus exact rfl); (focus (first | exact Nat.le_of_ble_eq_true rfl | (simp; omega) | (simp; done) | (simp [Value.cells]; omega))); (focus (first | exact rfl | (simp; done))); (focus (first | exact (rfl : _ = [_]) | exact (rfl : _ = [_, _, _]) | exact rfl)); (focus (first | exact aadd_block _ _ | exact rfl))))) (hk := by (first | exact Mode.kept_seq rfl | (dsimp only [Mode.kept, Mode.logged, Mode.at]; (repeat' (first | exact (fun _ h => absurd h List.not_mem_nil) | (refine List.forall_mem_cons.2 ⟨?_, ?_⟩) | (refine .inl ?_; exact rfl) | (refine .inl ?_; dsimp only; decide))); done))) (h := ?_)
      | (refine ew_dec (hn := r_streq) (ht := ?_) (hf := ?_) <;> intro _)
      | (refine ew_dec (hn := (r_bin (hr := by (first | exact ib_eql | exact ib_gtr | exact ib_lss | exact ib_neq)))) (ht := ?_) (hf := ?_) <;> intro _)
      | refine ew_n (hn := r_bin (hr := by (first | (simp (disch := omega) only [intBin, wrap_in, wrap8_in, tdiv_in, tmod_in, if_false, reduceIte]; exact rfl) | (apply ib_rem; omega)))) (h := ?_)
      | (refine w_nil ?_)
      | (refine w_nilD ?_))
    | (show EC _ _ _ _ _ _ _; first | (refine k_seq ?_) | (refine k_region ?_) | (refine k_draw (h := ?_)) | (refine k_skip ?_) | (refine k_ret ?_) | (refine k_exit ?_) | (refine k_block ?_) | (refine k_true (h := ?_)) | (refine k_false (h := ?_)))
    | (show EX _ (bodyA _ _ _) _ _ _; first | (refine x_end1 (hq := ?_)) | (refine x_endc (hc := by (first | assumption | (apply cells_row; (focus ((repeat' (first | assumption | (rw [aadd_block]) | (apply gN; (focus (first | exact rfl | omega | (simp only [AHeap.push_next, AHeap.put_next, aadd_block] <;> omega))); (focus exact rfl)) | (apply gO; (focus (first | omega | (simp only [AHeap.push_next, AHeap.put_next, aadd_block, ne_eq] <;> omega)))) | (apply gS; (focus (first | exact rfl | omega | (simp only [AHeap.push_next, AHeap.put_next, aadd_block] <;> omega))); (focus exact rfl)) | (apply gP; (focus (first | omega | (simp only [AHeap.push_next, AHeap.put_next, aadd_block, ne_eq] <;> omega)))) | exact rfl)); done)); (focus exact rfl); (focus exact rfl); (focus (first | exact (rfl : _ = some [_]) | exact (rfl : _ = some [_, _, _])))) | (apply cells_k; (focus assumption); (focus (first | assumption | (simp only [aadd_block] <;> first | assumption | omega))); (focus ((repeat' (first | exact Keep.refl | assumption | (apply Keep.push) | (refine Keep.put ?_ ?_; rotate_left; (focus (intro hlt; first | assumption | omega | (exfalso; simp only [AHeap.push_next, AHeap.put_next, aadd_block] at hlt; omega)))))); done))))) (hv := by exact rfl) (hq := ?_)))
    | (show EX _ _ _ _ _; first | (refine x_normal ?_) | (refine x_ret ?_) | (refine x_exit ?_) | (refine x_same ?_) | (refine x_other (h := ?_)) | (refine x_bnormal ?_) | (refine x_bret ?_)))
  (first | (refine' ew_callS (hc := cr_call) (hR := ?_) (h := ?_); rotate_left 1) | (refine' ew_call (hc := cr_call) (hR := ?_) (h := ?_); rotate_left 1))
  · exact works_calls _
  rintro _ H1 ⟨rfl, hk1⟩
  repeat' (first
    | (show EW _ _ _ _ _; first
      | refine ew_n (hn := r_move) (h := ?_)
      | refine ew_n (hn := r_assign) (h := ?_)
      | refine ew_n (hn := r_pick_t) (h := ?_)
      | refine ew_n (hn := r_pick_f) (h := ?_)
      | refine ew_n (hn := r_field) (h := ?_)
      | refine ew_n (hn := r_len) (h := ?_)
      | refine ew_n (hn := r_len_str) (h := ?_)
      | refine ew_n (hn := r_not) (h := ?_)
      | refine ew_n (hn := r_extract) (h := ?_)
      | refine ew_n (hn := (r_index (h0 := by omega) (h1 := by first | omega | (simp; done) | (simp; omega)))) (h := ?_)
      | refine ew_n (hn := r_nil_eq) (h := ?_)
      | refine ew_n (hn := r_beq) (h := ?_)
      | refine ew_n (hn := r_nil_ne) (h := ?_)
      | refine ew_n (hn := r_bne) (h := ?_)
      | refine ew_n (hn := (r_bin (hr := by first | (apply cmp_t; (focus (first | exact ib_eql | exact ib_gtr | exact ib_lss | exact ib_neq)); omega) | (apply cmp_f; (focus (first | exact ib_eql | exact ib_gtr | exact ib_lss | exact ib_neq)); omega)))) (h := ?_)
      | refine ew_skip (h := ?_)
      | refine ew_load (hc := by (first | assumption | (apply cells_row; (focus ((repeat' (first | assumption | (rw [aadd_block]) | (apply gN; (focus (first | exact rfl | omega | (simp only [AHeap.push_next, AHeap.put_next, aadd_block] <;> omega))); (focus exact rfl)) | (apply gO; (focus (first | omega | (simp only [AHeap.push_next, AHeap.put_next, aadd_block, ne_eq] <;> omega)))) | (apply gS; (focus (first | exact rfl | omega | (simp only [AHeap.push_next, AHeap.put_next, aadd_block] <;> omega))); (focus exact rfl)) | (apply gP; (focus (first | omega | (simp only [AHeap.push_next, AHeap.put_next, aadd_block, ne_eq] <;> omega)))) | exact rfl)); done)); (focus exact rfl); (focus exact rfl); (focus (first | exact (rfl : _ = some [_]) | exact (rfl : _ = some [_, _, _])))) | (apply cells_k; (focus assumption); (focus (first | assumption | (simp only [aadd_block] <;> first | assumption | omega))); (focus ((repeat' (first | exact Keep.refl | assumption | (apply Keep.push) | (refine Keep.put ?_ ?_; rotate_left; (focus (intro hlt; first | assumption | omega | (exfalso; simp only [AHeap.push_next, AHeap.put_next, aadd_block] at hlt; omega)))))); done))))) (hv := by exact rfl) (h := ?_)
      | (refine ew_fresh ?_; intro b hb; (first | refine ew_n (hn := (r_alloc hb)) (h := ?_)); (try simp only [AHeap.push_next, AHeap.put_next] at hb))
      | refine ew_e (he := er_store (hc := by (apply setCells_at; (focus ((repeat' (first | assumption | (rw [aadd_block]) | (apply gN; (focus (first | exact rfl | omega | (simp only [AHeap.push_next, AHeap.put_next, aadd_block] <;> omega))); (focus exact rfl)) | (apply gO; (focus (first | omega | (simp only [AHeap.push_next, AHeap.put_next, aadd_block, ne_eq] <;> omega)))) | (apply gS; (focus (first | exact rfl | omega | (simp only [AHeap.push_next, AHeap.put_next, aadd_block] <;> omega))); (focus exact rfl)) | (apply gP; (focus (first | omega | (simp only [AHeap.push_next, AHeap.put_next, aadd_block, ne_eq] <;> omega)))) | exact rfl)); done)); (focus exact rfl); (focus (first | exact Nat.le_of_ble_eq_true rfl | (simp; omega) | (simp; done) | (simp [Value.cells]; omega))); (focus (first | exact rfl | (simp; done))); (focus (first | exact (rfl : _ = [_]) | exact (rfl : _ = [_, _, _]) | exact rfl)); (focus (first | exact aadd_block _ _ | exact rfl))))) (hk := by (first | exact Mode.kept_seq rfl | (dsimp only [Mode.kept, Mode.logged, Mode.at]; (repeat' (first | exact (fun _ h => absurd h List.not_mem_nil) | (refine List.forall_mem_cons.2 ⟨?_, ?_⟩) | (refine .inl ?_; exact rfl) | (refine .inl ?_; dsimp only; decide))); done))) (h := ?_)
      | (refine ew_dec (hn := r_streq) (ht := ?_) (hf := ?_) <;> intro _)
      | (refine ew_dec (hn := (r_bin (hr := by (first | exact ib_eql | exact ib_gtr | exact ib_lss | exact ib_neq)))) (ht := ?_) (hf := ?_) <;> intro _)
      | refine ew_n (hn := r_bin (hr := by (first | (simp (disch := omega) only [intBin, wrap_in, wrap8_in, tdiv_in, tmod_in, if_false, reduceIte]; exact rfl) | (apply ib_rem; omega)))) (h := ?_)
      | (refine w_nil ?_)
      | (refine w_nilD ?_))
    | (show EC _ _ _ _ _ _ _; first | (refine k_seq ?_) | (refine k_region ?_) | (refine k_draw (h := ?_)) | (refine k_skip ?_) | (refine k_ret ?_) | (refine k_exit ?_) | (refine k_block ?_) | (refine k_true (h := ?_)) | (refine k_false (h := ?_)))
    | (show EX _ (bodyA _ _ _) _ _ _; first | (refine x_end1 (hq := ?_)) | (refine x_endc (hc := by (first | assumption | (apply cells_row; (focus ((repeat' (first | assumption | (rw [aadd_block]) | (apply gN; (focus (first | exact rfl | omega | (simp only [AHeap.push_next, AHeap.put_next, aadd_block] <;> omega))); (focus exact rfl)) | (apply gO; (focus (first | omega | (simp only [AHeap.push_next, AHeap.put_next, aadd_block, ne_eq] <;> omega)))) | (apply gS; (focus (first | exact rfl | omega | (simp only [AHeap.push_next, AHeap.put_next, aadd_block] <;> omega))); (focus exact rfl)) | (apply gP; (focus (first | omega | (simp only [AHeap.push_next, AHeap.put_next, aadd_block, ne_eq] <;> omega)))) | exact rfl)); done)); (focus exact rfl); (focus exact rfl); (focus (first | exact (rfl : _ = some [_]) | exact (rfl : _ = some [_, _, _])))) | (apply cells_k; (focus assumption); (focus (first | assumption | (simp only [aadd_block] <;> first | assumption | omega))); (focus ((repeat' (first | exact Keep.refl | assumption | (apply Keep.push) | (refine Keep.put ?_ ?_; rotate_left; (focus (intro hlt; first | assumption | omega | (exfalso; simp only [AHeap.push_next, AHeap.put_next, aadd_block] at hlt; omega)))))); done))))) (hv := by exact rfl) (hq := ?_)))
    | (show EX _ _ _ _ _; first | (refine x_normal ?_) | (refine x_ret ?_) | (refine x_exit ?_) | (refine x_same ?_) | (refine x_other (h := ?_)) | (refine x_bnormal ?_) | (refine x_bret ?_)))
  (first | (refine' ew_callS (hc := cr_call) (hR := ?_) (h := ?_); rotate_left 1) | (refine' ew_call (hc := cr_call) (hR := ?_) (h := ?_); rotate_left 1))
  · exact newM 3 _
  rintro v H2 (⟨h, _⟩ | ⟨_, e, rfl, hN2, hk2⟩)
  · exact absurd h (by decide)
  repeat' (first
    | (show EW _ _ _ _ _; first
      | refine ew_n (hn := r_move) (h := ?_)
      | refine ew_n (hn := r_assign) (h := ?_)
      | refine ew_n (hn := r_pick_t) (h := ?_)
      | refine ew_n (hn := r_pick_f) (h := ?_)
      | refine ew_n (hn := r_field) (h := ?_)
      | refine ew_n (hn := r_len) (h := ?_)
      | refine ew_n (hn := r_len_str) (h := ?_)
      | refine ew_n (hn := r_not) (h := ?_)
      | refine ew_n (hn := r_extract) (h := ?_)
      | refine ew_n (hn := (r_index (h0 := by omega) (h1 := by first | omega | (simp; done) | (simp; omega)))) (h := ?_)
      | refine ew_n (hn := r_nil_eq) (h := ?_)
      | refine ew_n (hn := r_beq) (h := ?_)
      | refine ew_n (hn := r_nil_ne) (h := ?_)
      | refine ew_n (hn := r_bne) (h := ?_)
      | refine ew_n (hn := (r_bin (hr := by first | (apply cmp_t; (focus (first | exact ib_eql | exact ib_gtr | exact ib_lss | exact ib_neq)); omega) | (apply cmp_f; (focus (first | exact ib_eql | exact ib_gtr | exact ib_lss | exact ib_neq)); omega)))) (h := ?_)
      | refine ew_skip (h := ?_)
      | refine ew_load (hc := by (first | assumption | (apply cells_row; (focus ((repeat' (first | assumption | (rw [aadd_block]) | (apply gN; (focus (first | exact rfl | omega | (simp only [AHeap.push_next, AHeap.put_next, aadd_block] <;> omega))); (focus exact rfl)) | (apply gO; (focus (first | omega | (simp only [AHeap.push_next, AHeap.put_next, aadd_block, ne_eq] <;> omega)))) | (apply gS; (focus (first | exact rfl | omega | (simp only [AHeap.push_next, AHeap.put_next, aadd_block] <;> omega))); (focus exact rfl)) | (apply gP; (focus (first | omega | (simp only [AHeap.push_next, AHeap.put_next, aadd_block, ne_eq] <;> omega)))) | exact rfl)); done)); (focus exact rfl); (focus exact rfl); (focus (first | exact (rfl : _ = some [_]) | exact (rfl : _ = some [_, _, _])))) | (apply cells_k; (focus assumption); (focus (first | assumption | (simp only [aadd_block] <;> first | assumption | omega))); (focus ((repeat' (first | exact Keep.refl | assumption | (apply Keep.push) | (refine Keep.put ?_ ?_; rotate_left; (focus (intro hlt; first | assumption | omega | (exfalso; simp only [AHeap.push_next, AHeap.put_next, aadd_block] at hlt; omega)))))); done))))) (hv := by exact rfl) (h := ?_)
      | (refine ew_fresh ?_; intro b hb; (first | refine ew_n (hn := (r_alloc hb)) (h := ?_)); (try simp only [AHeap.push_next, AHeap.put_next] at hb))
      | refine ew_e (he := er_store (hc := by (apply setCells_at; (focus ((repeat' (first | assumption | (rw [aadd_block]) | (apply gN; (focus (first | exact rfl | omega | (simp only [AHeap.push_next, AHeap.put_next, aadd_block] <;> omega))); (focus exact rfl)) | (apply gO; (focus (first | omega | (simp only [AHeap.push_next, AHeap.put_next, aadd_block, ne_eq] <;> omega)))) | (apply gS; (focus (first | exact rfl | omega | (simp only [AHeap.push_next, AHeap.put_next, aadd_block] <;> omega))); (focus exact rfl)) | (apply gP; (focus (first | omega | (simp only [AHeap.push_next, AHeap.put_next, aadd_block, ne_eq] <;> omega)))) | exact rfl)); done)); (focus exact rfl); (focus (first | exact Nat.le_of_ble_eq_true rfl | (simp; omega) | (simp; done) | (simp [Value.cells]; omega))); (focus (first | exact rfl | (simp; done))); (focus (first | exact (rfl : _ = [_]) | exact (rfl : _ = [_, _, _]) | exact rfl)); (focus (first | exact aadd_block _ _ | exact rfl))))) (hk := by (first | exact Mode.kept_seq rfl | (dsimp only [Mode.kept, Mode.logged, Mode.at]; (repeat' (first | exact (fun _ h => absurd h List.not_mem_nil) | (refine List.forall_mem_cons.2 ⟨?_, ?_⟩) | (refine .inl ?_; exact rfl) | (refine .inl ?_; dsimp only; decide))); done))) (h := ?_)
      | (refine ew_dec (hn := r_streq) (ht := ?_) (hf := ?_) <;> intro _)
      | (refine ew_dec (hn := (r_bin (hr := by (first | exact ib_eql | exact ib_gtr | exact ib_lss | exact ib_neq)))) (ht := ?_) (hf := ?_) <;> intro _)
      | refine ew_n (hn := r_bin (hr := by (first | (simp (disch := omega) only [intBin, wrap_in, wrap8_in, tdiv_in, tmod_in, if_false, reduceIte]; exact rfl) | (apply ib_rem; omega)))) (h := ?_)
      | (refine w_nil ?_)
      | (refine w_nilD ?_))
    | (show EC _ _ _ _ _ _ _; first | (refine k_seq ?_) | (refine k_region ?_) | (refine k_draw (h := ?_)) | (refine k_skip ?_) | (refine k_ret ?_) | (refine k_exit ?_) | (refine k_block ?_) | (refine k_true (h := ?_)) | (refine k_false (h := ?_)))
    | (show EX _ (bodyA _ _ _) _ _ _; first | (refine x_end1 (hq := ?_)) | (refine x_endc (hc := by (first | assumption | (apply cells_row; (focus ((repeat' (first | assumption | (rw [aadd_block]) | (apply gN; (focus (first | exact rfl | omega | (simp only [AHeap.push_next, AHeap.put_next, aadd_block] <;> omega))); (focus exact rfl)) | (apply gO; (focus (first | omega | (simp only [AHeap.push_next, AHeap.put_next, aadd_block, ne_eq] <;> omega)))) | (apply gS; (focus (first | exact rfl | omega | (simp only [AHeap.push_next, AHeap.put_next, aadd_block] <;> omega))); (focus exact rfl)) | (apply gP; (focus (first | omega | (simp only [AHeap.push_next, AHeap.put_next, aadd_block, ne_eq] <;> omega)))) | exact rfl)); done)); (focus exact rfl); (focus exact rfl); (focus (first | exact (rfl : _ = some [_]) | exact (rfl : _ = some [_, _, _])))) | (apply cells_k; (focus assumption); (focus (first | assumption | (simp only [aadd_block] <;> first | assumption | omega))); (focus ((repeat' (first | exact Keep.refl | assumption | (apply Keep.push) | (refine Keep.put ?_ ?_; rotate_left; (focus (intro hlt; first | assumption | omega | (exfalso; simp only [AHeap.push_next, AHeap.put_next, aadd_block] at hlt; omega)))))); done))))) (hv := by exact rfl) (hq := ?_)))
    | (show EX _ _ _ _ _; first | (refine x_normal ?_) | (refine x_ret ?_) | (refine x_exit ?_) | (refine x_same ?_) | (refine x_other (h := ?_)) | (refine x_bnormal ?_) | (refine x_bret ?_)))
  have hk := hk1.trans hk2 fun _ _ h => h
  refine k_loop follows (OrderI H (.slice z0 ds.length c0) (.slice z1 ts.length c1) e ds ts) (2 * ts.length) [(5, _), (7, _), (8, _), (9, _), (0, _), (1, _)] (by kernel_rfl) ⟨rfl, rfl, rfl, rfl, rfl, rfl, trivial⟩ ?_ ?_
  · exact ⟨hk, 0, 0, 0, New H1 H2, by omega, by omega, by omega, by omega, by omega, rfl, hN2, fun b hb => Nat.le_trans hk1.1 hb.1⟩
  clear hN2 hk2 hk1 hk H1 H2
  rintro n E H2 ⟨hk, i, s, c, F, hn, hcs, hsd, hroom, hi, rfl, hN, hF⟩
  have hn2 := hk.1
  have hsend : ∀ {F' : Blks} {H' : AHeap} (m : Nat) (i' s' c' : Nat) (E : Env), Keep No H H' → m = 2 * (ts.length - i') + (s' - c') → m < n → c' ≤ s' → s' ≤ ds.length → s' - c' ≤ 256 → i' ≤ ts.length + c' → NetM H' F' e 3 (flyM ds c' (s' - c')) → (∀ b, F' b → H.next ≤ b) →
      Sub [(5, .pointer (some ⟨e, 0, none⟩)), (7, .int .i64 s'), (8, .int .i64 c'), (9, .int .i64 i'), (0, .slice z0 ds.length c0), (1, .slice z1 ts.length c1)] E →
      ∀ {Q : Exit → Act → AHeap → Prop}, EX 127 (thenA (Again 127 (OrderI H (.slice z0 ds.length c0) (.slice z1 ts.length c1) e ds ts) n) Q) .normal E H' := fun m i' s' c' E a1 a2 a3 a4 a5 a6 a7 a8 a9 a10 Q =>
    x_again m _ a10 a3 ⟨a1, i', s', c', _, a2, a4, a5, a6, a7, rfl, a8, a9⟩
  by_cases hgo : i < ts.length ∨ c < s
  · by_cases hA : i < ts.length ∧ ts[i]? = some true ∧ s < ds.length ∧ s - c < 256
    · obtain ⟨hi1, hi2, hi3, hi4⟩ := hA
      obtain ⟨ad1, c1', as1, hv1, hlt1, hcell1, rfl⟩ := SlR.at r1 hi2
      simp only [Value.slice.injEq, true_and] at hv1
      obtain ⟨rfl, rfl⟩ := hv1
      have hcell1' : H.cellsAt (aadd ad1 ((i : Int).toNat * 1)) 1 = some [.bool true] := hcell1
      obtain ⟨bs, hbs⟩ : ∃ bs, ds[s]? = some bs := ⟨ds[s], List.getElem?_eq_getElem hi3⟩
      obtain ⟨ad0, c0', as0, hv0, hlt0, hcell0, vb, rfl, hbr, hlen⟩ := SlR.at r0 hbs
      simp only [Value.slice.injEq, true_and] at hv0
      obtain ⟨rfl, rfl⟩ := hv0
      obtain ⟨zb, cb, rfl⟩ := Rd.slice hbr
      have hcell0' : H.cellsAt (aadd ad0 ((s : Int).toNat * 1)) 1 = some [.slice zb bs.length cb] := hcell0
      rw [hrb] at hlen
      repeat' (first
    | (show EW _ _ _ _ _; first
      | refine ew_n (hn := r_move) (h := ?_)
      | refine ew_n (hn := r_assign) (h := ?_)
      | refine ew_n (hn := r_pick_t) (h := ?_)
      | refine ew_n (hn := r_pick_f) (h := ?_)
      | refine ew_n (hn := r_field) (h := ?_)
      | refine ew_n (hn := r_len) (h := ?_)
      | refine ew_n (hn := r_len_str) (h := ?_)
      | refine ew_n (hn := r_not) (h := ?_)
      | refine ew_n (hn := r_extract) (h := ?_)
      | refine ew_n (hn := (r_index (h0 := by omega) (h1 := by first | omega | (simp; done) | (simp; omega)))) (h := ?_)
      | refine ew_n (hn := r_nil_eq) (h := ?_)
      | refine ew_n (hn := r_beq) (h := ?_)
      | refine ew_n (hn := r_nil_ne) (h := ?_)
      | refine ew_n (hn := r_bne) (h := ?_)
      | refine ew_n (hn := (r_bin (hr := by first | (apply cmp_t; (focus (first | exact ib_eql | exact ib_gtr | exact ib_lss | exact ib_neq)); omega) | (apply cmp_f; (focus (first | exact ib_eql | exact ib_gtr | exact ib_lss | exact ib_neq)); omega)))) (h := ?_)
      | refine ew_skip (h := ?_)
      | refine ew_load (hc := by (first | assumption | (apply cells_row; (focus ((repeat' (first | assumption | (rw [aadd_block]) | (apply gN; (focus (first | exact rfl | omega | (simp only [AHeap.push_next, AHeap.put_next, aadd_block] <;> omega))); (focus exact rfl)) | (apply gO; (focus (first | omega | (simp only [AHeap.push_next, AHeap.put_next, aadd_block, ne_eq] <;> omega)))) | (apply gS; (focus (first | exact rfl | omega | (simp only [AHeap.push_next, AHeap.put_next, aadd_block] <;> omega))); (focus exact rfl)) | (apply gP; (focus (first | omega | (simp only [AHeap.push_next, AHeap.put_next, aadd_block, ne_eq] <;> omega)))) | exact rfl)); done)); (focus exact rfl); (focus exact rfl); (focus (first | exact (rfl : _ = some [_]) | exact (rfl : _ = some [_, _, _])))) | (apply cells_k; (focus assumption); (focus (first | assumption | (simp only [aadd_block] <;> first | assumption | omega))); (focus ((repeat' (first | exact Keep.refl | assumption | (apply Keep.push) | (refine Keep.put ?_ ?_; rotate_left; (focus (intro hlt; first | assumption | omega | (exfalso; simp only [AHeap.push_next, AHeap.put_next, aadd_block] at hlt; omega)))))); done))))) (hv := by exact rfl) (h := ?_)
      | (refine ew_fresh ?_; intro b hb; (first | refine ew_n (hn := (r_alloc hb)) (h := ?_)); (try simp only [AHeap.push_next, AHeap.put_next] at hb))
      | refine ew_e (he := er_store (hc := by (apply setCells_at; (focus ((repeat' (first | assumption | (rw [aadd_block]) | (apply gN; (focus (first | exact rfl | omega | (simp only [AHeap.push_next, AHeap.put_next, aadd_block] <;> omega))); (focus exact rfl)) | (apply gO; (focus (first | omega | (simp only [AHeap.push_next, AHeap.put_next, aadd_block, ne_eq] <;> omega)))) | (apply gS; (focus (first | exact rfl | omega | (simp only [AHeap.push_next, AHeap.put_next, aadd_block] <;> omega))); (focus exact rfl)) | (apply gP; (focus (first | omega | (simp only [AHeap.push_next, AHeap.put_next, aadd_block, ne_eq] <;> omega)))) | exact rfl)); done)); (focus exact rfl); (focus (first | exact Nat.le_of_ble_eq_true rfl | (simp; omega) | (simp; done) | (simp [Value.cells]; omega))); (focus (first | exact rfl | (simp; done))); (focus (first | exact (rfl : _ = [_]) | exact (rfl : _ = [_, _, _]) | exact rfl)); (focus (first | exact aadd_block _ _ | exact rfl))))) (hk := by (first | exact Mode.kept_seq rfl | (dsimp only [Mode.kept, Mode.logged, Mode.at]; (repeat' (first | exact (fun _ h => absurd h List.not_mem_nil) | (refine List.forall_mem_cons.2 ⟨?_, ?_⟩) | (refine .inl ?_; exact rfl) | (refine .inl ?_; dsimp only; decide))); done))) (h := ?_)
      | (refine ew_dec (hn := r_streq) (ht := ?_) (hf := ?_) <;> intro _)
      | (refine ew_dec (hn := (r_bin (hr := by (first | exact ib_eql | exact ib_gtr | exact ib_lss | exact ib_neq)))) (ht := ?_) (hf := ?_) <;> intro _)
      | refine ew_n (hn := r_bin (hr := by (first | (simp (disch := omega) only [intBin, wrap_in, wrap8_in, tdiv_in, tmod_in, if_false, reduceIte]; exact rfl) | (apply ib_rem; omega)))) (h := ?_)
      | (refine w_nil ?_)
      | (refine w_nilD ?_))
    | (show EC _ _ _ _ _ _ _; first | (refine k_seq ?_) | (refine k_region ?_) | (refine k_draw (h := ?_)) | (refine k_skip ?_) | (refine k_ret ?_) | (refine k_exit ?_) | (refine k_block ?_) | (refine k_true (h := ?_)) | (refine k_false (h := ?_)))
    | (show EX _ (bodyA _ _ _) _ _ _; first | (refine x_end1 (hq := ?_)) | (refine x_endc (hc := by (first | assumption | (apply cells_row; (focus ((repeat' (first | assumption | (rw [aadd_block]) | (apply gN; (focus (first | exact rfl | omega | (simp only [AHeap.push_next, AHeap.put_next, aadd_block] <;> omega))); (focus exact rfl)) | (apply gO; (focus (first | omega | (simp only [AHeap.push_next, AHeap.put_next, aadd_block, ne_eq] <;> omega)))) | (apply gS; (focus (first | exact rfl | omega | (simp only [AHeap.push_next, AHeap.put_next, aadd_block] <;> omega))); (focus exact rfl)) | (apply gP; (focus (first | omega | (simp only [AHeap.push_next, AHeap.put_next, aadd_block, ne_eq] <;> omega)))) | exact rfl)); done)); (focus exact rfl); (focus exact rfl); (focus (first | exact (rfl : _ = some [_]) | exact (rfl : _ = some [_, _, _])))) | (apply cells_k; (focus assumption); (focus (first | assumption | (simp only [aadd_block] <;> first | assumption | omega))); (focus ((repeat' (first | exact Keep.refl | assumption | (apply Keep.push) | (refine Keep.put ?_ ?_; rotate_left; (focus (intro hlt; first | assumption | omega | (exfalso; simp only [AHeap.push_next, AHeap.put_next, aadd_block] at hlt; omega)))))); done))))) (hv := by exact rfl) (hq := ?_)))
    | (show EX _ _ _ _ _; first | (refine x_normal ?_) | (refine x_ret ?_) | (refine x_exit ?_) | (refine x_same ?_) | (refine x_other (h := ?_)) | (refine x_bnormal ?_) | (refine x_bret ?_)))
      · rfl
      (first | (refine' ew_callS (hc := cr_call) (hR := ?_) (h := ?_); rotate_left 1) | (refine' ew_call (hc := cr_call) (hR := ?_) (h := ?_); rotate_left 1))
      · exact sendM ((s : Int) % 3) (((s : Int) + 1) % 3) hN (hbr.keep0 hk) (by omega)
      have hgd : ds.getD s [] = bs := by simp [List.getD, hbs]
      have hres : sendP 3 (flyM ds c (s - c)) ((s : Int) % 3) (((s : Int) + 1) % 3) bs = (0, flyM ds c (s + 1 - c)) := by
        unfold sendP
        rw [if_neg (by omega), if_neg (by omega), if_neg (by rw [flyM_len]; omega), show s + 1 - c = (s - c) + 1 by omega, flyM_succ, show c + (s - c) = s by omega, hgd]
      rw [hres]
      rintro _ H3 ⟨rfl, hk3, F3, hN3, hg3⟩
      repeat' (first
    | (show EW _ _ _ _ _; first
      | refine ew_n (hn := r_move) (h := ?_)
      | refine ew_n (hn := r_assign) (h := ?_)
      | refine ew_n (hn := r_pick_t) (h := ?_)
      | refine ew_n (hn := r_pick_f) (h := ?_)
      | refine ew_n (hn := r_field) (h := ?_)
      | refine ew_n (hn := r_len) (h := ?_)
      | refine ew_n (hn := r_len_str) (h := ?_)
      | refine ew_n (hn := r_not) (h := ?_)
      | refine ew_n (hn := r_extract) (h := ?_)
      | refine ew_n (hn := (r_index (h0 := by omega) (h1 := by first | omega | (simp; done) | (simp; omega)))) (h := ?_)
      | refine ew_n (hn := r_nil_eq) (h := ?_)
      | refine ew_n (hn := r_beq) (h := ?_)
      | refine ew_n (hn := r_nil_ne) (h := ?_)
      | refine ew_n (hn := r_bne) (h := ?_)
      | refine ew_n (hn := (r_bin (hr := by first | (apply cmp_t; (focus (first | exact ib_eql | exact ib_gtr | exact ib_lss | exact ib_neq)); omega) | (apply cmp_f; (focus (first | exact ib_eql | exact ib_gtr | exact ib_lss | exact ib_neq)); omega)))) (h := ?_)
      | refine ew_skip (h := ?_)
      | refine ew_load (hc := by (first | assumption | (apply cells_row; (focus ((repeat' (first | assumption | (rw [aadd_block]) | (apply gN; (focus (first | exact rfl | omega | (simp only [AHeap.push_next, AHeap.put_next, aadd_block] <;> omega))); (focus exact rfl)) | (apply gO; (focus (first | omega | (simp only [AHeap.push_next, AHeap.put_next, aadd_block, ne_eq] <;> omega)))) | (apply gS; (focus (first | exact rfl | omega | (simp only [AHeap.push_next, AHeap.put_next, aadd_block] <;> omega))); (focus exact rfl)) | (apply gP; (focus (first | omega | (simp only [AHeap.push_next, AHeap.put_next, aadd_block, ne_eq] <;> omega)))) | exact rfl)); done)); (focus exact rfl); (focus exact rfl); (focus (first | exact (rfl : _ = some [_]) | exact (rfl : _ = some [_, _, _])))) | (apply cells_k; (focus assumption); (focus (first | assumption | (simp only [aadd_block] <;> first | assumption | omega))); (focus ((repeat' (first | exact Keep.refl | assumption | (apply Keep.push) | (refine Keep.put ?_ ?_; rotate_left; (focus (intro hlt; first | assumption | omega | (exfalso; simp only [AHeap.push_next, AHeap.put_next, aadd_block] at hlt; omega)))))); done))))) (hv := by exact rfl) (h := ?_)
      | (refine ew_fresh ?_; intro b hb; (first | refine ew_n (hn := (r_alloc hb)) (h := ?_)); (try simp only [AHeap.push_next, AHeap.put_next] at hb))
      | refine ew_e (he := er_store (hc := by (apply setCells_at; (focus ((repeat' (first | assumption | (rw [aadd_block]) | (apply gN; (focus (first | exact rfl | omega | (simp only [AHeap.push_next, AHeap.put_next, aadd_block] <;> omega))); (focus exact rfl)) | (apply gO; (focus (first | omega | (simp only [AHeap.push_next, AHeap.put_next, aadd_block, ne_eq] <;> omega)))) | (apply gS; (focus (first | exact rfl | omega | (simp only [AHeap.push_next, AHeap.put_next, aadd_block] <;> omega))); (focus exact rfl)) | (apply gP; (focus (first | omega | (simp only [AHeap.push_next, AHeap.put_next, aadd_block, ne_eq] <;> omega)))) | exact rfl)); done)); (focus exact rfl); (focus (first | exact Nat.le_of_ble_eq_true rfl | (simp; omega) | (simp; done) | (simp [Value.cells]; omega))); (focus (first | exact rfl | (simp; done))); (focus (first | exact (rfl : _ = [_]) | exact (rfl : _ = [_, _, _]) | exact rfl)); (focus (first | exact aadd_block _ _ | exact rfl))))) (hk := by (first | exact Mode.kept_seq rfl | (dsimp only [Mode.kept, Mode.logged, Mode.at]; (repeat' (first | exact (fun _ h => absurd h List.not_mem_nil) | (refine List.forall_mem_cons.2 ⟨?_, ?_⟩) | (refine .inl ?_; exact rfl) | (refine .inl ?_; dsimp only; decide))); done))) (h := ?_)
      | (refine ew_dec (hn := r_streq) (ht := ?_) (hf := ?_) <;> intro _)
      | (refine ew_dec (hn := (r_bin (hr := by (first | exact ib_eql | exact ib_gtr | exact ib_lss | exact ib_neq)))) (ht := ?_) (hf := ?_) <;> intro _)
      | refine ew_n (hn := r_bin (hr := by (first | (simp (disch := omega) only [intBin, wrap_in, wrap8_in, tdiv_in, tmod_in, if_false, reduceIte]; exact rfl) | (apply ib_rem; omega)))) (h := ?_)
      | (refine w_nil ?_)
      | (refine w_nilD ?_))
    | (show EC _ _ _ _ _ _ _; first | (refine k_seq ?_) | (refine k_region ?_) | (refine k_draw (h := ?_)) | (refine k_skip ?_) | (refine k_ret ?_) | (refine k_exit ?_) | (refine k_block ?_) | (refine k_true (h := ?_)) | (refine k_false (h := ?_)))
    | (show EX _ (bodyA _ _ _) _ _ _; first | (refine x_end1 (hq := ?_)) | (refine x_endc (hc := by (first | assumption | (apply cells_row; (focus ((repeat' (first | assumption | (rw [aadd_block]) | (apply gN; (focus (first | exact rfl | omega | (simp only [AHeap.push_next, AHeap.put_next, aadd_block] <;> omega))); (focus exact rfl)) | (apply gO; (focus (first | omega | (simp only [AHeap.push_next, AHeap.put_next, aadd_block, ne_eq] <;> omega)))) | (apply gS; (focus (first | exact rfl | omega | (simp only [AHeap.push_next, AHeap.put_next, aadd_block] <;> omega))); (focus exact rfl)) | (apply gP; (focus (first | omega | (simp only [AHeap.push_next, AHeap.put_next, aadd_block, ne_eq] <;> omega)))) | exact rfl)); done)); (focus exact rfl); (focus exact rfl); (focus (first | exact (rfl : _ = some [_]) | exact (rfl : _ = some [_, _, _])))) | (apply cells_k; (focus assumption); (focus (first | assumption | (simp only [aadd_block] <;> first | assumption | omega))); (focus ((repeat' (first | exact Keep.refl | assumption | (apply Keep.push) | (refine Keep.put ?_ ?_; rotate_left; (focus (intro hlt; first | assumption | omega | (exfalso; simp only [AHeap.push_next, AHeap.put_next, aadd_block] at hlt; omega)))))); done))))) (hv := by exact rfl) (hq := ?_)))
    | (show EX _ _ _ _ _; first | (refine x_normal ?_) | (refine x_ret ?_) | (refine x_exit ?_) | (refine x_same ?_) | (refine x_other (h := ?_)) | (refine x_bnormal ?_) | (refine x_bret ?_)))
      exact hsend (2 * (ts.length - (i + 1)) + (s + 1 - c)) (i + 1) (s + 1) c _ (hk.own hk3 hF) rfl (by omega) (by omega) (by omega) (by omega) (by omega) hN3 (hg3.own hn2 hF) ⟨rfl, rfl, rfl, rfl, rfl, rfl, trivial⟩
    · have h4 : ¬ i < ts.length ∨ (∃ (ad1 : Addr), z1 = some ad1 ∧ ad1.block < H.next ∧ i < ts.length ∧ ∃ b, H.cellsAt (aadd ad1 ((i : Int).toNat * 1)) 1 = some [.bool b] ∧ (b = false ∨ b = true ∧ (¬ s < ds.length ∨ s < ds.length ∧ ¬ s - c < 256))) := by
        by_cases hi1 : i < ts.length
        · refine .inr ?_
          obtain ⟨b, hb⟩ : ∃ b, ts[i]? = some b := ⟨ts[i], List.getElem?_eq_getElem hi1⟩
          obtain ⟨ad1, c1', as1, hv1, hlt1, hcell1, rfl⟩ := SlR.at r1 hb
          simp only [Value.slice.injEq, true_and] at hv1
          refine ⟨ad1, hv1.1, hlt1, hi1, b, hcell1, ?_⟩
          cases b with
          | false => exact .inl rfl
          | true =>
            refine .inr ⟨rfl, ?_⟩
            by_cases hs : s < ds.length
            · exact .inr ⟨hs, fun h => hA ⟨hi1, hb, hs, h⟩⟩
            · exact .inl hs
        · exact .inl hi1
      rcases h4 with hi1 | ⟨ad1, rfl, hlt1, hi1, b, hcell1, rfl | ⟨rfl, hi3 | ⟨hi3, hi4⟩⟩⟩
      all_goals repeat' (first
    | (show EW _ _ _ _ _; first
      | refine ew_n (hn := r_move) (h := ?_)
      | refine ew_n (hn := r_assign) (h := ?_)
      | refine ew_n (hn := r_pick_t) (h := ?_)
      | refine ew_n (hn := r_pick_f) (h := ?_)
      | refine ew_n (hn := r_field) (h := ?_)
      | refine ew_n (hn := r_len) (h := ?_)
      | refine ew_n (hn := r_len_str) (h := ?_)
      | refine ew_n (hn := r_not) (h := ?_)
      | refine ew_n (hn := r_extract) (h := ?_)
      | refine ew_n (hn := (r_index (h0 := by omega) (h1 := by first | omega | (simp; done) | (simp; omega)))) (h := ?_)
      | refine ew_n (hn := r_nil_eq) (h := ?_)
      | refine ew_n (hn := r_beq) (h := ?_)
      | refine ew_n (hn := r_nil_ne) (h := ?_)
      | refine ew_n (hn := r_bne) (h := ?_)
      | refine ew_n (hn := (r_bin (hr := by first | (apply cmp_t; (focus (first | exact ib_eql | exact ib_gtr | exact ib_lss | exact ib_neq)); omega) | (apply cmp_f; (focus (first | exact ib_eql | exact ib_gtr | exact ib_lss | exact ib_neq)); omega)))) (h := ?_)
      | refine ew_skip (h := ?_)
      | refine ew_load (hc := by (first | assumption | (apply cells_row; (focus ((repeat' (first | assumption | (rw [aadd_block]) | (apply gN; (focus (first | exact rfl | omega | (simp only [AHeap.push_next, AHeap.put_next, aadd_block] <;> omega))); (focus exact rfl)) | (apply gO; (focus (first | omega | (simp only [AHeap.push_next, AHeap.put_next, aadd_block, ne_eq] <;> omega)))) | (apply gS; (focus (first | exact rfl | omega | (simp only [AHeap.push_next, AHeap.put_next, aadd_block] <;> omega))); (focus exact rfl)) | (apply gP; (focus (first | omega | (simp only [AHeap.push_next, AHeap.put_next, aadd_block, ne_eq] <;> omega)))) | exact rfl)); done)); (focus exact rfl); (focus exact rfl); (focus (first | exact (rfl : _ = some [_]) | exact (rfl : _ = some [_, _, _])))) | (apply cells_k; (focus assumption); (focus (first | assumption | (simp only [aadd_block] <;> first | assumption | omega))); (focus ((repeat' (first | exact Keep.refl | assumption | (apply Keep.push) | (refine Keep.put ?_ ?_; rotate_left; (focus (intro hlt; first | assumption | omega | (exfalso; simp only [AHeap.push_next, AHeap.put_next, aadd_block] at hlt; omega)))))); done))))) (hv := by exact rfl) (h := ?_)
      | (refine ew_fresh ?_; intro b hb; (first | refine ew_n (hn := (r_alloc hb)) (h := ?_)); (try simp only [AHeap.push_next, AHeap.put_next] at hb))
      | refine ew_e (he := er_store (hc := by (apply setCells_at; (focus ((repeat' (first | assumption | (rw [aadd_block]) | (apply gN; (focus (first | exact rfl | omega | (simp only [AHeap.push_next, AHeap.put_next, aadd_block] <;> omega))); (focus exact rfl)) | (apply gO; (focus (first | omega | (simp only [AHeap.push_next, AHeap.put_next, aadd_block, ne_eq] <;> omega)))) | (apply gS; (focus (first | exact rfl | omega | (simp only [AHeap.push_next, AHeap.put_next, aadd_block] <;> omega))); (focus exact rfl)) | (apply gP; (focus (first | omega | (simp only [AHeap.push_next, AHeap.put_next, aadd_block, ne_eq] <;> omega)))) | exact rfl)); done)); (focus exact rfl); (focus (first | exact Nat.le_of_ble_eq_true rfl | (simp; omega) | (simp; done) | (simp [Value.cells]; omega))); (focus (first | exact rfl | (simp; done))); (focus (first | exact (rfl : _ = [_]) | exact (rfl : _ = [_, _, _]) | exact rfl)); (focus (first | exact aadd_block _ _ | exact rfl))))) (hk := by (first | exact Mode.kept_seq rfl | (dsimp only [Mode.kept, Mode.logged, Mode.at]; (repeat' (first | exact (fun _ h => absurd h List.not_mem_nil) | (refine List.forall_mem_cons.2 ⟨?_, ?_⟩) | (refine .inl ?_; exact rfl) | (refine .inl ?_; dsimp only; decide))); done))) (h := ?_)
      | (refine ew_dec (hn := r_streq) (ht := ?_) (hf := ?_) <;> intro _)
      | (refine ew_dec (hn := (r_bin (hr := by (first | exact ib_eql | exact ib_gtr | exact ib_lss | exact ib_neq)))) (ht := ?_) (hf := ?_) <;> intro _)
      | refine ew_n (hn := r_bin (hr := by (first | (simp (disch := omega) only [intBin, wrap_in, wrap8_in, tdiv_in, tmod_in, if_false, reduceIte]; exact rfl) | (apply ib_rem; omega)))) (h := ?_)
      | (refine w_nil ?_)
      | (refine w_nilD ?_))
    | (show EC _ _ _ _ _ _ _; first | (refine k_seq ?_) | (refine k_region ?_) | (refine k_draw (h := ?_)) | (refine k_skip ?_) | (refine k_ret ?_) | (refine k_exit ?_) | (refine k_block ?_) | (refine k_true (h := ?_)) | (refine k_false (h := ?_)))
    | (show EX _ (bodyA _ _ _) _ _ _; first | (refine x_end1 (hq := ?_)) | (refine x_endc (hc := by (first | assumption | (apply cells_row; (focus ((repeat' (first | assumption | (rw [aadd_block]) | (apply gN; (focus (first | exact rfl | omega | (simp only [AHeap.push_next, AHeap.put_next, aadd_block] <;> omega))); (focus exact rfl)) | (apply gO; (focus (first | omega | (simp only [AHeap.push_next, AHeap.put_next, aadd_block, ne_eq] <;> omega)))) | (apply gS; (focus (first | exact rfl | omega | (simp only [AHeap.push_next, AHeap.put_next, aadd_block] <;> omega))); (focus exact rfl)) | (apply gP; (focus (first | omega | (simp only [AHeap.push_next, AHeap.put_next, aadd_block, ne_eq] <;> omega)))) | exact rfl)); done)); (focus exact rfl); (focus exact rfl); (focus (first | exact (rfl : _ = some [_]) | exact (rfl : _ = some [_, _, _])))) | (apply cells_k; (focus assumption); (focus (first | assumption | (simp only [aadd_block] <;> first | assumption | omega))); (focus ((repeat' (first | exact Keep.refl | assumption | (apply Keep.push) | (refine Keep.put ?_ ?_; rotate_left; (focus (intro hlt; first | assumption | omega | (exfalso; simp only [AHeap.push_next, AHeap.put_next, aadd_block] at hlt; omega)))))); done))))) (hv := by exact rfl) (hq := ?_)))
    | (show EX _ _ _ _ _; first | (refine x_normal ?_) | (refine x_ret ?_) | (refine x_exit ?_) | (refine x_same ?_) | (refine x_other (h := ?_)) | (refine x_bnormal ?_) | (refine x_bret ?_)))
      all_goals (
        (first | (refine' ew_callS (hc := cr_call) (hR := ?_) (h := ?_); rotate_left 1) | (refine' ew_call (hc := cr_call) (hR := ?_) (h := ?_); rotate_left 1))
        · exact deliverM 0 hN
        by_cases hlt : c < s
        · obtain ⟨bs, hbs⟩ : ∃ bs, ds[c]? = some bs := ⟨ds[c], List.getElem?_eq_getElem (by omega)⟩
          obtain ⟨ad0, c0', as0, hv0, hlt0, hcell0, vb, rfl, hbr, hlen⟩ := SlR.at r0 hbs
          simp only [Value.slice.injEq, true_and] at hv0
          obtain ⟨rfl, rfl⟩ := hv0
          obtain ⟨zb, cb, rfl⟩ := Rd.slice hbr
          have hcell0' : H.cellsAt (aadd ad0 ((c : Int).toNat * 1)) 1 = some [.slice zb bs.length cb] := hcell0
          have hgd : ds.getD c [] = bs := by simp [List.getD, hbs]
          have hfly : flyM ds c (s - c) = ((c : Int) % 3, ((c : Int) + 1) % 3, bs) :: flyM ds (c + 1) (s - (c + 1)) := by
            rw [show s - c = (s - (c + 1)) + 1 by omega, flyM_cons, hgd]
          rw [hfly]
          rintro v H3 (⟨h, _⟩ | ⟨x, bx, hx, hv, hk3, hbF, hbn, hbr3, F3, hN3, hg3, hnb⟩)
          · simp [atI] at h
          have hx' : x = ((c : Int) % 3, ((c : Int) + 1) % 3, bs) := by simpa [atI] using hx.symm
          subst hx'
          dsimp only at hv hbr3
          subst hv
          have hkA := hk.own hk3 hF
          have hn3 := hkA.1
          have hle3 := hk3.1
          repeat' (first
    | (show EW _ _ _ _ _; first
      | refine ew_n (hn := r_move) (h := ?_)
      | refine ew_n (hn := r_assign) (h := ?_)
      | refine ew_n (hn := r_pick_t) (h := ?_)
      | refine ew_n (hn := r_pick_f) (h := ?_)
      | refine ew_n (hn := r_field) (h := ?_)
      | refine ew_n (hn := r_len) (h := ?_)
      | refine ew_n (hn := r_len_str) (h := ?_)
      | refine ew_n (hn := r_not) (h := ?_)
      | refine ew_n (hn := r_extract) (h := ?_)
      | refine ew_n (hn := (r_index (h0 := by omega) (h1 := by first | omega | (simp; done) | (simp; omega)))) (h := ?_)
      | refine ew_n (hn := r_nil_eq) (h := ?_)
      | refine ew_n (hn := r_beq) (h := ?_)
      | refine ew_n (hn := r_nil_ne) (h := ?_)
      | refine ew_n (hn := r_bne) (h := ?_)
      | refine ew_n (hn := (r_bin (hr := by first | (apply cmp_t; (focus (first | exact ib_eql | exact ib_gtr | exact ib_lss | exact ib_neq)); omega) | (apply cmp_f; (focus (first | exact ib_eql | exact ib_gtr | exact ib_lss | exact ib_neq)); omega)))) (h := ?_)
      | refine ew_skip (h := ?_)
      | refine ew_load (hc := by (first | assumption | (apply cells_row; (focus ((repeat' (first | assumption | (rw [aadd_block]) | (apply gN; (focus (first | exact rfl | omega | (simp only [AHeap.push_next, AHeap.put_next, aadd_block] <;> omega))); (focus exact rfl)) | (apply gO; (focus (first | omega | (simp only [AHeap.push_next, AHeap.put_next, aadd_block, ne_eq] <;> omega)))) | (apply gS; (focus (first | exact rfl | omega | (simp only [AHeap.push_next, AHeap.put_next, aadd_block] <;> omega))); (focus exact rfl)) | (apply gP; (focus (first | omega | (simp only [AHeap.push_next, AHeap.put_next, aadd_block, ne_eq] <;> omega)))) | exact rfl)); done)); (focus exact rfl); (focus exact rfl); (focus (first | exact (rfl : _ = some [_]) | exact (rfl : _ = some [_, _, _])))) | (apply cells_k; (focus assumption); (focus (first | assumption | (simp only [aadd_block] <;> first | assumption | omega))); (focus ((repeat' (first | exact Keep.refl | assumption | (apply Keep.push) | (refine Keep.put ?_ ?_; rotate_left; (focus (intro hlt; first | assumption | omega | (exfalso; simp only [AHeap.push_next, AHeap.put_next, aadd_block] at hlt; omega)))))); done))))) (hv := by exact rfl) (h := ?_)
      | (refine ew_fresh ?_; intro b hb; (first | refine ew_n (hn := (r_alloc hb)) (h := ?_)); (try simp only [AHeap.push_next, AHeap.put_next] at hb))
      | refine ew_e (he := er_store (hc := by (apply setCells_at; (focus ((repeat' (first | assumption | (rw [aadd_block]) | (apply gN; (focus (first | exact rfl | omega | (simp only [AHeap.push_next, AHeap.put_next, aadd_block] <;> omega))); (focus exact rfl)) | (apply gO; (focus (first | omega | (simp only [AHeap.push_next, AHeap.put_next, aadd_block, ne_eq] <;> omega)))) | (apply gS; (focus (first | exact rfl | omega | (simp only [AHeap.push_next, AHeap.put_next, aadd_block] <;> omega))); (focus exact rfl)) | (apply gP; (focus (first | omega | (simp only [AHeap.push_next, AHeap.put_next, aadd_block, ne_eq] <;> omega)))) | exact rfl)); done)); (focus exact rfl); (focus (first | exact Nat.le_of_ble_eq_true rfl | (simp; omega) | (simp; done) | (simp [Value.cells]; omega))); (focus (first | exact rfl | (simp; done))); (focus (first | exact (rfl : _ = [_]) | exact (rfl : _ = [_, _, _]) | exact rfl)); (focus (first | exact aadd_block _ _ | exact rfl))))) (hk := by (first | exact Mode.kept_seq rfl | (dsimp only [Mode.kept, Mode.logged, Mode.at]; (repeat' (first | exact (fun _ h => absurd h List.not_mem_nil) | (refine List.forall_mem_cons.2 ⟨?_, ?_⟩) | (refine .inl ?_; exact rfl) | (refine .inl ?_; dsimp only; decide))); done))) (h := ?_)
      | (refine ew_dec (hn := r_streq) (ht := ?_) (hf := ?_) <;> intro _)
      | (refine ew_dec (hn := (r_bin (hr := by (first | exact ib_eql | exact ib_gtr | exact ib_lss | exact ib_neq)))) (ht := ?_) (hf := ?_) <;> intro _)
      | refine ew_n (hn := r_bin (hr := by (first | (simp (disch := omega) only [intBin, wrap_in, wrap8_in, tdiv_in, tmod_in, if_false, reduceIte]; exact rfl) | (apply ib_rem; omega)))) (h := ?_)
      | (refine w_nil ?_)
      | (refine w_nilD ?_))
    | (show EC _ _ _ _ _ _ _; first | (refine k_seq ?_) | (refine k_region ?_) | (refine k_draw (h := ?_)) | (refine k_skip ?_) | (refine k_ret ?_) | (refine k_exit ?_) | (refine k_block ?_) | (refine k_true (h := ?_)) | (refine k_false (h := ?_)))
    | (show EX _ (bodyA _ _ _) _ _ _; first | (refine x_end1 (hq := ?_)) | (refine x_endc (hc := by (first | assumption | (apply cells_row; (focus ((repeat' (first | assumption | (rw [aadd_block]) | (apply gN; (focus (first | exact rfl | omega | (simp only [AHeap.push_next, AHeap.put_next, aadd_block] <;> omega))); (focus exact rfl)) | (apply gO; (focus (first | omega | (simp only [AHeap.push_next, AHeap.put_next, aadd_block, ne_eq] <;> omega)))) | (apply gS; (focus (first | exact rfl | omega | (simp only [AHeap.push_next, AHeap.put_next, aadd_block] <;> omega))); (focus exact rfl)) | (apply gP; (focus (first | omega | (simp only [AHeap.push_next, AHeap.put_next, aadd_block, ne_eq] <;> omega)))) | exact rfl)); done)); (focus exact rfl); (focus exact rfl); (focus (first | exact (rfl : _ = some [_]) | exact (rfl : _ = some [_, _, _])))) | (apply cells_k; (focus assumption); (focus (first | assumption | (simp only [aadd_block] <;> first | assumption | omega))); (focus ((repeat' (first | exact Keep.refl | assumption | (apply Keep.push) | (refine Keep.put ?_ ?_; rotate_left; (focus (intro hlt; first | assumption | omega | (exfalso; simp only [AHeap.push_next, AHeap.put_next, aadd_block] at hlt; omega)))))); done))))) (hv := by exact rfl) (hq := ?_)))
    | (show EX _ _ _ _ _; first | (refine x_normal ?_) | (refine x_ret ?_) | (refine x_exit ?_) | (refine x_same ?_) | (refine x_other (h := ?_)) | (refine x_bnormal ?_) | (refine x_bret ?_)))
          (first | (refine' ew_callS (hc := cr_call) (hR := ?_) (h := ?_); rotate_left 1) | (refine' ew_call (hc := cr_call) (hR := ?_) (h := ?_); rotate_left 1))
          · exact sameBytes_calls (F := fun y => y = bx) (G := fun _ => True) _ (rd_row (e := 5) (rw' := true) (by ((repeat' (first | assumption | (rw [aadd_block]) | (apply gN; (focus (first | exact rfl | omega | (simp only [AHeap.push_next, AHeap.put_next, aadd_block] <;> omega))); (focus exact rfl)) | (apply gO; (focus (first | omega | (simp only [AHeap.push_next, AHeap.put_next, aadd_block, ne_eq] <;> omega)))) | (apply gS; (focus (first | exact rfl | omega | (simp only [AHeap.push_next, AHeap.put_next, aadd_block] <;> omega))); (focus exact rfl)) | (apply gP; (focus (first | omega | (simp only [AHeap.push_next, AHeap.put_next, aadd_block, ne_eq] <;> omega)))) | exact rfl)); done)) rfl (by simp only [AHeap.push_next, AHeap.put_next]; omega)) (hbr.keep0 (by ((repeat' (first | exact Keep.refl | assumption | (apply Keep.push) | (refine Keep.put ?_ ?_; rotate_left; (focus (intro hlt; first | assumption | omega | (exfalso; simp only [AHeap.push_next, AHeap.put_next, aadd_block] at hlt; omega)))))); done)))
          rintro _ H4 ⟨rfl, rfl⟩
          refine ⟨by (dsimp only [Mode.kept, Mode.logged, Mode.at]; (repeat' (first | exact (fun _ h => absurd h List.not_mem_nil) | (refine List.forall_mem_cons.2 ⟨?_, ?_⟩) | (refine .inl ?_; exact rfl) | (refine .inl ?_; dsimp only; decide) | (refine .inr ?_; exact rfl)))), ?_⟩
          rw [decide_eq_true rfl]
          repeat' (first
    | (show EW _ _ _ _ _; first
      | refine ew_n (hn := r_move) (h := ?_)
      | refine ew_n (hn := r_assign) (h := ?_)
      | refine ew_n (hn := r_pick_t) (h := ?_)
      | refine ew_n (hn := r_pick_f) (h := ?_)
      | refine ew_n (hn := r_field) (h := ?_)
      | refine ew_n (hn := r_len) (h := ?_)
      | refine ew_n (hn := r_len_str) (h := ?_)
      | refine ew_n (hn := r_not) (h := ?_)
      | refine ew_n (hn := r_extract) (h := ?_)
      | refine ew_n (hn := (r_index (h0 := by omega) (h1 := by first | omega | (simp; done) | (simp; omega)))) (h := ?_)
      | refine ew_n (hn := r_nil_eq) (h := ?_)
      | refine ew_n (hn := r_beq) (h := ?_)
      | refine ew_n (hn := r_nil_ne) (h := ?_)
      | refine ew_n (hn := r_bne) (h := ?_)
      | refine ew_n (hn := (r_bin (hr := by first | (apply cmp_t; (focus (first | exact ib_eql | exact ib_gtr | exact ib_lss | exact ib_neq)); omega) | (apply cmp_f; (focus (first | exact ib_eql | exact ib_gtr | exact ib_lss | exact ib_neq)); omega)))) (h := ?_)
      | refine ew_skip (h := ?_)
      | refine ew_load (hc := by (first | assumption | (apply cells_row; (focus ((repeat' (first | assumption | (rw [aadd_block]) | (apply gN; (focus (first | exact rfl | omega | (simp only [AHeap.push_next, AHeap.put_next, aadd_block] <;> omega))); (focus exact rfl)) | (apply gO; (focus (first | omega | (simp only [AHeap.push_next, AHeap.put_next, aadd_block, ne_eq] <;> omega)))) | (apply gS; (focus (first | exact rfl | omega | (simp only [AHeap.push_next, AHeap.put_next, aadd_block] <;> omega))); (focus exact rfl)) | (apply gP; (focus (first | omega | (simp only [AHeap.push_next, AHeap.put_next, aadd_block, ne_eq] <;> omega)))) | exact rfl)); done)); (focus exact rfl); (focus exact rfl); (focus (first | exact (rfl : _ = some [_]) | exact (rfl : _ = some [_, _, _])))) | (apply cells_k; (focus assumption); (focus (first | assumption | (simp only [aadd_block] <;> first | assumption | omega))); (focus ((repeat' (first | exact Keep.refl | assumption | (apply Keep.push) | (refine Keep.put ?_ ?_; rotate_left; (focus (intro hlt; first | assumption | omega | (exfalso; simp only [AHeap.push_next, AHeap.put_next, aadd_block] at hlt; omega)))))); done))))) (hv := by exact rfl) (h := ?_)
      | (refine ew_fresh ?_; intro b hb; (first | refine ew_n (hn := (r_alloc hb)) (h := ?_)); (try simp only [AHeap.push_next, AHeap.put_next] at hb))
      | refine ew_e (he := er_store (hc := by (apply setCells_at; (focus ((repeat' (first | assumption | (rw [aadd_block]) | (apply gN; (focus (first | exact rfl | omega | (simp only [AHeap.push_next, AHeap.put_next, aadd_block] <;> omega))); (focus exact rfl)) | (apply gO; (focus (first | omega | (simp only [AHeap.push_next, AHeap.put_next, aadd_block, ne_eq] <;> omega)))) | (apply gS; (focus (first | exact rfl | omega | (simp only [AHeap.push_next, AHeap.put_next, aadd_block] <;> omega))); (focus exact rfl)) | (apply gP; (focus (first | omega | (simp only [AHeap.push_next, AHeap.put_next, aadd_block, ne_eq] <;> omega)))) | exact rfl)); done)); (focus exact rfl); (focus (first | exact Nat.le_of_ble_eq_true rfl | (simp; omega) | (simp; done) | (simp [Value.cells]; omega))); (focus (first | exact rfl | (simp; done))); (focus (first | exact (rfl : _ = [_]) | exact (rfl : _ = [_, _, _]) | exact rfl)); (focus (first | exact aadd_block _ _ | exact rfl))))) (hk := by (first | exact Mode.kept_seq rfl | (dsimp only [Mode.kept, Mode.logged, Mode.at]; (repeat' (first | exact (fun _ h => absurd h List.not_mem_nil) | (refine List.forall_mem_cons.2 ⟨?_, ?_⟩) | (refine .inl ?_; exact rfl) | (refine .inl ?_; dsimp only; decide))); done))) (h := ?_)
      | (refine ew_dec (hn := r_streq) (ht := ?_) (hf := ?_) <;> intro _)
      | (refine ew_dec (hn := (r_bin (hr := by (first | exact ib_eql | exact ib_gtr | exact ib_lss | exact ib_neq)))) (ht := ?_) (hf := ?_) <;> intro _)
      | refine ew_n (hn := r_bin (hr := by (first | (simp (disch := omega) only [intBin, wrap_in, wrap8_in, tdiv_in, tmod_in, if_false, reduceIte]; exact rfl) | (apply ib_rem; omega)))) (h := ?_)
      | (refine w_nil ?_)
      | (refine w_nilD ?_))
    | (show EC _ _ _ _ _ _ _; first | (refine k_seq ?_) | (refine k_region ?_) | (refine k_draw (h := ?_)) | (refine k_skip ?_) | (refine k_ret ?_) | (refine k_exit ?_) | (refine k_block ?_) | (refine k_true (h := ?_)) | (refine k_false (h := ?_)))
    | (show EX _ (bodyA _ _ _) _ _ _; first | (refine x_end1 (hq := ?_)) | (refine x_endc (hc := by (first | assumption | (apply cells_row; (focus ((repeat' (first | assumption | (rw [aadd_block]) | (apply gN; (focus (first | exact rfl | omega | (simp only [AHeap.push_next, AHeap.put_next, aadd_block] <;> omega))); (focus exact rfl)) | (apply gO; (focus (first | omega | (simp only [AHeap.push_next, AHeap.put_next, aadd_block, ne_eq] <;> omega)))) | (apply gS; (focus (first | exact rfl | omega | (simp only [AHeap.push_next, AHeap.put_next, aadd_block] <;> omega))); (focus exact rfl)) | (apply gP; (focus (first | omega | (simp only [AHeap.push_next, AHeap.put_next, aadd_block, ne_eq] <;> omega)))) | exact rfl)); done)); (focus exact rfl); (focus exact rfl); (focus (first | exact (rfl : _ = some [_]) | exact (rfl : _ = some [_, _, _])))) | (apply cells_k; (focus assumption); (focus (first | assumption | (simp only [aadd_block] <;> first | assumption | omega))); (focus ((repeat' (first | exact Keep.refl | assumption | (apply Keep.push) | (refine Keep.put ?_ ?_; rotate_left; (focus (intro hlt; first | assumption | omega | (exfalso; simp only [AHeap.push_next, AHeap.put_next, aadd_block] at hlt; omega)))))); done))))) (hv := by exact rfl) (hq := ?_)))
    | (show EX _ _ _ _ _; first | (refine x_normal ?_) | (refine x_ret ?_) | (refine x_exit ?_) | (refine x_same ?_) | (refine x_other (h := ?_)) | (refine x_bnormal ?_) | (refine x_bret ?_)))
          exact hsend (2 * (ts.length - (i + 1)) + (s - (c + 1))) (i + 1) s (c + 1) _ (by ((repeat' (first | exact Keep.refl | assumption | (apply Keep.push) | (refine Keep.put ?_ ?_; rotate_left; (focus (intro hlt; first | assumption | omega | (exfalso; simp only [AHeap.push_next, AHeap.put_next, aadd_block] at hlt; omega)))))); done)) rfl (by omega) (by omega) (by omega) (by omega) (by omega) (hN3.keep (G := No) (by ((repeat' (first | exact Keep.refl | assumption | (apply Keep.push) | (refine Keep.put ?_ ?_; rotate_left; (focus (intro hlt; first | assumption | omega | (exfalso; simp only [AHeap.push_next, AHeap.put_next, aadd_block] at hlt; omega)))))); done)) fun _ _ _ h => h) (hg3.own hn2 hF) ⟨rfl, rfl, rfl, rfl, rfl, rfl, trivial⟩
        · first
          | (exfalso; omega)
          | (have hfly : flyM ds c (s - c) = [] := by rw [show s - c = 0 by omega]; rfl
             rw [hfly] at hN ⊢
             rintro v H3 (⟨_, rfl, hk3⟩ | ⟨x, bx, hx, _⟩)
             case inr => simp [atI] at hx
             have hkA := hk.after hk3
             have hn3 := hkA.1
             have hN3 := hN.keep0 hk3
             repeat' (first
    | (show EW _ _ _ _ _; first
      | refine ew_n (hn := r_move) (h := ?_)
      | refine ew_n (hn := r_assign) (h := ?_)
      | refine ew_n (hn := r_pick_t) (h := ?_)
      | refine ew_n (hn := r_pick_f) (h := ?_)
      | refine ew_n (hn := r_field) (h := ?_)
      | refine ew_n (hn := r_len) (h := ?_)
      | refine ew_n (hn := r_len_str) (h := ?_)
      | refine ew_n (hn := r_not) (h := ?_)
      | refine ew_n (hn := r_extract) (h := ?_)
      | refine ew_n (hn := (r_index (h0 := by omega) (h1 := by first | omega | (simp; done) | (simp; omega)))) (h := ?_)
      | refine ew_n (hn := r_nil_eq) (h := ?_)
      | refine ew_n (hn := r_beq) (h := ?_)
      | refine ew_n (hn := r_nil_ne) (h := ?_)
      | refine ew_n (hn := r_bne) (h := ?_)
      | refine ew_n (hn := (r_bin (hr := by first | (apply cmp_t; (focus (first | exact ib_eql | exact ib_gtr | exact ib_lss | exact ib_neq)); omega) | (apply cmp_f; (focus (first | exact ib_eql | exact ib_gtr | exact ib_lss | exact ib_neq)); omega)))) (h := ?_)
      | refine ew_skip (h := ?_)
      | refine ew_load (hc := by (first | assumption | (apply cells_row; (focus ((repeat' (first | assumption | (rw [aadd_block]) | (apply gN; (focus (first | exact rfl | omega | (simp only [AHeap.push_next, AHeap.put_next, aadd_block] <;> omega))); (focus exact rfl)) | (apply gO; (focus (first | omega | (simp only [AHeap.push_next, AHeap.put_next, aadd_block, ne_eq] <;> omega)))) | (apply gS; (focus (first | exact rfl | omega | (simp only [AHeap.push_next, AHeap.put_next, aadd_block] <;> omega))); (focus exact rfl)) | (apply gP; (focus (first | omega | (simp only [AHeap.push_next, AHeap.put_next, aadd_block, ne_eq] <;> omega)))) | exact rfl)); done)); (focus exact rfl); (focus exact rfl); (focus (first | exact (rfl : _ = some [_]) | exact (rfl : _ = some [_, _, _])))) | (apply cells_k; (focus assumption); (focus (first | assumption | (simp only [aadd_block] <;> first | assumption | omega))); (focus ((repeat' (first | exact Keep.refl | assumption | (apply Keep.push) | (refine Keep.put ?_ ?_; rotate_left; (focus (intro hlt; first | assumption | omega | (exfalso; simp only [AHeap.push_next, AHeap.put_next, aadd_block] at hlt; omega)))))); done))))) (hv := by exact rfl) (h := ?_)
      | (refine ew_fresh ?_; intro b hb; (first | refine ew_n (hn := (r_alloc hb)) (h := ?_)); (try simp only [AHeap.push_next, AHeap.put_next] at hb))
      | refine ew_e (he := er_store (hc := by (apply setCells_at; (focus ((repeat' (first | assumption | (rw [aadd_block]) | (apply gN; (focus (first | exact rfl | omega | (simp only [AHeap.push_next, AHeap.put_next, aadd_block] <;> omega))); (focus exact rfl)) | (apply gO; (focus (first | omega | (simp only [AHeap.push_next, AHeap.put_next, aadd_block, ne_eq] <;> omega)))) | (apply gS; (focus (first | exact rfl | omega | (simp only [AHeap.push_next, AHeap.put_next, aadd_block] <;> omega))); (focus exact rfl)) | (apply gP; (focus (first | omega | (simp only [AHeap.push_next, AHeap.put_next, aadd_block, ne_eq] <;> omega)))) | exact rfl)); done)); (focus exact rfl); (focus (first | exact Nat.le_of_ble_eq_true rfl | (simp; omega) | (simp; done) | (simp [Value.cells]; omega))); (focus (first | exact rfl | (simp; done))); (focus (first | exact (rfl : _ = [_]) | exact (rfl : _ = [_, _, _]) | exact rfl)); (focus (first | exact aadd_block _ _ | exact rfl))))) (hk := by (first | exact Mode.kept_seq rfl | (dsimp only [Mode.kept, Mode.logged, Mode.at]; (repeat' (first | exact (fun _ h => absurd h List.not_mem_nil) | (refine List.forall_mem_cons.2 ⟨?_, ?_⟩) | (refine .inl ?_; exact rfl) | (refine .inl ?_; dsimp only; decide))); done))) (h := ?_)
      | (refine ew_dec (hn := r_streq) (ht := ?_) (hf := ?_) <;> intro _)
      | (refine ew_dec (hn := (r_bin (hr := by (first | exact ib_eql | exact ib_gtr | exact ib_lss | exact ib_neq)))) (ht := ?_) (hf := ?_) <;> intro _)
      | refine ew_n (hn := r_bin (hr := by (first | (simp (disch := omega) only [intBin, wrap_in, wrap8_in, tdiv_in, tmod_in, if_false, reduceIte]; exact rfl) | (apply ib_rem; omega)))) (h := ?_)
      | (refine w_nil ?_)
      | (refine w_nilD ?_))
    | (show EC _ _ _ _ _ _ _; first | (refine k_seq ?_) | (refine k_region ?_) | (refine k_draw (h := ?_)) | (refine k_skip ?_) | (refine k_ret ?_) | (refine k_exit ?_) | (refine k_block ?_) | (refine k_true (h := ?_)) | (refine k_false (h := ?_)))
    | (show EX _ (bodyA _ _ _) _ _ _; first | (refine x_end1 (hq := ?_)) | (refine x_endc (hc := by (first | assumption | (apply cells_row; (focus ((repeat' (first | assumption | (rw [aadd_block]) | (apply gN; (focus (first | exact rfl | omega | (simp only [AHeap.push_next, AHeap.put_next, aadd_block] <;> omega))); (focus exact rfl)) | (apply gO; (focus (first | omega | (simp only [AHeap.push_next, AHeap.put_next, aadd_block, ne_eq] <;> omega)))) | (apply gS; (focus (first | exact rfl | omega | (simp only [AHeap.push_next, AHeap.put_next, aadd_block] <;> omega))); (focus exact rfl)) | (apply gP; (focus (first | omega | (simp only [AHeap.push_next, AHeap.put_next, aadd_block, ne_eq] <;> omega)))) | exact rfl)); done)); (focus exact rfl); (focus exact rfl); (focus (first | exact (rfl : _ = some [_]) | exact (rfl : _ = some [_, _, _])))) | (apply cells_k; (focus assumption); (focus (first | assumption | (simp only [aadd_block] <;> first | assumption | omega))); (focus ((repeat' (first | exact Keep.refl | assumption | (apply Keep.push) | (refine Keep.put ?_ ?_; rotate_left; (focus (intro hlt; first | assumption | omega | (exfalso; simp only [AHeap.push_next, AHeap.put_next, aadd_block] at hlt; omega)))))); done))))) (hv := by exact rfl) (hq := ?_)))
    | (show EX _ _ _ _ _; first | (refine x_normal ?_) | (refine x_ret ?_) | (refine x_exit ?_) | (refine x_same ?_) | (refine x_other (h := ?_)) | (refine x_bnormal ?_) | (refine x_bret ?_)))
             exact hsend (2 * (ts.length - (i + 1)) + (s - c)) (i + 1) s c _ (by ((repeat' (first | exact Keep.refl | assumption | (apply Keep.push) | (refine Keep.put ?_ ?_; rotate_left; (focus (intro hlt; first | assumption | omega | (exfalso; simp only [AHeap.push_next, AHeap.put_next, aadd_block] at hlt; omega)))))); done)) rfl (by omega) (by omega) (by omega) (by omega) (by omega) (by rw [hfly]; exact hN3.keep0 (by ((repeat' (first | exact Keep.refl | assumption | (apply Keep.push) | (refine Keep.put ?_ ?_; rotate_left; (focus (intro hlt; first | assumption | omega | (exfalso; simp only [AHeap.push_next, AHeap.put_next, aadd_block] at hlt; omega)))))); done))) hF ⟨rfl, rfl, rfl, rfl, rfl, rfl, trivial⟩))
  · -- the end
    have hfly : flyM ds c (s - c) = [] := by rw [show s - c = 0 by omega]; rfl
    rw [hfly] at hN
    repeat' (first
    | (show EW _ _ _ _ _; first
      | refine ew_n (hn := r_move) (h := ?_)
      | refine ew_n (hn := r_assign) (h := ?_)
      | refine ew_n (hn := r_pick_t) (h := ?_)
      | refine ew_n (hn := r_pick_f) (h := ?_)
      | refine ew_n (hn := r_field) (h := ?_)
      | refine ew_n (hn := r_len) (h := ?_)
      | refine ew_n (hn := r_len_str) (h := ?_)
      | refine ew_n (hn := r_not) (h := ?_)
      | refine ew_n (hn := r_extract) (h := ?_)
      | refine ew_n (hn := (r_index (h0 := by omega) (h1 := by first | omega | (simp; done) | (simp; omega)))) (h := ?_)
      | refine ew_n (hn := r_nil_eq) (h := ?_)
      | refine ew_n (hn := r_beq) (h := ?_)
      | refine ew_n (hn := r_nil_ne) (h := ?_)
      | refine ew_n (hn := r_bne) (h := ?_)
      | refine ew_n (hn := (r_bin (hr := by first | (apply cmp_t; (focus (first | exact ib_eql | exact ib_gtr | exact ib_lss | exact ib_neq)); omega) | (apply cmp_f; (focus (first | exact ib_eql | exact ib_gtr | exact ib_lss | exact ib_neq)); omega)))) (h := ?_)
      | refine ew_skip (h := ?_)
      | refine ew_load (hc := by (first | assumption | (apply cells_row; (focus ((repeat' (first | assumption | (rw [aadd_block]) | (apply gN; (focus (first | exact rfl | omega | (simp only [AHeap.push_next, AHeap.put_next, aadd_block] <;> omega))); (focus exact rfl)) | (apply gO; (focus (first | omega | (simp only [AHeap.push_next, AHeap.put_next, aadd_block, ne_eq] <;> omega)))) | (apply gS; (focus (first | exact rfl | omega | (simp only [AHeap.push_next, AHeap.put_next, aadd_block] <;> omega))); (focus exact rfl)) | (apply gP; (focus (first | omega | (simp only [AHeap.push_next, AHeap.put_next, aadd_block, ne_eq] <;> omega)))) | exact rfl)); done)); (focus exact rfl); (focus exact rfl); (focus (first | exact (rfl : _ = some [_]) | exact (rfl : _ = some [_, _, _])))) | (apply cells_k; (focus assumption); (focus (first | assumption | (simp only [aadd_block] <;> first | assumption | omega))); (focus ((repeat' (first | exact Keep.refl | assumption | (apply Keep.push) | (refine Keep.put ?_ ?_; rotate_left; (focus (intro hlt; first | assumption | omega | (exfalso; simp only [AHeap.push_next, AHeap.put_next, aadd_block] at hlt; omega)))))); done))))) (hv := by exact rfl) (h := ?_)
      | (refine ew_fresh ?_; intro b hb; (first | refine ew_n (hn := (r_alloc hb)) (h := ?_)); (try simp only [AHeap.push_next, AHeap.put_next] at hb))
      | refine ew_e (he := er_store (hc := by (apply setCells_at; (focus ((repeat' (first | assumption | (rw [aadd_block]) | (apply gN; (focus (first | exact rfl | omega | (simp only [AHeap.push_next, AHeap.put_next, aadd_block] <;> omega))); (focus exact rfl)) | (apply gO; (focus (first | omega | (simp only [AHeap.push_next, AHeap.put_next, aadd_block, ne_eq] <;> omega)))) | (apply gS; (focus (first | exact rfl | omega | (simp only [AHeap.push_next, AHeap.put_next, aadd_block] <;> omega))); (focus exact rfl)) | (apply gP; (focus (first | omega | (simp only [AHeap.push_next, AHeap.put_next, aadd_block, ne_eq] <;> omega)))) | exact rfl)); done)); (focus exact rfl); (focus (first | exact Nat.le_of_ble_eq_true rfl | (simp; omega) | (simp; done) | (simp [Value.cells]; omega))); (focus (first | exact rfl | (simp; done))); (focus (first | exact (rfl : _ = [_]) | exact (rfl : _ = [_, _, _]) | exact rfl)); (focus (first | exact aadd_block _ _ | exact rfl))))) (hk := by (first | exact Mode.kept_seq rfl | (dsimp only [Mode.kept, Mode.logged, Mode.at]; (repeat' (first | exact (fun _ h => absurd h List.not_mem_nil) | (refine List.forall_mem_cons.2 ⟨?_, ?_⟩) | (refine .inl ?_; exact rfl) | (refine .inl ?_; dsimp only; decide))); done))) (h := ?_)
      | (refine ew_dec (hn := r_streq) (ht := ?_) (hf := ?_) <;> intro _)
      | (refine ew_dec (hn := (r_bin (hr := by (first | exact ib_eql | exact ib_gtr | exact ib_lss | exact ib_neq)))) (ht := ?_) (hf := ?_) <;> intro _)
      | refine ew_n (hn := r_bin (hr := by (first | (simp (disch := omega) only [intBin, wrap_in, wrap8_in, tdiv_in, tmod_in, if_false, reduceIte]; exact rfl) | (apply ib_rem; omega)))) (h := ?_)
      | (refine w_nil ?_)
      | (refine w_nilD ?_))
    | (show EC _ _ _ _ _ _ _; first | (refine k_seq ?_) | (refine k_region ?_) | (refine k_draw (h := ?_)) | (refine k_skip ?_) | (refine k_ret ?_) | (refine k_exit ?_) | (refine k_block ?_) | (refine k_true (h := ?_)) | (refine k_false (h := ?_)))
    | (show EX _ (bodyA _ _ _) _ _ _; first | (refine x_end1 (hq := ?_)) | (refine x_endc (hc := by (first | assumption | (apply cells_row; (focus ((repeat' (first | assumption | (rw [aadd_block]) | (apply gN; (focus (first | exact rfl | omega | (simp only [AHeap.push_next, AHeap.put_next, aadd_block] <;> omega))); (focus exact rfl)) | (apply gO; (focus (first | omega | (simp only [AHeap.push_next, AHeap.put_next, aadd_block, ne_eq] <;> omega)))) | (apply gS; (focus (first | exact rfl | omega | (simp only [AHeap.push_next, AHeap.put_next, aadd_block] <;> omega))); (focus exact rfl)) | (apply gP; (focus (first | omega | (simp only [AHeap.push_next, AHeap.put_next, aadd_block, ne_eq] <;> omega)))) | exact rfl)); done)); (focus exact rfl); (focus exact rfl); (focus (first | exact (rfl : _ = some [_]) | exact (rfl : _ = some [_, _, _])))) | (apply cells_k; (focus assumption); (focus (first | assumption | (simp only [aadd_block] <;> first | assumption | omega))); (focus ((repeat' (first | exact Keep.refl | assumption | (apply Keep.push) | (refine Keep.put ?_ ?_; rotate_left; (focus (intro hlt; first | assumption | omega | (exfalso; simp only [AHeap.push_next, AHeap.put_next, aadd_block] at hlt; omega)))))); done))))) (hv := by exact rfl) (hq := ?_)))
    | (show EX _ _ _ _ _; first | (refine x_normal ?_) | (refine x_ret ?_) | (refine x_exit ?_) | (refine x_same ?_) | (refine x_other (h := ?_)) | (refine x_bnormal ?_) | (refine x_bret ?_)))
    (first | (refine' ew_callS (hc := cr_call) (hR := ?_) (h := ?_); rotate_left 1) | (refine' ew_call (hc := cr_call) (hR := ?_) (h := ?_); rotate_left 1))
    · exact deliverM 0 hN
    rintro v H3 (⟨_, rfl, hk3⟩ | ⟨x, bx, hx, _⟩)
    case inr => simp [atI] at hx
    have hN3 := hN.keep0 hk3
    repeat' (first
    | (show EW _ _ _ _ _; first
      | refine ew_n (hn := r_move) (h := ?_)
      | refine ew_n (hn := r_assign) (h := ?_)
      | refine ew_n (hn := r_pick_t) (h := ?_)
      | refine ew_n (hn := r_pick_f) (h := ?_)
      | refine ew_n (hn := r_field) (h := ?_)
      | refine ew_n (hn := r_len) (h := ?_)
      | refine ew_n (hn := r_len_str) (h := ?_)
      | refine ew_n (hn := r_not) (h := ?_)
      | refine ew_n (hn := r_extract) (h := ?_)
      | refine ew_n (hn := (r_index (h0 := by omega) (h1 := by first | omega | (simp; done) | (simp; omega)))) (h := ?_)
      | refine ew_n (hn := r_nil_eq) (h := ?_)
      | refine ew_n (hn := r_beq) (h := ?_)
      | refine ew_n (hn := r_nil_ne) (h := ?_)
      | refine ew_n (hn := r_bne) (h := ?_)
      | refine ew_n (hn := (r_bin (hr := by first | (apply cmp_t; (focus (first | exact ib_eql | exact ib_gtr | exact ib_lss | exact ib_neq)); omega) | (apply cmp_f; (focus (first | exact ib_eql | exact ib_gtr | exact ib_lss | exact ib_neq)); omega)))) (h := ?_)
      | refine ew_skip (h := ?_)
      | refine ew_load (hc := by (first | assumption | (apply cells_row; (focus ((repeat' (first | assumption | (rw [aadd_block]) | (apply gN; (focus (first | exact rfl | omega | (simp only [AHeap.push_next, AHeap.put_next, aadd_block] <;> omega))); (focus exact rfl)) | (apply gO; (focus (first | omega | (simp only [AHeap.push_next, AHeap.put_next, aadd_block, ne_eq] <;> omega)))) | (apply gS; (focus (first | exact rfl | omega | (simp only [AHeap.push_next, AHeap.put_next, aadd_block] <;> omega))); (focus exact rfl)) | (apply gP; (focus (first | omega | (simp only [AHeap.push_next, AHeap.put_next, aadd_block, ne_eq] <;> omega)))) | exact rfl)); done)); (focus exact rfl); (focus exact rfl); (focus (first | exact (rfl : _ = some [_]) | exact (rfl : _ = some [_, _, _])))) | (apply cells_k; (focus assumption); (focus (first | assumption | (simp only [aadd_block] <;> first | assumption | omega))); (focus ((repeat' (first | exact Keep.refl | assumption | (apply Keep.push) | (refine Keep.put ?_ ?_; rotate_left; (focus (intro hlt; first | assumption | omega | (exfalso; simp only [AHeap.push_next, AHeap.put_next, aadd_block] at hlt; omega)))))); done))))) (hv := by exact rfl) (h := ?_)
      | (refine ew_fresh ?_; intro b hb; (first | refine ew_n (hn := (r_alloc hb)) (h := ?_)); (try simp only [AHeap.push_next, AHeap.put_next] at hb))
      | refine ew_e (he := er_store (hc := by (apply setCells_at; (focus ((repeat' (first | assumption | (rw [aadd_block]) | (apply gN; (focus (first | exact rfl | omega | (simp only [AHeap.push_next, AHeap.put_next, aadd_block] <;> omega))); (focus exact rfl)) | (apply gO; (focus (first | omega | (simp only [AHeap.push_next, AHeap.put_next, aadd_block, ne_eq] <;> omega)))) | (apply gS; (focus (first | exact rfl | omega | (simp only [AHeap.push_next, AHeap.put_next, aadd_block] <;> omega))); (focus exact rfl)) | (apply gP; (focus (first | omega | (simp only [AHeap.push_next, AHeap.put_next, aadd_block, ne_eq] <;> omega)))) | exact rfl)); done)); (focus exact rfl); (focus (first | exact Nat.le_of_ble_eq_true rfl | (simp; omega) | (simp; done) | (simp [Value.cells]; omega))); (focus (first | exact rfl | (simp; done))); (focus (first | exact (rfl : _ = [_]) | exact (rfl : _ = [_, _, _]) | exact rfl)); (focus (first | exact aadd_block _ _ | exact rfl))))) (hk := by (first | exact Mode.kept_seq rfl | (dsimp only [Mode.kept, Mode.logged, Mode.at]; (repeat' (first | exact (fun _ h => absurd h List.not_mem_nil) | (refine List.forall_mem_cons.2 ⟨?_, ?_⟩) | (refine .inl ?_; exact rfl) | (refine .inl ?_; dsimp only; decide))); done))) (h := ?_)
      | (refine ew_dec (hn := r_streq) (ht := ?_) (hf := ?_) <;> intro _)
      | (refine ew_dec (hn := (r_bin (hr := by (first | exact ib_eql | exact ib_gtr | exact ib_lss | exact ib_neq)))) (ht := ?_) (hf := ?_) <;> intro _)
      | refine ew_n (hn := r_bin (hr := by (first | (simp (disch := omega) only [intBin, wrap_in, wrap8_in, tdiv_in, tmod_in, if_false, reduceIte]; exact rfl) | (apply ib_rem; omega)))) (h := ?_)
      | (refine w_nil ?_)
      | (refine w_nilD ?_))
    | (show EC _ _ _ _ _ _ _; first | (refine k_seq ?_) | (refine k_region ?_) | (refine k_draw (h := ?_)) | (refine k_skip ?_) | (refine k_ret ?_) | (refine k_exit ?_) | (refine k_block ?_) | (refine k_true (h := ?_)) | (refine k_false (h := ?_)))
    | (show EX _ (bodyA _ _ _) _ _ _; first | (refine x_end1 (hq := ?_)) | (refine x_endc (hc := by (first | assumption | (apply cells_row; (focus ((repeat' (first | assumption | (rw [aadd_block]) | (apply gN; (focus (first | exact rfl | omega | (simp only [AHeap.push_next, AHeap.put_next, aadd_block] <;> omega))); (focus exact rfl)) | (apply gO; (focus (first | omega | (simp only [AHeap.push_next, AHeap.put_next, aadd_block, ne_eq] <;> omega)))) | (apply gS; (focus (first | exact rfl | omega | (simp only [AHeap.push_next, AHeap.put_next, aadd_block] <;> omega))); (focus exact rfl)) | (apply gP; (focus (first | omega | (simp only [AHeap.push_next, AHeap.put_next, aadd_block, ne_eq] <;> omega)))) | exact rfl)); done)); (focus exact rfl); (focus exact rfl); (focus (first | exact (rfl : _ = some [_]) | exact (rfl : _ = some [_, _, _])))) | (apply cells_k; (focus assumption); (focus (first | assumption | (simp only [aadd_block] <;> first | assumption | omega))); (focus ((repeat' (first | exact Keep.refl | assumption | (apply Keep.push) | (refine Keep.put ?_ ?_; rotate_left; (focus (intro hlt; first | assumption | omega | (exfalso; simp only [AHeap.push_next, AHeap.put_next, aadd_block] at hlt; omega)))))); done))))) (hv := by exact rfl) (hq := ?_)))
    | (show EX _ _ _ _ _; first | (refine x_normal ?_) | (refine x_ret ?_) | (refine x_exit ?_) | (refine x_same ?_) | (refine x_other (h := ?_)) | (refine x_bnormal ?_) | (refine x_bret ?_)))
    (first | (refine' ew_callS (hc := cr_call) (hR := ?_) (h := ?_); rotate_left 1) | (refine' ew_call (hc := cr_call) (hR := ?_) (h := ?_); rotate_left 1))
    · exact listM (hN3.keep0 (by ((repeat' (first | exact Keep.refl | assumption | (apply Keep.push) | (refine Keep.put ?_ ?_; rotate_left; (focus (intro hlt; first | assumption | omega | (exfalso; simp only [AHeap.push_next, AHeap.put_next, aadd_block] at hlt; omega)))))); done)))
    rintro v H4 ⟨hk4, L4, hL4, hm4⟩
    obtain ⟨z4, c4, rfl⟩ := hL4.fli.rd.slice
    have hl4 : L4.length = 0 := by have := congrArg List.length hm4; simpa using this
    repeat' (first
    | (show EW _ _ _ _ _; first
      | refine ew_n (hn := r_move) (h := ?_)
      | refine ew_n (hn := r_assign) (h := ?_)
      | refine ew_n (hn := r_pick_t) (h := ?_)
      | refine ew_n (hn := r_pick_f) (h := ?_)
      | refine ew_n (hn := r_field) (h := ?_)
      | refine ew_n (hn := r_len) (h := ?_)
      | refine ew_n (hn := r_len_str) (h := ?_)
      | refine ew_n (hn := r_not) (h := ?_)
      | refine ew_n (hn := r_extract) (h := ?_)
      | refine ew_n (hn := (r_index (h0 := by omega) (h1 := by first | omega | (simp; done) | (simp; omega)))) (h := ?_)
      | refine ew_n (hn := r_nil_eq) (h := ?_)
      | refine ew_n (hn := r_beq) (h := ?_)
      | refine ew_n (hn := r_nil_ne) (h := ?_)
      | refine ew_n (hn := r_bne) (h := ?_)
      | refine ew_n (hn := (r_bin (hr := by first | (apply cmp_t; (focus (first | exact ib_eql | exact ib_gtr | exact ib_lss | exact ib_neq)); omega) | (apply cmp_f; (focus (first | exact ib_eql | exact ib_gtr | exact ib_lss | exact ib_neq)); omega)))) (h := ?_)
      | refine ew_skip (h := ?_)
      | refine ew_load (hc := by (first | assumption | (apply cells_row; (focus ((repeat' (first | assumption | (rw [aadd_block]) | (apply gN; (focus (first | exact rfl | omega | (simp only [AHeap.push_next, AHeap.put_next, aadd_block] <;> omega))); (focus exact rfl)) | (apply gO; (focus (first | omega | (simp only [AHeap.push_next, AHeap.put_next, aadd_block, ne_eq] <;> omega)))) | (apply gS; (focus (first | exact rfl | omega | (simp only [AHeap.push_next, AHeap.put_next, aadd_block] <;> omega))); (focus exact rfl)) | (apply gP; (focus (first | omega | (simp only [AHeap.push_next, AHeap.put_next, aadd_block, ne_eq] <;> omega)))) | exact rfl)); done)); (focus exact rfl); (focus exact rfl); (focus (first | exact (rfl : _ = some [_]) | exact (rfl : _ = some [_, _, _])))) | (apply cells_k; (focus assumption); (focus (first | assumption | (simp only [aadd_block] <;> first | assumption | omega))); (focus ((repeat' (first | exact Keep.refl | assumption | (apply Keep.push) | (refine Keep.put ?_ ?_; rotate_left; (focus (intro hlt; first | assumption | omega | (exfalso; simp only [AHeap.push_next, AHeap.put_next, aadd_block] at hlt; omega)))))); done))))) (hv := by exact rfl) (h := ?_)
      | (refine ew_fresh ?_; intro b hb; (first | refine ew_n (hn := (r_alloc hb)) (h := ?_)); (try simp only [AHeap.push_next, AHeap.put_next] at hb))
      | refine ew_e (he := er_store (hc := by (apply setCells_at; (focus ((repeat' (first | assumption | (rw [aadd_block]) | (apply gN; (focus (first | exact rfl | omega | (simp only [AHeap.push_next, AHeap.put_next, aadd_block] <;> omega))); (focus exact rfl)) | (apply gO; (focus (first | omega | (simp only [AHeap.push_next, AHeap.put_next, aadd_block, ne_eq] <;> omega)))) | (apply gS; (focus (first | exact rfl | omega | (simp only [AHeap.push_next, AHeap.put_next, aadd_block] <;> omega))); (focus exact rfl)) | (apply gP; (focus (first | omega | (simp only [AHeap.push_next, AHeap.put_next, aadd_block, ne_eq] <;> omega)))) | exact rfl)); done)); (focus exact rfl); (focus (first | exact Nat.le_of_ble_eq_true rfl | (simp; omega) | (simp; done) | (simp [Value.cells]; omega))); (focus (first | exact rfl | (simp; done))); (focus (first | exact (rfl : _ = [_]) | exact (rfl : _ = [_, _, _]) | exact rfl)); (focus (first | exact aadd_block _ _ | exact rfl))))) (hk := by (first | exact Mode.kept_seq rfl | (dsimp only [Mode.kept, Mode.logged, Mode.at]; (repeat' (first | exact (fun _ h => absurd h List.not_mem_nil) | (refine List.forall_mem_cons.2 ⟨?_, ?_⟩) | (refine .inl ?_; exact rfl) | (refine .inl ?_; dsimp only; decide))); done))) (h := ?_)
      | (refine ew_dec (hn := r_streq) (ht := ?_) (hf := ?_) <;> intro _)
      | (refine ew_dec (hn := (r_bin (hr := by (first | exact ib_eql | exact ib_gtr | exact ib_lss | exact ib_neq)))) (ht := ?_) (hf := ?_) <;> intro _)
      | refine ew_n (hn := r_bin (hr := by (first | (simp (disch := omega) only [intBin, wrap_in, wrap8_in, tdiv_in, tmod_in, if_false, reduceIte]; exact rfl) | (apply ib_rem; omega)))) (h := ?_)
      | (refine w_nil ?_)
      | (refine w_nilD ?_))
    | (show EC _ _ _ _ _ _ _; first | (refine k_seq ?_) | (refine k_region ?_) | (refine k_draw (h := ?_)) | (refine k_skip ?_) | (refine k_ret ?_) | (refine k_exit ?_) | (refine k_block ?_) | (refine k_true (h := ?_)) | (refine k_false (h := ?_)))
    | (show EX _ (bodyA _ _ _) _ _ _; first | (refine x_end1 (hq := ?_)) | (refine x_endc (hc := by (first | assumption | (apply cells_row; (focus ((repeat' (first | assumption | (rw [aadd_block]) | (apply gN; (focus (first | exact rfl | omega | (simp only [AHeap.push_next, AHeap.put_next, aadd_block] <;> omega))); (focus exact rfl)) | (apply gO; (focus (first | omega | (simp only [AHeap.push_next, AHeap.put_next, aadd_block, ne_eq] <;> omega)))) | (apply gS; (focus (first | exact rfl | omega | (simp only [AHeap.push_next, AHeap.put_next, aadd_block] <;> omega))); (focus exact rfl)) | (apply gP; (focus (first | omega | (simp only [AHeap.push_next, AHeap.put_next, aadd_block, ne_eq] <;> omega)))) | exact rfl)); done)); (focus exact rfl); (focus exact rfl); (focus (first | exact (rfl : _ = some [_]) | exact (rfl : _ = some [_, _, _])))) | (apply cells_k; (focus assumption); (focus (first | assumption | (simp only [aadd_block] <;> first | assumption | omega))); (focus ((repeat' (first | exact Keep.refl | assumption | (apply Keep.push) | (refine Keep.put ?_ ?_; rotate_left; (focus (intro hlt; first | assumption | omega | (exfalso; simp only [AHeap.push_next, AHeap.put_next, aadd_block] at hlt; omega)))))); done))))) (hv := by exact rfl) (hq := ?_)))
    | (show EX _ _ _ _ _; first | (refine x_normal ?_) | (refine x_ret ?_) | (refine x_exit ?_) | (refine x_same ?_) | (refine x_other (h := ?_)) | (refine x_bnormal ?_) | (refine x_bret ?_)))
    rfl

end Go.Ae

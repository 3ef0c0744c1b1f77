/- The law EtherFull over the abstract heap. No condition. -/
import Derived.Test.YtfhpgikgjheobaaEtH
set_option linter.unusedSimpArgs false
set_option linter.unusedVariables false
set_option maxRecDepth 100000
set_option maxHeartbeats 400000
namespace Go.Ae
open Go.Proofs
attribute [local irreducible] awC wpSeq wpS nRes aw aE acall ACalls szT isAggT zeroT byT elemSz fieldOff Program.underlying appendA copyA thenA inBlockA bodyA AHeap.push AHeap.put AHeap.cellsAt AHeap.setCells resV loadA intBin EW EC EX Nr Nc Er Cr Agree

def tbl8 : Tbl := []

def FullI (H0 : AHeap) (c o : Int) (e : Nat) (n : Nat) (E : Env) (H : AHeap) : Prop :=
  Keep No H0 H ∧ ∃ (i : Nat) (F : Blks) (M : List Msg), n + i = 256 ∧ E = [(5, .pointer (some ⟨e, 0, none⟩)), (7, .int .i64 c), (8, .int .i64 i), (1, .int .i64 o)] ∧ NetM H F e 2 M ∧ M.length = i ∧ (∀ b, F b → H0.next ≤ b)

theorem Keep.own {F : Blks} {H H1 H2 : AHeap} (h : Keep No H H1) (h' : Keep F H1 H2) (hF : ∀ b, F b → H.next ≤ b) : Keep No H H2 := h.trans h' fun i hi hf => by have := hF i hf; omega
theorem Grow.own {F F' : Blks} {H H1 : AHeap} (h : Grow F F' H1) (hle : H.next ≤ H1.next) (hF : ∀ b, F b → H.next ≤ b) : ∀ b, F' b → H.next ≤ b := fun b hb => (h b hb).elim (hF b) fun h => Nat.le_trans hle h
theorem byte_row (i : Nat) (h : i < 256) : [Value.int .u8 (IntKind.u8.wrap (i : Int))] = bytesV [UInt8.ofNat i] := by
  simp only [bytesV, List.map_cons, List.map_nil]
  rw [wrap8_in _ (by omega) (by omega)]
  have : (UInt8.ofNat i).toNat = i := by simp; omega
  rw [this]

theorem full_calls (c o : Int) (H : AHeap) : ACalls Try.prog 8 #[.int .i64 c, .int .i64 o] H fun v H' => v = .bool true ∧ Keep No H H' := by
  refine k_open (args := [.int .i64 c, .int .i64 o]) (E0 := [(0, .int .i64 c), (1, .int .i64 o)]) tbl8 Try.func8 rfl follows (by kernel_rfl) Try.ntmps8 rfl rfl ?_
  repeat' (first
    | (show EW _ _ _ _ _; first
      | refine ew_n (hn := r_move) (h := ?_)
      | refine ew_n (hn := r_assign) (h := ?_)
      | refine ew_n (hn := r_pick_t) (h := ?_)
      | refine ew_n (hn := r_pick_f) (h := ?_)
      | refine ew_n (hn := r_field) (h := ?_)
      | refine ew_n (hn := r_len) (h := ?_)
      | refine ew_n (hn := r_len_str) (h := ?_)
      | refine ew_n (hn := r_not) (h := ?_)
      | refine ew_n (hn := r_extract) (h := ?_)
      | refine ew_n (hn := (r_index (h0 := by omega) (h1 := by first | omega | (simp; done) | (simp; omega)))) (h := ?_)
      | refine ew_n (hn := r_nil_eq) (h := ?_)
      | refine ew_n (hn := r_beq) (h := ?_)
      | refine ew_n (hn := r_nil_ne) (h := ?_)
      | refine ew_n (hn := r_bne) (h := ?_)
      | refine ew_n (hn := (r_bin (hr := by first | (apply cmp_t; (focus (first | exact ib_eql | exact ib_gtr | exact ib_leq | exact ib_lss | exact ib_neq)); omega) | (apply cmp_f; (focus (first | exact ib_eql | exact ib_gtr | exact ib_leq | exact ib_lss | exact ib_neq)); omega)))) (h := ?_)
      | refine ew_skip (h := ?_)
      | refine ew_load (hc := by (first | assumption | (apply cells_row; (focus ((repeat' (first | assumption | (rw [aadd_block]) | (apply gN; (focus (first | exact rfl | omega | (simp only [AHeap.push_next, AHeap.put_next, aadd_block] <;> omega))); (focus exact rfl)) | (apply gO; (focus (first | omega | (simp only [AHeap.push_next, AHeap.put_next, aadd_block, ne_eq] <;> omega)))) | (apply gS; (focus (first | exact rfl | omega | (simp only [AHeap.push_next, AHeap.put_next, aadd_block] <;> omega))); (focus exact rfl)) | (apply gP; (focus (first | omega | (simp only [AHeap.push_next, AHeap.put_next, aadd_block, ne_eq] <;> omega)))) | exact rfl)); done)); (focus exact rfl); (focus exact rfl); (focus (first | exact (rfl : _ = some [_]) | exact (rfl : _ = some [_, _, _])))) | (apply cells_k; (focus assumption); (focus (first | assumption | (simp only [aadd_block] <;> first | assumption | omega))); (focus ((repeat' (first | exact Keep.refl | assumption | (apply Keep.push) | (refine Keep.put ?_ ?_; rotate_left; (focus (intro hlt; first | assumption | omega | (exfalso; simp only [AHeap.push_next, AHeap.put_next, aadd_block] at hlt; omega)))))); done))))) (hv := by exact rfl) (h := ?_)
      | refine ew_conv (hn := r_conv_int) (h := ?_)
      | refine ew_conv (hn := r_conv_br (h := by first | assumption | (apply Rd.keep0; (focus assumption); ((repeat' (first | exact Keep.refl | assumption | (apply Keep.push) | (refine Keep.put ?_ ?_; rotate_left; (focus (intro hlt; first | assumption | omega | (exfalso; simp only [AHeap.push_next, AHeap.put_next, aadd_block] at hlt; omega)))))); done)))) (h := ?_)
      | (refine ew_fresh ?_; intro b hb; (first | refine ew_n (hn := (r_alloc hb)) (h := ?_) | refine ew_n (hn := (r_buildSlice hb [])) (h := ?_) | refine ew_n (hn := (r_buildSlice hb [_])) (h := ?_) | refine ew_n (hn := (r_buildSlice hb [_, _, _])) (h := ?_)); (try simp only [AHeap.push_next, AHeap.put_next] at hb))
      | refine ew_e (he := er_store (hc := by (apply setCells_at; (focus ((repeat' (first | assumption | (rw [aadd_block]) | (apply gN; (focus (first | exact rfl | omega | (simp only [AHeap.push_next, AHeap.put_next, aadd_block] <;> omega))); (focus exact rfl)) | (apply gO; (focus (first | omega | (simp only [AHeap.push_next, AHeap.put_next, aadd_block, ne_eq] <;> omega)))) | (apply gS; (focus (first | exact rfl | omega | (simp only [AHeap.push_next, AHeap.put_next, aadd_block] <;> omega))); (focus exact rfl)) | (apply gP; (focus (first | omega | (simp only [AHeap.push_next, AHeap.put_next, aadd_block, ne_eq] <;> omega)))) | exact rfl)); done)); (focus exact rfl); (focus (first | exact Nat.le_of_ble_eq_true rfl | (simp; omega) | (simp; done) | (simp [Value.cells]; omega))); (focus (first | exact rfl | (simp; done))); (focus (first | exact (rfl : _ = [_]) | exact (rfl : _ = [_, _, _]) | exact rfl)); (focus (first | exact aadd_block _ _ | exact rfl))))) (hk := by (first | exact Mode.kept_seq rfl | (dsimp only [Mode.kept, Mode.logged, Mode.at]; (repeat' (first | exact (fun _ h => absurd h List.not_mem_nil) | (refine List.forall_mem_cons.2 ⟨?_, ?_⟩) | (refine .inl ?_; exact rfl) | (refine .inl ?_; dsimp only; decide))); done))) (h := ?_)
      | (refine ew_dec (hn := r_streq) (ht := ?_) (hf := ?_) <;> intro _)
      | (refine ew_dec (hn := (r_bin (hr := by (first | exact ib_eql | exact ib_gtr | exact ib_leq | exact ib_lss | exact ib_neq)))) (ht := ?_) (hf := ?_) <;> intro _)
      | refine ew_n (hn := r_bin (hr := by (first | (simp (disch := omega) only [intBin, wrap_in, wrap8_in, tdiv_in, tmod_in, if_false, reduceIte]; exact rfl) | (apply ib_rem; omega)))) (h := ?_)
      | (refine w_nil ?_))
    | (show EC _ _ _ _ _ _ _; first | (refine k_seq ?_) | (refine k_region ?_) | (refine k_skip ?_) | (refine k_ret ?_) | (refine k_exit ?_) | (refine k_block ?_) | (refine k_true (h := ?_)) | (refine k_false (h := ?_)))
    | (show EX _ (bodyA _ _ _) _ _ _; first | (refine x_end1 (hq := ?_)) | (refine x_endc (hc := by (first | assumption | (apply cells_row; (focus ((repeat' (first | assumption | (rw [aadd_block]) | (apply gN; (focus (first | exact rfl | omega | (simp only [AHeap.push_next, AHeap.put_next, aadd_block] <;> omega))); (focus exact rfl)) | (apply gO; (focus (first | omega | (simp only [AHeap.push_next, AHeap.put_next, aadd_block, ne_eq] <;> omega)))) | (apply gS; (focus (first | exact rfl | omega | (simp only [AHeap.push_next, AHeap.put_next, aadd_block] <;> omega))); (focus exact rfl)) | (apply gP; (focus (first | omega | (simp only [AHeap.push_next, AHeap.put_next, aadd_block, ne_eq] <;> omega)))) | exact rfl)); done)); (focus exact rfl); (focus exact rfl); (focus (first | exact (rfl : _ = some [_]) | exact (rfl : _ = some [_, _, _])))) | (apply cells_k; (focus assumption); (focus (first | assumption | (simp only [aadd_block] <;> first | assumption | omega))); (focus ((repeat' (first | exact Keep.refl | assumption | (apply Keep.push) | (refine Keep.put ?_ ?_; rotate_left; (focus (intro hlt; first | assumption | omega | (exfalso; simp only [AHeap.push_next, AHeap.put_next, aadd_block] at hlt; omega)))))); done))))) (hv := by exact rfl) (hq := ?_)))
    | (show EX _ _ _ _ _; first | (refine x_normal ?_) | (refine x_ret ?_) | (refine x_exit ?_) | (refine x_same ?_) | (refine x_other (h := ?_)) | (refine x_bnormal ?_) | (refine x_bret ?_)))
  (first | (refine' ew_callS (hc := cr_call) (hR := ?_) (h := ?_); rotate_left 1) | (refine' ew_call (hc := cr_call) (hR := ?_) (h := ?_); rotate_left 1))
  · exact works_calls _
  rintro _ H1 ⟨rfl, hk1⟩
  repeat' (first
    | (show EW _ _ _ _ _; first
      | refine ew_n (hn := r_move) (h := ?_)
      | refine ew_n (hn := r_assign) (h := ?_)
      | refine ew_n (hn := r_pick_t) (h := ?_)
      | refine ew_n (hn := r_pick_f) (h := ?_)
      | refine ew_n (hn := r_field) (h := ?_)
      | refine ew_n (hn := r_len) (h := ?_)
      | refine ew_n (hn := r_len_str) (h := ?_)
      | refine ew_n (hn := r_not) (h := ?_)
      | refine ew_n (hn := r_extract) (h := ?_)
      | refine ew_n (hn := (r_index (h0 := by omega) (h1 := by first | omega | (simp; done) | (simp; omega)))) (h := ?_)
      | refine ew_n (hn := r_nil_eq) (h := ?_)
      | refine ew_n (hn := r_beq) (h := ?_)
      | refine ew_n (hn := r_nil_ne) (h := ?_)
      | refine ew_n (hn := r_bne) (h := ?_)
      | refine ew_n (hn := (r_bin (hr := by first | (apply cmp_t; (focus (first | exact ib_eql | exact ib_gtr | exact ib_leq | exact ib_lss | exact ib_neq)); omega) | (apply cmp_f; (focus (first | exact ib_eql | exact ib_gtr | exact ib_leq | exact ib_lss | exact ib_neq)); omega)))) (h := ?_)
      | refine ew_skip (h := ?_)
      | refine ew_load (hc := by (first | assumption | (apply cells_row; (focus ((repeat' (first | assumption | (rw [aadd_block]) | (apply gN; (focus (first | exact rfl | omega | (simp only [AHeap.push_next, AHeap.put_next, aadd_block] <;> omega))); (focus exact rfl)) | (apply gO; (focus (first | omega | (simp only [AHeap.push_next, AHeap.put_next, aadd_block, ne_eq] <;> omega)))) | (apply gS; (focus (first | exact rfl | omega | (simp only [AHeap.push_next, AHeap.put_next, aadd_block] <;> omega))); (focus exact rfl)) | (apply gP; (focus (first | omega | (simp only [AHeap.push_next, AHeap.put_next, aadd_block, ne_eq] <;> omega)))) | exact rfl)); done)); (focus exact rfl); (focus exact rfl); (focus (first | exact (rfl : _ = some [_]) | exact (rfl : _ = some [_, _, _])))) | (apply cells_k; (focus assumption); (focus (first | assumption | (simp only [aadd_block] <;> first | assumption | omega))); (focus ((repeat' (first | exact Keep.refl | assumption | (apply Keep.push) | (refine Keep.put ?_ ?_; rotate_left; (focus (intro hlt; first | assumption | omega | (exfalso; simp only [AHeap.push_next, AHeap.put_next, aadd_block] at hlt; omega)))))); done))))) (hv := by exact rfl) (h := ?_)
      | refine ew_conv (hn := r_conv_int) (h := ?_)
      | refine ew_conv (hn := r_conv_br (h := by first | assumption | (apply Rd.keep0; (focus assumption); ((repeat' (first | exact Keep.refl | assumption | (apply Keep.push) | (refine Keep.put ?_ ?_; rotate_left; (focus (intro hlt; first | assumption | omega | (exfalso; simp only [AHeap.push_next, AHeap.put_next, aadd_block] at hlt; omega)))))); done)))) (h := ?_)
      | (refine ew_fresh ?_; intro b hb; (first | refine ew_n (hn := (r_alloc hb)) (h := ?_) | refine ew_n (hn := (r_buildSlice hb [])) (h := ?_) | refine ew_n (hn := (r_buildSlice hb [_])) (h := ?_) | refine ew_n (hn := (r_buildSlice hb [_, _, _])) (h := ?_)); (try simp only [AHeap.push_next, AHeap.put_next] at hb))
      | refine ew_e (he := er_store (hc := by (apply setCells_at; (focus ((repeat' (first | assumption | (rw [aadd_block]) | (apply gN; (focus (first | exact rfl | omega | (simp only [AHeap.push_next, AHeap.put_next, aadd_block] <;> omega))); (focus exact rfl)) | (apply gO; (focus (first | omega | (simp only [AHeap.push_next, AHeap.put_next, aadd_block, ne_eq] <;> omega)))) | (apply gS; (focus (first | exact rfl | omega | (simp only [AHeap.push_next, AHeap.put_next, aadd_block] <;> omega))); (focus exact rfl)) | (apply gP; (focus (first | omega | (simp only [AHeap.push_next, AHeap.put_next, aadd_block, ne_eq] <;> omega)))) | exact rfl)); done)); (focus exact rfl); (focus (first | exact Nat.le_of_ble_eq_true rfl | (simp; omega) | (simp; done) | (simp [Value.cells]; omega))); (focus (first | exact rfl | (simp; done))); (focus (first | exact (rfl : _ = [_]) | exact (rfl : _ = [_, _, _]) | exact rfl)); (focus (first | exact aadd_block _ _ | exact rfl))))) (hk := by (first | exact Mode.kept_seq rfl | (dsimp only [Mode.kept, Mode.logged, Mode.at]; (repeat' (first | exact (fun _ h => absurd h List.not_mem_nil) | (refine List.forall_mem_cons.2 ⟨?_, ?_⟩) | (refine .inl ?_; exact rfl) | (refine .inl ?_; dsimp only; decide))); done))) (h := ?_)
      | (refine ew_dec (hn := r_streq) (ht := ?_) (hf := ?_) <;> intro _)
      | (refine ew_dec (hn := (r_bin (hr := by (first | exact ib_eql | exact ib_gtr | exact ib_leq | exact ib_lss | exact ib_neq)))) (ht := ?_) (hf := ?_) <;> intro _)
      | refine ew_n (hn := r_bin (hr := by (first | (simp (disch := omega) only [intBin, wrap_in, wrap8_in, tdiv_in, tmod_in, if_false, reduceIte]; exact rfl) | (apply ib_rem; omega)))) (h := ?_)
      | (refine w_nil ?_))
    | (show EC _ _ _ _ _ _ _; first | (refine k_seq ?_) | (refine k_region ?_) | (refine k_skip ?_) | (refine k_ret ?_) | (refine k_exit ?_) | (refine k_block ?_) | (refine k_true (h := ?_)) | (refine k_false (h := ?_)))
    | (show EX _ (bodyA _ _ _) _ _ _; first | (refine x_end1 (hq := ?_)) | (refine x_endc (hc := by (first | assumption | (apply cells_row; (focus ((repeat' (first | assumption | (rw [aadd_block]) | (apply gN; (focus (first | exact rfl | omega | (simp only [AHeap.push_next, AHeap.put_next, aadd_block] <;> omega))); (focus exact rfl)) | (apply gO; (focus (first | omega | (simp only [AHeap.push_next, AHeap.put_next, aadd_block, ne_eq] <;> omega)))) | (apply gS; (focus (first | exact rfl | omega | (simp only [AHeap.push_next, AHeap.put_next, aadd_block] <;> omega))); (focus exact rfl)) | (apply gP; (focus (first | omega | (simp only [AHeap.push_next, AHeap.put_next, aadd_block, ne_eq] <;> omega)))) | exact rfl)); done)); (focus exact rfl); (focus exact rfl); (focus (first | exact (rfl : _ = some [_]) | exact (rfl : _ = some [_, _, _])))) | (apply cells_k; (focus assumption); (focus (first | assumption | (simp only [aadd_block] <;> first | assumption | omega))); (focus ((repeat' (first | exact Keep.refl | assumption | (apply Keep.push) | (refine Keep.put ?_ ?_; rotate_left; (focus (intro hlt; first | assumption | omega | (exfalso; simp only [AHeap.push_next, AHeap.put_next, aadd_block] at hlt; omega)))))); done))))) (hv := by exact rfl) (hq := ?_)))
    | (show EX _ _ _ _ _; first | (refine x_normal ?_) | (refine x_ret ?_) | (refine x_exit ?_) | (refine x_same ?_) | (refine x_other (h := ?_)) | (refine x_bnormal ?_) | (refine x_bret ?_)))
  (first | (refine' ew_callS (hc := cr_call) (hR := ?_) (h := ?_); rotate_left 1) | (refine' ew_call (hc := cr_call) (hR := ?_) (h := ?_); rotate_left 1))
  · exact newM 2 _
  rintro v H2 (⟨h, _⟩ | ⟨_, e, rfl, hN2, hk2⟩)
  · exact absurd h (by decide)
  repeat' (first
    | (show EW _ _ _ _ _; first
      | refine ew_n (hn := r_move) (h := ?_)
      | refine ew_n (hn := r_assign) (h := ?_)
      | refine ew_n (hn := r_pick_t) (h := ?_)
      | refine ew_n (hn := r_pick_f) (h := ?_)
      | refine ew_n (hn := r_field) (h := ?_)
      | refine ew_n (hn := r_len) (h := ?_)
      | refine ew_n (hn := r_len_str) (h := ?_)
      | refine ew_n (hn := r_not) (h := ?_)
      | refine ew_n (hn := r_extract) (h := ?_)
      | refine ew_n (hn := (r_index (h0 := by omega) (h1 := by first | omega | (simp; done) | (simp; omega)))) (h := ?_)
      | refine ew_n (hn := r_nil_eq) (h := ?_)
      | refine ew_n (hn := r_beq) (h := ?_)
      | refine ew_n (hn := r_nil_ne) (h := ?_)
      | refine ew_n (hn := r_bne) (h := ?_)
      | refine ew_n (hn := (r_bin (hr := by first | (apply cmp_t; (focus (first | exact ib_eql | exact ib_gtr | exact ib_leq | exact ib_lss | exact ib_neq)); omega) | (apply cmp_f; (focus (first | exact ib_eql | exact ib_gtr | exact ib_leq | exact ib_lss | exact ib_neq)); omega)))) (h := ?_)
      | refine ew_skip (h := ?_)
      | refine ew_load (hc := by (first | assumption | (apply cells_row; (focus ((repeat' (first | assumption | (rw [aadd_block]) | (apply gN; (focus (first | exact rfl | omega | (simp only [AHeap.push_next, AHeap.put_next, aadd_block] <;> omega))); (focus exact rfl)) | (apply gO; (focus (first | omega | (simp only [AHeap.push_next, AHeap.put_next, aadd_block, ne_eq] <;> omega)))) | (apply gS; (focus (first | exact rfl | omega | (simp only [AHeap.push_next, AHeap.put_next, aadd_block] <;> omega))); (focus exact rfl)) | (apply gP; (focus (first | omega | (simp only [AHeap.push_next, AHeap.put_next, aadd_block, ne_eq] <;> omega)))) | exact rfl)); done)); (focus exact rfl); (focus exact rfl); (focus (first | exact (rfl : _ = some [_]) | exact (rfl : _ = some [_, _, _])))) | (apply cells_k; (focus assumption); (focus (first | assumption | (simp only [aadd_block] <;> first | assumption | omega))); (focus ((repeat' (first | exact Keep.refl | assumption | (apply Keep.push) | (refine Keep.put ?_ ?_; rotate_left; (focus (intro hlt; first | assumption | omega | (exfalso; simp only [AHeap.push_next, AHeap.put_next, aadd_block] at hlt; omega)))))); done))))) (hv := by exact rfl) (h := ?_)
      | refine ew_conv (hn := r_conv_int) (h := ?_)
      | refine ew_conv (hn := r_conv_br (h := by first | assumption | (apply Rd.keep0; (focus assumption); ((repeat' (first | exact Keep.refl | assumption | (apply Keep.push) | (refine Keep.put ?_ ?_; rotate_left; (focus (intro hlt; first | assumption | omega | (exfalso; simp only [AHeap.push_next, AHeap.put_next, aadd_block] at hlt; omega)))))); done)))) (h := ?_)
      | (refine ew_fresh ?_; intro b hb; (first | refine ew_n (hn := (r_alloc hb)) (h := ?_) | refine ew_n (hn := (r_buildSlice hb [])) (h := ?_) | refine ew_n (hn := (r_buildSlice hb [_])) (h := ?_) | refine ew_n (hn := (r_buildSlice hb [_, _, _])) (h := ?_)); (try simp only [AHeap.push_next, AHeap.put_next] at hb))
      | refine ew_e (he := er_store (hc := by (apply setCells_at; (focus ((repeat' (first | assumption | (rw [aadd_block]) | (apply gN; (focus (first | exact rfl | omega | (simp only [AHeap.push_next, AHeap.put_next, aadd_block] <;> omega))); (focus exact rfl)) | (apply gO; (focus (first | omega | (simp only [AHeap.push_next, AHeap.put_next, aadd_block, ne_eq] <;> omega)))) | (apply gS; (focus (first | exact rfl | omega | (simp only [AHeap.push_next, AHeap.put_next, aadd_block] <;> omega))); (focus exact rfl)) | (apply gP; (focus (first | omega | (simp only [AHeap.push_next, AHeap.put_next, aadd_block, ne_eq] <;> omega)))) | exact rfl)); done)); (focus exact rfl); (focus (first | exact Nat.le_of_ble_eq_true rfl | (simp; omega) | (simp; done) | (simp [Value.cells]; omega))); (focus (first | exact rfl | (simp; done))); (focus (first | exact (rfl : _ = [_]) | exact (rfl : _ = [_, _, _]) | exact rfl)); (focus (first | exact aadd_block _ _ | exact rfl))))) (hk := by (first | exact Mode.kept_seq rfl | (dsimp only [Mode.kept, Mode.logged, Mode.at]; (repeat' (first | exact (fun _ h => absurd h List.not_mem_nil) | (refine List.forall_mem_cons.2 ⟨?_, ?_⟩) | (refine .inl ?_; exact rfl) | (refine .inl ?_; dsimp only; decide))); done))) (h := ?_)
      | (refine ew_dec (hn := r_streq) (ht := ?_) (hf := ?_) <;> intro _)
      | (refine ew_dec (hn := (r_bin (hr := by (first | exact ib_eql | exact ib_gtr | exact ib_leq | exact ib_lss | exact ib_neq)))) (ht := ?_) (hf := ?_) <;> intro _)
      | refine ew_n (hn := r_bin (hr := by (first | (simp (disch := omega) only [intBin, wrap_in, wrap8_in, tdiv_in, tmod_in, if_false, reduceIte]; exact rfl) | (apply ib_rem; omega)))) (h := ?_)
      | (refine w_nil ?_))
    | (show EC _ _ _ _ _ _ _; first | (refine k_seq ?_) | (refine k_region ?_) | (refine k_skip ?_) | (refine k_ret ?_) | (refine k_exit ?_) | (refine k_block ?_) | (refine k_true (h := ?_)) | (refine k_false (h := ?_)))
    | (show EX _ (bodyA _ _ _) _ _ _; first | (refine x_end1 (hq := ?_)) | (refine x_endc (hc := by (first | assumption | (apply cells_row; (focus ((repeat' (first | assumption | (rw [aadd_block]) | (apply gN; (focus (first | exact rfl | omega | (simp only [AHeap.push_next, AHeap.put_next, aadd_block] <;> omega))); (focus exact rfl)) | (apply gO; (focus (first | omega | (simp only [AHeap.push_next, AHeap.put_next, aadd_block, ne_eq] <;> omega)))) | (apply gS; (focus (first | exact rfl | omega | (simp only [AHeap.push_next, AHeap.put_next, aadd_block] <;> omega))); (focus exact rfl)) | (apply gP; (focus (first | omega | (simp only [AHeap.push_next, AHeap.put_next, aadd_block, ne_eq] <;> omega)))) | exact rfl)); done)); (focus exact rfl); (focus exact rfl); (focus (first | exact (rfl : _ = some [_]) | exact (rfl : _ = some [_, _, _])))) | (apply cells_k; (focus assumption); (focus (first | assumption | (simp only [aadd_block] <;> first | assumption | omega))); (focus ((repeat' (first | exact Keep.refl | assumption | (apply Keep.push) | (refine Keep.put ?_ ?_; rotate_left; (focus (intro hlt; first | assumption | omega | (exfalso; simp only [AHeap.push_next, AHeap.put_next, aadd_block] at hlt; omega)))))); done))))) (hv := by exact rfl) (hq := ?_)))
    | (show EX _ _ _ _ _; first | (refine x_normal ?_) | (refine x_ret ?_) | (refine x_exit ?_) | (refine x_same ?_) | (refine x_other (h := ?_)) | (refine x_bnormal ?_) | (refine x_bret ?_)))
  (first | (refine' ew_callS (hc := cr_call) (hR := ?_) (h := ?_); rotate_left 1) | (refine' ew_call (hc := cr_call) (hR := ?_) (h := ?_); rotate_left 1))
  · exact mod_calls c 256 _ (by omega)
  rintro _ H2 ⟨rfl, rfl⟩
  repeat' (first
    | (show EW _ _ _ _ _; first
      | refine ew_n (hn := r_move) (h := ?_)
      | refine ew_n (hn := r_assign) (h := ?_)
      | refine ew_n (hn := r_pick_t) (h := ?_)
      | refine ew_n (hn := r_pick_f) (h := ?_)
      | refine ew_n (hn := r_field) (h := ?_)
      | refine ew_n (hn := r_len) (h := ?_)
      | refine ew_n (hn := r_len_str) (h := ?_)
      | refine ew_n (hn := r_not) (h := ?_)
      | refine ew_n (hn := r_extract) (h := ?_)
      | refine ew_n (hn := (r_index (h0 := by omega) (h1 := by first | omega | (simp; done) | (simp; omega)))) (h := ?_)
      | refine ew_n (hn := r_nil_eq) (h := ?_)
      | refine ew_n (hn := r_beq) (h := ?_)
      | refine ew_n (hn := r_nil_ne) (h := ?_)
      | refine ew_n (hn := r_bne) (h := ?_)
      | refine ew_n (hn := (r_bin (hr := by first | (apply cmp_t; (focus (first | exact ib_eql | exact ib_gtr | exact ib_leq | exact ib_lss | exact ib_neq)); omega) | (apply cmp_f; (focus (first | exact ib_eql | exact ib_gtr | exact ib_leq | exact ib_lss | exact ib_neq)); omega)))) (h := ?_)
      | refine ew_skip (h := ?_)
      | refine ew_load (hc := by (first | assumption | (apply cells_row; (focus ((repeat' (first | assumption | (rw [aadd_block]) | (apply gN; (focus (first | exact rfl | omega | (simp only [AHeap.push_next, AHeap.put_next, aadd_block] <;> omega))); (focus exact rfl)) | (apply gO; (focus (first | omega | (simp only [AHeap.push_next, AHeap.put_next, aadd_block, ne_eq] <;> omega)))) | (apply gS; (focus (first | exact rfl | omega | (simp only [AHeap.push_next, AHeap.put_next, aadd_block] <;> omega))); (focus exact rfl)) | (apply gP; (focus (first | omega | (simp only [AHeap.push_next, AHeap.put_next, aadd_block, ne_eq] <;> omega)))) | exact rfl)); done)); (focus exact rfl); (focus exact rfl); (focus (first | exact (rfl : _ = some [_]) | exact (rfl : _ = some [_, _, _])))) | (apply cells_k; (focus assumption); (focus (first | assumption | (simp only [aadd_block] <;> first | assumption | omega))); (focus ((repeat' (first | exact Keep.refl | assumption | (apply Keep.push) | (refine Keep.put ?_ ?_; rotate_left; (focus (intro hlt; first | assumption | omega | (exfalso; simp only [AHeap.push_next, AHeap.put_next, aadd_block] at hlt; omega)))))); done))))) (hv := by exact rfl) (h := ?_)
      | refine ew_conv (hn := r_conv_int) (h := ?_)
      | refine ew_conv (hn := r_conv_br (h := by first | assumption | (apply Rd.keep0; (focus assumption); ((repeat' (first | exact Keep.refl | assumption | (apply Keep.push) | (refine Keep.put ?_ ?_; rotate_left; (focus (intro hlt; first | assumption | omega | (exfalso; simp only [AHeap.push_next, AHeap.put_next, aadd_block] at hlt; omega)))))); done)))) (h := ?_)
      | (refine ew_fresh ?_; intro b hb; (first | refine ew_n (hn := (r_alloc hb)) (h := ?_) | refine ew_n (hn := (r_buildSlice hb [])) (h := ?_) | refine ew_n (hn := (r_buildSlice hb [_])) (h := ?_) | refine ew_n (hn := (r_buildSlice hb [_, _, _])) (h := ?_)); (try simp only [AHeap.push_next, AHeap.put_next] at hb))
      | refine ew_e (he := er_store (hc := by (apply setCells_at; (focus ((repeat' (first | assumption | (rw [aadd_block]) | (apply gN; (focus (first | exact rfl | omega | (simp only [AHeap.push_next, AHeap.put_next, aadd_block] <;> omega))); (focus exact rfl)) | (apply gO; (focus (first | omega | (simp only [AHeap.push_next, AHeap.put_next, aadd_block, ne_eq] <;> omega)))) | (apply gS; (focus (first | exact rfl | omega | (simp only [AHeap.push_next, AHeap.put_next, aadd_block] <;> omega))); (focus exact rfl)) | (apply gP; (focus (first | omega | (simp only [AHeap.push_next, AHeap.put_next, aadd_block, ne_eq] <;> omega)))) | exact rfl)); done)); (focus exact rfl); (focus (first | exact Nat.le_of_ble_eq_true rfl | (simp; omega) | (simp; done) | (simp [Value.cells]; omega))); (focus (first | exact rfl | (simp; done))); (focus (first | exact (rfl : _ = [_]) | exact (rfl : _ = [_, _, _]) | exact rfl)); (focus (first | exact aadd_block _ _ | exact rfl))))) (hk := by (first | exact Mode.kept_seq rfl | (dsimp only [Mode.kept, Mode.logged, Mode.at]; (repeat' (first | exact (fun _ h => absurd h List.not_mem_nil) | (refine List.forall_mem_cons.2 ⟨?_, ?_⟩) | (refine .inl ?_; exact rfl) | (refine .inl ?_; dsimp only; decide))); done))) (h := ?_)
      | (refine ew_dec (hn := r_streq) (ht := ?_) (hf := ?_) <;> intro _)
      | (refine ew_dec (hn := (r_bin (hr := by (first | exact ib_eql | exact ib_gtr | exact ib_leq | exact ib_lss | exact ib_neq)))) (ht := ?_) (hf := ?_) <;> intro _)
      | refine ew_n (hn := r_bin (hr := by (first | (simp (disch := omega) only [intBin, wrap_in, wrap8_in, tdiv_in, tmod_in, if_false, reduceIte]; exact rfl) | (apply ib_rem; omega)))) (h := ?_)
      | (refine w_nil ?_))
    | (show EC _ _ _ _ _ _ _; first | (refine k_seq ?_) | (refine k_region ?_) | (refine k_skip ?_) | (refine k_ret ?_) | (refine k_exit ?_) | (refine k_block ?_) | (refine k_true (h := ?_)) | (refine k_false (h := ?_)))
    | (show EX _ (bodyA _ _ _) _ _ _; first | (refine x_end1 (hq := ?_)) | (refine x_endc (hc := by (first | assumption | (apply cells_row; (focus ((repeat' (first | assumption | (rw [aadd_block]) | (apply gN; (focus (first | exact rfl | omega | (simp only [AHeap.push_next, AHeap.put_next, aadd_block] <;> omega))); (focus exact rfl)) | (apply gO; (focus (first | omega | (simp only [AHeap.push_next, AHeap.put_next, aadd_block, ne_eq] <;> omega)))) | (apply gS; (focus (first | exact rfl | omega | (simp only [AHeap.push_next, AHeap.put_next, aadd_block] <;> omega))); (focus exact rfl)) | (apply gP; (focus (first | omega | (simp only [AHeap.push_next, AHeap.put_next, aadd_block, ne_eq] <;> omega)))) | exact rfl)); done)); (focus exact rfl); (focus exact rfl); (focus (first | exact (rfl : _ = some [_]) | exact (rfl : _ = some [_, _, _])))) | (apply cells_k; (focus assumption); (focus (first | assumption | (simp only [aadd_block] <;> first | assumption | omega))); (focus ((repeat' (first | exact Keep.refl | assumption | (apply Keep.push) | (refine Keep.put ?_ ?_; rotate_left; (focus (intro hlt; first | assumption | omega | (exfalso; simp only [AHeap.push_next, AHeap.put_next, aadd_block] at hlt; omega)))))); done))))) (hv := by exact rfl) (hq := ?_)))
    | (show EX _ _ _ _ _; first | (refine x_normal ?_) | (refine x_ret ?_) | (refine x_exit ?_) | (refine x_same ?_) | (refine x_other (h := ?_)) | (refine x_bnormal ?_) | (refine x_bret ?_)))
  have hk := hk1.trans hk2 fun _ _ h => h
  refine k_loop follows (FullI H (modI c 256) o e) 256 [(5, _), (7, _), (8, _), (1, _)] (by kernel_rfl) ⟨rfl, rfl, rfl, rfl, trivial⟩ ?_ ?_
  · exact ⟨hk, 0, _, [], rfl, rfl, hN2, rfl, fun b hb => Nat.le_trans hk1.1 hb.1⟩
  obtain ⟨hc0, hc1⟩ := modI_range c 256 (by omega)
  generalize modI c 256 = c' at hc0 hc1
  clear hN2 hk2 hk1 hk H1
  rintro n E H2 ⟨hk, i, F, M, hi, rfl, hN, hM, hF⟩
  have hn2 := hk.1
  by_cases hlt : i < 256
  · by_cases hcp : 0 < i ∧ (i : Int) ≤ c'
    · repeat' (first
    | (show EW _ _ _ _ _; first
      | refine ew_n (hn := r_move) (h := ?_)
      | refine ew_n (hn := r_assign) (h := ?_)
      | refine ew_n (hn := r_pick_t) (h := ?_)
      | refine ew_n (hn := r_pick_f) (h := ?_)
      | refine ew_n (hn := r_field) (h := ?_)
      | refine ew_n (hn := r_len) (h := ?_)
      | refine ew_n (hn := r_len_str) (h := ?_)
      | refine ew_n (hn := r_not) (h := ?_)
      | refine ew_n (hn := r_extract) (h := ?_)
      | refine ew_n (hn := (r_index (h0 := by omega) (h1 := by first | omega | (simp; done) | (simp; omega)))) (h := ?_)
      | refine ew_n (hn := r_nil_eq) (h := ?_)
      | refine ew_n (hn := r_beq) (h := ?_)
      | refine ew_n (hn := r_nil_ne) (h := ?_)
      | refine ew_n (hn := r_bne) (h := ?_)
      | refine ew_n (hn := (r_bin (hr := by first | (apply cmp_t; (focus (first | exact ib_eql | exact ib_gtr | exact ib_leq | exact ib_lss | exact ib_neq)); omega) | (apply cmp_f; (focus (first | exact ib_eql | exact ib_gtr | exact ib_leq | exact ib_lss | exact ib_neq)); omega)))) (h := ?_)
      | refine ew_skip (h := ?_)
      | refine ew_load (hc := by (first | assumption | (apply cells_row; (focus ((repeat' (first | assumption | (rw [aadd_block]) | (apply gN; (focus (first | exact rfl | omega | (simp only [AHeap.push_next, AHeap.put_next, aadd_block] <;> omega))); (focus exact rfl)) | (apply gO; (focus (first | omega | (simp only [AHeap.push_next, AHeap.put_next, aadd_block, ne_eq] <;> omega)))) | (apply gS; (focus (first | exact rfl | omega | (simp only [AHeap.push_next, AHeap.put_next, aadd_block] <;> omega))); (focus exact rfl)) | (apply gP; (focus (first | omega | (simp only [AHeap.push_next, AHeap.put_next, aadd_block, ne_eq] <;> omega)))) | exact rfl)); done)); (focus exact rfl); (focus exact rfl); (focus (first | exact (rfl : _ = some [_]) | exact (rfl : _ = some [_, _, _])))) | (apply cells_k; (focus assumption); (focus (first | assumption | (simp only [aadd_block] <;> first | assumption | omega))); (focus ((repeat' (first | exact Keep.refl | assumption | (apply Keep.push) | (refine Keep.put ?_ ?_; rotate_left; (focus (intro hlt; first | assumption | omega | (exfalso; simp only [AHeap.push_next, AHeap.put_next, aadd_block] at hlt; omega)))))); done))))) (hv := by exact rfl) (h := ?_)
      | refine ew_conv (hn := r_conv_int) (h := ?_)
      | refine ew_conv (hn := r_conv_br (h := by first | assumption | (apply Rd.keep0; (focus assumption); ((repeat' (first | exact Keep.refl | assumption | (apply Keep.push) | (refine Keep.put ?_ ?_; rotate_left; (focus (intro hlt; first | assumption | omega | (exfalso; simp only [AHeap.push_next, AHeap.put_next, aadd_block] at hlt; omega)))))); done)))) (h := ?_)
      | (refine ew_fresh ?_; intro b hb; (first | refine ew_n (hn := (r_alloc hb)) (h := ?_) | refine ew_n (hn := (r_buildSlice hb [])) (h := ?_) | refine ew_n (hn := (r_buildSlice hb [_])) (h := ?_) | refine ew_n (hn := (r_buildSlice hb [_, _, _])) (h := ?_)); (try simp only [AHeap.push_next, AHeap.put_next] at hb))
      | refine ew_e (he := er_store (hc := by (apply setCells_at; (focus ((repeat' (first | assumption | (rw [aadd_block]) | (apply gN; (focus (first | exact rfl | omega | (simp only [AHeap.push_next, AHeap.put_next, aadd_block] <;> omega))); (focus exact rfl)) | (apply gO; (focus (first | omega | (simp only [AHeap.push_next, AHeap.put_next, aadd_block, ne_eq] <;> omega)))) | (apply gS; (focus (first | exact rfl | omega | (simp only [AHeap.push_next, AHeap.put_next, aadd_block] <;> omega))); (focus exact rfl)) | (apply gP; (focus (first | omega | (simp only [AHeap.push_next, AHeap.put_next, aadd_block, ne_eq] <;> omega)))) | exact rfl)); done)); (focus exact rfl); (focus (first | exact Nat.le_of_ble_eq_true rfl | (simp; omega) | (simp; done) | (simp [Value.cells]; omega))); (focus (first | exact rfl | (simp; done))); (focus (first | exact (rfl : _ = [_]) | exact (rfl : _ = [_, _, _]) | exact rfl)); (focus (first | exact aadd_block _ _ | exact rfl))))) (hk := by (first | exact Mode.kept_seq rfl | (dsimp only [Mode.kept, Mode.logged, Mode.at]; (repeat' (first | exact (fun _ h => absurd h List.not_mem_nil) | (refine List.forall_mem_cons.2 ⟨?_, ?_⟩) | (refine .inl ?_; exact rfl) | (refine .inl ?_; dsimp only; decide))); done))) (h := ?_)
      | (refine ew_dec (hn := r_streq) (ht := ?_) (hf := ?_) <;> intro _)
      | (refine ew_dec (hn := (r_bin (hr := by (first | exact ib_eql | exact ib_gtr | exact ib_leq | exact ib_lss | exact ib_neq)))) (ht := ?_) (hf := ?_) <;> intro _)
      | refine ew_n (hn := r_bin (hr := by (first | (simp (disch := omega) only [intBin, wrap_in, wrap8_in, tdiv_in, tmod_in, if_false, reduceIte]; exact rfl) | (apply ib_rem; omega)))) (h := ?_)
      | (refine w_nil ?_))
    | (show EC _ _ _ _ _ _ _; first | (refine k_seq ?_) | (refine k_region ?_) | (refine k_skip ?_) | (refine k_ret ?_) | (refine k_exit ?_) | (refine k_block ?_) | (refine k_true (h := ?_)) | (refine k_false (h := ?_)))
    | (show EX _ (bodyA _ _ _) _ _ _; first | (refine x_end1 (hq := ?_)) | (refine x_endc (hc := by (first | assumption | (apply cells_row; (focus ((repeat' (first | assumption | (rw [aadd_block]) | (apply gN; (focus (first | exact rfl | omega | (simp only [AHeap.push_next, AHeap.put_next, aadd_block] <;> omega))); (focus exact rfl)) | (apply gO; (focus (first | omega | (simp only [AHeap.push_next, AHeap.put_next, aadd_block, ne_eq] <;> omega)))) | (apply gS; (focus (first | exact rfl | omega | (simp only [AHeap.push_next, AHeap.put_next, aadd_block] <;> omega))); (focus exact rfl)) | (apply gP; (focus (first | omega | (simp only [AHeap.push_next, AHeap.put_next, aadd_block, ne_eq] <;> omega)))) | exact rfl)); done)); (focus exact rfl); (focus exact rfl); (focus (first | exact (rfl : _ = some [_]) | exact (rfl : _ = some [_, _, _])))) | (apply cells_k; (focus assumption); (focus (first | assumption | (simp only [aadd_block] <;> first | assumption | omega))); (focus ((repeat' (first | exact Keep.refl | assumption | (apply Keep.push) | (refine Keep.put ?_ ?_; rotate_left; (focus (intro hlt; first | assumption | omega | (exfalso; simp only [AHeap.push_next, AHeap.put_next, aadd_block] at hlt; omega)))))); done))))) (hv := by exact rfl) (hq := ?_)))
    | (show EX _ _ _ _ _; first | (refine x_normal ?_) | (refine x_ret ?_) | (refine x_exit ?_) | (refine x_same ?_) | (refine x_other (h := ?_)) | (refine x_bnormal ?_) | (refine x_bret ?_)))
      (first | (refine' ew_callS (hc := cr_call) (hR := ?_) (h := ?_); rotate_left 1) | (refine' ew_call (hc := cr_call) (hR := ?_) (h := ?_); rotate_left 1))
      · exact copyM _ hN
      obtain ⟨x, hx⟩ : ∃ x, atI M ((i : Int) - 1) = some x := Option.isSome_iff_exists.1 (by rw [atI_isSome]; simp; omega)
      have hres : copyP M ((i : Int) - 1) = (0, M ++ [x]) := by unfold copyP; rw [hx]; simp only; rw [if_neg (by omega)]
      rw [hres]
      rintro _ H3 ⟨rfl, hk3, F', hN3, hg3⟩
      repeat' (first
    | (show EW _ _ _ _ _; first
      | refine ew_n (hn := r_move) (h := ?_)
      | refine ew_n (hn := r_assign) (h := ?_)
      | refine ew_n (hn := r_pick_t) (h := ?_)
      | refine ew_n (hn := r_pick_f) (h := ?_)
      | refine ew_n (hn := r_field) (h := ?_)
      | refine ew_n (hn := r_len) (h := ?_)
      | refine ew_n (hn := r_len_str) (h := ?_)
      | refine ew_n (hn := r_not) (h := ?_)
      | refine ew_n (hn := r_extract) (h := ?_)
      | refine ew_n (hn := (r_index (h0 := by omega) (h1 := by first | omega | (simp; done) | (simp; omega)))) (h := ?_)
      | refine ew_n (hn := r_nil_eq) (h := ?_)
      | refine ew_n (hn := r_beq) (h := ?_)
      | refine ew_n (hn := r_nil_ne) (h := ?_)
      | refine ew_n (hn := r_bne) (h := ?_)
      | refine ew_n (hn := (r_bin (hr := by first | (apply cmp_t; (focus (first | exact ib_eql | exact ib_gtr | exact ib_leq | exact ib_lss | exact ib_neq)); omega) | (apply cmp_f; (focus (first | exact ib_eql | exact ib_gtr | exact ib_leq | exact ib_lss | exact ib_neq)); omega)))) (h := ?_)
      | refine ew_skip (h := ?_)
      | refine ew_load (hc := by (first | assumption | (apply cells_row; (focus ((repeat' (first | assumption | (rw [aadd_block]) | (apply gN; (focus (first | exact rfl | omega | (simp only [AHeap.push_next, AHeap.put_next, aadd_block] <;> omega))); (focus exact rfl)) | (apply gO; (focus (first | omega | (simp only [AHeap.push_next, AHeap.put_next, aadd_block, ne_eq] <;> omega)))) | (apply gS; (focus (first | exact rfl | omega | (simp only [AHeap.push_next, AHeap.put_next, aadd_block] <;> omega))); (focus exact rfl)) | (apply gP; (focus (first | omega | (simp only [AHeap.push_next, AHeap.put_next, aadd_block, ne_eq] <;> omega)))) | exact rfl)); done)); (focus exact rfl); (focus exact rfl); (focus (first | exact (rfl : _ = some [_]) | exact (rfl : _ = some [_, _, _])))) | (apply cells_k; (focus assumption); (focus (first | assumption | (simp only [aadd_block] <;> first | assumption | omega))); (focus ((repeat' (first | exact Keep.refl | assumption | (apply Keep.push) | (refine Keep.put ?_ ?_; rotate_left; (focus (intro hlt; first | assumption | omega | (exfalso; simp only [AHeap.push_next, AHeap.put_next, aadd_block] at hlt; omega)))))); done))))) (hv := by exact rfl) (h := ?_)
      | refine ew_conv (hn := r_conv_int) (h := ?_)
      | refine ew_conv (hn := r_conv_br (h := by first | assumption | (apply Rd.keep0; (focus assumption); ((repeat' (first | exact Keep.refl | assumption | (apply Keep.push) | (refine Keep.put ?_ ?_; rotate_left; (focus (intro hlt; first | assumption | omega | (exfalso; simp only [AHeap.push_next, AHeap.put_next, aadd_block] at hlt; omega)))))); done)))) (h := ?_)
      | (refine ew_fresh ?_; intro b hb; (first | refine ew_n (hn := (r_alloc hb)) (h := ?_) | refine ew_n (hn := (r_buildSlice hb [])) (h := ?_) | refine ew_n (hn := (r_buildSlice hb [_])) (h := ?_) | refine ew_n (hn := (r_buildSlice hb [_, _, _])) (h := ?_)); (try simp only [AHeap.push_next, AHeap.put_next] at hb))
      | refine ew_e (he := er_store (hc := by (apply setCells_at; (focus ((repeat' (first | assumption | (rw [aadd_block]) | (apply gN; (focus (first | exact rfl | omega | (simp only [AHeap.push_next, AHeap.put_next, aadd_block] <;> omega))); (focus exact rfl)) | (apply gO; (focus (first | omega | (simp only [AHeap.push_next, AHeap.put_next, aadd_block, ne_eq] <;> omega)))) | (apply gS; (focus (first | exact rfl | omega | (simp only [AHeap.push_next, AHeap.put_next, aadd_block] <;> omega))); (focus exact rfl)) | (apply gP; (focus (first | omega | (simp only [AHeap.push_next, AHeap.put_next, aadd_block, ne_eq] <;> omega)))) | exact rfl)); done)); (focus exact rfl); (focus (first | exact Nat.le_of_ble_eq_true rfl | (simp; omega) | (simp; done) | (simp [Value.cells]; omega))); (focus (first | exact rfl | (simp; done))); (focus (first | exact (rfl : _ = [_]) | exact (rfl : _ = [_, _, _]) | exact rfl)); (focus (first | exact aadd_block _ _ | exact rfl))))) (hk := by (first | exact Mode.kept_seq rfl | (dsimp only [Mode.kept, Mode.logged, Mode.at]; (repeat' (first | exact (fun _ h => absurd h List.not_mem_nil) | (refine List.forall_mem_cons.2 ⟨?_, ?_⟩) | (refine .inl ?_; exact rfl) | (refine .inl ?_; dsimp only; decide))); done))) (h := ?_)
      | (refine ew_dec (hn := r_streq) (ht := ?_) (hf := ?_) <;> intro _)
      | (refine ew_dec (hn := (r_bin (hr := by (first | exact ib_eql | exact ib_gtr | exact ib_leq | exact ib_lss | exact ib_neq)))) (ht := ?_) (hf := ?_) <;> intro _)
      | refine ew_n (hn := r_bin (hr := by (first | (simp (disch := omega) only [intBin, wrap_in, wrap8_in, tdiv_in, tmod_in, if_false, reduceIte]; exact rfl) | (apply ib_rem; omega)))) (h := ?_)
      | (refine w_nil ?_))
    | (show EC _ _ _ _ _ _ _; first | (refine k_seq ?_) | (refine k_region ?_) | (refine k_skip ?_) | (refine k_ret ?_) | (refine k_exit ?_) | (refine k_block ?_) | (refine k_true (h := ?_)) | (refine k_false (h := ?_)))
    | (show EX _ (bodyA _ _ _) _ _ _; first | (refine x_end1 (hq := ?_)) | (refine x_endc (hc := by (first | assumption | (apply cells_row; (focus ((repeat' (first | assumption | (rw [aadd_block]) | (apply gN; (focus (first | exact rfl | omega | (simp only [AHeap.push_next, AHeap.put_next, aadd_block] <;> omega))); (focus exact rfl)) | (apply gO; (focus (first | omega | (simp only [AHeap.push_next, AHeap.put_next, aadd_block, ne_eq] <;> omega)))) | (apply gS; (focus (first | exact rfl | omega | (simp only [AHeap.push_next, AHeap.put_next, aadd_block] <;> omega))); (focus exact rfl)) | (apply gP; (focus (first | omega | (simp only [AHeap.push_next, AHeap.put_next, aadd_block, ne_eq] <;> omega)))) | exact rfl)); done)); (focus exact rfl); (focus exact rfl); (focus (first | exact (rfl : _ = some [_]) | exact (rfl : _ = some [_, _, _])))) | (apply cells_k; (focus assumption); (focus (first | assumption | (simp only [aadd_block] <;> first | assumption | omega))); (focus ((repeat' (first | exact Keep.refl | assumption | (apply Keep.push) | (refine Keep.put ?_ ?_; rotate_left; (focus (intro hlt; first | assumption | omega | (exfalso; simp only [AHeap.push_next, AHeap.put_next, aadd_block] at hlt; omega)))))); done))))) (hv := by exact rfl) (hq := ?_)))
    | (show EX _ _ _ _ _; first | (refine x_normal ?_) | (refine x_ret ?_) | (refine x_exit ?_) | (refine x_same ?_) | (refine x_other (h := ?_)) | (refine x_bnormal ?_) | (refine x_bret ?_)))
      exact x_again (n - 1) [(5, _), (7, _), (8, _), (1, _)] ⟨rfl, rfl, rfl, rfl, trivial⟩ (by omega) ⟨hk.own hk3 hF, i + 1, F', _, by omega, rfl, hN3, by simp [hM], hg3.own hn2 hF⟩
    · repeat' (first
    | (show EW _ _ _ _ _; first
      | refine ew_n (hn := r_move) (h := ?_)
      | refine ew_n (hn := r_assign) (h := ?_)
      | refine ew_n (hn := r_pick_t) (h := ?_)
      | refine ew_n (hn := r_pick_f) (h := ?_)
      | refine ew_n (hn := r_field) (h := ?_)
      | refine ew_n (hn := r_len) (h := ?_)
      | refine ew_n (hn := r_len_str) (h := ?_)
      | refine ew_n (hn := r_not) (h := ?_)
      | refine ew_n (hn := r_extract) (h := ?_)
      | refine ew_n (hn := (r_index (h0 := by omega) (h1 := by first | omega | (simp; done) | (simp; omega)))) (h := ?_)
      | refine ew_n (hn := r_nil_eq) (h := ?_)
      | refine ew_n (hn := r_beq) (h := ?_)
      | refine ew_n (hn := r_nil_ne) (h := ?_)
      | refine ew_n (hn := r_bne) (h := ?_)
      | refine ew_n (hn := (r_bin (hr := by first | (apply cmp_t; (focus (first | exact ib_eql | exact ib_gtr | exact ib_leq | exact ib_lss | exact ib_neq)); omega) | (apply cmp_f; (focus (first | exact ib_eql | exact ib_gtr | exact ib_leq | exact ib_lss | exact ib_neq)); omega)))) (h := ?_)
      | refine ew_skip (h := ?_)
      | refine ew_load (hc := by (first | assumption | (apply cells_row; (focus ((repeat' (first | assumption | (rw [aadd_block]) | (apply gN; (focus (first | exact rfl | omega | (simp only [AHeap.push_next, AHeap.put_next, aadd_block] <;> omega))); (focus exact rfl)) | (apply gO; (focus (first | omega | (simp only [AHeap.push_next, AHeap.put_next, aadd_block, ne_eq] <;> omega)))) | (apply gS; (focus (first | exact rfl | omega | (simp only [AHeap.push_next, AHeap.put_next, aadd_block] <;> omega))); (focus exact rfl)) | (apply gP; (focus (first | omega | (simp only [AHeap.push_next, AHeap.put_next, aadd_block, ne_eq] <;> omega)))) | exact rfl)); done)); (focus exact rfl); (focus exact rfl); (focus (first | exact (rfl : _ = some [_]) | exact (rfl : _ = some [_, _, _])))) | (apply cells_k; (focus assumption); (focus (first | assumption | (simp only [aadd_block] <;> first | assumption | omega))); (focus ((repeat' (first | exact Keep.refl | assumption | (apply Keep.push) | (refine Keep.put ?_ ?_; rotate_left; (focus (intro hlt; first | assumption | omega | (exfalso; simp only [AHeap.push_next, AHeap.put_next, aadd_block] at hlt; omega)))))); done))))) (hv := by exact rfl) (h := ?_)
      | refine ew_conv (hn := r_conv_int) (h := ?_)
      | refine ew_conv (hn := r_conv_br (h := by first | assumption | (apply Rd.keep0; (focus assumption); ((repeat' (first | exact Keep.refl | assumption | (apply Keep.push) | (refine Keep.put ?_ ?_; rotate_left; (focus (intro hlt; first | assumption | omega | (exfalso; simp only [AHeap.push_next, AHeap.put_next, aadd_block] at hlt; omega)))))); done)))) (h := ?_)
      | (refine ew_fresh ?_; intro b hb; (first | refine ew_n (hn := (r_alloc hb)) (h := ?_) | refine ew_n (hn := (r_buildSlice hb [])) (h := ?_) | refine ew_n (hn := (r_buildSlice hb [_])) (h := ?_) | refine ew_n (hn := (r_buildSlice hb [_, _, _])) (h := ?_)); (try simp only [AHeap.push_next, AHeap.put_next] at hb))
      | refine ew_e (he := er_store (hc := by (apply setCells_at; (focus ((repeat' (first | assumption | (rw [aadd_block]) | (apply gN; (focus (first | exact rfl | omega | (simp only [AHeap.push_next, AHeap.put_next, aadd_block] <;> omega))); (focus exact rfl)) | (apply gO; (focus (first | omega | (simp only [AHeap.push_next, AHeap.put_next, aadd_block, ne_eq] <;> omega)))) | (apply gS; (focus (first | exact rfl | omega | (simp only [AHeap.push_next, AHeap.put_next, aadd_block] <;> omega))); (focus exact rfl)) | (apply gP; (focus (first | omega | (simp only [AHeap.push_next, AHeap.put_next, aadd_block, ne_eq] <;> omega)))) | exact rfl)); done)); (focus exact rfl); (focus (first | exact Nat.le_of_ble_eq_true rfl | (simp; omega) | (simp; done) | (simp [Value.cells]; omega))); (focus (first | exact rfl | (simp; done))); (focus (first | exact (rfl : _ = [_]) | exact (rfl : _ = [_, _, _]) | exact rfl)); (focus (first | exact aadd_block _ _ | exact rfl))))) (hk := by (first | exact Mode.kept_seq rfl | (dsimp only [Mode.kept, Mode.logged, Mode.at]; (repeat' (first | exact (fun _ h => absurd h List.not_mem_nil) | (refine List.forall_mem_cons.2 ⟨?_, ?_⟩) | (refine .inl ?_; exact rfl) | (refine .inl ?_; dsimp only; decide))); done))) (h := ?_)
      | (refine ew_dec (hn := r_streq) (ht := ?_) (hf := ?_) <;> intro _)
      | (refine ew_dec (hn := (r_bin (hr := by (first | exact ib_eql | exact ib_gtr | exact ib_leq | exact ib_lss | exact ib_neq)))) (ht := ?_) (hf := ?_) <;> intro _)
      | refine ew_n (hn := r_bin (hr := by (first | (simp (disch := omega) only [intBin, wrap_in, wrap8_in, tdiv_in, tmod_in, if_false, reduceIte]; exact rfl) | (apply ib_rem; omega)))) (h := ?_)
      | (refine w_nil ?_))
    | (show EC _ _ _ _ _ _ _; first | (refine k_seq ?_) | (refine k_region ?_) | (refine k_skip ?_) | (refine k_ret ?_) | (refine k_exit ?_) | (refine k_block ?_) | (refine k_true (h := ?_)) | (refine k_false (h := ?_)))
    | (show EX _ (bodyA _ _ _) _ _ _; first | (refine x_end1 (hq := ?_)) | (refine x_endc (hc := by (first | assumption | (apply cells_row; (focus ((repeat' (first | assumption | (rw [aadd_block]) | (apply gN; (focus (first | exact rfl | omega | (simp only [AHeap.push_next, AHeap.put_next, aadd_block] <;> omega))); (focus exact rfl)) | (apply gO; (focus (first | omega | (simp only [AHeap.push_next, AHeap.put_next, aadd_block, ne_eq] <;> omega)))) | (apply gS; (focus (first | exact rfl | omega | (simp only [AHeap.push_next, AHeap.put_next, aadd_block] <;> omega))); (focus exact rfl)) | (apply gP; (focus (first | omega | (simp only [AHeap.push_next, AHeap.put_next, aadd_block, ne_eq] <;> omega)))) | exact rfl)); done)); (focus exact rfl); (focus exact rfl); (focus (first | exact (rfl : _ = some [_]) | exact (rfl : _ = some [_, _, _])))) | (apply cells_k; (focus assumption); (focus (first | assumption | (simp only [aadd_block] <;> first | assumption | omega))); (focus ((repeat' (first | exact Keep.refl | assumption | (apply Keep.push) | (refine Keep.put ?_ ?_; rotate_left; (focus (intro hlt; first | assumption | omega | (exfalso; simp only [AHeap.push_next, AHeap.put_next, aadd_block] at hlt; omega)))))); done))))) (hv := by exact rfl) (hq := ?_)))
    | (show EX _ _ _ _ _; first | (refine x_normal ?_) | (refine x_ret ?_) | (refine x_exit ?_) | (refine x_same ?_) | (refine x_other (h := ?_)) | (refine x_bnormal ?_) | (refine x_bret ?_)))
      all_goals (
        have hrow := byte_row i hlt
        (first | (refine' ew_callS (hc := cr_call) (hR := ?_) (h := ?_); rotate_left 1) | (refine' ew_call (hc := cr_call) (hR := ?_) (h := ?_); rotate_left 1))
        · exact sendM (G := fun x => x = b) 0 1 (bs := [UInt8.ofNat i]) (hN.keep0 (by ((repeat' (first | exact Keep.refl | assumption | (apply Keep.push) | (refine Keep.put ?_ ?_; rotate_left; (focus (intro hlt; first | assumption | omega | (exfalso; simp only [AHeap.push_next, AHeap.put_next, aadd_block] at hlt; omega)))))); done))) (rd_row (e := 5) (rw' := true) (n := 1) (by rw [← hrow]; ((repeat' (first | assumption | (rw [aadd_block]) | (apply gN; (focus (first | exact rfl | omega | (simp only [AHeap.push_next, AHeap.put_next, aadd_block] <;> omega))); (focus exact rfl)) | (apply gO; (focus (first | omega | (simp only [AHeap.push_next, AHeap.put_next, aadd_block, ne_eq] <;> omega)))) | (apply gS; (focus (first | exact rfl | omega | (simp only [AHeap.push_next, AHeap.put_next, aadd_block] <;> omega))); (focus exact rfl)) | (apply gP; (focus (first | omega | (simp only [AHeap.push_next, AHeap.put_next, aadd_block, ne_eq] <;> omega)))) | exact rfl)); done)) rfl (by simp only [AHeap.push_next]; omega)) (by simp)
        have hres : sendP 2 M 0 1 [UInt8.ofNat i] = (0, M ++ [(0, 1, [UInt8.ofNat i])]) := by unfold sendP; rw [if_neg (by decide), if_neg (by simp), if_neg (by omega)]
        rw [hres]
        rintro _ H3 ⟨rfl, hk3, F', hN3, hg3⟩
        repeat' (first
    | (show EW _ _ _ _ _; first
      | refine ew_n (hn := r_move) (h := ?_)
      | refine ew_n (hn := r_assign) (h := ?_)
      | refine ew_n (hn := r_pick_t) (h := ?_)
      | refine ew_n (hn := r_pick_f) (h := ?_)
      | refine ew_n (hn := r_field) (h := ?_)
      | refine ew_n (hn := r_len) (h := ?_)
      | refine ew_n (hn := r_len_str) (h := ?_)
      | refine ew_n (hn := r_not) (h := ?_)
      | refine ew_n (hn := r_extract) (h := ?_)
      | refine ew_n (hn := (r_index (h0 := by omega) (h1 := by first | omega | (simp; done) | (simp; omega)))) (h := ?_)
      | refine ew_n (hn := r_nil_eq) (h := ?_)
      | refine ew_n (hn := r_beq) (h := ?_)
      | refine ew_n (hn := r_nil_ne) (h := ?_)
      | refine ew_n (hn := r_bne) (h := ?_)
      | refine ew_n (hn := (r_bin (hr := by first | (apply cmp_t; (focus (first | exact ib_eql | exact ib_gtr | exact ib_leq | exact ib_lss | exact ib_neq)); omega) | (apply cmp_f; (focus (first | exact ib_eql | exact ib_gtr | exact ib_leq | exact ib_lss | exact ib_neq)); omega)))) (h := ?_)
      | refine ew_skip (h := ?_)
      | refine ew_load (hc := by (first | assumption | (apply cells_row; (focus ((repeat' (first | assumption | (rw [aadd_block]) | (apply gN; (focus (first | exact rfl | omega | (simp only [AHeap.push_next, AHeap.put_next, aadd_block] <;> omega))); (focus exact rfl)) | (apply gO; (focus (first | omega | (simp only [AHeap.push_next, AHeap.put_next, aadd_block, ne_eq] <;> omega)))) | (apply gS; (focus (first | exact rfl | omega | (simp only [AHeap.push_next, AHeap.put_next, aadd_block] <;> omega))); (focus exact rfl)) | (apply gP; (focus (first | omega | (simp only [AHeap.push_next, AHeap.put_next, aadd_block, ne_eq] <;> omega)))) | exact rfl)); done)); (focus exact rfl); (focus exact rfl); (focus (first | exact (rfl : _ = some [_]) | exact (rfl : _ = some [_, _, _])))) | (apply cells_k; (focus assumption); (focus (first | assumption | (simp only [aadd_block] <;> first | assumption | omega))); (focus ((repeat' (first | exact Keep.refl | assumption | (apply Keep.push) | (refine Keep.put ?_ ?_; rotate_left; (focus (intro hlt; first | assumption | omega | (exfalso; simp only [AHeap.push_next, AHeap.put_next, aadd_block] at hlt; omega)))))); done))))) (hv := by exact rfl) (h := ?_)
      | refine ew_conv (hn := r_conv_int) (h := ?_)
      | refine ew_conv (hn := r_conv_br (h := by first | assumption | (apply Rd.keep0; (focus assumption); ((repeat' (first | exact Keep.refl | assumption | (apply Keep.push) | (refine Keep.put ?_ ?_; rotate_left; (focus (intro hlt; first | assumption | omega | (exfalso; simp only [AHeap.push_next, AHeap.put_next, aadd_block] at hlt; omega)))))); done)))) (h := ?_)
      | (refine ew_fresh ?_; intro b hb; (first | refine ew_n (hn := (r_alloc hb)) (h := ?_) | refine ew_n (hn := (r_buildSlice hb [])) (h := ?_) | refine ew_n (hn := (r_buildSlice hb [_])) (h := ?_) | refine ew_n (hn := (r_buildSlice hb [_, _, _])) (h := ?_)); (try simp only [AHeap.push_next, AHeap.put_next] at hb))
      | refine ew_e (he := er_store (hc := by (apply setCells_at; (focus ((repeat' (first | assumption | (rw [aadd_block]) | (apply gN; (focus (first | exact rfl | omega | (simp only [AHeap.push_next, AHeap.put_next, aadd_block] <;> omega))); (focus exact rfl)) | (apply gO; (focus (first | omega | (simp only [AHeap.push_next, AHeap.put_next, aadd_block, ne_eq] <;> omega)))) | (apply gS; (focus (first | exact rfl | omega | (simp only [AHeap.push_next, AHeap.put_next, aadd_block] <;> omega))); (focus exact rfl)) | (apply gP; (focus (first | omega | (simp only [AHeap.push_next, AHeap.put_next, aadd_block, ne_eq] <;> omega)))) | exact rfl)); done)); (focus exact rfl); (focus (first | exact Nat.le_of_ble_eq_true rfl | (simp; omega) | (simp; done) | (simp [Value.cells]; omega))); (focus (first | exact rfl | (simp; done))); (focus (first | exact (rfl : _ = [_]) | exact (rfl : _ = [_, _, _]) | exact rfl)); (focus (first | exact aadd_block _ _ | exact rfl))))) (hk := by (first | exact Mode.kept_seq rfl | (dsimp only [Mode.kept, Mode.logged, Mode.at]; (repeat' (first | exact (fun _ h => absurd h List.not_mem_nil) | (refine List.forall_mem_cons.2 ⟨?_, ?_⟩) | (refine .inl ?_; exact rfl) | (refine .inl ?_; dsimp only; decide))); done))) (h := ?_)
      | (refine ew_dec (hn := r_streq) (ht := ?_) (hf := ?_) <;> intro _)
      | (refine ew_dec (hn := (r_bin (hr := by (first | exact ib_eql | exact ib_gtr | exact ib_leq | exact ib_lss | exact ib_neq)))) (ht := ?_) (hf := ?_) <;> intro _)
      | refine ew_n (hn := r_bin (hr := by (first | (simp (disch := omega) only [intBin, wrap_in, wrap8_in, tdiv_in, tmod_in, if_false, reduceIte]; exact rfl) | (apply ib_rem; omega)))) (h := ?_)
      | (refine w_nil ?_))
    | (show EC _ _ _ _ _ _ _; first | (refine k_seq ?_) | (refine k_region ?_) | (refine k_skip ?_) | (refine k_ret ?_) | (refine k_exit ?_) | (refine k_block ?_) | (refine k_true (h := ?_)) | (refine k_false (h := ?_)))
    | (show EX _ (bodyA _ _ _) _ _ _; first | (refine x_end1 (hq := ?_)) | (refine x_endc (hc := by (first | assumption | (apply cells_row; (focus ((repeat' (first | assumption | (rw [aadd_block]) | (apply gN; (focus (first | exact rfl | omega | (simp only [AHeap.push_next, AHeap.put_next, aadd_block] <;> omega))); (focus exact rfl)) | (apply gO; (focus (first | omega | (simp only [AHeap.push_next, AHeap.put_next, aadd_block, ne_eq] <;> omega)))) | (apply gS; (focus (first | exact rfl | omega | (simp only [AHeap.push_next, AHeap.put_next, aadd_block] <;> omega))); (focus exact rfl)) | (apply gP; (focus (first | omega | (simp only [AHeap.push_next, AHeap.put_next, aadd_block, ne_eq] <;> omega)))) | exact rfl)); done)); (focus exact rfl); (focus exact rfl); (focus (first | exact (rfl : _ = some [_]) | exact (rfl : _ = some [_, _, _])))) | (apply cells_k; (focus assumption); (focus (first | assumption | (simp only [aadd_block] <;> first | assumption | omega))); (focus ((repeat' (first | exact Keep.refl | assumption | (apply Keep.push) | (refine Keep.put ?_ ?_; rotate_left; (focus (intro hlt; first | assumption | omega | (exfalso; simp only [AHeap.push_next, AHeap.put_next, aadd_block] at hlt; omega)))))); done))))) (hv := by exact rfl) (hq := ?_)))
    | (show EX _ _ _ _ _; first | (refine x_normal ?_) | (refine x_ret ?_) | (refine x_exit ?_) | (refine x_same ?_) | (refine x_other (h := ?_)) | (refine x_bnormal ?_) | (refine x_bret ?_)))
        have hk4 : Keep No H H3 := (hk.after (by ((repeat' (first | exact Keep.refl | assumption | (apply Keep.push) | (refine Keep.put ?_ ?_; rotate_left; (focus (intro hlt; first | assumption | omega | (exfalso; simp only [AHeap.push_next, AHeap.put_next, aadd_block] at hlt; omega)))))); done) : Keep No H2 (H2.push _))).own hk3 hF
        exact x_again (n - 1) [(5, _), (7, _), (8, _), (1, _)] ⟨rfl, rfl, rfl, rfl, trivial⟩ (by omega) ⟨hk4, i + 1, F', _, by omega, rfl, hN3, by simp [hM], hg3.own (by simp only [AHeap.push_next]; omega) hF⟩)
  · obtain rfl : i = 256 := by omega
    repeat' (first
    | (show EW _ _ _ _ _; first
      | refine ew_n (hn := r_move) (h := ?_)
      | refine ew_n (hn := r_assign) (h := ?_)
      | refine ew_n (hn := r_pick_t) (h := ?_)
      | refine ew_n (hn := r_pick_f) (h := ?_)
      | refine ew_n (hn := r_field) (h := ?_)
      | refine ew_n (hn := r_len) (h := ?_)
      | refine ew_n (hn := r_len_str) (h := ?_)
      | refine ew_n (hn := r_not) (h := ?_)
      | refine ew_n (hn := r_extract) (h := ?_)
      | refine ew_n (hn := (r_index (h0 := by omega) (h1 := by first | omega | (simp; done) | (simp; omega)))) (h := ?_)
      | refine ew_n (hn := r_nil_eq) (h := ?_)
      | refine ew_n (hn := r_beq) (h := ?_)
      | refine ew_n (hn := r_nil_ne) (h := ?_)
      | refine ew_n (hn := r_bne) (h := ?_)
      | refine ew_n (hn := (r_bin (hr := by first | (apply cmp_t; (focus (first | exact ib_eql | exact ib_gtr | exact ib_leq | exact ib_lss | exact ib_neq)); omega) | (apply cmp_f; (focus (first | exact ib_eql | exact ib_gtr | exact ib_leq | exact ib_lss | exact ib_neq)); omega)))) (h := ?_)
      | refine ew_skip (h := ?_)
      | refine ew_load (hc := by (first | assumption | (apply cells_row; (focus ((repeat' (first | assumption | (rw [aadd_block]) | (apply gN; (focus (first | exact rfl | omega | (simp only [AHeap.push_next, AHeap.put_next, aadd_block] <;> omega))); (focus exact rfl)) | (apply gO; (focus (first | omega | (simp only [AHeap.push_next, AHeap.put_next, aadd_block, ne_eq] <;> omega)))) | (apply gS; (focus (first | exact rfl | omega | (simp only [AHeap.push_next, AHeap.put_next, aadd_block] <;> omega))); (focus exact rfl)) | (apply gP; (focus (first | omega | (simp only [AHeap.push_next, AHeap.put_next, aadd_block, ne_eq] <;> omega)))) | exact rfl)); done)); (focus exact rfl); (focus exact rfl); (focus (first | exact (rfl : _ = some [_]) | exact (rfl : _ = some [_, _, _])))) | (apply cells_k; (focus assumption); (focus (first | assumption | (simp only [aadd_block] <;> first | assumption | omega))); (focus ((repeat' (first | exact Keep.refl | assumption | (apply Keep.push) | (refine Keep.put ?_ ?_; rotate_left; (focus (intro hlt; first | assumption | omega | (exfalso; simp only [AHeap.push_next, AHeap.put_next, aadd_block] at hlt; omega)))))); done))))) (hv := by exact rfl) (h := ?_)
      | refine ew_conv (hn := r_conv_int) (h := ?_)
      | refine ew_conv (hn := r_conv_br (h := by first | assumption | (apply Rd.keep0; (focus assumption); ((repeat' (first | exact Keep.refl | assumption | (apply Keep.push) | (refine Keep.put ?_ ?_; rotate_left; (focus (intro hlt; first | assumption | omega | (exfalso; simp only [AHeap.push_next, AHeap.put_next, aadd_block] at hlt; omega)))))); done)))) (h := ?_)
      | (refine ew_fresh ?_; intro b hb; (first | refine ew_n (hn := (r_alloc hb)) (h := ?_) | refine ew_n (hn := (r_buildSlice hb [])) (h := ?_) | refine ew_n (hn := (r_buildSlice hb [_])) (h := ?_) | refine ew_n (hn := (r_buildSlice hb [_, _, _])) (h := ?_)); (try simp only [AHeap.push_next, AHeap.put_next] at hb))
      | refine ew_e (he := er_store (hc := by (apply setCells_at; (focus ((repeat' (first | assumption | (rw [aadd_block]) | (apply gN; (focus (first | exact rfl | omega | (simp only [AHeap.push_next, AHeap.put_next, aadd_block] <;> omega))); (focus exact rfl)) | (apply gO; (focus (first | omega | (simp only [AHeap.push_next, AHeap.put_next, aadd_block, ne_eq] <;> omega)))) | (apply gS; (focus (first | exact rfl | omega | (simp only [AHeap.push_next, AHeap.put_next, aadd_block] <;> omega))); (focus exact rfl)) | (apply gP; (focus (first | omega | (simp only [AHeap.push_next, AHeap.put_next, aadd_block, ne_eq] <;> omega)))) | exact rfl)); done)); (focus exact rfl); (focus (first | exact Nat.le_of_ble_eq_true rfl | (simp; omega) | (simp; done) | (simp [Value.cells]; omega))); (focus (first | exact rfl | (simp; done))); (focus (first | exact (rfl : _ = [_]) | exact (rfl : _ = [_, _, _]) | exact rfl)); (focus (first | exact aadd_block _ _ | exact rfl))))) (hk := by (first | exact Mode.kept_seq rfl | (dsimp only [Mode.kept, Mode.logged, Mode.at]; (repeat' (first | exact (fun _ h => absurd h List.not_mem_nil) | (refine List.forall_mem_cons.2 ⟨?_, ?_⟩) | (refine .inl ?_; exact rfl) | (refine .inl ?_; dsimp only; decide))); done))) (h := ?_)
      | (refine ew_dec (hn := r_streq) (ht := ?_) (hf := ?_) <;> intro _)
      | (refine ew_dec (hn := (r_bin (hr := by (first | exact ib_eql | exact ib_gtr | exact ib_leq | exact ib_lss | exact ib_neq)))) (ht := ?_) (hf := ?_) <;> intro _)
      | refine ew_n (hn := r_bin (hr := by (first | (simp (disch := omega) only [intBin, wrap_in, wrap8_in, tdiv_in, tmod_in, if_false, reduceIte]; exact rfl) | (apply ib_rem; omega)))) (h := ?_)
      | (refine w_nil ?_))
    | (show EC _ _ _ _ _ _ _; first | (refine k_seq ?_) | (refine k_region ?_) | (refine k_skip ?_) | (refine k_ret ?_) | (refine k_exit ?_) | (refine k_block ?_) | (refine k_true (h := ?_)) | (refine k_false (h := ?_)))
    | (show EX _ (bodyA _ _ _) _ _ _; first | (refine x_end1 (hq := ?_)) | (refine x_endc (hc := by (first | assumption | (apply cells_row; (focus ((repeat' (first | assumption | (rw [aadd_block]) | (apply gN; (focus (first | exact rfl | omega | (simp only [AHeap.push_next, AHeap.put_next, aadd_block] <;> omega))); (focus exact rfl)) | (apply gO; (focus (first | omega | (simp only [AHeap.push_next, AHeap.put_next, aadd_block, ne_eq] <;> omega)))) | (apply gS; (focus (first | exact rfl | omega | (simp only [AHeap.push_next, AHeap.put_next, aadd_block] <;> omega))); (focus exact rfl)) | (apply gP; (focus (first | omega | (simp only [AHeap.push_next, AHeap.put_next, aadd_block, ne_eq] <;> omega)))) | exact rfl)); done)); (focus exact rfl); (focus exact rfl); (focus (first | exact (rfl : _ = some [_]) | exact (rfl : _ = some [_, _, _])))) | (apply cells_k; (focus assumption); (focus (first | assumption | (simp only [aadd_block] <;> first | assumption | omega))); (focus ((repeat' (first | exact Keep.refl | assumption | (apply Keep.push) | (refine Keep.put ?_ ?_; rotate_left; (focus (intro hlt; first | assumption | omega | (exfalso; simp only [AHeap.push_next, AHeap.put_next, aadd_block] at hlt; omega)))))); done))))) (hv := by exact rfl) (hq := ?_)))
    | (show EX _ _ _ _ _; first | (refine x_normal ?_) | (refine x_ret ?_) | (refine x_exit ?_) | (refine x_same ?_) | (refine x_other (h := ?_)) | (refine x_bnormal ?_) | (refine x_bret ?_)))
    (first | (refine' ew_callS (hc := cr_call) (hR := ?_) (h := ?_); rotate_left 1) | (refine' ew_call (hc := cr_call) (hR := ?_) (h := ?_); rotate_left 1))
    · exact sendM (G := No) 1 0 (bs := []) hN (.empty _ _) (by simp)
    have hres : sendP 2 M 1 0 [] = (223, M) := by unfold sendP; rw [if_neg (by decide), if_neg (by simp), if_pos hM]
    rw [hres]
    rintro _ H3 ⟨rfl, hk3, F3, hN3, hg3⟩
    have hkA := hk.own hk3 hF
    replace hF := hg3.own hn2 hF
    have hn3 := hkA.1
    repeat' (first
    | (show EW _ _ _ _ _; first
      | refine ew_n (hn := r_move) (h := ?_)
      | refine ew_n (hn := r_assign) (h := ?_)
      | refine ew_n (hn := r_pick_t) (h := ?_)
      | refine ew_n (hn := r_pick_f) (h := ?_)
      | refine ew_n (hn := r_field) (h := ?_)
      | refine ew_n (hn := r_len) (h := ?_)
      | refine ew_n (hn := r_len_str) (h := ?_)
      | refine ew_n (hn := r_not) (h := ?_)
      | refine ew_n (hn := r_extract) (h := ?_)
      | refine ew_n (hn := (r_index (h0 := by omega) (h1 := by first | omega | (simp; done) | (simp; omega)))) (h := ?_)
      | refine ew_n (hn := r_nil_eq) (h := ?_)
      | refine ew_n (hn := r_beq) (h := ?_)
      | refine ew_n (hn := r_nil_ne) (h := ?_)
      | refine ew_n (hn := r_bne) (h := ?_)
      | refine ew_n (hn := (r_bin (hr := by first | (apply cmp_t; (focus (first | exact ib_eql | exact ib_gtr | exact ib_leq | exact ib_lss | exact ib_neq)); omega) | (apply cmp_f; (focus (first | exact ib_eql | exact ib_gtr | exact ib_leq | exact ib_lss | exact ib_neq)); omega)))) (h := ?_)
      | refine ew_skip (h := ?_)
      | refine ew_load (hc := by (first | assumption | (apply cells_row; (focus ((repeat' (first | assumption | (rw [aadd_block]) | (apply gN; (focus (first | exact rfl | omega | (simp only [AHeap.push_next, AHeap.put_next, aadd_block] <;> omega))); (focus exact rfl)) | (apply gO; (focus (first | omega | (simp only [AHeap.push_next, AHeap.put_next, aadd_block, ne_eq] <;> omega)))) | (apply gS; (focus (first | exact rfl | omega | (simp only [AHeap.push_next, AHeap.put_next, aadd_block] <;> omega))); (focus exact rfl)) | (apply gP; (focus (first | omega | (simp only [AHeap.push_next, AHeap.put_next, aadd_block, ne_eq] <;> omega)))) | exact rfl)); done)); (focus exact rfl); (focus exact rfl); (focus (first | exact (rfl : _ = some [_]) | exact (rfl : _ = some [_, _, _])))) | (apply cells_k; (focus assumption); (focus (first | assumption | (simp only [aadd_block] <;> first | assumption | omega))); (focus ((repeat' (first | exact Keep.refl | assumption | (apply Keep.push) | (refine Keep.put ?_ ?_; rotate_left; (focus (intro hlt; first | assumption | omega | (exfalso; simp only [AHeap.push_next, AHeap.put_next, aadd_block] at hlt; omega)))))); done))))) (hv := by exact rfl) (h := ?_)
      | refine ew_conv (hn := r_conv_int) (h := ?_)
      | refine ew_conv (hn := r_conv_br (h := by first | assumption | (apply Rd.keep0; (focus assumption); ((repeat' (first | exact Keep.refl | assumption | (apply Keep.push) | (refine Keep.put ?_ ?_; rotate_left; (focus (intro hlt; first | assumption | omega | (exfalso; simp only [AHeap.push_next, AHeap.put_next, aadd_block] at hlt; omega)))))); done)))) (h := ?_)
      | (refine ew_fresh ?_; intro b hb; (first | refine ew_n (hn := (r_alloc hb)) (h := ?_) | refine ew_n (hn := (r_buildSlice hb [])) (h := ?_) | refine ew_n (hn := (r_buildSlice hb [_])) (h := ?_) | refine ew_n (hn := (r_buildSlice hb [_, _, _])) (h := ?_)); (try simp only [AHeap.push_next, AHeap.put_next] at hb))
      | refine ew_e (he := er_store (hc := by (apply setCells_at; (focus ((repeat' (first | assumption | (rw [aadd_block]) | (apply gN; (focus (first | exact rfl | omega | (simp only [AHeap.push_next, AHeap.put_next, aadd_block] <;> omega))); (focus exact rfl)) | (apply gO; (focus (first | omega | (simp only [AHeap.push_next, AHeap.put_next, aadd_block, ne_eq] <;> omega)))) | (apply gS; (focus (first | exact rfl | omega | (simp only [AHeap.push_next, AHeap.put_next, aadd_block] <;> omega))); (focus exact rfl)) | (apply gP; (focus (first | omega | (simp only [AHeap.push_next, AHeap.put_next, aadd_block, ne_eq] <;> omega)))) | exact rfl)); done)); (focus exact rfl); (focus (first | exact Nat.le_of_ble_eq_true rfl | (simp; omega) | (simp; done) | (simp [Value.cells]; omega))); (focus (first | exact rfl | (simp; done))); (focus (first | exact (rfl : _ = [_]) | exact (rfl : _ = [_, _, _]) | exact rfl)); (focus (first | exact aadd_block _ _ | exact rfl))))) (hk := by (first | exact Mode.kept_seq rfl | (dsimp only [Mode.kept, Mode.logged, Mode.at]; (repeat' (first | exact (fun _ h => absurd h List.not_mem_nil) | (refine List.forall_mem_cons.2 ⟨?_, ?_⟩) | (refine .inl ?_; exact rfl) | (refine .inl ?_; dsimp only; decide))); done))) (h := ?_)
      | (refine ew_dec (hn := r_streq) (ht := ?_) (hf := ?_) <;> intro _)
      | (refine ew_dec (hn := (r_bin (hr := by (first | exact ib_eql | exact ib_gtr | exact ib_leq | exact ib_lss | exact ib_neq)))) (ht := ?_) (hf := ?_) <;> intro _)
      | refine ew_n (hn := r_bin (hr := by (first | (simp (disch := omega) only [intBin, wrap_in, wrap8_in, tdiv_in, tmod_in, if_false, reduceIte]; exact rfl) | (apply ib_rem; omega)))) (h := ?_)
      | (refine w_nil ?_))
    | (show EC _ _ _ _ _ _ _; first | (refine k_seq ?_) | (refine k_region ?_) | (refine k_skip ?_) | (refine k_ret ?_) | (refine k_exit ?_) | (refine k_block ?_) | (refine k_true (h := ?_)) | (refine k_false (h := ?_)))
    | (show EX _ (bodyA _ _ _) _ _ _; first | (refine x_end1 (hq := ?_)) | (refine x_endc (hc := by (first | assumption | (apply cells_row; (focus ((repeat' (first | assumption | (rw [aadd_block]) | (apply gN; (focus (first | exact rfl | omega | (simp only [AHeap.push_next, AHeap.put_next, aadd_block] <;> omega))); (focus exact rfl)) | (apply gO; (focus (first | omega | (simp only [AHeap.push_next, AHeap.put_next, aadd_block, ne_eq] <;> omega)))) | (apply gS; (focus (first | exact rfl | omega | (simp only [AHeap.push_next, AHeap.put_next, aadd_block] <;> omega))); (focus exact rfl)) | (apply gP; (focus (first | omega | (simp only [AHeap.push_next, AHeap.put_next, aadd_block, ne_eq] <;> omega)))) | exact rfl)); done)); (focus exact rfl); (focus exact rfl); (focus (first | exact (rfl : _ = some [_]) | exact (rfl : _ = some [_, _, _])))) | (apply cells_k; (focus assumption); (focus (first | assumption | (simp only [aadd_block] <;> first | assumption | omega))); (focus ((repeat' (first | exact Keep.refl | assumption | (apply Keep.push) | (refine Keep.put ?_ ?_; rotate_left; (focus (intro hlt; first | assumption | omega | (exfalso; simp only [AHeap.push_next, AHeap.put_next, aadd_block] at hlt; omega)))))); done))))) (hv := by exact rfl) (hq := ?_)))
    | (show EX _ _ _ _ _; first | (refine x_normal ?_) | (refine x_ret ?_) | (refine x_exit ?_) | (refine x_same ?_) | (refine x_other (h := ?_)) | (refine x_bnormal ?_) | (refine x_bret ?_)))
    (first | (refine' ew_callS (hc := cr_call) (hR := ?_) (h := ?_); rotate_left 1) | (refine' ew_call (hc := cr_call) (hR := ?_) (h := ?_); rotate_left 1))
    · exact copyM 255 hN3
    have hres : copyP M 255 = (223, M) := by
      unfold copyP
      obtain ⟨x, hx⟩ : ∃ x, atI M 255 = some x := Option.isSome_iff_exists.1 (by rw [atI_isSome]; simp; omega)
      rw [hx]; simp only; rw [if_pos hM]
    rw [hres]
    rintro _ H4 ⟨rfl, hk4, F4, hN4, hg4⟩
    have hkB := hkA.own hk4 hF
    replace hF := hg4.own hn3 hF
    have hn4 := hkB.1
    repeat' (first
    | (show EW _ _ _ _ _; first
      | refine ew_n (hn := r_move) (h := ?_)
      | refine ew_n (hn := r_assign) (h := ?_)
      | refine ew_n (hn := r_pick_t) (h := ?_)
      | refine ew_n (hn := r_pick_f) (h := ?_)
      | refine ew_n (hn := r_field) (h := ?_)
      | refine ew_n (hn := r_len) (h := ?_)
      | refine ew_n (hn := r_len_str) (h := ?_)
      | refine ew_n (hn := r_not) (h := ?_)
      | refine ew_n (hn := r_extract) (h := ?_)
      | refine ew_n (hn := (r_index (h0 := by omega) (h1 := by first | omega | (simp; done) | (simp; omega)))) (h := ?_)
      | refine ew_n (hn := r_nil_eq) (h := ?_)
      | refine ew_n (hn := r_beq) (h := ?_)
      | refine ew_n (hn := r_nil_ne) (h := ?_)
      | refine ew_n (hn := r_bne) (h := ?_)
      | refine ew_n (hn := (r_bin (hr := by first | (apply cmp_t; (focus (first | exact ib_eql | exact ib_gtr | exact ib_leq | exact ib_lss | exact ib_neq)); omega) | (apply cmp_f; (focus (first | exact ib_eql | exact ib_gtr | exact ib_leq | exact ib_lss | exact ib_neq)); omega)))) (h := ?_)
      | refine ew_skip (h := ?_)
      | refine ew_load (hc := by (first | assumption | (apply cells_row; (focus ((repeat' (first | assumption | (rw [aadd_block]) | (apply gN; (focus (first | exact rfl | omega | (simp only [AHeap.push_next, AHeap.put_next, aadd_block] <;> omega))); (focus exact rfl)) | (apply gO; (focus (first | omega | (simp only [AHeap.push_next, AHeap.put_next, aadd_block, ne_eq] <;> omega)))) | (apply gS; (focus (first | exact rfl | omega | (simp only [AHeap.push_next, AHeap.put_next, aadd_block] <;> omega))); (focus exact rfl)) | (apply gP; (focus (first | omega | (simp only [AHeap.push_next, AHeap.put_next, aadd_block, ne_eq] <;> omega)))) | exact rfl)); done)); (focus exact rfl); (focus exact rfl); (focus (first | exact (rfl : _ = some [_]) | exact (rfl : _ = some [_, _, _])))) | (apply cells_k; (focus assumption); (focus (first | assumption | (simp only [aadd_block] <;> first | assumption | omega))); (focus ((repeat' (first | exact Keep.refl | assumption | (apply Keep.push) | (refine Keep.put ?_ ?_; rotate_left; (focus (intro hlt; first | assumption | omega | (exfalso; simp only [AHeap.push_next, AHeap.put_next, aadd_block] at hlt; omega)))))); done))))) (hv := by exact rfl) (h := ?_)
      | refine ew_conv (hn := r_conv_int) (h := ?_)
      | refine ew_conv (hn := r_conv_br (h := by first | assumption | (apply Rd.keep0; (focus assumption); ((repeat' (first | exact Keep.refl | assumption | (apply Keep.push) | (refine Keep.put ?_ ?_; rotate_left; (focus (intro hlt; first | assumption | omega | (exfalso; simp only [AHeap.push_next, AHeap.put_next, aadd_block] at hlt; omega)))))); done)))) (h := ?_)
      | (refine ew_fresh ?_; intro b hb; (first | refine ew_n (hn := (r_alloc hb)) (h := ?_) | refine ew_n (hn := (r_buildSlice hb [])) (h := ?_) | refine ew_n (hn := (r_buildSlice hb [_])) (h := ?_) | refine ew_n (hn := (r_buildSlice hb [_, _, _])) (h := ?_)); (try simp only [AHeap.push_next, AHeap.put_next] at hb))
      | refine ew_e (he := er_store (hc := by (apply setCells_at; (focus ((repeat' (first | assumption | (rw [aadd_block]) | (apply gN; (focus (first | exact rfl | omega | (simp only [AHeap.push_next, AHeap.put_next, aadd_block] <;> omega))); (focus exact rfl)) | (apply gO; (focus (first | omega | (simp only [AHeap.push_next, AHeap.put_next, aadd_block, ne_eq] <;> omega)))) | (apply gS; (focus (first | exact rfl | omega | (simp only [AHeap.push_next, AHeap.put_next, aadd_block] <;> omega))); (focus exact rfl)) | (apply gP; (focus (first | omega | (simp only [AHeap.push_next, AHeap.put_next, aadd_block, ne_eq] <;> omega)))) | exact rfl)); done)); (focus exact rfl); (focus (first | exact Nat.le_of_ble_eq_true rfl | (simp; omega) | (simp; done) | (simp [Value.cells]; omega))); (focus (first | exact rfl | (simp; done))); (focus (first | exact (rfl : _ = [_]) | exact (rfl : _ = [_, _, _]) | exact rfl)); (focus (first | exact aadd_block _ _ | exact rfl))))) (hk := by (first | exact Mode.kept_seq rfl | (dsimp only [Mode.kept, Mode.logged, Mode.at]; (repeat' (first | exact (fun _ h => absurd h List.not_mem_nil) | (refine List.forall_mem_cons.2 ⟨?_, ?_⟩) | (refine .inl ?_; exact rfl) | (refine .inl ?_; dsimp only; decide))); done))) (h := ?_)
      | (refine ew_dec (hn := r_streq) (ht := ?_) (hf := ?_) <;> intro _)
      | (refine ew_dec (hn := (r_bin (hr := by (first | exact ib_eql | exact ib_gtr | exact ib_leq | exact ib_lss | exact ib_neq)))) (ht := ?_) (hf := ?_) <;> intro _)
      | refine ew_n (hn := r_bin (hr := by (first | (simp (disch := omega) only [intBin, wrap_in, wrap8_in, tdiv_in, tmod_in, if_false, reduceIte]; exact rfl) | (apply ib_rem; omega)))) (h := ?_)
      | (refine w_nil ?_))
    | (show EC _ _ _ _ _ _ _; first | (refine k_seq ?_) | (refine k_region ?_) | (refine k_skip ?_) | (refine k_ret ?_) | (refine k_exit ?_) | (refine k_block ?_) | (refine k_true (h := ?_)) | (refine k_false (h := ?_)))
    | (show EX _ (bodyA _ _ _) _ _ _; first | (refine x_end1 (hq := ?_)) | (refine x_endc (hc := by (first | assumption | (apply cells_row; (focus ((repeat' (first | assumption | (rw [aadd_block]) | (apply gN; (focus (first | exact rfl | omega | (simp only [AHeap.push_next, AHeap.put_next, aadd_block] <;> omega))); (focus exact rfl)) | (apply gO; (focus (first | omega | (simp only [AHeap.push_next, AHeap.put_next, aadd_block, ne_eq] <;> omega)))) | (apply gS; (focus (first | exact rfl | omega | (simp only [AHeap.push_next, AHeap.put_next, aadd_block] <;> omega))); (focus exact rfl)) | (apply gP; (focus (first | omega | (simp only [AHeap.push_next, AHeap.put_next, aadd_block, ne_eq] <;> omega)))) | exact rfl)); done)); (focus exact rfl); (focus exact rfl); (focus (first | exact (rfl : _ = some [_]) | exact (rfl : _ = some [_, _, _])))) | (apply cells_k; (focus assumption); (focus (first | assumption | (simp only [aadd_block] <;> first | assumption | omega))); (focus ((repeat' (first | exact Keep.refl | assumption | (apply Keep.push) | (refine Keep.put ?_ ?_; rotate_left; (focus (intro hlt; first | assumption | omega | (exfalso; simp only [AHeap.push_next, AHeap.put_next, aadd_block] at hlt; omega)))))); done))))) (hv := by exact rfl) (hq := ?_)))
    | (show EX _ _ _ _ _; first | (refine x_normal ?_) | (refine x_ret ?_) | (refine x_exit ?_) | (refine x_same ?_) | (refine x_other (h := ?_)) | (refine x_bnormal ?_) | (refine x_bret ?_)))
    (first | (refine' ew_callS (hc := cr_call) (hR := ?_) (h := ?_); rotate_left 1) | (refine' ew_call (hc := cr_call) (hR := ?_) (h := ?_); rotate_left 1))
    · exact copyM 256 hN4
    have hres : copyP M 256 = (224, M) := by
      unfold copyP
      rw [atI_none (by omega)]
    rw [hres]
    rintro _ H5 ⟨rfl, hk5, F5, hN5, hg5⟩
    have hkC := hkB.own hk5 hF
    replace hF := hg5.own hn4 hF
    have hn5 := hkC.1
    repeat' (first
    | (show EW _ _ _ _ _; first
      | refine ew_n (hn := r_move) (h := ?_)
      | refine ew_n (hn := r_assign) (h := ?_)
      | refine ew_n (hn := r_pick_t) (h := ?_)
      | refine ew_n (hn := r_pick_f) (h := ?_)
      | refine ew_n (hn := r_field) (h := ?_)
      | refine ew_n (hn := r_len) (h := ?_)
      | refine ew_n (hn := r_len_str) (h := ?_)
      | refine ew_n (hn := r_not) (h := ?_)
      | refine ew_n (hn := r_extract) (h := ?_)
      | refine ew_n (hn := (r_index (h0 := by omega) (h1 := by first | omega | (simp; done) | (simp; omega)))) (h := ?_)
      | refine ew_n (hn := r_nil_eq) (h := ?_)
      | refine ew_n (hn := r_beq) (h := ?_)
      | refine ew_n (hn := r_nil_ne) (h := ?_)
      | refine ew_n (hn := r_bne) (h := ?_)
      | refine ew_n (hn := (r_bin (hr := by first | (apply cmp_t; (focus (first | exact ib_eql | exact ib_gtr | exact ib_leq | exact ib_lss | exact ib_neq)); omega) | (apply cmp_f; (focus (first | exact ib_eql | exact ib_gtr | exact ib_leq | exact ib_lss | exact ib_neq)); omega)))) (h := ?_)
      | refine ew_skip (h := ?_)
      | refine ew_load (hc := by (first | assumption | (apply cells_row; (focus ((repeat' (first | assumption | (rw [aadd_block]) | (apply gN; (focus (first | exact rfl | omega | (simp only [AHeap.push_next, AHeap.put_next, aadd_block] <;> omega))); (focus exact rfl)) | (apply gO; (focus (first | omega | (simp only [AHeap.push_next, AHeap.put_next, aadd_block, ne_eq] <;> omega)))) | (apply gS; (focus (first | exact rfl | omega | (simp only [AHeap.push_next, AHeap.put_next, aadd_block] <;> omega))); (focus exact rfl)) | (apply gP; (focus (first | omega | (simp only [AHeap.push_next, AHeap.put_next, aadd_block, ne_eq] <;> omega)))) | exact rfl)); done)); (focus exact rfl); (focus exact rfl); (focus (first | exact (rfl : _ = some [_]) | exact (rfl : _ = some [_, _, _])))) | (apply cells_k; (focus assumption); (focus (first | assumption | (simp only [aadd_block] <;> first | assumption | omega))); (focus ((repeat' (first | exact Keep.refl | assumption | (apply Keep.push) | (refine Keep.put ?_ ?_; rotate_left; (focus (intro hlt; first | assumption | omega | (exfalso; simp only [AHeap.push_next, AHeap.put_next, aadd_block] at hlt; omega)))))); done))))) (hv := by exact rfl) (h := ?_)
      | refine ew_conv (hn := r_conv_int) (h := ?_)
      | refine ew_conv (hn := r_conv_br (h := by first | assumption | (apply Rd.keep0; (focus assumption); ((repeat' (first | exact Keep.refl | assumption | (apply Keep.push) | (refine Keep.put ?_ ?_; rotate_left; (focus (intro hlt; first | assumption | omega | (exfalso; simp only [AHeap.push_next, AHeap.put_next, aadd_block] at hlt; omega)))))); done)))) (h := ?_)
      | (refine ew_fresh ?_; intro b hb; (first | refine ew_n (hn := (r_alloc hb)) (h := ?_) | refine ew_n (hn := (r_buildSlice hb [])) (h := ?_) | refine ew_n (hn := (r_buildSlice hb [_])) (h := ?_) | refine ew_n (hn := (r_buildSlice hb [_, _, _])) (h := ?_)); (try simp only [AHeap.push_next, AHeap.put_next] at hb))
      | refine ew_e (he := er_store (hc := by (apply setCells_at; (focus ((repeat' (first | assumption | (rw [aadd_block]) | (apply gN; (focus (first | exact rfl | omega | (simp only [AHeap.push_next, AHeap.put_next, aadd_block] <;> omega))); (focus exact rfl)) | (apply gO; (focus (first | omega | (simp only [AHeap.push_next, AHeap.put_next, aadd_block, ne_eq] <;> omega)))) | (apply gS; (focus (first | exact rfl | omega | (simp only [AHeap.push_next, AHeap.put_next, aadd_block] <;> omega))); (focus exact rfl)) | (apply gP; (focus (first | omega | (simp only [AHeap.push_next, AHeap.put_next, aadd_block, ne_eq] <;> omega)))) | exact rfl)); done)); (focus exact rfl); (focus (first | exact Nat.le_of_ble_eq_true rfl | (simp; omega) | (simp; done) | (simp [Value.cells]; omega))); (focus (first | exact rfl | (simp; done))); (focus (first | exact (rfl : _ = [_]) | exact (rfl : _ = [_, _, _]) | exact rfl)); (focus (first | exact aadd_block _ _ | exact rfl))))) (hk := by (first | exact Mode.kept_seq rfl | (dsimp only [Mode.kept, Mode.logged, Mode.at]; (repeat' (first | exact (fun _ h => absurd h List.not_mem_nil) | (refine List.forall_mem_cons.2 ⟨?_, ?_⟩) | (refine .inl ?_; exact rfl) | (refine .inl ?_; dsimp only; decide))); done))) (h := ?_)
      | (refine ew_dec (hn := r_streq) (ht := ?_) (hf := ?_) <;> intro _)
      | (refine ew_dec (hn := (r_bin (hr := by (first | exact ib_eql | exact ib_gtr | exact ib_leq | exact ib_lss | exact ib_neq)))) (ht := ?_) (hf := ?_) <;> intro _)
      | refine ew_n (hn := r_bin (hr := by (first | (simp (disch := omega) only [intBin, wrap_in, wrap8_in, tdiv_in, tmod_in, if_false, reduceIte]; exact rfl) | (apply ib_rem; omega)))) (h := ?_)
      | (refine w_nil ?_))
    | (show EC _ _ _ _ _ _ _; first | (refine k_seq ?_) | (refine k_region ?_) | (refine k_skip ?_) | (refine k_ret ?_) | (refine k_exit ?_) | (refine k_block ?_) | (refine k_true (h := ?_)) | (refine k_false (h := ?_)))
    | (show EX _ (bodyA _ _ _) _ _ _; first | (refine x_end1 (hq := ?_)) | (refine x_endc (hc := by (first | assumption | (apply cells_row; (focus ((repeat' (first | assumption | (rw [aadd_block]) | (apply gN; (focus (first | exact rfl | omega | (simp only [AHeap.push_next, AHeap.put_next, aadd_block] <;> omega))); (focus exact rfl)) | (apply gO; (focus (first | omega | (simp only [AHeap.push_next, AHeap.put_next, aadd_block, ne_eq] <;> omega)))) | (apply gS; (focus (first | exact rfl | omega | (simp only [AHeap.push_next, AHeap.put_next, aadd_block] <;> omega))); (focus exact rfl)) | (apply gP; (focus (first | omega | (simp only [AHeap.push_next, AHeap.put_next, aadd_block, ne_eq] <;> omega)))) | exact rfl)); done)); (focus exact rfl); (focus exact rfl); (focus (first | exact (rfl : _ = some [_]) | exact (rfl : _ = some [_, _, _])))) | (apply cells_k; (focus assumption); (focus (first | assumption | (simp only [aadd_block] <;> first | assumption | omega))); (focus ((repeat' (first | exact Keep.refl | assumption | (apply Keep.push) | (refine Keep.put ?_ ?_; rotate_left; (focus (intro hlt; first | assumption | omega | (exfalso; simp only [AHeap.push_next, AHeap.put_next, aadd_block] at hlt; omega)))))); done))))) (hv := by exact rfl) (hq := ?_)))
    | (show EX _ _ _ _ _; first | (refine x_normal ?_) | (refine x_ret ?_) | (refine x_exit ?_) | (refine x_same ?_) | (refine x_other (h := ?_)) | (refine x_bnormal ?_) | (refine x_bret ?_)))
    (first | (refine' ew_callS (hc := cr_call) (hR := ?_) (h := ?_); rotate_left 1) | (refine' ew_call (hc := cr_call) (hR := ?_) (h := ?_); rotate_left 1))
    · exact listM hN5
    rintro v H6 ⟨hk6, L6, hL6, hm6⟩
    obtain ⟨z6, c6, rfl⟩ := hL6.fli.rd.slice
    have hl6 : L6.length = 256 := by have := congrArg List.length hm6; simpa [hM] using this
    have hkD := hkC.after hk6
    have hn6 := hkD.1
    repeat' (first
    | (show EW _ _ _ _ _; first
      | refine ew_n (hn := r_move) (h := ?_)
      | refine ew_n (hn := r_assign) (h := ?_)
      | refine ew_n (hn := r_pick_t) (h := ?_)
      | refine ew_n (hn := r_pick_f) (h := ?_)
      | refine ew_n (hn := r_field) (h := ?_)
      | refine ew_n (hn := r_len) (h := ?_)
      | refine ew_n (hn := r_len_str) (h := ?_)
      | refine ew_n (hn := r_not) (h := ?_)
      | refine ew_n (hn := r_extract) (h := ?_)
      | refine ew_n (hn := (r_index (h0 := by omega) (h1 := by first | omega | (simp; done) | (simp; omega)))) (h := ?_)
      | refine ew_n (hn := r_nil_eq) (h := ?_)
      | refine ew_n (hn := r_beq) (h := ?_)
      | refine ew_n (hn := r_nil_ne) (h := ?_)
      | refine ew_n (hn := r_bne) (h := ?_)
      | refine ew_n (hn := (r_bin (hr := by first | (apply cmp_t; (focus (first | exact ib_eql | exact ib_gtr | exact ib_leq | exact ib_lss | exact ib_neq)); omega) | (apply cmp_f; (focus (first | exact ib_eql | exact ib_gtr | exact ib_leq | exact ib_lss | exact ib_neq)); omega)))) (h := ?_)
      | refine ew_skip (h := ?_)
      | refine ew_load (hc := by (first | assumption | (apply cells_row; (focus ((repeat' (first | assumption | (rw [aadd_block]) | (apply gN; (focus (first | exact rfl | omega | (simp only [AHeap.push_next, AHeap.put_next, aadd_block] <;> omega))); (focus exact rfl)) | (apply gO; (focus (first | omega | (simp only [AHeap.push_next, AHeap.put_next, aadd_block, ne_eq] <;> omega)))) | (apply gS; (focus (first | exact rfl | omega | (simp only [AHeap.push_next, AHeap.put_next, aadd_block] <;> omega))); (focus exact rfl)) | (apply gP; (focus (first | omega | (simp only [AHeap.push_next, AHeap.put_next, aadd_block, ne_eq] <;> omega)))) | exact rfl)); done)); (focus exact rfl); (focus exact rfl); (focus (first | exact (rfl : _ = some [_]) | exact (rfl : _ = some [_, _, _])))) | (apply cells_k; (focus assumption); (focus (first | assumption | (simp only [aadd_block] <;> first | assumption | omega))); (focus ((repeat' (first | exact Keep.refl | assumption | (apply Keep.push) | (refine Keep.put ?_ ?_; rotate_left; (focus (intro hlt; first | assumption | omega | (exfalso; simp only [AHeap.push_next, AHeap.put_next, aadd_block] at hlt; omega)))))); done))))) (hv := by exact rfl) (h := ?_)
      | refine ew_conv (hn := r_conv_int) (h := ?_)
      | refine ew_conv (hn := r_conv_br (h := by first | assumption | (apply Rd.keep0; (focus assumption); ((repeat' (first | exact Keep.refl | assumption | (apply Keep.push) | (refine Keep.put ?_ ?_; rotate_left; (focus (intro hlt; first | assumption | omega | (exfalso; simp only [AHeap.push_next, AHeap.put_next, aadd_block] at hlt; omega)))))); done)))) (h := ?_)
      | (refine ew_fresh ?_; intro b hb; (first | refine ew_n (hn := (r_alloc hb)) (h := ?_) | refine ew_n (hn := (r_buildSlice hb [])) (h := ?_) | refine ew_n (hn := (r_buildSlice hb [_])) (h := ?_) | refine ew_n (hn := (r_buildSlice hb [_, _, _])) (h := ?_)); (try simp only [AHeap.push_next, AHeap.put_next] at hb))
      | refine ew_e (he := er_store (hc := by (apply setCells_at; (focus ((repeat' (first | assumption | (rw [aadd_block]) | (apply gN; (focus (first | exact rfl | omega | (simp only [AHeap.push_next, AHeap.put_next, aadd_block] <;> omega))); (focus exact rfl)) | (apply gO; (focus (first | omega | (simp only [AHeap.push_next, AHeap.put_next, aadd_block, ne_eq] <;> omega)))) | (apply gS; (focus (first | exact rfl | omega | (simp only [AHeap.push_next, AHeap.put_next, aadd_block] <;> omega))); (focus exact rfl)) | (apply gP; (focus (first | omega | (simp only [AHeap.push_next, AHeap.put_next, aadd_block, ne_eq] <;> omega)))) | exact rfl)); done)); (focus exact rfl); (focus (first | exact Nat.le_of_ble_eq_true rfl | (simp; omega) | (simp; done) | (simp [Value.cells]; omega))); (focus (first | exact rfl | (simp; done))); (focus (first | exact (rfl : _ = [_]) | exact (rfl : _ = [_, _, _]) | exact rfl)); (focus (first | exact aadd_block _ _ | exact rfl))))) (hk := by (first | exact Mode.kept_seq rfl | (dsimp only [Mode.kept, Mode.logged, Mode.at]; (repeat' (first | exact (fun _ h => absurd h List.not_mem_nil) | (refine List.forall_mem_cons.2 ⟨?_, ?_⟩) | (refine .inl ?_; exact rfl) | (refine .inl ?_; dsimp only; decide))); done))) (h := ?_)
      | (refine ew_dec (hn := r_streq) (ht := ?_) (hf := ?_) <;> intro _)
      | (refine ew_dec (hn := (r_bin (hr := by (first | exact ib_eql | exact ib_gtr | exact ib_leq | exact ib_lss | exact ib_neq)))) (ht := ?_) (hf := ?_) <;> intro _)
      | refine ew_n (hn := r_bin (hr := by (first | (simp (disch := omega) only [intBin, wrap_in, wrap8_in, tdiv_in, tmod_in, if_false, reduceIte]; exact rfl) | (apply ib_rem; omega)))) (h := ?_)
      | (refine w_nil ?_))
    | (show EC _ _ _ _ _ _ _; first | (refine k_seq ?_) | (refine k_region ?_) | (refine k_skip ?_) | (refine k_ret ?_) | (refine k_exit ?_) | (refine k_block ?_) | (refine k_true (h := ?_)) | (refine k_false (h := ?_)))
    | (show EX _ (bodyA _ _ _) _ _ _; first | (refine x_end1 (hq := ?_)) | (refine x_endc (hc := by (first | assumption | (apply cells_row; (focus ((repeat' (first | assumption | (rw [aadd_block]) | (apply gN; (focus (first | exact rfl | omega | (simp only [AHeap.push_next, AHeap.put_next, aadd_block] <;> omega))); (focus exact rfl)) | (apply gO; (focus (first | omega | (simp only [AHeap.push_next, AHeap.put_next, aadd_block, ne_eq] <;> omega)))) | (apply gS; (focus (first | exact rfl | omega | (simp only [AHeap.push_next, AHeap.put_next, aadd_block] <;> omega))); (focus exact rfl)) | (apply gP; (focus (first | omega | (simp only [AHeap.push_next, AHeap.put_next, aadd_block, ne_eq] <;> omega)))) | exact rfl)); done)); (focus exact rfl); (focus exact rfl); (focus (first | exact (rfl : _ = some [_]) | exact (rfl : _ = some [_, _, _])))) | (apply cells_k; (focus assumption); (focus (first | assumption | (simp only [aadd_block] <;> first | assumption | omega))); (focus ((repeat' (first | exact Keep.refl | assumption | (apply Keep.push) | (refine Keep.put ?_ ?_; rotate_left; (focus (intro hlt; first | assumption | omega | (exfalso; simp only [AHeap.push_next, AHeap.put_next, aadd_block] at hlt; omega)))))); done))))) (hv := by exact rfl) (hq := ?_)))
    | (show EX _ _ _ _ _; first | (refine x_normal ?_) | (refine x_ret ?_) | (refine x_exit ?_) | (refine x_same ?_) | (refine x_other (h := ?_)) | (refine x_bnormal ?_) | (refine x_bret ?_)))
    (first | (refine' ew_callS (hc := cr_call) (hR := ?_) (h := ?_); rotate_left 1) | (refine' ew_call (hc := cr_call) (hR := ?_) (h := ?_); rotate_left 1))
    · exact mod_calls o 256 _ (by omega)
    rintro _ H6 ⟨rfl, rfl⟩
    obtain ⟨ho0, ho1⟩ := modI_range o 256 (by omega)
    generalize modI o 256 = o' at ho0 ho1
    repeat' (first
    | (show EW _ _ _ _ _; first
      | refine ew_n (hn := r_move) (h := ?_)
      | refine ew_n (hn := r_assign) (h := ?_)
      | refine ew_n (hn := r_pick_t) (h := ?_)
      | refine ew_n (hn := r_pick_f) (h := ?_)
      | refine ew_n (hn := r_field) (h := ?_)
      | refine ew_n (hn := r_len) (h := ?_)
      | refine ew_n (hn := r_len_str) (h := ?_)
      | refine ew_n (hn := r_not) (h := ?_)
      | refine ew_n (hn := r_extract) (h := ?_)
      | refine ew_n (hn := (r_index (h0 := by omega) (h1 := by first | omega | (simp; done) | (simp; omega)))) (h := ?_)
      | refine ew_n (hn := r_nil_eq) (h := ?_)
      | refine ew_n (hn := r_beq) (h := ?_)
      | refine ew_n (hn := r_nil_ne) (h := ?_)
      | refine ew_n (hn := r_bne) (h := ?_)
      | refine ew_n (hn := (r_bin (hr := by first | (apply cmp_t; (focus (first | exact ib_eql | exact ib_gtr | exact ib_leq | exact ib_lss | exact ib_neq)); omega) | (apply cmp_f; (focus (first | exact ib_eql | exact ib_gtr | exact ib_leq | exact ib_lss | exact ib_neq)); omega)))) (h := ?_)
      | refine ew_skip (h := ?_)
      | refine ew_load (hc := by (first | assumption | (apply cells_row; (focus ((repeat' (first | assumption | (rw [aadd_block]) | (apply gN; (focus (first | exact rfl | omega | (simp only [AHeap.push_next, AHeap.put_next, aadd_block] <;> omega))); (focus exact rfl)) | (apply gO; (focus (first | omega | (simp only [AHeap.push_next, AHeap.put_next, aadd_block, ne_eq] <;> omega)))) | (apply gS; (focus (first | exact rfl | omega | (simp only [AHeap.push_next, AHeap.put_next, aadd_block] <;> omega))); (focus exact rfl)) | (apply gP; (focus (first | omega | (simp only [AHeap.push_next, AHeap.put_next, aadd_block, ne_eq] <;> omega)))) | exact rfl)); done)); (focus exact rfl); (focus exact rfl); (focus (first | exact (rfl : _ = some [_]) | exact (rfl : _ = some [_, _, _])))) | (apply cells_k; (focus assumption); (focus (first | assumption | (simp only [aadd_block] <;> first | assumption | omega))); (focus ((repeat' (first | exact Keep.refl | assumption | (apply Keep.push) | (refine Keep.put ?_ ?_; rotate_left; (focus (intro hlt; first | assumption | omega | (exfalso; simp only [AHeap.push_next, AHeap.put_next, aadd_block] at hlt; omega)))))); done))))) (hv := by exact rfl) (h := ?_)
      | refine ew_conv (hn := r_conv_int) (h := ?_)
      | refine ew_conv (hn := r_conv_br (h := by first | assumption | (apply Rd.keep0; (focus assumption); ((repeat' (first | exact Keep.refl | assumption | (apply Keep.push) | (refine Keep.put ?_ ?_; rotate_left; (focus (intro hlt; first | assumption | omega | (exfalso; simp only [AHeap.push_next, AHeap.put_next, aadd_block] at hlt; omega)))))); done)))) (h := ?_)
      | (refine ew_fresh ?_; intro b hb; (first | refine ew_n (hn := (r_alloc hb)) (h := ?_) | refine ew_n (hn := (r_buildSlice hb [])) (h := ?_) | refine ew_n (hn := (r_buildSlice hb [_])) (h := ?_) | refine ew_n (hn := (r_buildSlice hb [_, _, _])) (h := ?_)); (try simp only [AHeap.push_next, AHeap.put_next] at hb))
      | refine ew_e (he := er_store (hc := by (apply setCells_at; (focus ((repeat' (first | assumption | (rw [aadd_block]) | (apply gN; (focus (first | exact rfl | omega | (simp only [AHeap.push_next, AHeap.put_next, aadd_block] <;> omega))); (focus exact rfl)) | (apply gO; (focus (first | omega | (simp only [AHeap.push_next, AHeap.put_next, aadd_block, ne_eq] <;> omega)))) | (apply gS; (focus (first | exact rfl | omega | (simp only [AHeap.push_next, AHeap.put_next, aadd_block] <;> omega))); (focus exact rfl)) | (apply gP; (focus (first | omega | (simp only [AHeap.push_next, AHeap.put_next, aadd_block, ne_eq] <;> omega)))) | exact rfl)); done)); (focus exact rfl); (focus (first | exact Nat.le_of_ble_eq_true rfl | (simp; omega) | (simp; done) | (simp [Value.cells]; omega))); (focus (first | exact rfl | (simp; done))); (focus (first | exact (rfl : _ = [_]) | exact (rfl : _ = [_, _, _]) | exact rfl)); (focus (first | exact aadd_block _ _ | exact rfl))))) (hk := by (first | exact Mode.kept_seq rfl | (dsimp only [Mode.kept, Mode.logged, Mode.at]; (repeat' (first | exact (fun _ h => absurd h List.not_mem_nil) | (refine List.forall_mem_cons.2 ⟨?_, ?_⟩) | (refine .inl ?_; exact rfl) | (refine .inl ?_; dsimp only; decide))); done))) (h := ?_)
      | (refine ew_dec (hn := r_streq) (ht := ?_) (hf := ?_) <;> intro _)
      | (refine ew_dec (hn := (r_bin (hr := by (first | exact ib_eql | exact ib_gtr | exact ib_leq | exact ib_lss | exact ib_neq)))) (ht := ?_) (hf := ?_) <;> intro _)
      | refine ew_n (hn := r_bin (hr := by (first | (simp (disch := omega) only [intBin, wrap_in, wrap8_in, tdiv_in, tmod_in, if_false, reduceIte]; exact rfl) | (apply ib_rem; omega)))) (h := ?_)
      | (refine w_nil ?_))
    | (show EC _ _ _ _ _ _ _; first | (refine k_seq ?_) | (refine k_region ?_) | (refine k_skip ?_) | (refine k_ret ?_) | (refine k_exit ?_) | (refine k_block ?_) | (refine k_true (h := ?_)) | (refine k_false (h := ?_)))
    | (show EX _ (bodyA _ _ _) _ _ _; first | (refine x_end1 (hq := ?_)) | (refine x_endc (hc := by (first | assumption | (apply cells_row; (focus ((repeat' (first | assumption | (rw [aadd_block]) | (apply gN; (focus (first | exact rfl | omega | (simp only [AHeap.push_next, AHeap.put_next, aadd_block] <;> omega))); (focus exact rfl)) | (apply gO; (focus (first | omega | (simp only [AHeap.push_next, AHeap.put_next, aadd_block, ne_eq] <;> omega)))) | (apply gS; (focus (first | exact rfl | omega | (simp only [AHeap.push_next, AHeap.put_next, aadd_block] <;> omega))); (focus exact rfl)) | (apply gP; (focus (first | omega | (simp only [AHeap.push_next, AHeap.put_next, aadd_block, ne_eq] <;> omega)))) | exact rfl)); done)); (focus exact rfl); (focus exact rfl); (focus (first | exact (rfl : _ = some [_]) | exact (rfl : _ = some [_, _, _])))) | (apply cells_k; (focus assumption); (focus (first | assumption | (simp only [aadd_block] <;> first | assumption | omega))); (focus ((repeat' (first | exact Keep.refl | assumption | (apply Keep.push) | (refine Keep.put ?_ ?_; rotate_left; (focus (intro hlt; first | assumption | omega | (exfalso; simp only [AHeap.push_next, AHeap.put_next, aadd_block] at hlt; omega)))))); done))))) (hv := by exact rfl) (hq := ?_)))
    | (show EX _ _ _ _ _; first | (refine x_normal ?_) | (refine x_ret ?_) | (refine x_exit ?_) | (refine x_same ?_) | (refine x_other (h := ?_)) | (refine x_bnormal ?_) | (refine x_bret ?_)))
    (first | (refine' ew_callS (hc := cr_call) (hR := ?_) (h := ?_); rotate_left 1) | (refine' ew_call (hc := cr_call) (hR := ?_) (h := ?_); rotate_left 1))
    · exact deliverM o' (M := M) (hN5.keep0 hk6)
    obtain ⟨x, hx⟩ : ∃ x, atI M o' = some x := Option.isSome_iff_exists.1 (by rw [atI_isSome]; simp; omega)
    rintro v H7 (⟨h, _⟩ | ⟨x', bx, hx', rfl, hk7, hbF, hbn, hbr, F7, hN7, hg7, hnb⟩)
    · rw [hx] at h; cases h
    obtain rfl : x = x' := Option.some.inj (hx.symm.trans hx')
    have hkE := hkD.own hk7 hF
    replace hF := hg7.own hn6 hF
    have hn7 := hkE.1
    repeat' (first
    | (show EW _ _ _ _ _; first
      | refine ew_n (hn := r_move) (h := ?_)
      | refine ew_n (hn := r_assign) (h := ?_)
      | refine ew_n (hn := r_pick_t) (h := ?_)
      | refine ew_n (hn := r_pick_f) (h := ?_)
      | refine ew_n (hn := r_field) (h := ?_)
      | refine ew_n (hn := r_len) (h := ?_)
      | refine ew_n (hn := r_len_str) (h := ?_)
      | refine ew_n (hn := r_not) (h := ?_)
      | refine ew_n (hn := r_extract) (h := ?_)
      | refine ew_n (hn := (r_index (h0 := by omega) (h1 := by first | omega | (simp; done) | (simp; omega)))) (h := ?_)
      | refine ew_n (hn := r_nil_eq) (h := ?_)
      | refine ew_n (hn := r_beq) (h := ?_)
      | refine ew_n (hn := r_nil_ne) (h := ?_)
      | refine ew_n (hn := r_bne) (h := ?_)
      | refine ew_n (hn := (r_bin (hr := by first | (apply cmp_t; (focus (first | exact ib_eql | exact ib_gtr | exact ib_leq | exact ib_lss | exact ib_neq)); omega) | (apply cmp_f; (focus (first | exact ib_eql | exact ib_gtr | exact ib_leq | exact ib_lss | exact ib_neq)); omega)))) (h := ?_)
      | refine ew_skip (h := ?_)
      | refine ew_load (hc := by (first | assumption | (apply cells_row; (focus ((repeat' (first | assumption | (rw [aadd_block]) | (apply gN; (focus (first | exact rfl | omega | (simp only [AHeap.push_next, AHeap.put_next, aadd_block] <;> omega))); (focus exact rfl)) | (apply gO; (focus (first | omega | (simp only [AHeap.push_next, AHeap.put_next, aadd_block, ne_eq] <;> omega)))) | (apply gS; (focus (first | exact rfl | omega | (simp only [AHeap.push_next, AHeap.put_next, aadd_block] <;> omega))); (focus exact rfl)) | (apply gP; (focus (first | omega | (simp only [AHeap.push_next, AHeap.put_next, aadd_block, ne_eq] <;> omega)))) | exact rfl)); done)); (focus exact rfl); (focus exact rfl); (focus (first | exact (rfl : _ = some [_]) | exact (rfl : _ = some [_, _, _])))) | (apply cells_k; (focus assumption); (focus (first | assumption | (simp only [aadd_block] <;> first | assumption | omega))); (focus ((repeat' (first | exact Keep.refl | assumption | (apply Keep.push) | (refine Keep.put ?_ ?_; rotate_left; (focus (intro hlt; first | assumption | omega | (exfalso; simp only [AHeap.push_next, AHeap.put_next, aadd_block] at hlt; omega)))))); done))))) (hv := by exact rfl) (h := ?_)
      | refine ew_conv (hn := r_conv_int) (h := ?_)
      | refine ew_conv (hn := r_conv_br (h := by first | assumption | (apply Rd.keep0; (focus assumption); ((repeat' (first | exact Keep.refl | assumption | (apply Keep.push) | (refine Keep.put ?_ ?_; rotate_left; (focus (intro hlt; first | assumption | omega | (exfalso; simp only [AHeap.push_next, AHeap.put_next, aadd_block] at hlt; omega)))))); done)))) (h := ?_)
      | (refine ew_fresh ?_; intro b hb; (first | refine ew_n (hn := (r_alloc hb)) (h := ?_) | refine ew_n (hn := (r_buildSlice hb [])) (h := ?_) | refine ew_n (hn := (r_buildSlice hb [_])) (h := ?_) | refine ew_n (hn := (r_buildSlice hb [_, _, _])) (h := ?_)); (try simp only [AHeap.push_next, AHeap.put_next] at hb))
      | refine ew_e (he := er_store (hc := by (apply setCells_at; (focus ((repeat' (first | assumption | (rw [aadd_block]) | (apply gN; (focus (first | exact rfl | omega | (simp only [AHeap.push_next, AHeap.put_next, aadd_block] <;> omega))); (focus exact rfl)) | (apply gO; (focus (first | omega | (simp only [AHeap.push_next, AHeap.put_next, aadd_block, ne_eq] <;> omega)))) | (apply gS; (focus (first | exact rfl | omega | (simp only [AHeap.push_next, AHeap.put_next, aadd_block] <;> omega))); (focus exact rfl)) | (apply gP; (focus (first | omega | (simp only [AHeap.push_next, AHeap.put_next, aadd_block, ne_eq] <;> omega)))) | exact rfl)); done)); (focus exact rfl); (focus (first | exact Nat.le_of_ble_eq_true rfl | (simp; omega) | (simp; done) | (simp [Value.cells]; omega))); (focus (first | exact rfl | (simp; done))); (focus (first | exact (rfl : _ = [_]) | exact (rfl : _ = [_, _, _]) | exact rfl)); (focus (first | exact aadd_block _ _ | exact rfl))))) (hk := by (first | exact Mode.kept_seq rfl | (dsimp only [Mode.kept, Mode.logged, Mode.at]; (repeat' (first | exact (fun _ h => absurd h List.not_mem_nil) | (refine List.forall_mem_cons.2 ⟨?_, ?_⟩) | (refine .inl ?_; exact rfl) | (refine .inl ?_; dsimp only; decide))); done))) (h := ?_)
      | (refine ew_dec (hn := r_streq) (ht := ?_) (hf := ?_) <;> intro _)
      | (refine ew_dec (hn := (r_bin (hr := by (first | exact ib_eql | exact ib_gtr | exact ib_leq | exact ib_lss | exact ib_neq)))) (ht := ?_) (hf := ?_) <;> intro _)
      | refine ew_n (hn := r_bin (hr := by (first | (simp (disch := omega) only [intBin, wrap_in, wrap8_in, tdiv_in, tmod_in, if_false, reduceIte]; exact rfl) | (apply ib_rem; omega)))) (h := ?_)
      | (refine w_nil ?_))
    | (show EC _ _ _ _ _ _ _; first | (refine k_seq ?_) | (refine k_region ?_) | (refine k_skip ?_) | (refine k_ret ?_) | (refine k_exit ?_) | (refine k_block ?_) | (refine k_true (h := ?_)) | (refine k_false (h := ?_)))
    | (show EX _ (bodyA _ _ _) _ _ _; first | (refine x_end1 (hq := ?_)) | (refine x_endc (hc := by (first | assumption | (apply cells_row; (focus ((repeat' (first | assumption | (rw [aadd_block]) | (apply gN; (focus (first | exact rfl | omega | (simp only [AHeap.push_next, AHeap.put_next, aadd_block] <;> omega))); (focus exact rfl)) | (apply gO; (focus (first | omega | (simp only [AHeap.push_next, AHeap.put_next, aadd_block, ne_eq] <;> omega)))) | (apply gS; (focus (first | exact rfl | omega | (simp only [AHeap.push_next, AHeap.put_next, aadd_block] <;> omega))); (focus exact rfl)) | (apply gP; (focus (first | omega | (simp only [AHeap.push_next, AHeap.put_next, aadd_block, ne_eq] <;> omega)))) | exact rfl)); done)); (focus exact rfl); (focus exact rfl); (focus (first | exact (rfl : _ = some [_]) | exact (rfl : _ = some [_, _, _])))) | (apply cells_k; (focus assumption); (focus (first | assumption | (simp only [aadd_block] <;> first | assumption | omega))); (focus ((repeat' (first | exact Keep.refl | assumption | (apply Keep.push) | (refine Keep.put ?_ ?_; rotate_left; (focus (intro hlt; first | assumption | omega | (exfalso; simp only [AHeap.push_next, AHeap.put_next, aadd_block] at hlt; omega)))))); done))))) (hv := by exact rfl) (hq := ?_)))
    | (show EX _ _ _ _ _; first | (refine x_normal ?_) | (refine x_ret ?_) | (refine x_exit ?_) | (refine x_same ?_) | (refine x_other (h := ?_)) | (refine x_bnormal ?_) | (refine x_bret ?_)))
    have hlen : (M.eraseIdx o'.toNat).length = 255 := by rw [List.length_eraseIdx, if_pos (by omega)]; omega
    generalize M.eraseIdx o'.toNat = M' at hlen hN7
    (first | (refine' ew_callS (hc := cr_call) (hR := ?_) (h := ?_); rotate_left 1) | (refine' ew_call (hc := cr_call) (hR := ?_) (h := ?_); rotate_left 1))
    · exact sendM (G := No) 1 0 (bs := []) (M := M') (hN7.keep0 (by ((repeat' (first | exact Keep.refl | assumption | (apply Keep.push) | (refine Keep.put ?_ ?_; rotate_left; (focus (intro hlt; first | assumption | omega | (exfalso; simp only [AHeap.push_next, AHeap.put_next, aadd_block] at hlt; omega)))))); done))) (.empty _ _) (by simp)
    have hres : sendP 2 M' 1 0 [] = (0, M' ++ [(1, 0, [])]) := by unfold sendP; rw [if_neg (by decide), if_neg (by simp), if_neg (by omega)]
    rw [hres]
    rintro _ H8 ⟨rfl, hk8, F8, hN8, hg8⟩
    have hkF := (hkE.after (by ((repeat' (first | exact Keep.refl | assumption | (apply Keep.push) | (refine Keep.put ?_ ?_; rotate_left; (focus (intro hlt; first | assumption | omega | (exfalso; simp only [AHeap.push_next, AHeap.put_next, aadd_block] at hlt; omega)))))); done) : Keep No H7 ((H7.push _).put _ _))).own hk8 hF
    replace hF := hg8.own (by simp only [AHeap.push_next, AHeap.put_next]; omega) hF
    have hn8 := hkF.1
    have hle8 := hk8.1
    simp only [AHeap.push_next, AHeap.put_next] at hle8
    repeat' (first
    | (show EW _ _ _ _ _; first
      | refine ew_n (hn := r_move) (h := ?_)
      | refine ew_n (hn := r_assign) (h := ?_)
      | refine ew_n (hn := r_pick_t) (h := ?_)
      | refine ew_n (hn := r_pick_f) (h := ?_)
      | refine ew_n (hn := r_field) (h := ?_)
      | refine ew_n (hn := r_len) (h := ?_)
      | refine ew_n (hn := r_len_str) (h := ?_)
      | refine ew_n (hn := r_not) (h := ?_)
      | refine ew_n (hn := r_extract) (h := ?_)
      | refine ew_n (hn := (r_index (h0 := by omega) (h1 := by first | omega | (simp; done) | (simp; omega)))) (h := ?_)
      | refine ew_n (hn := r_nil_eq) (h := ?_)
      | refine ew_n (hn := r_beq) (h := ?_)
      | refine ew_n (hn := r_nil_ne) (h := ?_)
      | refine ew_n (hn := r_bne) (h := ?_)
      | refine ew_n (hn := (r_bin (hr := by first | (apply cmp_t; (focus (first | exact ib_eql | exact ib_gtr | exact ib_leq | exact ib_lss | exact ib_neq)); omega) | (apply cmp_f; (focus (first | exact ib_eql | exact ib_gtr | exact ib_leq | exact ib_lss | exact ib_neq)); omega)))) (h := ?_)
      | refine ew_skip (h := ?_)
      | refine ew_load (hc := by (first | assumption | (apply cells_row; (focus ((repeat' (first | assumption | (rw [aadd_block]) | (apply gN; (focus (first | exact rfl | omega | (simp only [AHeap.push_next, AHeap.put_next, aadd_block] <;> omega))); (focus exact rfl)) | (apply gO; (focus (first | omega | (simp only [AHeap.push_next, AHeap.put_next, aadd_block, ne_eq] <;> omega)))) | (apply gS; (focus (first | exact rfl | omega | (simp only [AHeap.push_next, AHeap.put_next, aadd_block] <;> omega))); (focus exact rfl)) | (apply gP; (focus (first | omega | (simp only [AHeap.push_next, AHeap.put_next, aadd_block, ne_eq] <;> omega)))) | exact rfl)); done)); (focus exact rfl); (focus exact rfl); (focus (first | exact (rfl : _ = some [_]) | exact (rfl : _ = some [_, _, _])))) | (apply cells_k; (focus assumption); (focus (first | assumption | (simp only [aadd_block] <;> first | assumption | omega))); (focus ((repeat' (first | exact Keep.refl | assumption | (apply Keep.push) | (refine Keep.put ?_ ?_; rotate_left; (focus (intro hlt; first | assumption | omega | (exfalso; simp only [AHeap.push_next, AHeap.put_next, aadd_block] at hlt; omega)))))); done))))) (hv := by exact rfl) (h := ?_)
      | refine ew_conv (hn := r_conv_int) (h := ?_)
      | refine ew_conv (hn := r_conv_br (h := by first | assumption | (apply Rd.keep0; (focus assumption); ((repeat' (first | exact Keep.refl | assumption | (apply Keep.push) | (refine Keep.put ?_ ?_; rotate_left; (focus (intro hlt; first | assumption | omega | (exfalso; simp only [AHeap.push_next, AHeap.put_next, aadd_block] at hlt; omega)))))); done)))) (h := ?_)
      | (refine ew_fresh ?_; intro b hb; (first | refine ew_n (hn := (r_alloc hb)) (h := ?_) | refine ew_n (hn := (r_buildSlice hb [])) (h := ?_) | refine ew_n (hn := (r_buildSlice hb [_])) (h := ?_) | refine ew_n (hn := (r_buildSlice hb [_, _, _])) (h := ?_)); (try simp only [AHeap.push_next, AHeap.put_next] at hb))
      | refine ew_e (he := er_store (hc := by (apply setCells_at; (focus ((repeat' (first | assumption | (rw [aadd_block]) | (apply gN; (focus (first | exact rfl | omega | (simp only [AHeap.push_next, AHeap.put_next, aadd_block] <;> omega))); (focus exact rfl)) | (apply gO; (focus (first | omega | (simp only [AHeap.push_next, AHeap.put_next, aadd_block, ne_eq] <;> omega)))) | (apply gS; (focus (first | exact rfl | omega | (simp only [AHeap.push_next, AHeap.put_next, aadd_block] <;> omega))); (focus exact rfl)) | (apply gP; (focus (first | omega | (simp only [AHeap.push_next, AHeap.put_next, aadd_block, ne_eq] <;> omega)))) | exact rfl)); done)); (focus exact rfl); (focus (first | exact Nat.le_of_ble_eq_true rfl | (simp; omega) | (simp; done) | (simp [Value.cells]; omega))); (focus (first | exact rfl | (simp; done))); (focus (first | exact (rfl : _ = [_]) | exact (rfl : _ = [_, _, _]) | exact rfl)); (focus (first | exact aadd_block _ _ | exact rfl))))) (hk := by (first | exact Mode.kept_seq rfl | (dsimp only [Mode.kept, Mode.logged, Mode.at]; (repeat' (first | exact (fun _ h => absurd h List.not_mem_nil) | (refine List.forall_mem_cons.2 ⟨?_, ?_⟩) | (refine .inl ?_; exact rfl) | (refine .inl ?_; dsimp only; decide))); done))) (h := ?_)
      | (refine ew_dec (hn := r_streq) (ht := ?_) (hf := ?_) <;> intro _)
      | (refine ew_dec (hn := (r_bin (hr := by (first | exact ib_eql | exact ib_gtr | exact ib_leq | exact ib_lss | exact ib_neq)))) (ht := ?_) (hf := ?_) <;> intro _)
      | refine ew_n (hn := r_bin (hr := by (first | (simp (disch := omega) only [intBin, wrap_in, wrap8_in, tdiv_in, tmod_in, if_false, reduceIte]; exact rfl) | (apply ib_rem; omega)))) (h := ?_)
      | (refine w_nil ?_))
    | (show EC _ _ _ _ _ _ _; first | (refine k_seq ?_) | (refine k_region ?_) | (refine k_skip ?_) | (refine k_ret ?_) | (refine k_exit ?_) | (refine k_block ?_) | (refine k_true (h := ?_)) | (refine k_false (h := ?_)))
    | (show EX _ (bodyA _ _ _) _ _ _; first | (refine x_end1 (hq := ?_)) | (refine x_endc (hc := by (first | assumption | (apply cells_row; (focus ((repeat' (first | assumption | (rw [aadd_block]) | (apply gN; (focus (first | exact rfl | omega | (simp only [AHeap.push_next, AHeap.put_next, aadd_block] <;> omega))); (focus exact rfl)) | (apply gO; (focus (first | omega | (simp only [AHeap.push_next, AHeap.put_next, aadd_block, ne_eq] <;> omega)))) | (apply gS; (focus (first | exact rfl | omega | (simp only [AHeap.push_next, AHeap.put_next, aadd_block] <;> omega))); (focus exact rfl)) | (apply gP; (focus (first | omega | (simp only [AHeap.push_next, AHeap.put_next, aadd_block, ne_eq] <;> omega)))) | exact rfl)); done)); (focus exact rfl); (focus exact rfl); (focus (first | exact (rfl : _ = some [_]) | exact (rfl : _ = some [_, _, _])))) | (apply cells_k; (focus assumption); (focus (first | assumption | (simp only [aadd_block] <;> first | assumption | omega))); (focus ((repeat' (first | exact Keep.refl | assumption | (apply Keep.push) | (refine Keep.put ?_ ?_; rotate_left; (focus (intro hlt; first | assumption | omega | (exfalso; simp only [AHeap.push_next, AHeap.put_next, aadd_block] at hlt; omega)))))); done))))) (hv := by exact rfl) (hq := ?_)))
    | (show EX _ _ _ _ _; first | (refine x_normal ?_) | (refine x_ret ?_) | (refine x_exit ?_) | (refine x_same ?_) | (refine x_other (h := ?_)) | (refine x_bnormal ?_) | (refine x_bret ?_)))
    (first | (refine' ew_callS (hc := cr_call) (hR := ?_) (h := ?_); rotate_left 1) | (refine' ew_call (hc := cr_call) (hR := ?_) (h := ?_); rotate_left 1))
    · exact copyM 0 hN8
    have hres : copyP (M' ++ [(1, 0, [])]) 0 = (223, M' ++ [(1, 0, [])]) := by
      unfold copyP
      obtain ⟨x, hx⟩ : ∃ x, atI (M' ++ [(1, 0, [])]) 0 = some x := Option.isSome_iff_exists.1 (by rw [atI_isSome]; simp)
      rw [hx]; simp only; rw [if_pos (by simp; omega)]
    simp only [hres]
    rintro _ H9 ⟨rfl, hk9, F9, hN9, hg9⟩
    have hkG := hkF.own hk9 hF
    replace hF := hg9.own hn8 hF
    have hn9 := hkG.1
    repeat' (first
    | (show EW _ _ _ _ _; first
      | refine ew_n (hn := r_move) (h := ?_)
      | refine ew_n (hn := r_assign) (h := ?_)
      | refine ew_n (hn := r_pick_t) (h := ?_)
      | refine ew_n (hn := r_pick_f) (h := ?_)
      | refine ew_n (hn := r_field) (h := ?_)
      | refine ew_n (hn := r_len) (h := ?_)
      | refine ew_n (hn := r_len_str) (h := ?_)
      | refine ew_n (hn := r_not) (h := ?_)
      | refine ew_n (hn := r_extract) (h := ?_)
      | refine ew_n (hn := (r_index (h0 := by omega) (h1 := by first | omega | (simp; done) | (simp; omega)))) (h := ?_)
      | refine ew_n (hn := r_nil_eq) (h := ?_)
      | refine ew_n (hn := r_beq) (h := ?_)
      | refine ew_n (hn := r_nil_ne) (h := ?_)
      | refine ew_n (hn := r_bne) (h := ?_)
      | refine ew_n (hn := (r_bin (hr := by first | (apply cmp_t; (focus (first | exact ib_eql | exact ib_gtr | exact ib_leq | exact ib_lss | exact ib_neq)); omega) | (apply cmp_f; (focus (first | exact ib_eql | exact ib_gtr | exact ib_leq | exact ib_lss | exact ib_neq)); omega)))) (h := ?_)
      | refine ew_skip (h := ?_)
      | refine ew_load (hc := by (first | assumption | (apply cells_row; (focus ((repeat' (first | assumption | (rw [aadd_block]) | (apply gN; (focus (first | exact rfl | omega | (simp only [AHeap.push_next, AHeap.put_next, aadd_block] <;> omega))); (focus exact rfl)) | (apply gO; (focus (first | omega | (simp only [AHeap.push_next, AHeap.put_next, aadd_block, ne_eq] <;> omega)))) | (apply gS; (focus (first | exact rfl | omega | (simp only [AHeap.push_next, AHeap.put_next, aadd_block] <;> omega))); (focus exact rfl)) | (apply gP; (focus (first | omega | (simp only [AHeap.push_next, AHeap.put_next, aadd_block, ne_eq] <;> omega)))) | exact rfl)); done)); (focus exact rfl); (focus exact rfl); (focus (first | exact (rfl : _ = some [_]) | exact (rfl : _ = some [_, _, _])))) | (apply cells_k; (focus assumption); (focus (first | assumption | (simp only [aadd_block] <;> first | assumption | omega))); (focus ((repeat' (first | exact Keep.refl | assumption | (apply Keep.push) | (refine Keep.put ?_ ?_; rotate_left; (focus (intro hlt; first | assumption | omega | (exfalso; simp only [AHeap.push_next, AHeap.put_next, aadd_block] at hlt; omega)))))); done))))) (hv := by exact rfl) (h := ?_)
      | refine ew_conv (hn := r_conv_int) (h := ?_)
      | refine ew_conv (hn := r_conv_br (h := by first | assumption | (apply Rd.keep0; (focus assumption); ((repeat' (first | exact Keep.refl | assumption | (apply Keep.push) | (refine Keep.put ?_ ?_; rotate_left; (focus (intro hlt; first | assumption | omega | (exfalso; simp only [AHeap.push_next, AHeap.put_next, aadd_block] at hlt; omega)))))); done)))) (h := ?_)
      | (refine ew_fresh ?_; intro b hb; (first | refine ew_n (hn := (r_alloc hb)) (h := ?_) | refine ew_n (hn := (r_buildSlice hb [])) (h := ?_) | refine ew_n (hn := (r_buildSlice hb [_])) (h := ?_) | refine ew_n (hn := (r_buildSlice hb [_, _, _])) (h := ?_)); (try simp only [AHeap.push_next, AHeap.put_next] at hb))
      | refine ew_e (he := er_store (hc := by (apply setCells_at; (focus ((repeat' (first | assumption | (rw [aadd_block]) | (apply gN; (focus (first | exact rfl | omega | (simp only [AHeap.push_next, AHeap.put_next, aadd_block] <;> omega))); (focus exact rfl)) | (apply gO; (focus (first | omega | (simp only [AHeap.push_next, AHeap.put_next, aadd_block, ne_eq] <;> omega)))) | (apply gS; (focus (first | exact rfl | omega | (simp only [AHeap.push_next, AHeap.put_next, aadd_block] <;> omega))); (focus exact rfl)) | (apply gP; (focus (first | omega | (simp only [AHeap.push_next, AHeap.put_next, aadd_block, ne_eq] <;> omega)))) | exact rfl)); done)); (focus exact rfl); (focus (first | exact Nat.le_of_ble_eq_true rfl | (simp; omega) | (simp; done) | (simp [Value.cells]; omega))); (focus (first | exact rfl | (simp; done))); (focus (first | exact (rfl : _ = [_]) | exact (rfl : _ = [_, _, _]) | exact rfl)); (focus (first | exact aadd_block _ _ | exact rfl))))) (hk := by (first | exact Mode.kept_seq rfl | (dsimp only [Mode.kept, Mode.logged, Mode.at]; (repeat' (first | exact (fun _ h => absurd h List.not_mem_nil) | (refine List.forall_mem_cons.2 ⟨?_, ?_⟩) | (refine .inl ?_; exact rfl) | (refine .inl ?_; dsimp only; decide))); done))) (h := ?_)
      | (refine ew_dec (hn := r_streq) (ht := ?_) (hf := ?_) <;> intro _)
      | (refine ew_dec (hn := (r_bin (hr := by (first | exact ib_eql | exact ib_gtr | exact ib_leq | exact ib_lss | exact ib_neq)))) (ht := ?_) (hf := ?_) <;> intro _)
      | refine ew_n (hn := r_bin (hr := by (first | (simp (disch := omega) only [intBin, wrap_in, wrap8_in, tdiv_in, tmod_in, if_false, reduceIte]; exact rfl) | (apply ib_rem; omega)))) (h := ?_)
      | (refine w_nil ?_))
    | (show EC _ _ _ _ _ _ _; first | (refine k_seq ?_) | (refine k_region ?_) | (refine k_skip ?_) | (refine k_ret ?_) | (refine k_exit ?_) | (refine k_block ?_) | (refine k_true (h := ?_)) | (refine k_false (h := ?_)))
    | (show EX _ (bodyA _ _ _) _ _ _; first | (refine x_end1 (hq := ?_)) | (refine x_endc (hc := by (first | assumption | (apply cells_row; (focus ((repeat' (first | assumption | (rw [aadd_block]) | (apply gN; (focus (first | exact rfl | omega | (simp only [AHeap.push_next, AHeap.put_next, aadd_block] <;> omega))); (focus exact rfl)) | (apply gO; (focus (first | omega | (simp only [AHeap.push_next, AHeap.put_next, aadd_block, ne_eq] <;> omega)))) | (apply gS; (focus (first | exact rfl | omega | (simp only [AHeap.push_next, AHeap.put_next, aadd_block] <;> omega))); (focus exact rfl)) | (apply gP; (focus (first | omega | (simp only [AHeap.push_next, AHeap.put_next, aadd_block, ne_eq] <;> omega)))) | exact rfl)); done)); (focus exact rfl); (focus exact rfl); (focus (first | exact (rfl : _ = some [_]) | exact (rfl : _ = some [_, _, _])))) | (apply cells_k; (focus assumption); (focus (first | assumption | (simp only [aadd_block] <;> first | assumption | omega))); (focus ((repeat' (first | exact Keep.refl | assumption | (apply Keep.push) | (refine Keep.put ?_ ?_; rotate_left; (focus (intro hlt; first | assumption | omega | (exfalso; simp only [AHeap.push_next, AHeap.put_next, aadd_block] at hlt; omega)))))); done))))) (hv := by exact rfl) (hq := ?_)))
    | (show EX _ _ _ _ _; first | (refine x_normal ?_) | (refine x_ret ?_) | (refine x_exit ?_) | (refine x_same ?_) | (refine x_other (h := ?_)) | (refine x_bnormal ?_) | (refine x_bret ?_)))
    (first | (refine' ew_callS (hc := cr_call) (hR := ?_) (h := ?_); rotate_left 1) | (refine' ew_call (hc := cr_call) (hR := ?_) (h := ?_); rotate_left 1))
    · exact listM hN9
    rintro v H10 ⟨hk10, L10, hL10, hm10⟩
    obtain ⟨z10, c10, rfl⟩ := hL10.fli.rd.slice
    have hl10 : L10.length = 256 := by have := congrArg List.length hm10; simpa [hlen] using this
    have hkH := hkG.after hk10
    have h255 : 255 < L10.length := by omega
    obtain ⟨ad, c', hsv, _, _, hat⟩ := hL10.fli.rd.at h255
    simp only [Value.slice.injEq, true_and] at hsv
    obtain ⟨rfl, rfl⟩ := hsv
    rw [flCells_at (List.getElem?_eq_getElem h255)] at hat
    have hfr : L10[255].fr = 1 := by
      have h1 : (L10.map Pk.msg)[255]? = (M' ++ [(1, 0, [])])[255]? := by rw [hm10]
      rw [List.getElem?_map, List.getElem?_eq_getElem h255, List.getElem?_append_right (by omega), hlen] at h1
      simp only [Option.map_some, Nat.sub_self, List.getElem?_cons_zero, Option.some.injEq] at h1
      exact congrArg Prod.fst h1
    have hat' : H10.cellsAt (aadd (aadd ad ((255 : Int).toNat * 3)) 0) 1 = some [.int .i64 1] := by rw [← hfr]; exact cellsAt_sub hat (j := 0) (i := 1) (by omega)
    repeat' (first
    | (show EW _ _ _ _ _; first
      | refine ew_n (hn := r_move) (h := ?_)
      | refine ew_n (hn := r_assign) (h := ?_)
      | refine ew_n (hn := r_pick_t) (h := ?_)
      | refine ew_n (hn := r_pick_f) (h := ?_)
      | refine ew_n (hn := r_field) (h := ?_)
      | refine ew_n (hn := r_len) (h := ?_)
      | refine ew_n (hn := r_len_str) (h := ?_)
      | refine ew_n (hn := r_not) (h := ?_)
      | refine ew_n (hn := r_extract) (h := ?_)
      | refine ew_n (hn := (r_index (h0 := by omega) (h1 := by first | omega | (simp; done) | (simp; omega)))) (h := ?_)
      | refine ew_n (hn := r_nil_eq) (h := ?_)
      | refine ew_n (hn := r_beq) (h := ?_)
      | refine ew_n (hn := r_nil_ne) (h := ?_)
      | refine ew_n (hn := r_bne) (h := ?_)
      | refine ew_n (hn := (r_bin (hr := by first | (apply cmp_t; (focus (first | exact ib_eql | exact ib_gtr | exact ib_leq | exact ib_lss | exact ib_neq)); omega) | (apply cmp_f; (focus (first | exact ib_eql | exact ib_gtr | exact ib_leq | exact ib_lss | exact ib_neq)); omega)))) (h := ?_)
      | refine ew_skip (h := ?_)
      | refine ew_load (hc := by (first | assumption | (apply cells_row; (focus ((repeat' (first | assumption | (rw [aadd_block]) | (apply gN; (focus (first | exact rfl | omega | (simp only [AHeap.push_next, AHeap.put_next, aadd_block] <;> omega))); (focus exact rfl)) | (apply gO; (focus (first | omega | (simp only [AHeap.push_next, AHeap.put_next, aadd_block, ne_eq] <;> omega)))) | (apply gS; (focus (first | exact rfl | omega | (simp only [AHeap.push_next, AHeap.put_next, aadd_block] <;> omega))); (focus exact rfl)) | (apply gP; (focus (first | omega | (simp only [AHeap.push_next, AHeap.put_next, aadd_block, ne_eq] <;> omega)))) | exact rfl)); done)); (focus exact rfl); (focus exact rfl); (focus (first | exact (rfl : _ = some [_]) | exact (rfl : _ = some [_, _, _])))) | (apply cells_k; (focus assumption); (focus (first | assumption | (simp only [aadd_block] <;> first | assumption | omega))); (focus ((repeat' (first | exact Keep.refl | assumption | (apply Keep.push) | (refine Keep.put ?_ ?_; rotate_left; (focus (intro hlt; first | assumption | omega | (exfalso; simp only [AHeap.push_next, AHeap.put_next, aadd_block] at hlt; omega)))))); done))))) (hv := by exact rfl) (h := ?_)
      | refine ew_conv (hn := r_conv_int) (h := ?_)
      | refine ew_conv (hn := r_conv_br (h := by first | assumption | (apply Rd.keep0; (focus assumption); ((repeat' (first | exact Keep.refl | assumption | (apply Keep.push) | (refine Keep.put ?_ ?_; rotate_left; (focus (intro hlt; first | assumption | omega | (exfalso; simp only [AHeap.push_next, AHeap.put_next, aadd_block] at hlt; omega)))))); done)))) (h := ?_)
      | (refine ew_fresh ?_; intro b hb; (first | refine ew_n (hn := (r_alloc hb)) (h := ?_) | refine ew_n (hn := (r_buildSlice hb [])) (h := ?_) | refine ew_n (hn := (r_buildSlice hb [_])) (h := ?_) | refine ew_n (hn := (r_buildSlice hb [_, _, _])) (h := ?_)); (try simp only [AHeap.push_next, AHeap.put_next] at hb))
      | refine ew_e (he := er_store (hc := by (apply setCells_at; (focus ((repeat' (first | assumption | (rw [aadd_block]) | (apply gN; (focus (first | exact rfl | omega | (simp only [AHeap.push_next, AHeap.put_next, aadd_block] <;> omega))); (focus exact rfl)) | (apply gO; (focus (first | omega | (simp only [AHeap.push_next, AHeap.put_next, aadd_block, ne_eq] <;> omega)))) | (apply gS; (focus (first | exact rfl | omega | (simp only [AHeap.push_next, AHeap.put_next, aadd_block] <;> omega))); (focus exact rfl)) | (apply gP; (focus (first | omega | (simp only [AHeap.push_next, AHeap.put_next, aadd_block, ne_eq] <;> omega)))) | exact rfl)); done)); (focus exact rfl); (focus (first | exact Nat.le_of_ble_eq_true rfl | (simp; omega) | (simp; done) | (simp [Value.cells]; omega))); (focus (first | exact rfl | (simp; done))); (focus (first | exact (rfl : _ = [_]) | exact (rfl : _ = [_, _, _]) | exact rfl)); (focus (first | exact aadd_block _ _ | exact rfl))))) (hk := by (first | exact Mode.kept_seq rfl | (dsimp only [Mode.kept, Mode.logged, Mode.at]; (repeat' (first | exact (fun _ h => absurd h List.not_mem_nil) | (refine List.forall_mem_cons.2 ⟨?_, ?_⟩) | (refine .inl ?_; exact rfl) | (refine .inl ?_; dsimp only; decide))); done))) (h := ?_)
      | (refine ew_dec (hn := r_streq) (ht := ?_) (hf := ?_) <;> intro _)
      | (refine ew_dec (hn := (r_bin (hr := by (first | exact ib_eql | exact ib_gtr | exact ib_leq | exact ib_lss | exact ib_neq)))) (ht := ?_) (hf := ?_) <;> intro _)
      | refine ew_n (hn := r_bin (hr := by (first | (simp (disch := omega) only [intBin, wrap_in, wrap8_in, tdiv_in, tmod_in, if_false, reduceIte]; exact rfl) | (apply ib_rem; omega)))) (h := ?_)
      | (refine w_nil ?_))
    | (show EC _ _ _ _ _ _ _; first | (refine k_seq ?_) | (refine k_region ?_) | (refine k_skip ?_) | (refine k_ret ?_) | (refine k_exit ?_) | (refine k_block ?_) | (refine k_true (h := ?_)) | (refine k_false (h := ?_)))
    | (show EX _ (bodyA _ _ _) _ _ _; first | (refine x_end1 (hq := ?_)) | (refine x_endc (hc := by (first | assumption | (apply cells_row; (focus ((repeat' (first | assumption | (rw [aadd_block]) | (apply gN; (focus (first | exact rfl | omega | (simp only [AHeap.push_next, AHeap.put_next, aadd_block] <;> omega))); (focus exact rfl)) | (apply gO; (focus (first | omega | (simp only [AHeap.push_next, AHeap.put_next, aadd_block, ne_eq] <;> omega)))) | (apply gS; (focus (first | exact rfl | omega | (simp only [AHeap.push_next, AHeap.put_next, aadd_block] <;> omega))); (focus exact rfl)) | (apply gP; (focus (first | omega | (simp only [AHeap.push_next, AHeap.put_next, aadd_block, ne_eq] <;> omega)))) | exact rfl)); done)); (focus exact rfl); (focus exact rfl); (focus (first | exact (rfl : _ = some [_]) | exact (rfl : _ = some [_, _, _])))) | (apply cells_k; (focus assumption); (focus (first | assumption | (simp only [aadd_block] <;> first | assumption | omega))); (focus ((repeat' (first | exact Keep.refl | assumption | (apply Keep.push) | (refine Keep.put ?_ ?_; rotate_left; (focus (intro hlt; first | assumption | omega | (exfalso; simp only [AHeap.push_next, AHeap.put_next, aadd_block] at hlt; omega)))))); done))))) (hv := by exact rfl) (hq := ?_)))
    | (show EX _ _ _ _ _; first | (refine x_normal ?_) | (refine x_ret ?_) | (refine x_exit ?_) | (refine x_same ?_) | (refine x_other (h := ?_)) | (refine x_bnormal ?_) | (refine x_bret ?_)))
    exact ⟨rfl, hkH⟩

end Go.Ae

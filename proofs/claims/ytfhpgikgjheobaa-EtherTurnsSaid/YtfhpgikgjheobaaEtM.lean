/- The law EtherTurns over the abstract heap. No condition. -/
import Derived.Test.YtfhpgikgjheobaaEtL
set_option linter.unusedSimpArgs false
set_option linter.unusedVariables false
set_option linter.unnecessarySimpa false
set_option maxRecDepth 100000
set_option maxHeartbeats 8000000
namespace Go.Ae
open Go.Proofs
attribute [local irreducible] awC wpSeq wpS nRes aw aE acall ACalls szT isAggT zeroT byT elemSz fieldOff Program.underlying appendA copyA thenA inBlockA bodyA AHeap.push AHeap.put AHeap.cellsAt AHeap.setCells resV loadA intBin EW EC EX Nr Nc Er Cr Agree

def tbl12 : Tbl := [(14, [0, 1, 2, 3, 4, 5, 6, 7, 8, 9, 10, 11], [0, 0, 3, 7, 15, 0, 0, 96, 224, 480, 1023, 2047]), (15, [0, 1, 2, 3, 4, 5, 6, 7, 8, 9, 10, 11, 12, 13, 14, 15, 16, 17, 18, 19, 20, 21, 22, 23, 24, 25, 26, 27], [0, 1, 3, 7, 7, 31, 63, 127, 7, 263, 1023, 2047, 7, 7, 12295, 28679, 61447, 7, 131079, 520199, 1044487, 2097151, 4194303, 7, 8388615, 25165831, 67108863, 134217727]), (29, [0, 1, 2, 3, 4, 5, 6, 7, 8, 9, 10, 11, 12, 13, 14, 15, 16, 17, 18, 19, 20, 21, 22, 23, 24], [0, 1, 0, 4, 15, 31, 63, 63, 255, 63, 1023, 2047, 4095, 8191, 16383, 16383, 65535, 131071, 16383, 16383, 802815, 1851391, 4194303, 8388607, 16777215]), (33, [0, 1, 2, 3, 4, 5, 6, 7, 8, 9, 10, 11, 12, 13, 14, 15, 16, 17, 18, 19, 20, 21, 22, 23, 24, 25, 26], [0, 1, 0, 4, 15, 31, 63, 63, 255, 63, 1023, 2047, 4095, 8191, 16383, 16383, 65535, 131071, 262143, 16383, 16383, 1589247, 3686399, 7880703, 16777215, 33554431, 67108863]), (40, [0, 1, 2, 3, 4, 5, 6, 7, 8, 9, 10, 11, 12, 13, 14, 15, 16, 17, 18, 19, 20, 21, 23, 22, 24, 25, 26, 27], [0, 0, 3, 7, 15, 15, 63, 127, 255, 511, 1023, 2047, 2047, 2047, 14335, 30719, 65535, 131071, 262143, 524287, 1048575, 2097151, 4194303, 2097151, 16777215, 33554431, 67108863, 134217727]), (45, [0, 1, 2, 3, 4, 5, 6, 7, 8, 9, 10, 11, 12, 13, 14, 15, 16, 17, 18, 19, 20, 21, 22, 23, 24, 25], [0, 1, 0, 4, 12, 31, 63, 127, 127, 511, 127, 127, 3199, 8191, 16383, 32767, 65535, 65535, 262143, 65535, 65535, 1114111, 3735551, 8388607, 16777215, 33554431])]

theorem SlR.keep {α : Type} {k b : Nat} {Re : AHeap → List Value → α → Prop} {H H' : AHeap} {cs : List Value} {xs : List α} (hRe : ∀ {H H' : AHeap} {cs : List Value} {x : α}, Re H cs x → Keep No H H' → Re H' cs x) (h : SlR k b Re H cs xs) (hk : Keep No H H') : SlR k b Re H' cs xs := by
  obtain ⟨v, cells, rfl, h1, h2, h3⟩ := h
  exact ⟨v, cells, rfl, h1.keep0 hk, h2, fun i x hx => hRe (h3 i x hx) hk⟩
theorem FlR.at3 {F : Blks} {H : AHeap} {v : Value} {M : List Msg} {i : Nat} {x : Msg} (h : FlR H F v M) (hx : M[i]? = some x) :
    ∃ ad c z cb, v = .slice (some ad) M.length c ∧ ad.block < H.next ∧ H.cellsAt (aadd ad ((i : Int).toNat * 3)) 3 = some [.int .i64 x.1, .int .i64 x.2.1, .slice z x.2.2.length cb] ∧
      H.cellsAt (aadd (aadd ad ((i : Int).toNat * 3)) 2) 1 = some [.slice z x.2.2.length cb] ∧ BR H F (.slice z x.2.2.length cb) x.2.2 := by
  obtain ⟨ad, c, dv, hv, _, hlt, hc, hb⟩ := h.at hx
  obtain ⟨z, cb, rfl⟩ := Rd.slice hb
  exact ⟨ad, c, z, cb, hv, hlt, hc, cellsAt_sub hc (j := 2) (i := 1) (by omega), hb⟩
theorem shl64 (bit : Int) (h : 0 ≤ bit) : IntKind.i64.wrap (1 * 2 ^ min (bit % 8).toNat IntKind.i64.bits) = ((maskB bit).toNat : Int) := by
  have h8 : IntKind.i64.bits = 64 := rfl
  unfold maskB
  obtain ⟨k, hk⟩ : ∃ k, k = (bit % 8).toNat := ⟨_, rfl⟩
  rw [← hk, h8]
  have : k < 8 := by omega
  have hc : k = 0 ∨ k = 1 ∨ k = 2 ∨ k = 3 ∨ k = 4 ∨ k = 5 ∨ k = 6 ∨ k = 7 := by omega
  rcases hc with rfl | rfl | rfl | rfl | rfl | rfl | rfl | rfl <;> decide
theorem set_set_same {α : Type} (M : List α) (i : Nat) (x y : α) (h : M[i]? = some x) : (M.set i y).set i x = M := by
  apply List.ext_getElem?
  intro k
  obtain ⟨hl, hx⟩ := List.getElem?_eq_some_iff.1 h
  by_cases hk : i = k
  · subst hk; rw [List.getElem?_set_self (by simpa using hl), h]
  · rw [List.getElem?_set_ne hk, List.getElem?_set_ne hk]

theorem turns_calls (H : AHeap) (v0 : Value) (ds : List (List UInt8)) (i bit : Int) (r0 : SlR 1 24 ByR H [v0] ds) (hi1 : -9223372036854775808 ≤ i) (hi2 : i ≤ 9223372036854775807) (hb1 : -9223372036854775808 ≤ bit) (hb2 : bit ≤ 9223372036854775807) :
    ACalls Try.prog 12 #[v0, .int .i64 i, .int .i64 bit] H fun v H' => v = .bool true := by
  refine k_open (args := [v0, .int .i64 i, .int .i64 bit]) (E0 := [(0, v0), (1, .int .i64 i), (2, .int .i64 bit)]) tbl12 Try.func12 rfl follows (by kernel_rfl) Try.ntmps12 rfl rfl ?_
  repeat' (first
    | (show EW _ _ _ _ _; first
      | refine ew_n (hn := r_move) (h := ?_)
      | refine ew_n (hn := r_assign) (h := ?_)
      | refine ew_n (hn := r_pick_t) (h := ?_)
      | refine ew_n (hn := r_pick_f) (h := ?_)
      | refine ew_n (hn := r_field) (h := ?_)
      | refine ew_n (hn := r_len) (h := ?_)
      | refine ew_n (hn := r_len_str) (h := ?_)
      | refine ew_n (hn := r_not) (h := ?_)
      | refine ew_n (hn := r_extract) (h := ?_)
      | refine ew_n (hn := (r_index (h0 := by omega) (h1 := by first | omega | (simp; done) | (simp; omega)))) (h := ?_)
      | refine ew_n (hn := r_nil_eq) (h := ?_)
      | refine ew_n (hn := r_beq) (h := ?_)
      | refine ew_n (hn := r_nil_ne) (h := ?_)
      | refine ew_n (hn := r_bne) (h := ?_)
      | refine ew_n (hn := (r_slice (h := by assumption))) (h := ?_)
      | refine ew_n (hn := (r_shl (hn := by omega))) (h := ?_)
      | refine ew_n (hn := (r_bin (hr := by first | (apply cmp_t; (focus (first | exact ib_eql | exact ib_geq | exact ib_lss | exact ib_neq)); omega) | (apply cmp_f; (focus (first | exact ib_eql | exact ib_geq | exact ib_lss | exact ib_neq)); omega)))) (h := ?_)
      | refine ew_skip (h := ?_)
      | refine ew_load (hc := by (first | assumption | (apply cells_row; (focus ((repeat' (first | assumption | (rw [aadd_block]) | (apply gN; (focus (first | exact rfl | omega | (simp only [AHeap.push_next, AHeap.put_next, aadd_block] <;> omega))); (focus exact rfl)) | (apply gO; (focus (first | omega | (simp only [AHeap.push_next, AHeap.put_next, aadd_block, ne_eq] <;> omega)))) | (apply gS; (focus (first | exact rfl | omega | (simp only [AHeap.push_next, AHeap.put_next, aadd_block] <;> omega))); (focus exact rfl)) | (apply gP; (focus (first | omega | (simp only [AHeap.push_next, AHeap.put_next, aadd_block, ne_eq] <;> omega)))) | exact rfl)); done)); (focus exact rfl); (focus exact rfl); (focus (first | exact (rfl : _ = some [_]) | exact (rfl : _ = some [_, _, _])))) | (apply cells_k; (focus assumption); (focus (first | assumption | (simp only [aadd_block] <;> first | assumption | omega))); (focus ((repeat' (first | exact Keep.refl | assumption | (apply Keep.push) | (refine Keep.put ?_ ?_; rotate_left; (focus (intro hlt; first | assumption | omega | (exfalso; simp only [AHeap.push_next, AHeap.put_next, aadd_block] at hlt; omega)))))); done))))) (hv := by exact rfl) (h := ?_)
      | refine ew_convI _ (hv := by first | exact conv_u8 _ | exact rfl) (h := ?_)
      | refine ew_conv (hn := r_conv_br (h := by first | assumption | (apply Rd.keep0; (focus assumption); ((repeat' (first | exact Keep.refl | assumption | (apply Keep.push) | (refine Keep.put ?_ ?_; rotate_left; (focus (intro hlt; first | assumption | omega | (exfalso; simp only [AHeap.push_next, AHeap.put_next, aadd_block] at hlt; omega)))))); done)))) (h := ?_)
      | (refine ew_fresh ?_; intro b hb; (first | refine ew_n (hn := (r_alloc hb)) (h := ?_)); (try simp only [AHeap.push_next, AHeap.put_next] at hb))
      | refine ew_e (he := er_store (hc := by (apply setCells_at; (focus ((repeat' (first | assumption | (rw [aadd_block]) | (apply gN; (focus (first | exact rfl | omega | (simp only [AHeap.push_next, AHeap.put_next, aadd_block] <;> omega))); (focus exact rfl)) | (apply gO; (focus (first | omega | (simp only [AHeap.push_next, AHeap.put_next, aadd_block, ne_eq] <;> omega)))) | (apply gS; (focus (first | exact rfl | omega | (simp only [AHeap.push_next, AHeap.put_next, aadd_block] <;> omega))); (focus exact rfl)) | (apply gP; (focus (first | omega | (simp only [AHeap.push_next, AHeap.put_next, aadd_block, ne_eq] <;> omega)))) | exact rfl)); done)); (focus exact rfl); (focus (first | exact Nat.le_of_ble_eq_true rfl | (simp; omega) | (simp; done) | (simp [Value.cells]; omega))); (focus (first | exact rfl | (simp; done))); (focus (first | exact (rfl : _ = [_]) | exact (rfl : _ = [_, _, _]) | exact rfl)); (focus (first | exact aadd_block _ _ | exact rfl))))) (hk := by (first | exact Mode.kept_seq rfl | (dsimp only [Mode.kept, Mode.logged, Mode.at]; (repeat' (first | exact (fun _ h => absurd h List.not_mem_nil) | (refine List.forall_mem_cons.2 ⟨?_, ?_⟩) | (refine .inl ?_; exact rfl) | (refine .inl ?_; dsimp only; decide))); done))) (h := ?_)
      | (refine ew_dec (hn := r_streq) (ht := ?_) (hf := ?_) <;> intro _)
      | (refine ew_dec (hn := (r_bin (hr := by (first | exact ib_eql | exact ib_geq | exact ib_lss | exact ib_neq)))) (ht := ?_) (hf := ?_) <;> intro _)
      | refine ew_n (hn := r_bin (hr := by (first | exact ib_xor8 _ _ | (simp (disch := omega) only [intBin, wrap_in, wrap8_in, tdiv_in, tmod_in, if_false, reduceIte]; exact rfl) | (apply ib_rem; omega)))) (h := ?_)
      | (refine w_nil ?_)
      | (refine w_nilD ?_))
    | (show EC _ _ _ _ _ _ _; first | (refine k_seq ?_) | (refine k_region ?_) | (refine k_draw (h := ?_)) | (refine k_skip ?_) | (refine k_ret ?_) | (refine k_exit ?_) | (refine k_block ?_) | (refine k_true (h := ?_)) | (refine k_false (h := ?_)))
    | (show EX _ (bodyA _ _ _) _ _ _; first | (refine x_end1 (hq := ?_)))
    | (show EX _ _ _ _ _; first | (refine x_normal ?_) | (refine x_ret ?_) | (refine x_exit ?_) | (refine x_same ?_) | (refine x_other (h := ?_)) | (refine x_bnormal ?_) | (refine x_bret ?_)))
  (first | (refine' ew_callS (hc := cr_call) (hR := ?_) (h := ?_); rotate_left 1) | (refine' ew_call (hc := cr_call) (hR := ?_) (h := ?_); rotate_left 1))
  · exact works_calls _
  rintro _ H1 ⟨rfl, hk1⟩
  repeat' (first
    | (show EW _ _ _ _ _; first
      | refine ew_n (hn := r_move) (h := ?_)
      | refine ew_n (hn := r_assign) (h := ?_)
      | refine ew_n (hn := r_pick_t) (h := ?_)
      | refine ew_n (hn := r_pick_f) (h := ?_)
      | refine ew_n (hn := r_field) (h := ?_)
      | refine ew_n (hn := r_len) (h := ?_)
      | refine ew_n (hn := r_len_str) (h := ?_)
      | refine ew_n (hn := r_not) (h := ?_)
      | refine ew_n (hn := r_extract) (h := ?_)
      | refine ew_n (hn := (r_index (h0 := by omega) (h1 := by first | omega | (simp; done) | (simp; omega)))) (h := ?_)
      | refine ew_n (hn := r_nil_eq) (h := ?_)
      | refine ew_n (hn := r_beq) (h := ?_)
      | refine ew_n (hn := r_nil_ne) (h := ?_)
      | refine ew_n (hn := r_bne) (h := ?_)
      | refine ew_n (hn := (r_slice (h := by assumption))) (h := ?_)
      | refine ew_n (hn := (r_shl (hn := by omega))) (h := ?_)
      | refine ew_n (hn := (r_bin (hr := by first | (apply cmp_t; (focus (first | exact ib_eql | exact ib_geq | exact ib_lss | exact ib_neq)); omega) | (apply cmp_f; (focus (first | exact ib_eql | exact ib_geq | exact ib_lss | exact ib_neq)); omega)))) (h := ?_)
      | refine ew_skip (h := ?_)
      | refine ew_load (hc := by (first | assumption | (apply cells_row; (focus ((repeat' (first | assumption | (rw [aadd_block]) | (apply gN; (focus (first | exact rfl | omega | (simp only [AHeap.push_next, AHeap.put_next, aadd_block] <;> omega))); (focus exact rfl)) | (apply gO; (focus (first | omega | (simp only [AHeap.push_next, AHeap.put_next, aadd_block, ne_eq] <;> omega)))) | (apply gS; (focus (first | exact rfl | omega | (simp only [AHeap.push_next, AHeap.put_next, aadd_block] <;> omega))); (focus exact rfl)) | (apply gP; (focus (first | omega | (simp only [AHeap.push_next, AHeap.put_next, aadd_block, ne_eq] <;> omega)))) | exact rfl)); done)); (focus exact rfl); (focus exact rfl); (focus (first | exact (rfl : _ = some [_]) | exact (rfl : _ = some [_, _, _])))) | (apply cells_k; (focus assumption); (focus (first | assumption | (simp only [aadd_block] <;> first | assumption | omega))); (focus ((repeat' (first | exact Keep.refl | assumption | (apply Keep.push) | (refine Keep.put ?_ ?_; rotate_left; (focus (intro hlt; first | assumption | omega | (exfalso; simp only [AHeap.push_next, AHeap.put_next, aadd_block] at hlt; omega)))))); done))))) (hv := by exact rfl) (h := ?_)
      | refine ew_convI _ (hv := by first | exact conv_u8 _ | exact rfl) (h := ?_)
      | refine ew_conv (hn := r_conv_br (h := by first | assumption | (apply Rd.keep0; (focus assumption); ((repeat' (first | exact Keep.refl | assumption | (apply Keep.push) | (refine Keep.put ?_ ?_; rotate_left; (focus (intro hlt; first | assumption | omega | (exfalso; simp only [AHeap.push_next, AHeap.put_next, aadd_block] at hlt; omega)))))); done)))) (h := ?_)
      | (refine ew_fresh ?_; intro b hb; (first | refine ew_n (hn := (r_alloc hb)) (h := ?_)); (try simp only [AHeap.push_next, AHeap.put_next] at hb))
      | refine ew_e (he := er_store (hc := by (apply setCells_at; (focus ((repeat' (first | assumption | (rw [aadd_block]) | (apply gN; (focus (first | exact rfl | omega | (simp only [AHeap.push_next, AHeap.put_next, aadd_block] <;> omega))); (focus exact rfl)) | (apply gO; (focus (first | omega | (simp only [AHeap.push_next, AHeap.put_next, aadd_block, ne_eq] <;> omega)))) | (apply gS; (focus (first | exact rfl | omega | (simp only [AHeap.push_next, AHeap.put_next, aadd_block] <;> omega))); (focus exact rfl)) | (apply gP; (focus (first | omega | (simp only [AHeap.push_next, AHeap.put_next, aadd_block, ne_eq] <;> omega)))) | exact rfl)); done)); (focus exact rfl); (focus (first | exact Nat.le_of_ble_eq_true rfl | (simp; omega) | (simp; done) | (simp [Value.cells]; omega))); (focus (first | exact rfl | (simp; done))); (focus (first | exact (rfl : _ = [_]) | exact (rfl : _ = [_, _, _]) | exact rfl)); (focus (first | exact aadd_block _ _ | exact rfl))))) (hk := by (first | exact Mode.kept_seq rfl | (dsimp only [Mode.kept, Mode.logged, Mode.at]; (repeat' (first | exact (fun _ h => absurd h List.not_mem_nil) | (refine List.forall_mem_cons.2 ⟨?_, ?_⟩) | (refine .inl ?_; exact rfl) | (refine .inl ?_; dsimp only; decide))); done))) (h := ?_)
      | (refine ew_dec (hn := r_streq) (ht := ?_) (hf := ?_) <;> intro _)
      | (refine ew_dec (hn := (r_bin (hr := by (first | exact ib_eql | exact ib_geq | exact ib_lss | exact ib_neq)))) (ht := ?_) (hf := ?_) <;> intro _)
      | refine ew_n (hn := r_bin (hr := by (first | exact ib_xor8 _ _ | (simp (disch := omega) only [intBin, wrap_in, wrap8_in, tdiv_in, tmod_in, if_false, reduceIte]; exact rfl) | (apply ib_rem; omega)))) (h := ?_)
      | (refine w_nil ?_)
      | (refine w_nilD ?_))
    | (show EC _ _ _ _ _ _ _; first | (refine k_seq ?_) | (refine k_region ?_) | (refine k_draw (h := ?_)) | (refine k_skip ?_) | (refine k_ret ?_) | (refine k_exit ?_) | (refine k_block ?_) | (refine k_true (h := ?_)) | (refine k_false (h := ?_)))
    | (show EX _ (bodyA _ _ _) _ _ _; first | (refine x_end1 (hq := ?_)))
    | (show EX _ _ _ _ _; first | (refine x_normal ?_) | (refine x_ret ?_) | (refine x_exit ?_) | (refine x_same ?_) | (refine x_other (h := ?_)) | (refine x_bnormal ?_) | (refine x_bret ?_)))
  (first | (refine' ew_callS (hc := cr_call) (hR := ?_) (h := ?_); rotate_left 1) | (refine' ew_call (hc := cr_call) (hR := ?_) (h := ?_); rotate_left 1))
  · exact made_calls _ (r0.keep ByR.keep hk1)
  rintro _ H2 ⟨hk2, ea, Fa, rfl, hNa, hFa⟩
  repeat' (first
    | (show EW _ _ _ _ _; first
      | refine ew_n (hn := r_move) (h := ?_)
      | refine ew_n (hn := r_assign) (h := ?_)
      | refine ew_n (hn := r_pick_t) (h := ?_)
      | refine ew_n (hn := r_pick_f) (h := ?_)
      | refine ew_n (hn := r_field) (h := ?_)
      | refine ew_n (hn := r_len) (h := ?_)
      | refine ew_n (hn := r_len_str) (h := ?_)
      | refine ew_n (hn := r_not) (h := ?_)
      | refine ew_n (hn := r_extract) (h := ?_)
      | refine ew_n (hn := (r_index (h0 := by omega) (h1 := by first | omega | (simp; done) | (simp; omega)))) (h := ?_)
      | refine ew_n (hn := r_nil_eq) (h := ?_)
      | refine ew_n (hn := r_beq) (h := ?_)
      | refine ew_n (hn := r_nil_ne) (h := ?_)
      | refine ew_n (hn := r_bne) (h := ?_)
      | refine ew_n (hn := (r_slice (h := by assumption))) (h := ?_)
      | refine ew_n (hn := (r_shl (hn := by omega))) (h := ?_)
      | refine ew_n (hn := (r_bin (hr := by first | (apply cmp_t; (focus (first | exact ib_eql | exact ib_geq | exact ib_lss | exact ib_neq)); omega) | (apply cmp_f; (focus (first | exact ib_eql | exact ib_geq | exact ib_lss | exact ib_neq)); omega)))) (h := ?_)
      | refine ew_skip (h := ?_)
      | refine ew_load (hc := by (first | assumption | (apply cells_row; (focus ((repeat' (first | assumption | (rw [aadd_block]) | (apply gN; (focus (first | exact rfl | omega | (simp only [AHeap.push_next, AHeap.put_next, aadd_block] <;> omega))); (focus exact rfl)) | (apply gO; (focus (first | omega | (simp only [AHeap.push_next, AHeap.put_next, aadd_block, ne_eq] <;> omega)))) | (apply gS; (focus (first | exact rfl | omega | (simp only [AHeap.push_next, AHeap.put_next, aadd_block] <;> omega))); (focus exact rfl)) | (apply gP; (focus (first | omega | (simp only [AHeap.push_next, AHeap.put_next, aadd_block, ne_eq] <;> omega)))) | exact rfl)); done)); (focus exact rfl); (focus exact rfl); (focus (first | exact (rfl : _ = some [_]) | exact (rfl : _ = some [_, _, _])))) | (apply cells_k; (focus assumption); (focus (first | assumption | (simp only [aadd_block] <;> first | assumption | omega))); (focus ((repeat' (first | exact Keep.refl | assumption | (apply Keep.push) | (refine Keep.put ?_ ?_; rotate_left; (focus (intro hlt; first | assumption | omega | (exfalso; simp only [AHeap.push_next, AHeap.put_next, aadd_block] at hlt; omega)))))); done))))) (hv := by exact rfl) (h := ?_)
      | refine ew_convI _ (hv := by first | exact conv_u8 _ | exact rfl) (h := ?_)
      | refine ew_conv (hn := r_conv_br (h := by first | assumption | (apply Rd.keep0; (focus assumption); ((repeat' (first | exact Keep.refl | assumption | (apply Keep.push) | (refine Keep.put ?_ ?_; rotate_left; (focus (intro hlt; first | assumption | omega | (exfalso; simp only [AHeap.push_next, AHeap.put_next, aadd_block] at hlt; omega)))))); done)))) (h := ?_)
      | (refine ew_fresh ?_; intro b hb; (first | refine ew_n (hn := (r_alloc hb)) (h := ?_)); (try simp only [AHeap.push_next, AHeap.put_next] at hb))
      | refine ew_e (he := er_store (hc := by (apply setCells_at; (focus ((repeat' (first | assumption | (rw [aadd_block]) | (apply gN; (focus (first | exact rfl | omega | (simp only [AHeap.push_next, AHeap.put_next, aadd_block] <;> omega))); (focus exact rfl)) | (apply gO; (focus (first | omega | (simp only [AHeap.push_next, AHeap.put_next, aadd_block, ne_eq] <;> omega)))) | (apply gS; (focus (first | exact rfl | omega | (simp only [AHeap.push_next, AHeap.put_next, aadd_block] <;> omega))); (focus exact rfl)) | (apply gP; (focus (first | omega | (simp only [AHeap.push_next, AHeap.put_next, aadd_block, ne_eq] <;> omega)))) | exact rfl)); done)); (focus exact rfl); (focus (first | exact Nat.le_of_ble_eq_true rfl | (simp; omega) | (simp; done) | (simp [Value.cells]; omega))); (focus (first | exact rfl | (simp; done))); (focus (first | exact (rfl : _ = [_]) | exact (rfl : _ = [_, _, _]) | exact rfl)); (focus (first | exact aadd_block _ _ | exact rfl))))) (hk := by (first | exact Mode.kept_seq rfl | (dsimp only [Mode.kept, Mode.logged, Mode.at]; (repeat' (first | exact (fun _ h => absurd h List.not_mem_nil) | (refine List.forall_mem_cons.2 ⟨?_, ?_⟩) | (refine .inl ?_; exact rfl) | (refine .inl ?_; dsimp only; decide))); done))) (h := ?_)
      | (refine ew_dec (hn := r_streq) (ht := ?_) (hf := ?_) <;> intro _)
      | (refine ew_dec (hn := (r_bin (hr := by (first | exact ib_eql | exact ib_geq | exact ib_lss | exact ib_neq)))) (ht := ?_) (hf := ?_) <;> intro _)
      | refine ew_n (hn := r_bin (hr := by (first | exact ib_xor8 _ _ | (simp (disch := omega) only [intBin, wrap_in, wrap8_in, tdiv_in, tmod_in, if_false, reduceIte]; exact rfl) | (apply ib_rem; omega)))) (h := ?_)
      | (refine w_nil ?_)
      | (refine w_nilD ?_))
    | (show EC _ _ _ _ _ _ _; first | (refine k_seq ?_) | (refine k_region ?_) | (refine k_draw (h := ?_)) | (refine k_skip ?_) | (refine k_ret ?_) | (refine k_exit ?_) | (refine k_block ?_) | (refine k_true (h := ?_)) | (refine k_false (h := ?_)))
    | (show EX _ (bodyA _ _ _) _ _ _; first | (refine x_end1 (hq := ?_)))
    | (show EX _ _ _ _ _; first | (refine x_normal ?_) | (refine x_ret ?_) | (refine x_exit ?_) | (refine x_same ?_) | (refine x_other (h := ?_)) | (refine x_bnormal ?_) | (refine x_bret ?_)))
  (first | (refine' ew_callS (hc := cr_call) (hR := ?_) (h := ?_); rotate_left 1) | (refine' ew_call (hc := cr_call) (hR := ?_) (h := ?_); rotate_left 1))
  · exact made_calls _ (r0.keep ByR.keep (hk1.after hk2))
  rintro _ H3 ⟨hk3, eb, Fb, rfl, hNb, hFb⟩
  obtain ⟨M, hM⟩ : ∃ M, M = madeM ds (min ds.length 40) := ⟨_, rfl⟩
  have hM40 : M.length ≤ 40 := by have := madeM_len ds (min ds.length 40); rw [hM]; omega
  rw [← hM] at hNa hNb
  clear hM
  repeat' (first
    | (show EW _ _ _ _ _; first
      | refine ew_n (hn := r_move) (h := ?_)
      | refine ew_n (hn := r_assign) (h := ?_)
      | refine ew_n (hn := r_pick_t) (h := ?_)
      | refine ew_n (hn := r_pick_f) (h := ?_)
      | refine ew_n (hn := r_field) (h := ?_)
      | refine ew_n (hn := r_len) (h := ?_)
      | refine ew_n (hn := r_len_str) (h := ?_)
      | refine ew_n (hn := r_not) (h := ?_)
      | refine ew_n (hn := r_extract) (h := ?_)
      | refine ew_n (hn := (r_index (h0 := by omega) (h1 := by first | omega | (simp; done) | (simp; omega)))) (h := ?_)
      | refine ew_n (hn := r_nil_eq) (h := ?_)
      | refine ew_n (hn := r_beq) (h := ?_)
      | refine ew_n (hn := r_nil_ne) (h := ?_)
      | refine ew_n (hn := r_bne) (h := ?_)
      | refine ew_n (hn := (r_slice (h := by assumption))) (h := ?_)
      | refine ew_n (hn := (r_shl (hn := by omega))) (h := ?_)
      | refine ew_n (hn := (r_bin (hr := by first | (apply cmp_t; (focus (first | exact ib_eql | exact ib_geq | exact ib_lss | exact ib_neq)); omega) | (apply cmp_f; (focus (first | exact ib_eql | exact ib_geq | exact ib_lss | exact ib_neq)); omega)))) (h := ?_)
      | refine ew_skip (h := ?_)
      | refine ew_load (hc := by (first | assumption | (apply cells_row; (focus ((repeat' (first | assumption | (rw [aadd_block]) | (apply gN; (focus (first | exact rfl | omega | (simp only [AHeap.push_next, AHeap.put_next, aadd_block] <;> omega))); (focus exact rfl)) | (apply gO; (focus (first | omega | (simp only [AHeap.push_next, AHeap.put_next, aadd_block, ne_eq] <;> omega)))) | (apply gS; (focus (first | exact rfl | omega | (simp only [AHeap.push_next, AHeap.put_next, aadd_block] <;> omega))); (focus exact rfl)) | (apply gP; (focus (first | omega | (simp only [AHeap.push_next, AHeap.put_next, aadd_block, ne_eq] <;> omega)))) | exact rfl)); done)); (focus exact rfl); (focus exact rfl); (focus (first | exact (rfl : _ = some [_]) | exact (rfl : _ = some [_, _, _])))) | (apply cells_k; (focus assumption); (focus (first | assumption | (simp only [aadd_block] <;> first | assumption | omega))); (focus ((repeat' (first | exact Keep.refl | assumption | (apply Keep.push) | (refine Keep.put ?_ ?_; rotate_left; (focus (intro hlt; first | assumption | omega | (exfalso; simp only [AHeap.push_next, AHeap.put_next, aadd_block] at hlt; omega)))))); done))))) (hv := by exact rfl) (h := ?_)
      | refine ew_convI _ (hv := by first | exact conv_u8 _ | exact rfl) (h := ?_)
      | refine ew_conv (hn := r_conv_br (h := by first | assumption | (apply Rd.keep0; (focus assumption); ((repeat' (first | exact Keep.refl | assumption | (apply Keep.push) | (refine Keep.put ?_ ?_; rotate_left; (focus (intro hlt; first | assumption | omega | (exfalso; simp only [AHeap.push_next, AHeap.put_next, aadd_block] at hlt; omega)))))); done)))) (h := ?_)
      | (refine ew_fresh ?_; intro b hb; (first | refine ew_n (hn := (r_alloc hb)) (h := ?_)); (try simp only [AHeap.push_next, AHeap.put_next] at hb))
      | refine ew_e (he := er_store (hc := by (apply setCells_at; (focus ((repeat' (first | assumption | (rw [aadd_block]) | (apply gN; (focus (first | exact rfl | omega | (simp only [AHeap.push_next, AHeap.put_next, aadd_block] <;> omega))); (focus exact rfl)) | (apply gO; (focus (first | omega | (simp only [AHeap.push_next, AHeap.put_next, aadd_block, ne_eq] <;> omega)))) | (apply gS; (focus (first | exact rfl | omega | (simp only [AHeap.push_next, AHeap.put_next, aadd_block] <;> omega))); (focus exact rfl)) | (apply gP; (focus (first | omega | (simp only [AHeap.push_next, AHeap.put_next, aadd_block, ne_eq] <;> omega)))) | exact rfl)); done)); (focus exact rfl); (focus (first | exact Nat.le_of_ble_eq_true rfl | (simp; omega) | (simp; done) | (simp [Value.cells]; omega))); (focus (first | exact rfl | (simp; done))); (focus (first | exact (rfl : _ = [_]) | exact (rfl : _ = [_, _, _]) | exact rfl)); (focus (first | exact aadd_block _ _ | exact rfl))))) (hk := by (first | exact Mode.kept_seq rfl | (dsimp only [Mode.kept, Mode.logged, Mode.at]; (repeat' (first | exact (fun _ h => absurd h List.not_mem_nil) | (refine List.forall_mem_cons.2 ⟨?_, ?_⟩) | (refine .inl ?_; exact rfl) | (refine .inl ?_; dsimp only; decide))); done))) (h := ?_)
      | (refine ew_dec (hn := r_streq) (ht := ?_) (hf := ?_) <;> intro _)
      | (refine ew_dec (hn := (r_bin (hr := by (first | exact ib_eql | exact ib_geq | exact ib_lss | exact ib_neq)))) (ht := ?_) (hf := ?_) <;> intro _)
      | refine ew_n (hn := r_bin (hr := by (first | exact ib_xor8 _ _ | (simp (disch := omega) only [intBin, wrap_in, wrap8_in, tdiv_in, tmod_in, if_false, reduceIte]; exact rfl) | (apply ib_rem; omega)))) (h := ?_)
      | (refine w_nil ?_)
      | (refine w_nilD ?_))
    | (show EC _ _ _ _ _ _ _; first | (refine k_seq ?_) | (refine k_region ?_) | (refine k_draw (h := ?_)) | (refine k_skip ?_) | (refine k_ret ?_) | (refine k_exit ?_) | (refine k_block ?_) | (refine k_true (h := ?_)) | (refine k_false (h := ?_)))
    | (show EX _ (bodyA _ _ _) _ _ _; first | (refine x_end1 (hq := ?_)))
    | (show EX _ _ _ _ _; first | (refine x_normal ?_) | (refine x_ret ?_) | (refine x_exit ?_) | (refine x_same ?_) | (refine x_other (h := ?_)) | (refine x_bnormal ?_) | (refine x_bret ?_)))
  (first | (refine' ew_callS (hc := cr_call) (hR := ?_) (h := ?_); rotate_left 1) | (refine' ew_call (hc := cr_call) (hR := ?_) (h := ?_); rotate_left 1))
  · exact listM (hNa.keep0 hk3)
  rintro w H4 ⟨hk4, Lw, hLw, hmw⟩
  have hw0 := hLw.reads
  rw [hmw] at hw0
  have hwl : Lw.length = M.length := by rw [← hmw, List.length_map]
  have hws := hLw.shp (by unfold openCap; omega)
  have t4 : Tri H H4 ea eb M M Fa Fb (New H3 H4) w M := ⟨((hk1.after hk2).after hk3).after hk4, (hNa.keep0 hk3).keep0 hk4, hNb.keep0 hk4, hw0,
    fun x ha hb => by have := hNa.bound x ha; have := hFb x hb; omega, fun x ha hg => by have := hNa.bound x ha; have := hg.1; have := hk3.1; omega,
    fun x hb hg => by have := hNb.bound x hb; have := hg.1; omega, fun x hg => hg.2, fun x ha => by have := hFa x ha; have := hk1.1; omega, fun x hb => by have := hFb x hb; have := hk1.1; have := hk2.1; omega⟩
  generalize New H3 H4 = G at t4
  clear hw0 hmw hLw hNa hNb hFa hFb hk1 hk2 hk3 hk4 r0
  by_cases hin : 0 ≤ i ∧ i < M.length
  case neg =>
    obtain ⟨zw, cw, rfl⟩ := t4.w.slice
    have hat : atI M i = none := atI_none hin
    have hflip : flipP M i bit = (false, M) := by unfold flipP; rw [hat]
    have hcopy : copyP M i = (224, M) := by unfold copyP; rw [hat]
    have hcut : cutP M i = M := by unfold cutP; rw [hat]
    repeat' (first
    | (show EW _ _ _ _ _; first
      | refine ew_n (hn := r_move) (h := ?_)
      | refine ew_n (hn := r_assign) (h := ?_)
      | refine ew_n (hn := r_pick_t) (h := ?_)
      | refine ew_n (hn := r_pick_f) (h := ?_)
      | refine ew_n (hn := r_field) (h := ?_)
      | refine ew_n (hn := r_len) (h := ?_)
      | refine ew_n (hn := r_len_str) (h := ?_)
      | refine ew_n (hn := r_not) (h := ?_)
      | refine ew_n (hn := r_extract) (h := ?_)
      | refine ew_n (hn := (r_index (h0 := by omega) (h1 := by first | omega | (simp; done) | (simp; omega)))) (h := ?_)
      | refine ew_n (hn := r_nil_eq) (h := ?_)
      | refine ew_n (hn := r_beq) (h := ?_)
      | refine ew_n (hn := r_nil_ne) (h := ?_)
      | refine ew_n (hn := r_bne) (h := ?_)
      | refine ew_n (hn := (r_slice (h := by assumption))) (h := ?_)
      | refine ew_n (hn := (r_shl (hn := by omega))) (h := ?_)
      | refine ew_n (hn := (r_bin (hr := by first | (apply cmp_t; (focus (first | exact ib_eql | exact ib_geq | exact ib_lss | exact ib_neq)); omega) | (apply cmp_f; (focus (first | exact ib_eql | exact ib_geq | exact ib_lss | exact ib_neq)); omega)))) (h := ?_)
      | refine ew_skip (h := ?_)
      | refine ew_load (hc := by (first | assumption | (apply cells_row; (focus ((repeat' (first | assumption | (rw [aadd_block]) | (apply gN; (focus (first | exact rfl | omega | (simp only [AHeap.push_next, AHeap.put_next, aadd_block] <;> omega))); (focus exact rfl)) | (apply gO; (focus (first | omega | (simp only [AHeap.push_next, AHeap.put_next, aadd_block, ne_eq] <;> omega)))) | (apply gS; (focus (first | exact rfl | omega | (simp only [AHeap.push_next, AHeap.put_next, aadd_block] <;> omega))); (focus exact rfl)) | (apply gP; (focus (first | omega | (simp only [AHeap.push_next, AHeap.put_next, aadd_block, ne_eq] <;> omega)))) | exact rfl)); done)); (focus exact rfl); (focus exact rfl); (focus (first | exact (rfl : _ = some [_]) | exact (rfl : _ = some [_, _, _])))) | (apply cells_k; (focus assumption); (focus (first | assumption | (simp only [aadd_block] <;> first | assumption | omega))); (focus ((repeat' (first | exact Keep.refl | assumption | (apply Keep.push) | (refine Keep.put ?_ ?_; rotate_left; (focus (intro hlt; first | assumption | omega | (exfalso; simp only [AHeap.push_next, AHeap.put_next, aadd_block] at hlt; omega)))))); done))))) (hv := by exact rfl) (h := ?_)
      | refine ew_convI _ (hv := by first | exact conv_u8 _ | exact rfl) (h := ?_)
      | refine ew_conv (hn := r_conv_br (h := by first | assumption | (apply Rd.keep0; (focus assumption); ((repeat' (first | exact Keep.refl | assumption | (apply Keep.push) | (refine Keep.put ?_ ?_; rotate_left; (focus (intro hlt; first | assumption | omega | (exfalso; simp only [AHeap.push_next, AHeap.put_next, aadd_block] at hlt; omega)))))); done)))) (h := ?_)
      | (refine ew_fresh ?_; intro b hb; (first | refine ew_n (hn := (r_alloc hb)) (h := ?_)); (try simp only [AHeap.push_next, AHeap.put_next] at hb))
      | refine ew_e (he := er_store (hc := by (apply setCells_at; (focus ((repeat' (first | assumption | (rw [aadd_block]) | (apply gN; (focus (first | exact rfl | omega | (simp only [AHeap.push_next, AHeap.put_next, aadd_block] <;> omega))); (focus exact rfl)) | (apply gO; (focus (first | omega | (simp only [AHeap.push_next, AHeap.put_next, aadd_block, ne_eq] <;> omega)))) | (apply gS; (focus (first | exact rfl | omega | (simp only [AHeap.push_next, AHeap.put_next, aadd_block] <;> omega))); (focus exact rfl)) | (apply gP; (focus (first | omega | (simp only [AHeap.push_next, AHeap.put_next, aadd_block, ne_eq] <;> omega)))) | exact rfl)); done)); (focus exact rfl); (focus (first | exact Nat.le_of_ble_eq_true rfl | (simp; omega) | (simp; done) | (simp [Value.cells]; omega))); (focus (first | exact rfl | (simp; done))); (focus (first | exact (rfl : _ = [_]) | exact (rfl : _ = [_, _, _]) | exact rfl)); (focus (first | exact aadd_block _ _ | exact rfl))))) (hk := by (first | exact Mode.kept_seq rfl | (dsimp only [Mode.kept, Mode.logged, Mode.at]; (repeat' (first | exact (fun _ h => absurd h List.not_mem_nil) | (refine List.forall_mem_cons.2 ⟨?_, ?_⟩) | (refine .inl ?_; exact rfl) | (refine .inl ?_; dsimp only; decide))); done))) (h := ?_)
      | (refine ew_dec (hn := r_streq) (ht := ?_) (hf := ?_) <;> intro _)
      | (refine ew_dec (hn := (r_bin (hr := by (first | exact ib_eql | exact ib_geq | exact ib_lss | exact ib_neq)))) (ht := ?_) (hf := ?_) <;> intro _)
      | refine ew_n (hn := r_bin (hr := by (first | exact ib_xor8 _ _ | (simp (disch := omega) only [intBin, wrap_in, wrap8_in, tdiv_in, tmod_in, if_false, reduceIte]; exact rfl) | (apply ib_rem; omega)))) (h := ?_)
      | (refine w_nil ?_)
      | (refine w_nilD ?_))
    | (show EC _ _ _ _ _ _ _; first | (refine k_seq ?_) | (refine k_region ?_) | (refine k_draw (h := ?_)) | (refine k_skip ?_) | (refine k_ret ?_) | (refine k_exit ?_) | (refine k_block ?_) | (refine k_true (h := ?_)) | (refine k_false (h := ?_)))
    | (show EX _ (bodyA _ _ _) _ _ _; first | (refine x_end1 (hq := ?_)))
    | (show EX _ _ _ _ _; first | (refine x_normal ?_) | (refine x_ret ?_) | (refine x_exit ?_) | (refine x_same ?_) | (refine x_other (h := ?_)) | (refine x_bnormal ?_) | (refine x_bret ?_)))
    all_goals (
      (first | (refine' ew_callS (hc := cr_call) (hR := ?_) (h := ?_); rotate_left 1) | (refine' ew_call (hc := cr_call) (hR := ?_) (h := ?_); rotate_left 1))
      · exact flipM i bit t4.a hb1 hb2
      simp only [hflip]
      rintro _ H5 ⟨rfl, hk5, hN5⟩
      have t5 := t4.stepA hk5 hN5 Grow.refl
      repeat' (first
    | (show EW _ _ _ _ _; first
      | refine ew_n (hn := r_move) (h := ?_)
      | refine ew_n (hn := r_assign) (h := ?_)
      | refine ew_n (hn := r_pick_t) (h := ?_)
      | refine ew_n (hn := r_pick_f) (h := ?_)
      | refine ew_n (hn := r_field) (h := ?_)
      | refine ew_n (hn := r_len) (h := ?_)
      | refine ew_n (hn := r_len_str) (h := ?_)
      | refine ew_n (hn := r_not) (h := ?_)
      | refine ew_n (hn := r_extract) (h := ?_)
      | refine ew_n (hn := (r_index (h0 := by omega) (h1 := by first | omega | (simp; done) | (simp; omega)))) (h := ?_)
      | refine ew_n (hn := r_nil_eq) (h := ?_)
      | refine ew_n (hn := r_beq) (h := ?_)
      | refine ew_n (hn := r_nil_ne) (h := ?_)
      | refine ew_n (hn := r_bne) (h := ?_)
      | refine ew_n (hn := (r_slice (h := by assumption))) (h := ?_)
      | refine ew_n (hn := (r_shl (hn := by omega))) (h := ?_)
      | refine ew_n (hn := (r_bin (hr := by first | (apply cmp_t; (focus (first | exact ib_eql | exact ib_geq | exact ib_lss | exact ib_neq)); omega) | (apply cmp_f; (focus (first | exact ib_eql | exact ib_geq | exact ib_lss | exact ib_neq)); omega)))) (h := ?_)
      | refine ew_skip (h := ?_)
      | refine ew_load (hc := by (first | assumption | (apply cells_row; (focus ((repeat' (first | assumption | (rw [aadd_block]) | (apply gN; (focus (first | exact rfl | omega | (simp only [AHeap.push_next, AHeap.put_next, aadd_block] <;> omega))); (focus exact rfl)) | (apply gO; (focus (first | omega | (simp only [AHeap.push_next, AHeap.put_next, aadd_block, ne_eq] <;> omega)))) | (apply gS; (focus (first | exact rfl | omega | (simp only [AHeap.push_next, AHeap.put_next, aadd_block] <;> omega))); (focus exact rfl)) | (apply gP; (focus (first | omega | (simp only [AHeap.push_next, AHeap.put_next, aadd_block, ne_eq] <;> omega)))) | exact rfl)); done)); (focus exact rfl); (focus exact rfl); (focus (first | exact (rfl : _ = some [_]) | exact (rfl : _ = some [_, _, _])))) | (apply cells_k; (focus assumption); (focus (first | assumption | (simp only [aadd_block] <;> first | assumption | omega))); (focus ((repeat' (first | exact Keep.refl | assumption | (apply Keep.push) | (refine Keep.put ?_ ?_; rotate_left; (focus (intro hlt; first | assumption | omega | (exfalso; simp only [AHeap.push_next, AHeap.put_next, aadd_block] at hlt; omega)))))); done))))) (hv := by exact rfl) (h := ?_)
      | refine ew_convI _ (hv := by first | exact conv_u8 _ | exact rfl) (h := ?_)
      | refine ew_conv (hn := r_conv_br (h := by first | assumption | (apply Rd.keep0; (focus assumption); ((repeat' (first | exact Keep.refl | assumption | (apply Keep.push) | (refine Keep.put ?_ ?_; rotate_left; (focus (intro hlt; first | assumption | omega | (exfalso; simp only [AHeap.push_next, AHeap.put_next, aadd_block] at hlt; omega)))))); done)))) (h := ?_)
      | (refine ew_fresh ?_; intro b hb; (first | refine ew_n (hn := (r_alloc hb)) (h := ?_)); (try simp only [AHeap.push_next, AHeap.put_next] at hb))
      | refine ew_e (he := er_store (hc := by (apply setCells_at; (focus ((repeat' (first | assumption | (rw [aadd_block]) | (apply gN; (focus (first | exact rfl | omega | (simp only [AHeap.push_next, AHeap.put_next, aadd_block] <;> omega))); (focus exact rfl)) | (apply gO; (focus (first | omega | (simp only [AHeap.push_next, AHeap.put_next, aadd_block, ne_eq] <;> omega)))) | (apply gS; (focus (first | exact rfl | omega | (simp only [AHeap.push_next, AHeap.put_next, aadd_block] <;> omega))); (focus exact rfl)) | (apply gP; (focus (first | omega | (simp only [AHeap.push_next, AHeap.put_next, aadd_block, ne_eq] <;> omega)))) | exact rfl)); done)); (focus exact rfl); (focus (first | exact Nat.le_of_ble_eq_true rfl | (simp; omega) | (simp; done) | (simp [Value.cells]; omega))); (focus (first | exact rfl | (simp; done))); (focus (first | exact (rfl : _ = [_]) | exact (rfl : _ = [_, _, _]) | exact rfl)); (focus (first | exact aadd_block _ _ | exact rfl))))) (hk := by (first | exact Mode.kept_seq rfl | (dsimp only [Mode.kept, Mode.logged, Mode.at]; (repeat' (first | exact (fun _ h => absurd h List.not_mem_nil) | (refine List.forall_mem_cons.2 ⟨?_, ?_⟩) | (refine .inl ?_; exact rfl) | (refine .inl ?_; dsimp only; decide))); done))) (h := ?_)
      | (refine ew_dec (hn := r_streq) (ht := ?_) (hf := ?_) <;> intro _)
      | (refine ew_dec (hn := (r_bin (hr := by (first | exact ib_eql | exact ib_geq | exact ib_lss | exact ib_neq)))) (ht := ?_) (hf := ?_) <;> intro _)
      | refine ew_n (hn := r_bin (hr := by (first | exact ib_xor8 _ _ | (simp (disch := omega) only [intBin, wrap_in, wrap8_in, tdiv_in, tmod_in, if_false, reduceIte]; exact rfl) | (apply ib_rem; omega)))) (h := ?_)
      | (refine w_nil ?_)
      | (refine w_nilD ?_))
    | (show EC _ _ _ _ _ _ _; first | (refine k_seq ?_) | (refine k_region ?_) | (refine k_draw (h := ?_)) | (refine k_skip ?_) | (refine k_ret ?_) | (refine k_exit ?_) | (refine k_block ?_) | (refine k_true (h := ?_)) | (refine k_false (h := ?_)))
    | (show EX _ (bodyA _ _ _) _ _ _; first | (refine x_end1 (hq := ?_)))
    | (show EX _ _ _ _ _; first | (refine x_normal ?_) | (refine x_ret ?_) | (refine x_exit ?_) | (refine x_same ?_) | (refine x_other (h := ?_)) | (refine x_bnormal ?_) | (refine x_bret ?_)))
      (first | (refine' ew_callS (hc := cr_call) (hR := ?_) (h := ?_); rotate_left 1) | (refine' ew_call (hc := cr_call) (hR := ?_) (h := ?_); rotate_left 1))
      · exact listM t5.a
      rintro n6 H6 ⟨hk6, L6, hL6, hm6⟩
      have t6 := t5.keep0 hk6
      have r6 := hL6.reads
      rw [hm6] at r6
      obtain ⟨z6, c6, rfl⟩ := r6.slice
      repeat' (first
    | (show EW _ _ _ _ _; first
      | refine ew_n (hn := r_move) (h := ?_)
      | refine ew_n (hn := r_assign) (h := ?_)
      | refine ew_n (hn := r_pick_t) (h := ?_)
      | refine ew_n (hn := r_pick_f) (h := ?_)
      | refine ew_n (hn := r_field) (h := ?_)
      | refine ew_n (hn := r_len) (h := ?_)
      | refine ew_n (hn := r_len_str) (h := ?_)
      | refine ew_n (hn := r_not) (h := ?_)
      | refine ew_n (hn := r_extract) (h := ?_)
      | refine ew_n (hn := (r_index (h0 := by omega) (h1 := by first | omega | (simp; done) | (simp; omega)))) (h := ?_)
      | refine ew_n (hn := r_nil_eq) (h := ?_)
      | refine ew_n (hn := r_beq) (h := ?_)
      | refine ew_n (hn := r_nil_ne) (h := ?_)
      | refine ew_n (hn := r_bne) (h := ?_)
      | refine ew_n (hn := (r_slice (h := by assumption))) (h := ?_)
      | refine ew_n (hn := (r_shl (hn := by omega))) (h := ?_)
      | refine ew_n (hn := (r_bin (hr := by first | (apply cmp_t; (focus (first | exact ib_eql | exact ib_geq | exact ib_lss | exact ib_neq)); omega) | (apply cmp_f; (focus (first | exact ib_eql | exact ib_geq | exact ib_lss | exact ib_neq)); omega)))) (h := ?_)
      | refine ew_skip (h := ?_)
      | refine ew_load (hc := by (first | assumption | (apply cells_row; (focus ((repeat' (first | assumption | (rw [aadd_block]) | (apply gN; (focus (first | exact rfl | omega | (simp only [AHeap.push_next, AHeap.put_next, aadd_block] <;> omega))); (focus exact rfl)) | (apply gO; (focus (first | omega | (simp only [AHeap.push_next, AHeap.put_next, aadd_block, ne_eq] <;> omega)))) | (apply gS; (focus (first | exact rfl | omega | (simp only [AHeap.push_next, AHeap.put_next, aadd_block] <;> omega))); (focus exact rfl)) | (apply gP; (focus (first | omega | (simp only [AHeap.push_next, AHeap.put_next, aadd_block, ne_eq] <;> omega)))) | exact rfl)); done)); (focus exact rfl); (focus exact rfl); (focus (first | exact (rfl : _ = some [_]) | exact (rfl : _ = some [_, _, _])))) | (apply cells_k; (focus assumption); (focus (first | assumption | (simp only [aadd_block] <;> first | assumption | omega))); (focus ((repeat' (first | exact Keep.refl | assumption | (apply Keep.push) | (refine Keep.put ?_ ?_; rotate_left; (focus (intro hlt; first | assumption | omega | (exfalso; simp only [AHeap.push_next, AHeap.put_next, aadd_block] at hlt; omega)))))); done))))) (hv := by exact rfl) (h := ?_)
      | refine ew_convI _ (hv := by first | exact conv_u8 _ | exact rfl) (h := ?_)
      | refine ew_conv (hn := r_conv_br (h := by first | assumption | (apply Rd.keep0; (focus assumption); ((repeat' (first | exact Keep.refl | assumption | (apply Keep.push) | (refine Keep.put ?_ ?_; rotate_left; (focus (intro hlt; first | assumption | omega | (exfalso; simp only [AHeap.push_next, AHeap.put_next, aadd_block] at hlt; omega)))))); done)))) (h := ?_)
      | (refine ew_fresh ?_; intro b hb; (first | refine ew_n (hn := (r_alloc hb)) (h := ?_)); (try simp only [AHeap.push_next, AHeap.put_next] at hb))
      | refine ew_e (he := er_store (hc := by (apply setCells_at; (focus ((repeat' (first | assumption | (rw [aadd_block]) | (apply gN; (focus (first | exact rfl | omega | (simp only [AHeap.push_next, AHeap.put_next, aadd_block] <;> omega))); (focus exact rfl)) | (apply gO; (focus (first | omega | (simp only [AHeap.push_next, AHeap.put_next, aadd_block, ne_eq] <;> omega)))) | (apply gS; (focus (first | exact rfl | omega | (simp only [AHeap.push_next, AHeap.put_next, aadd_block] <;> omega))); (focus exact rfl)) | (apply gP; (focus (first | omega | (simp only [AHeap.push_next, AHeap.put_next, aadd_block, ne_eq] <;> omega)))) | exact rfl)); done)); (focus exact rfl); (focus (first | exact Nat.le_of_ble_eq_true rfl | (simp; omega) | (simp; done) | (simp [Value.cells]; omega))); (focus (first | exact rfl | (simp; done))); (focus (first | exact (rfl : _ = [_]) | exact (rfl : _ = [_, _, _]) | exact rfl)); (focus (first | exact aadd_block _ _ | exact rfl))))) (hk := by (first | exact Mode.kept_seq rfl | (dsimp only [Mode.kept, Mode.logged, Mode.at]; (repeat' (first | exact (fun _ h => absurd h List.not_mem_nil) | (refine List.forall_mem_cons.2 ⟨?_, ?_⟩) | (refine .inl ?_; exact rfl) | (refine .inl ?_; dsimp only; decide))); done))) (h := ?_)
      | (refine ew_dec (hn := r_streq) (ht := ?_) (hf := ?_) <;> intro _)
      | (refine ew_dec (hn := (r_bin (hr := by (first | exact ib_eql | exact ib_geq | exact ib_lss | exact ib_neq)))) (ht := ?_) (hf := ?_) <;> intro _)
      | refine ew_n (hn := r_bin (hr := by (first | exact ib_xor8 _ _ | (simp (disch := omega) only [intBin, wrap_in, wrap8_in, tdiv_in, tmod_in, if_false, reduceIte]; exact rfl) | (apply ib_rem; omega)))) (h := ?_)
      | (refine w_nil ?_)
      | (refine w_nilD ?_))
    | (show EC _ _ _ _ _ _ _; first | (refine k_seq ?_) | (refine k_region ?_) | (refine k_draw (h := ?_)) | (refine k_skip ?_) | (refine k_ret ?_) | (refine k_exit ?_) | (refine k_block ?_) | (refine k_true (h := ?_)) | (refine k_false (h := ?_)))
    | (show EX _ (bodyA _ _ _) _ _ _; first | (refine x_end1 (hq := ?_)))
    | (show EX _ _ _ _ _; first | (refine x_normal ?_) | (refine x_ret ?_) | (refine x_exit ?_) | (refine x_same ?_) | (refine x_other (h := ?_)) | (refine x_bnormal ?_) | (refine x_bret ?_)))
      (first | (refine' ew_callS (hc := cr_call) (hR := ?_) (h := ?_); rotate_left 1) | (refine' ew_call (hc := cr_call) (hR := ?_) (h := ?_); rotate_left 1))
      · exact same_calls _ r6 t6.w (by omega)
      rintro _ H7 ⟨rfl, hk7⟩
      have t7 := t6.keep0 hk7
      rw [decide_eq_true rfl]
      repeat' (first
    | (show EW _ _ _ _ _; first
      | refine ew_n (hn := r_move) (h := ?_)
      | refine ew_n (hn := r_assign) (h := ?_)
      | refine ew_n (hn := r_pick_t) (h := ?_)
      | refine ew_n (hn := r_pick_f) (h := ?_)
      | refine ew_n (hn := r_field) (h := ?_)
      | refine ew_n (hn := r_len) (h := ?_)
      | refine ew_n (hn := r_len_str) (h := ?_)
      | refine ew_n (hn := r_not) (h := ?_)
      | refine ew_n (hn := r_extract) (h := ?_)
      | refine ew_n (hn := (r_index (h0 := by omega) (h1 := by first | omega | (simp; done) | (simp; omega)))) (h := ?_)
      | refine ew_n (hn := r_nil_eq) (h := ?_)
      | refine ew_n (hn := r_beq) (h := ?_)
      | refine ew_n (hn := r_nil_ne) (h := ?_)
      | refine ew_n (hn := r_bne) (h := ?_)
      | refine ew_n (hn := (r_slice (h := by assumption))) (h := ?_)
      | refine ew_n (hn := (r_shl (hn := by omega))) (h := ?_)
      | refine ew_n (hn := (r_bin (hr := by first | (apply cmp_t; (focus (first | exact ib_eql | exact ib_geq | exact ib_lss | exact ib_neq)); omega) | (apply cmp_f; (focus (first | exact ib_eql | exact ib_geq | exact ib_lss | exact ib_neq)); omega)))) (h := ?_)
      | refine ew_skip (h := ?_)
      | refine ew_load (hc := by (first | assumption | (apply cells_row; (focus ((repeat' (first | assumption | (rw [aadd_block]) | (apply gN; (focus (first | exact rfl | omega | (simp only [AHeap.push_next, AHeap.put_next, aadd_block] <;> omega))); (focus exact rfl)) | (apply gO; (focus (first | omega | (simp only [AHeap.push_next, AHeap.put_next, aadd_block, ne_eq] <;> omega)))) | (apply gS; (focus (first | exact rfl | omega | (simp only [AHeap.push_next, AHeap.put_next, aadd_block] <;> omega))); (focus exact rfl)) | (apply gP; (focus (first | omega | (simp only [AHeap.push_next, AHeap.put_next, aadd_block, ne_eq] <;> omega)))) | exact rfl)); done)); (focus exact rfl); (focus exact rfl); (focus (first | exact (rfl : _ = some [_]) | exact (rfl : _ = some [_, _, _])))) | (apply cells_k; (focus assumption); (focus (first | assumption | (simp only [aadd_block] <;> first | assumption | omega))); (focus ((repeat' (first | exact Keep.refl | assumption | (apply Keep.push) | (refine Keep.put ?_ ?_; rotate_left; (focus (intro hlt; first | assumption | omega | (exfalso; simp only [AHeap.push_next, AHeap.put_next, aadd_block] at hlt; omega)))))); done))))) (hv := by exact rfl) (h := ?_)
      | refine ew_convI _ (hv := by first | exact conv_u8 _ | exact rfl) (h := ?_)
      | refine ew_conv (hn := r_conv_br (h := by first | assumption | (apply Rd.keep0; (focus assumption); ((repeat' (first | exact Keep.refl | assumption | (apply Keep.push) | (refine Keep.put ?_ ?_; rotate_left; (focus (intro hlt; first | assumption | omega | (exfalso; simp only [AHeap.push_next, AHeap.put_next, aadd_block] at hlt; omega)))))); done)))) (h := ?_)
      | (refine ew_fresh ?_; intro b hb; (first | refine ew_n (hn := (r_alloc hb)) (h := ?_)); (try simp only [AHeap.push_next, AHeap.put_next] at hb))
      | refine ew_e (he := er_store (hc := by (apply setCells_at; (focus ((repeat' (first | assumption | (rw [aadd_block]) | (apply gN; (focus (first | exact rfl | omega | (simp only [AHeap.push_next, AHeap.put_next, aadd_block] <;> omega))); (focus exact rfl)) | (apply gO; (focus (first | omega | (simp only [AHeap.push_next, AHeap.put_next, aadd_block, ne_eq] <;> omega)))) | (apply gS; (focus (first | exact rfl | omega | (simp only [AHeap.push_next, AHeap.put_next, aadd_block] <;> omega))); (focus exact rfl)) | (apply gP; (focus (first | omega | (simp only [AHeap.push_next, AHeap.put_next, aadd_block, ne_eq] <;> omega)))) | exact rfl)); done)); (focus exact rfl); (focus (first | exact Nat.le_of_ble_eq_true rfl | (simp; omega) | (simp; done) | (simp [Value.cells]; omega))); (focus (first | exact rfl | (simp; done))); (focus (first | exact (rfl : _ = [_]) | exact (rfl : _ = [_, _, _]) | exact rfl)); (focus (first | exact aadd_block _ _ | exact rfl))))) (hk := by (first | exact Mode.kept_seq rfl | (dsimp only [Mode.kept, Mode.logged, Mode.at]; (repeat' (first | exact (fun _ h => absurd h List.not_mem_nil) | (refine List.forall_mem_cons.2 ⟨?_, ?_⟩) | (refine .inl ?_; exact rfl) | (refine .inl ?_; dsimp only; decide))); done))) (h := ?_)
      | (refine ew_dec (hn := r_streq) (ht := ?_) (hf := ?_) <;> intro _)
      | (refine ew_dec (hn := (r_bin (hr := by (first | exact ib_eql | exact ib_geq | exact ib_lss | exact ib_neq)))) (ht := ?_) (hf := ?_) <;> intro _)
      | refine ew_n (hn := r_bin (hr := by (first | exact ib_xor8 _ _ | (simp (disch := omega) only [intBin, wrap_in, wrap8_in, tdiv_in, tmod_in, if_false, reduceIte]; exact rfl) | (apply ib_rem; omega)))) (h := ?_)
      | (refine w_nil ?_)
      | (refine w_nilD ?_))
    | (show EC _ _ _ _ _ _ _; first | (refine k_seq ?_) | (refine k_region ?_) | (refine k_draw (h := ?_)) | (refine k_skip ?_) | (refine k_ret ?_) | (refine k_exit ?_) | (refine k_block ?_) | (refine k_true (h := ?_)) | (refine k_false (h := ?_)))
    | (show EX _ (bodyA _ _ _) _ _ _; first | (refine x_end1 (hq := ?_)))
    | (show EX _ _ _ _ _; first | (refine x_normal ?_) | (refine x_ret ?_) | (refine x_exit ?_) | (refine x_same ?_) | (refine x_other (h := ?_)) | (refine x_bnormal ?_) | (refine x_bret ?_)))
      (first | (refine' ew_callS (hc := cr_call) (hR := ?_) (h := ?_); rotate_left 1) | (refine' ew_call (hc := cr_call) (hR := ?_) (h := ?_); rotate_left 1))
      · exact copyM i t7.a
      simp only [hcopy]
      rintro _ H8 ⟨rfl, hk8, Fa8, hN8, hg8⟩
      have t8 := t7.stepA hk8 hN8 hg8
      repeat' (first
    | (show EW _ _ _ _ _; first
      | refine ew_n (hn := r_move) (h := ?_)
      | refine ew_n (hn := r_assign) (h := ?_)
      | refine ew_n (hn := r_pick_t) (h := ?_)
      | refine ew_n (hn := r_pick_f) (h := ?_)
      | refine ew_n (hn := r_field) (h := ?_)
      | refine ew_n (hn := r_len) (h := ?_)
      | refine ew_n (hn := r_len_str) (h := ?_)
      | refine ew_n (hn := r_not) (h := ?_)
      | refine ew_n (hn := r_extract) (h := ?_)
      | refine ew_n (hn := (r_index (h0 := by omega) (h1 := by first | omega | (simp; done) | (simp; omega)))) (h := ?_)
      | refine ew_n (hn := r_nil_eq) (h := ?_)
      | refine ew_n (hn := r_beq) (h := ?_)
      | refine ew_n (hn := r_nil_ne) (h := ?_)
      | refine ew_n (hn := r_bne) (h := ?_)
      | refine ew_n (hn := (r_slice (h := by assumption))) (h := ?_)
      | refine ew_n (hn := (r_shl (hn := by omega))) (h := ?_)
      | refine ew_n (hn := (r_bin (hr := by first | (apply cmp_t; (focus (first | exact ib_eql | exact ib_geq | exact ib_lss | exact ib_neq)); omega) | (apply cmp_f; (focus (first | exact ib_eql | exact ib_geq | exact ib_lss | exact ib_neq)); omega)))) (h := ?_)
      | refine ew_skip (h := ?_)
      | refine ew_load (hc := by (first | assumption | (apply cells_row; (focus ((repeat' (first | assumption | (rw [aadd_block]) | (apply gN; (focus (first | exact rfl | omega | (simp only [AHeap.push_next, AHeap.put_next, aadd_block] <;> omega))); (focus exact rfl)) | (apply gO; (focus (first | omega | (simp only [AHeap.push_next, AHeap.put_next, aadd_block, ne_eq] <;> omega)))) | (apply gS; (focus (first | exact rfl | omega | (simp only [AHeap.push_next, AHeap.put_next, aadd_block] <;> omega))); (focus exact rfl)) | (apply gP; (focus (first | omega | (simp only [AHeap.push_next, AHeap.put_next, aadd_block, ne_eq] <;> omega)))) | exact rfl)); done)); (focus exact rfl); (focus exact rfl); (focus (first | exact (rfl : _ = some [_]) | exact (rfl : _ = some [_, _, _])))) | (apply cells_k; (focus assumption); (focus (first | assumption | (simp only [aadd_block] <;> first | assumption | omega))); (focus ((repeat' (first | exact Keep.refl | assumption | (apply Keep.push) | (refine Keep.put ?_ ?_; rotate_left; (focus (intro hlt; first | assumption | omega | (exfalso; simp only [AHeap.push_next, AHeap.put_next, aadd_block] at hlt; omega)))))); done))))) (hv := by exact rfl) (h := ?_)
      | refine ew_convI _ (hv := by first | exact conv_u8 _ | exact rfl) (h := ?_)
      | refine ew_conv (hn := r_conv_br (h := by first | assumption | (apply Rd.keep0; (focus assumption); ((repeat' (first | exact Keep.refl | assumption | (apply Keep.push) | (refine Keep.put ?_ ?_; rotate_left; (focus (intro hlt; first | assumption | omega | (exfalso; simp only [AHeap.push_next, AHeap.put_next, aadd_block] at hlt; omega)))))); done)))) (h := ?_)
      | (refine ew_fresh ?_; intro b hb; (first | refine ew_n (hn := (r_alloc hb)) (h := ?_)); (try simp only [AHeap.push_next, AHeap.put_next] at hb))
      | refine ew_e (he := er_store (hc := by (apply setCells_at; (focus ((repeat' (first | assumption | (rw [aadd_block]) | (apply gN; (focus (first | exact rfl | omega | (simp only [AHeap.push_next, AHeap.put_next, aadd_block] <;> omega))); (focus exact rfl)) | (apply gO; (focus (first | omega | (simp only [AHeap.push_next, AHeap.put_next, aadd_block, ne_eq] <;> omega)))) | (apply gS; (focus (first | exact rfl | omega | (simp only [AHeap.push_next, AHeap.put_next, aadd_block] <;> omega))); (focus exact rfl)) | (apply gP; (focus (first | omega | (simp only [AHeap.push_next, AHeap.put_next, aadd_block, ne_eq] <;> omega)))) | exact rfl)); done)); (focus exact rfl); (focus (first | exact Nat.le_of_ble_eq_true rfl | (simp; omega) | (simp; done) | (simp [Value.cells]; omega))); (focus (first | exact rfl | (simp; done))); (focus (first | exact (rfl : _ = [_]) | exact (rfl : _ = [_, _, _]) | exact rfl)); (focus (first | exact aadd_block _ _ | exact rfl))))) (hk := by (first | exact Mode.kept_seq rfl | (dsimp only [Mode.kept, Mode.logged, Mode.at]; (repeat' (first | exact (fun _ h => absurd h List.not_mem_nil) | (refine List.forall_mem_cons.2 ⟨?_, ?_⟩) | (refine .inl ?_; exact rfl) | (refine .inl ?_; dsimp only; decide))); done))) (h := ?_)
      | (refine ew_dec (hn := r_streq) (ht := ?_) (hf := ?_) <;> intro _)
      | (refine ew_dec (hn := (r_bin (hr := by (first | exact ib_eql | exact ib_geq | exact ib_lss | exact ib_neq)))) (ht := ?_) (hf := ?_) <;> intro _)
      | refine ew_n (hn := r_bin (hr := by (first | exact ib_xor8 _ _ | (simp (disch := omega) only [intBin, wrap_in, wrap8_in, tdiv_in, tmod_in, if_false, reduceIte]; exact rfl) | (apply ib_rem; omega)))) (h := ?_)
      | (refine w_nil ?_)
      | (refine w_nilD ?_))
    | (show EC _ _ _ _ _ _ _; first | (refine k_seq ?_) | (refine k_region ?_) | (refine k_draw (h := ?_)) | (refine k_skip ?_) | (refine k_ret ?_) | (refine k_exit ?_) | (refine k_block ?_) | (refine k_true (h := ?_)) | (refine k_false (h := ?_)))
    | (show EX _ (bodyA _ _ _) _ _ _; first | (refine x_end1 (hq := ?_)))
    | (show EX _ _ _ _ _; first | (refine x_normal ?_) | (refine x_ret ?_) | (refine x_exit ?_) | (refine x_same ?_) | (refine x_other (h := ?_)) | (refine x_bnormal ?_) | (refine x_bret ?_)))
      (first | (refine' ew_callS (hc := cr_call) (hR := ?_) (h := ?_); rotate_left 1) | (refine' ew_call (hc := cr_call) (hR := ?_) (h := ?_); rotate_left 1))
      · exact listM t8.a
      rintro n9 H9 ⟨hk9, L9, hL9, hm9⟩
      have t9 := t8.keep0 hk9
      have r9 := hL9.reads
      rw [hm9] at r9
      obtain ⟨z9, c9, rfl⟩ := r9.slice
      repeat' (first
    | (show EW _ _ _ _ _; first
      | refine ew_n (hn := r_move) (h := ?_)
      | refine ew_n (hn := r_assign) (h := ?_)
      | refine ew_n (hn := r_pick_t) (h := ?_)
      | refine ew_n (hn := r_pick_f) (h := ?_)
      | refine ew_n (hn := r_field) (h := ?_)
      | refine ew_n (hn := r_len) (h := ?_)
      | refine ew_n (hn := r_len_str) (h := ?_)
      | refine ew_n (hn := r_not) (h := ?_)
      | refine ew_n (hn := r_extract) (h := ?_)
      | refine ew_n (hn := (r_index (h0 := by omega) (h1 := by first | omega | (simp; done) | (simp; omega)))) (h := ?_)
      | refine ew_n (hn := r_nil_eq) (h := ?_)
      | refine ew_n (hn := r_beq) (h := ?_)
      | refine ew_n (hn := r_nil_ne) (h := ?_)
      | refine ew_n (hn := r_bne) (h := ?_)
      | refine ew_n (hn := (r_slice (h := by assumption))) (h := ?_)
      | refine ew_n (hn := (r_shl (hn := by omega))) (h := ?_)
      | refine ew_n (hn := (r_bin (hr := by first | (apply cmp_t; (focus (first | exact ib_eql | exact ib_geq | exact ib_lss | exact ib_neq)); omega) | (apply cmp_f; (focus (first | exact ib_eql | exact ib_geq | exact ib_lss | exact ib_neq)); omega)))) (h := ?_)
      | refine ew_skip (h := ?_)
      | refine ew_load (hc := by (first | assumption | (apply cells_row; (focus ((repeat' (first | assumption | (rw [aadd_block]) | (apply gN; (focus (first | exact rfl | omega | (simp only [AHeap.push_next, AHeap.put_next, aadd_block] <;> omega))); (focus exact rfl)) | (apply gO; (focus (first | omega | (simp only [AHeap.push_next, AHeap.put_next, aadd_block, ne_eq] <;> omega)))) | (apply gS; (focus (first | exact rfl | omega | (simp only [AHeap.push_next, AHeap.put_next, aadd_block] <;> omega))); (focus exact rfl)) | (apply gP; (focus (first | omega | (simp only [AHeap.push_next, AHeap.put_next, aadd_block, ne_eq] <;> omega)))) | exact rfl)); done)); (focus exact rfl); (focus exact rfl); (focus (first | exact (rfl : _ = some [_]) | exact (rfl : _ = some [_, _, _])))) | (apply cells_k; (focus assumption); (focus (first | assumption | (simp only [aadd_block] <;> first | assumption | omega))); (focus ((repeat' (first | exact Keep.refl | assumption | (apply Keep.push) | (refine Keep.put ?_ ?_; rotate_left; (focus (intro hlt; first | assumption | omega | (exfalso; simp only [AHeap.push_next, AHeap.put_next, aadd_block] at hlt; omega)))))); done))))) (hv := by exact rfl) (h := ?_)
      | refine ew_convI _ (hv := by first | exact conv_u8 _ | exact rfl) (h := ?_)
      | refine ew_conv (hn := r_conv_br (h := by first | assumption | (apply Rd.keep0; (focus assumption); ((repeat' (first | exact Keep.refl | assumption | (apply Keep.push) | (refine Keep.put ?_ ?_; rotate_left; (focus (intro hlt; first | assumption | omega | (exfalso; simp only [AHeap.push_next, AHeap.put_next, aadd_block] at hlt; omega)))))); done)))) (h := ?_)
      | (refine ew_fresh ?_; intro b hb; (first | refine ew_n (hn := (r_alloc hb)) (h := ?_)); (try simp only [AHeap.push_next, AHeap.put_next] at hb))
      | refine ew_e (he := er_store (hc := by (apply setCells_at; (focus ((repeat' (first | assumption | (rw [aadd_block]) | (apply gN; (focus (first | exact rfl | omega | (simp only [AHeap.push_next, AHeap.put_next, aadd_block] <;> omega))); (focus exact rfl)) | (apply gO; (focus (first | omega | (simp only [AHeap.push_next, AHeap.put_next, aadd_block, ne_eq] <;> omega)))) | (apply gS; (focus (first | exact rfl | omega | (simp only [AHeap.push_next, AHeap.put_next, aadd_block] <;> omega))); (focus exact rfl)) | (apply gP; (focus (first | omega | (simp only [AHeap.push_next, AHeap.put_next, aadd_block, ne_eq] <;> omega)))) | exact rfl)); done)); (focus exact rfl); (focus (first | exact Nat.le_of_ble_eq_true rfl | (simp; omega) | (simp; done) | (simp [Value.cells]; omega))); (focus (first | exact rfl | (simp; done))); (focus (first | exact (rfl : _ = [_]) | exact (rfl : _ = [_, _, _]) | exact rfl)); (focus (first | exact aadd_block _ _ | exact rfl))))) (hk := by (first | exact Mode.kept_seq rfl | (dsimp only [Mode.kept, Mode.logged, Mode.at]; (repeat' (first | exact (fun _ h => absurd h List.not_mem_nil) | (refine List.forall_mem_cons.2 ⟨?_, ?_⟩) | (refine .inl ?_; exact rfl) | (refine .inl ?_; dsimp only; decide))); done))) (h := ?_)
      | (refine ew_dec (hn := r_streq) (ht := ?_) (hf := ?_) <;> intro _)
      | (refine ew_dec (hn := (r_bin (hr := by (first | exact ib_eql | exact ib_geq | exact ib_lss | exact ib_neq)))) (ht := ?_) (hf := ?_) <;> intro _)
      | refine ew_n (hn := r_bin (hr := by (first | exact ib_xor8 _ _ | (simp (disch := omega) only [intBin, wrap_in, wrap8_in, tdiv_in, tmod_in, if_false, reduceIte]; exact rfl) | (apply ib_rem; omega)))) (h := ?_)
      | (refine w_nil ?_)
      | (refine w_nilD ?_))
    | (show EC _ _ _ _ _ _ _; first | (refine k_seq ?_) | (refine k_region ?_) | (refine k_draw (h := ?_)) | (refine k_skip ?_) | (refine k_ret ?_) | (refine k_exit ?_) | (refine k_block ?_) | (refine k_true (h := ?_)) | (refine k_false (h := ?_)))
    | (show EX _ (bodyA _ _ _) _ _ _; first | (refine x_end1 (hq := ?_)))
    | (show EX _ _ _ _ _; first | (refine x_normal ?_) | (refine x_ret ?_) | (refine x_exit ?_) | (refine x_same ?_) | (refine x_other (h := ?_)) | (refine x_bnormal ?_) | (refine x_bret ?_)))
      (first | (refine' ew_callS (hc := cr_call) (hR := ?_) (h := ?_); rotate_left 1) | (refine' ew_call (hc := cr_call) (hR := ?_) (h := ?_); rotate_left 1))
      · exact same_calls _ r9 t9.w (by omega)
      rintro _ H10 ⟨rfl, hk10⟩
      have t10 := t9.keep0 hk10
      rw [decide_eq_true rfl]
      repeat' (first
    | (show EW _ _ _ _ _; first
      | refine ew_n (hn := r_move) (h := ?_)
      | refine ew_n (hn := r_assign) (h := ?_)
      | refine ew_n (hn := r_pick_t) (h := ?_)
      | refine ew_n (hn := r_pick_f) (h := ?_)
      | refine ew_n (hn := r_field) (h := ?_)
      | refine ew_n (hn := r_len) (h := ?_)
      | refine ew_n (hn := r_len_str) (h := ?_)
      | refine ew_n (hn := r_not) (h := ?_)
      | refine ew_n (hn := r_extract) (h := ?_)
      | refine ew_n (hn := (r_index (h0 := by omega) (h1 := by first | omega | (simp; done) | (simp; omega)))) (h := ?_)
      | refine ew_n (hn := r_nil_eq) (h := ?_)
      | refine ew_n (hn := r_beq) (h := ?_)
      | refine ew_n (hn := r_nil_ne) (h := ?_)
      | refine ew_n (hn := r_bne) (h := ?_)
      | refine ew_n (hn := (r_slice (h := by assumption))) (h := ?_)
      | refine ew_n (hn := (r_shl (hn := by omega))) (h := ?_)
      | refine ew_n (hn := (r_bin (hr := by first | (apply cmp_t; (focus (first | exact ib_eql | exact ib_geq | exact ib_lss | exact ib_neq)); omega) | (apply cmp_f; (focus (first | exact ib_eql | exact ib_geq | exact ib_lss | exact ib_neq)); omega)))) (h := ?_)
      | refine ew_skip (h := ?_)
      | refine ew_load (hc := by (first | assumption | (apply cells_row; (focus ((repeat' (first | assumption | (rw [aadd_block]) | (apply gN; (focus (first | exact rfl | omega | (simp only [AHeap.push_next, AHeap.put_next, aadd_block] <;> omega))); (focus exact rfl)) | (apply gO; (focus (first | omega | (simp only [AHeap.push_next, AHeap.put_next, aadd_block, ne_eq] <;> omega)))) | (apply gS; (focus (first | exact rfl | omega | (simp only [AHeap.push_next, AHeap.put_next, aadd_block] <;> omega))); (focus exact rfl)) | (apply gP; (focus (first | omega | (simp only [AHeap.push_next, AHeap.put_next, aadd_block, ne_eq] <;> omega)))) | exact rfl)); done)); (focus exact rfl); (focus exact rfl); (focus (first | exact (rfl : _ = some [_]) | exact (rfl : _ = some [_, _, _])))) | (apply cells_k; (focus assumption); (focus (first | assumption | (simp only [aadd_block] <;> first | assumption | omega))); (focus ((repeat' (first | exact Keep.refl | assumption | (apply Keep.push) | (refine Keep.put ?_ ?_; rotate_left; (focus (intro hlt; first | assumption | omega | (exfalso; simp only [AHeap.push_next, AHeap.put_next, aadd_block] at hlt; omega)))))); done))))) (hv := by exact rfl) (h := ?_)
      | refine ew_convI _ (hv := by first | exact conv_u8 _ | exact rfl) (h := ?_)
      | refine ew_conv (hn := r_conv_br (h := by first | assumption | (apply Rd.keep0; (focus assumption); ((repeat' (first | exact Keep.refl | assumption | (apply Keep.push) | (refine Keep.put ?_ ?_; rotate_left; (focus (intro hlt; first | assumption | omega | (exfalso; simp only [AHeap.push_next, AHeap.put_next, aadd_block] at hlt; omega)))))); done)))) (h := ?_)
      | (refine ew_fresh ?_; intro b hb; (first | refine ew_n (hn := (r_alloc hb)) (h := ?_)); (try simp only [AHeap.push_next, AHeap.put_next] at hb))
      | refine ew_e (he := er_store (hc := by (apply setCells_at; (focus ((repeat' (first | assumption | (rw [aadd_block]) | (apply gN; (focus (first | exact rfl | omega | (simp only [AHeap.push_next, AHeap.put_next, aadd_block] <;> omega))); (focus exact rfl)) | (apply gO; (focus (first | omega | (simp only [AHeap.push_next, AHeap.put_next, aadd_block, ne_eq] <;> omega)))) | (apply gS; (focus (first | exact rfl | omega | (simp only [AHeap.push_next, AHeap.put_next, aadd_block] <;> omega))); (focus exact rfl)) | (apply gP; (focus (first | omega | (simp only [AHeap.push_next, AHeap.put_next, aadd_block, ne_eq] <;> omega)))) | exact rfl)); done)); (focus exact rfl); (focus (first | exact Nat.le_of_ble_eq_true rfl | (simp; omega) | (simp; done) | (simp [Value.cells]; omega))); (focus (first | exact rfl | (simp; done))); (focus (first | exact (rfl : _ = [_]) | exact (rfl : _ = [_, _, _]) | exact rfl)); (focus (first | exact aadd_block _ _ | exact rfl))))) (hk := by (first | exact Mode.kept_seq rfl | (dsimp only [Mode.kept, Mode.logged, Mode.at]; (repeat' (first | exact (fun _ h => absurd h List.not_mem_nil) | (refine List.forall_mem_cons.2 ⟨?_, ?_⟩) | (refine .inl ?_; exact rfl) | (refine .inl ?_; dsimp only; decide))); done))) (h := ?_)
      | (refine ew_dec (hn := r_streq) (ht := ?_) (hf := ?_) <;> intro _)
      | (refine ew_dec (hn := (r_bin (hr := by (first | exact ib_eql | exact ib_geq | exact ib_lss | exact ib_neq)))) (ht := ?_) (hf := ?_) <;> intro _)
      | refine ew_n (hn := r_bin (hr := by (first | exact ib_xor8 _ _ | (simp (disch := omega) only [intBin, wrap_in, wrap8_in, tdiv_in, tmod_in, if_false, reduceIte]; exact rfl) | (apply ib_rem; omega)))) (h := ?_)
      | (refine w_nil ?_)
      | (refine w_nilD ?_))
    | (show EC _ _ _ _ _ _ _; first | (refine k_seq ?_) | (refine k_region ?_) | (refine k_draw (h := ?_)) | (refine k_skip ?_) | (refine k_ret ?_) | (refine k_exit ?_) | (refine k_block ?_) | (refine k_true (h := ?_)) | (refine k_false (h := ?_)))
    | (show EX _ (bodyA _ _ _) _ _ _; first | (refine x_end1 (hq := ?_)))
    | (show EX _ _ _ _ _; first | (refine x_normal ?_) | (refine x_ret ?_) | (refine x_exit ?_) | (refine x_same ?_) | (refine x_other (h := ?_)) | (refine x_bnormal ?_) | (refine x_bret ?_)))
      (first | (refine' ew_callS (hc := cr_call) (hR := ?_) (h := ?_); rotate_left 1) | (refine' ew_call (hc := cr_call) (hR := ?_) (h := ?_); rotate_left 1))
      · exact deliverM i t10.a
      rintro v (H11) (⟨_, rfl, hk11⟩ | ⟨x, bx, hx, _⟩)
      case inr => rw [hat] at hx; cases hx
      have t11 := t10.keep0 hk11
      have hn11 := t11.k.1
      repeat' (first
    | (show EW _ _ _ _ _; first
      | refine ew_n (hn := r_move) (h := ?_)
      | refine ew_n (hn := r_assign) (h := ?_)
      | refine ew_n (hn := r_pick_t) (h := ?_)
      | refine ew_n (hn := r_pick_f) (h := ?_)
      | refine ew_n (hn := r_field) (h := ?_)
      | refine ew_n (hn := r_len) (h := ?_)
      | refine ew_n (hn := r_len_str) (h := ?_)
      | refine ew_n (hn := r_not) (h := ?_)
      | refine ew_n (hn := r_extract) (h := ?_)
      | refine ew_n (hn := (r_index (h0 := by omega) (h1 := by first | omega | (simp; done) | (simp; omega)))) (h := ?_)
      | refine ew_n (hn := r_nil_eq) (h := ?_)
      | refine ew_n (hn := r_beq) (h := ?_)
      | refine ew_n (hn := r_nil_ne) (h := ?_)
      | refine ew_n (hn := r_bne) (h := ?_)
      | refine ew_n (hn := (r_slice (h := by assumption))) (h := ?_)
      | refine ew_n (hn := (r_shl (hn := by omega))) (h := ?_)
      | refine ew_n (hn := (r_bin (hr := by first | (apply cmp_t; (focus (first | exact ib_eql | exact ib_geq | exact ib_lss | exact ib_neq)); omega) | (apply cmp_f; (focus (first | exact ib_eql | exact ib_geq | exact ib_lss | exact ib_neq)); omega)))) (h := ?_)
      | refine ew_skip (h := ?_)
      | refine ew_load (hc := by (first | assumption | (apply cells_row; (focus ((repeat' (first | assumption | (rw [aadd_block]) | (apply gN; (focus (first | exact rfl | omega | (simp only [AHeap.push_next, AHeap.put_next, aadd_block] <;> omega))); (focus exact rfl)) | (apply gO; (focus (first | omega | (simp only [AHeap.push_next, AHeap.put_next, aadd_block, ne_eq] <;> omega)))) | (apply gS; (focus (first | exact rfl | omega | (simp only [AHeap.push_next, AHeap.put_next, aadd_block] <;> omega))); (focus exact rfl)) | (apply gP; (focus (first | omega | (simp only [AHeap.push_next, AHeap.put_next, aadd_block, ne_eq] <;> omega)))) | exact rfl)); done)); (focus exact rfl); (focus exact rfl); (focus (first | exact (rfl : _ = some [_]) | exact (rfl : _ = some [_, _, _])))) | (apply cells_k; (focus assumption); (focus (first | assumption | (simp only [aadd_block] <;> first | assumption | omega))); (focus ((repeat' (first | exact Keep.refl | assumption | (apply Keep.push) | (refine Keep.put ?_ ?_; rotate_left; (focus (intro hlt; first | assumption | omega | (exfalso; simp only [AHeap.push_next, AHeap.put_next, aadd_block] at hlt; omega)))))); done))))) (hv := by exact rfl) (h := ?_)
      | refine ew_convI _ (hv := by first | exact conv_u8 _ | exact rfl) (h := ?_)
      | refine ew_conv (hn := r_conv_br (h := by first | assumption | (apply Rd.keep0; (focus assumption); ((repeat' (first | exact Keep.refl | assumption | (apply Keep.push) | (refine Keep.put ?_ ?_; rotate_left; (focus (intro hlt; first | assumption | omega | (exfalso; simp only [AHeap.push_next, AHeap.put_next, aadd_block] at hlt; omega)))))); done)))) (h := ?_)
      | (refine ew_fresh ?_; intro b hb; (first | refine ew_n (hn := (r_alloc hb)) (h := ?_)); (try simp only [AHeap.push_next, AHeap.put_next] at hb))
      | refine ew_e (he := er_store (hc := by (apply setCells_at; (focus ((repeat' (first | assumption | (rw [aadd_block]) | (apply gN; (focus (first | exact rfl | omega | (simp only [AHeap.push_next, AHeap.put_next, aadd_block] <;> omega))); (focus exact rfl)) | (apply gO; (focus (first | omega | (simp only [AHeap.push_next, AHeap.put_next, aadd_block, ne_eq] <;> omega)))) | (apply gS; (focus (first | exact rfl | omega | (simp only [AHeap.push_next, AHeap.put_next, aadd_block] <;> omega))); (focus exact rfl)) | (apply gP; (focus (first | omega | (simp only [AHeap.push_next, AHeap.put_next, aadd_block, ne_eq] <;> omega)))) | exact rfl)); done)); (focus exact rfl); (focus (first | exact Nat.le_of_ble_eq_true rfl | (simp; omega) | (simp; done) | (simp [Value.cells]; omega))); (focus (first | exact rfl | (simp; done))); (focus (first | exact (rfl : _ = [_]) | exact (rfl : _ = [_, _, _]) | exact rfl)); (focus (first | exact aadd_block _ _ | exact rfl))))) (hk := by (first | exact Mode.kept_seq rfl | (dsimp only [Mode.kept, Mode.logged, Mode.at]; (repeat' (first | exact (fun _ h => absurd h List.not_mem_nil) | (refine List.forall_mem_cons.2 ⟨?_, ?_⟩) | (refine .inl ?_; exact rfl) | (refine .inl ?_; dsimp only; decide))); done))) (h := ?_)
      | (refine ew_dec (hn := r_streq) (ht := ?_) (hf := ?_) <;> intro _)
      | (refine ew_dec (hn := (r_bin (hr := by (first | exact ib_eql | exact ib_geq | exact ib_lss | exact ib_neq)))) (ht := ?_) (hf := ?_) <;> intro _)
      | refine ew_n (hn := r_bin (hr := by (first | exact ib_xor8 _ _ | (simp (disch := omega) only [intBin, wrap_in, wrap8_in, tdiv_in, tmod_in, if_false, reduceIte]; exact rfl) | (apply ib_rem; omega)))) (h := ?_)
      | (refine w_nil ?_)
      | (refine w_nilD ?_))
    | (show EC _ _ _ _ _ _ _; first | (refine k_seq ?_) | (refine k_region ?_) | (refine k_draw (h := ?_)) | (refine k_skip ?_) | (refine k_ret ?_) | (refine k_exit ?_) | (refine k_block ?_) | (refine k_true (h := ?_)) | (refine k_false (h := ?_)))
    | (show EX _ (bodyA _ _ _) _ _ _; first | (refine x_end1 (hq := ?_)))
    | (show EX _ _ _ _ _; first | (refine x_normal ?_) | (refine x_ret ?_) | (refine x_exit ?_) | (refine x_same ?_) | (refine x_other (h := ?_)) | (refine x_bnormal ?_) | (refine x_bret ?_)))
      have t12 : Tri H _ ea eb M M Fa8 Fb G (.slice zw M.length cw) M := t11.keep0 (H' := (H11.push (.row ⟨[.int .i64 0, .int .i64 0, .slice none 0 0], 32, 0, true⟩)).put b (.row ⟨[.int .i64 0, .int .i64 0, .slice none 0 0], 32, 0, true⟩)) (by ((repeat' (first | exact Keep.refl | assumption | (apply Keep.push) | (refine Keep.put ?_ ?_; rotate_left; (focus (intro hlt; first | assumption | omega | (exfalso; simp only [AHeap.push_next, AHeap.put_next, aadd_block] at hlt; omega)))))); done))
      (first | (refine' ew_callS (hc := cr_call) (hR := ?_) (h := ?_); rotate_left 1) | (refine' ew_call (hc := cr_call) (hR := ?_) (h := ?_); rotate_left 1))
      · exact dropM i t12.b
      simp only [hat, hcut, Option.isSome_none]
      rintro _ H13 ⟨rfl, hk13, Fb13, hN13, hg13⟩
      have t13 := t12.stepB hk13 hN13 hg13
      repeat' (first
    | (show EW _ _ _ _ _; first
      | refine ew_n (hn := r_move) (h := ?_)
      | refine ew_n (hn := r_assign) (h := ?_)
      | refine ew_n (hn := r_pick_t) (h := ?_)
      | refine ew_n (hn := r_pick_f) (h := ?_)
      | refine ew_n (hn := r_field) (h := ?_)
      | refine ew_n (hn := r_len) (h := ?_)
      | refine ew_n (hn := r_len_str) (h := ?_)
      | refine ew_n (hn := r_not) (h := ?_)
      | refine ew_n (hn := r_extract) (h := ?_)
      | refine ew_n (hn := (r_index (h0 := by omega) (h1 := by first | omega | (simp; done) | (simp; omega)))) (h := ?_)
      | refine ew_n (hn := r_nil_eq) (h := ?_)
      | refine ew_n (hn := r_beq) (h := ?_)
      | refine ew_n (hn := r_nil_ne) (h := ?_)
      | refine ew_n (hn := r_bne) (h := ?_)
      | refine ew_n (hn := (r_slice (h := by assumption))) (h := ?_)
      | refine ew_n (hn := (r_shl (hn := by omega))) (h := ?_)
      | refine ew_n (hn := (r_bin (hr := by first | (apply cmp_t; (focus (first | exact ib_eql | exact ib_geq | exact ib_lss | exact ib_neq)); omega) | (apply cmp_f; (focus (first | exact ib_eql | exact ib_geq | exact ib_lss | exact ib_neq)); omega)))) (h := ?_)
      | refine ew_skip (h := ?_)
      | refine ew_load (hc := by (first | assumption | (apply cells_row; (focus ((repeat' (first | assumption | (rw [aadd_block]) | (apply gN; (focus (first | exact rfl | omega | (simp only [AHeap.push_next, AHeap.put_next, aadd_block] <;> omega))); (focus exact rfl)) | (apply gO; (focus (first | omega | (simp only [AHeap.push_next, AHeap.put_next, aadd_block, ne_eq] <;> omega)))) | (apply gS; (focus (first | exact rfl | omega | (simp only [AHeap.push_next, AHeap.put_next, aadd_block] <;> omega))); (focus exact rfl)) | (apply gP; (focus (first | omega | (simp only [AHeap.push_next, AHeap.put_next, aadd_block, ne_eq] <;> omega)))) | exact rfl)); done)); (focus exact rfl); (focus exact rfl); (focus (first | exact (rfl : _ = some [_]) | exact (rfl : _ = some [_, _, _])))) | (apply cells_k; (focus assumption); (focus (first | assumption | (simp only [aadd_block] <;> first | assumption | omega))); (focus ((repeat' (first | exact Keep.refl | assumption | (apply Keep.push) | (refine Keep.put ?_ ?_; rotate_left; (focus (intro hlt; first | assumption | omega | (exfalso; simp only [AHeap.push_next, AHeap.put_next, aadd_block] at hlt; omega)))))); done))))) (hv := by exact rfl) (h := ?_)
      | refine ew_convI _ (hv := by first | exact conv_u8 _ | exact rfl) (h := ?_)
      | refine ew_conv (hn := r_conv_br (h := by first | assumption | (apply Rd.keep0; (focus assumption); ((repeat' (first | exact Keep.refl | assumption | (apply Keep.push) | (refine Keep.put ?_ ?_; rotate_left; (focus (intro hlt; first | assumption | omega | (exfalso; simp only [AHeap.push_next, AHeap.put_next, aadd_block] at hlt; omega)))))); done)))) (h := ?_)
      | (refine ew_fresh ?_; intro b hb; (first | refine ew_n (hn := (r_alloc hb)) (h := ?_)); (try simp only [AHeap.push_next, AHeap.put_next] at hb))
      | refine ew_e (he := er_store (hc := by (apply setCells_at; (focus ((repeat' (first | assumption | (rw [aadd_block]) | (apply gN; (focus (first | exact rfl | omega | (simp only [AHeap.push_next, AHeap.put_next, aadd_block] <;> omega))); (focus exact rfl)) | (apply gO; (focus (first | omega | (simp only [AHeap.push_next, AHeap.put_next, aadd_block, ne_eq] <;> omega)))) | (apply gS; (focus (first | exact rfl | omega | (simp only [AHeap.push_next, AHeap.put_next, aadd_block] <;> omega))); (focus exact rfl)) | (apply gP; (focus (first | omega | (simp only [AHeap.push_next, AHeap.put_next, aadd_block, ne_eq] <;> omega)))) | exact rfl)); done)); (focus exact rfl); (focus (first | exact Nat.le_of_ble_eq_true rfl | (simp; omega) | (simp; done) | (simp [Value.cells]; omega))); (focus (first | exact rfl | (simp; done))); (focus (first | exact (rfl : _ = [_]) | exact (rfl : _ = [_, _, _]) | exact rfl)); (focus (first | exact aadd_block _ _ | exact rfl))))) (hk := by (first | exact Mode.kept_seq rfl | (dsimp only [Mode.kept, Mode.logged, Mode.at]; (repeat' (first | exact (fun _ h => absurd h List.not_mem_nil) | (refine List.forall_mem_cons.2 ⟨?_, ?_⟩) | (refine .inl ?_; exact rfl) | (refine .inl ?_; dsimp only; decide))); done))) (h := ?_)
      | (refine ew_dec (hn := r_streq) (ht := ?_) (hf := ?_) <;> intro _)
      | (refine ew_dec (hn := (r_bin (hr := by (first | exact ib_eql | exact ib_geq | exact ib_lss | exact ib_neq)))) (ht := ?_) (hf := ?_) <;> intro _)
      | refine ew_n (hn := r_bin (hr := by (first | exact ib_xor8 _ _ | (simp (disch := omega) only [intBin, wrap_in, wrap8_in, tdiv_in, tmod_in, if_false, reduceIte]; exact rfl) | (apply ib_rem; omega)))) (h := ?_)
      | (refine w_nil ?_)
      | (refine w_nilD ?_))
    | (show EC _ _ _ _ _ _ _; first | (refine k_seq ?_) | (refine k_region ?_) | (refine k_draw (h := ?_)) | (refine k_skip ?_) | (refine k_ret ?_) | (refine k_exit ?_) | (refine k_block ?_) | (refine k_true (h := ?_)) | (refine k_false (h := ?_)))
    | (show EX _ (bodyA _ _ _) _ _ _; first | (refine x_end1 (hq := ?_)))
    | (show EX _ _ _ _ _; first | (refine x_normal ?_) | (refine x_ret ?_) | (refine x_exit ?_) | (refine x_same ?_) | (refine x_other (h := ?_)) | (refine x_bnormal ?_) | (refine x_bret ?_)))
      (first | (refine' ew_callS (hc := cr_call) (hR := ?_) (h := ?_); rotate_left 1) | (refine' ew_call (hc := cr_call) (hR := ?_) (h := ?_); rotate_left 1))
      · exact listM t13.a
      rintro n14 H14 ⟨hk14, L14, hL14, hm14⟩
      refine ⟨by (dsimp only [Mode.kept, Mode.logged, Mode.at]; (repeat' (first | exact (fun _ h => absurd h List.not_mem_nil) | (refine List.forall_mem_cons.2 ⟨?_, ?_⟩) | (refine .inl ?_; exact rfl) | (refine .inl ?_; dsimp only; decide) | (refine .inr ?_; exact hk14.cells (by simp only [aadd_block]; omega) id)))), ?_⟩
      have t14 := t13.keep0 hk14
      have r14 := hL14.reads
      rw [hm14] at r14
      repeat' (first
    | (show EW _ _ _ _ _; first
      | refine ew_n (hn := r_move) (h := ?_)
      | refine ew_n (hn := r_assign) (h := ?_)
      | refine ew_n (hn := r_pick_t) (h := ?_)
      | refine ew_n (hn := r_pick_f) (h := ?_)
      | refine ew_n (hn := r_field) (h := ?_)
      | refine ew_n (hn := r_len) (h := ?_)
      | refine ew_n (hn := r_len_str) (h := ?_)
      | refine ew_n (hn := r_not) (h := ?_)
      | refine ew_n (hn := r_extract) (h := ?_)
      | refine ew_n (hn := (r_index (h0 := by omega) (h1 := by first | omega | (simp; done) | (simp; omega)))) (h := ?_)
      | refine ew_n (hn := r_nil_eq) (h := ?_)
      | refine ew_n (hn := r_beq) (h := ?_)
      | refine ew_n (hn := r_nil_ne) (h := ?_)
      | refine ew_n (hn := r_bne) (h := ?_)
      | refine ew_n (hn := (r_slice (h := by assumption))) (h := ?_)
      | refine ew_n (hn := (r_shl (hn := by omega))) (h := ?_)
      | refine ew_n (hn := (r_bin (hr := by first | (apply cmp_t; (focus (first | exact ib_eql | exact ib_geq | exact ib_lss | exact ib_neq)); omega) | (apply cmp_f; (focus (first | exact ib_eql | exact ib_geq | exact ib_lss | exact ib_neq)); omega)))) (h := ?_)
      | refine ew_skip (h := ?_)
      | refine ew_load (hc := by (first | assumption | (apply cells_row; (focus ((repeat' (first | assumption | (rw [aadd_block]) | (apply gN; (focus (first | exact rfl | omega | (simp only [AHeap.push_next, AHeap.put_next, aadd_block] <;> omega))); (focus exact rfl)) | (apply gO; (focus (first | omega | (simp only [AHeap.push_next, AHeap.put_next, aadd_block, ne_eq] <;> omega)))) | (apply gS; (focus (first | exact rfl | omega | (simp only [AHeap.push_next, AHeap.put_next, aadd_block] <;> omega))); (focus exact rfl)) | (apply gP; (focus (first | omega | (simp only [AHeap.push_next, AHeap.put_next, aadd_block, ne_eq] <;> omega)))) | exact rfl)); done)); (focus exact rfl); (focus exact rfl); (focus (first | exact (rfl : _ = some [_]) | exact (rfl : _ = some [_, _, _])))) | (apply cells_k; (focus assumption); (focus (first | assumption | (simp only [aadd_block] <;> first | assumption | omega))); (focus ((repeat' (first | exact Keep.refl | assumption | (apply Keep.push) | (refine Keep.put ?_ ?_; rotate_left; (focus (intro hlt; first | assumption | omega | (exfalso; simp only [AHeap.push_next, AHeap.put_next, aadd_block] at hlt; omega)))))); done))))) (hv := by exact rfl) (h := ?_)
      | refine ew_convI _ (hv := by first | exact conv_u8 _ | exact rfl) (h := ?_)
      | refine ew_conv (hn := r_conv_br (h := by first | assumption | (apply Rd.keep0; (focus assumption); ((repeat' (first | exact Keep.refl | assumption | (apply Keep.push) | (refine Keep.put ?_ ?_; rotate_left; (focus (intro hlt; first | assumption | omega | (exfalso; simp only [AHeap.push_next, AHeap.put_next, aadd_block] at hlt; omega)))))); done)))) (h := ?_)
      | (refine ew_fresh ?_; intro b hb; (first | refine ew_n (hn := (r_alloc hb)) (h := ?_)); (try simp only [AHeap.push_next, AHeap.put_next] at hb))
      | refine ew_e (he := er_store (hc := by (apply setCells_at; (focus ((repeat' (first | assumption | (rw [aadd_block]) | (apply gN; (focus (first | exact rfl | omega | (simp only [AHeap.push_next, AHeap.put_next, aadd_block] <;> omega))); (focus exact rfl)) | (apply gO; (focus (first | omega | (simp only [AHeap.push_next, AHeap.put_next, aadd_block, ne_eq] <;> omega)))) | (apply gS; (focus (first | exact rfl | omega | (simp only [AHeap.push_next, AHeap.put_next, aadd_block] <;> omega))); (focus exact rfl)) | (apply gP; (focus (first | omega | (simp only [AHeap.push_next, AHeap.put_next, aadd_block, ne_eq] <;> omega)))) | exact rfl)); done)); (focus exact rfl); (focus (first | exact Nat.le_of_ble_eq_true rfl | (simp; omega) | (simp; done) | (simp [Value.cells]; omega))); (focus (first | exact rfl | (simp; done))); (focus (first | exact (rfl : _ = [_]) | exact (rfl : _ = [_, _, _]) | exact rfl)); (focus (first | exact aadd_block _ _ | exact rfl))))) (hk := by (first | exact Mode.kept_seq rfl | (dsimp only [Mode.kept, Mode.logged, Mode.at]; (repeat' (first | exact (fun _ h => absurd h List.not_mem_nil) | (refine List.forall_mem_cons.2 ⟨?_, ?_⟩) | (refine .inl ?_; exact rfl) | (refine .inl ?_; dsimp only; decide))); done))) (h := ?_)
      | (refine ew_dec (hn := r_streq) (ht := ?_) (hf := ?_) <;> intro _)
      | (refine ew_dec (hn := (r_bin (hr := by (first | exact ib_eql | exact ib_geq | exact ib_lss | exact ib_neq)))) (ht := ?_) (hf := ?_) <;> intro _)
      | refine ew_n (hn := r_bin (hr := by (first | exact ib_xor8 _ _ | (simp (disch := omega) only [intBin, wrap_in, wrap8_in, tdiv_in, tmod_in, if_false, reduceIte]; exact rfl) | (apply ib_rem; omega)))) (h := ?_)
      | (refine w_nil ?_)
      | (refine w_nilD ?_))
    | (show EC _ _ _ _ _ _ _; first | (refine k_seq ?_) | (refine k_region ?_) | (refine k_draw (h := ?_)) | (refine k_skip ?_) | (refine k_ret ?_) | (refine k_exit ?_) | (refine k_block ?_) | (refine k_true (h := ?_)) | (refine k_false (h := ?_)))
    | (show EX _ (bodyA _ _ _) _ _ _; first | (refine x_end1 (hq := ?_)))
    | (show EX _ _ _ _ _; first | (refine x_normal ?_) | (refine x_ret ?_) | (refine x_exit ?_) | (refine x_same ?_) | (refine x_other (h := ?_)) | (refine x_bnormal ?_) | (refine x_bret ?_)))
      (first | (refine' ew_callS (hc := cr_call) (hR := ?_) (h := ?_); rotate_left 1) | (refine' ew_call (hc := cr_call) (hR := ?_) (h := ?_); rotate_left 1))
      · exact listM t14.b
      rintro n15 H15 ⟨hk15, L15, hL15, hm15⟩
      refine ⟨by (dsimp only [Mode.kept, Mode.logged, Mode.at]; (repeat' (first | exact (fun _ h => absurd h List.not_mem_nil) | (refine List.forall_mem_cons.2 ⟨?_, ?_⟩) | (refine .inl ?_; exact rfl) | (refine .inl ?_; dsimp only; decide) | (refine .inr ?_; exact hk15.cells (by simp only [aadd_block]; omega) id)))), ?_⟩
      have t15 := t14.keep0 hk15
      have r15 := hL15.reads
      rw [hm15] at r15
      repeat' (first
    | (show EW _ _ _ _ _; first
      | refine ew_n (hn := r_move) (h := ?_)
      | refine ew_n (hn := r_assign) (h := ?_)
      | refine ew_n (hn := r_pick_t) (h := ?_)
      | refine ew_n (hn := r_pick_f) (h := ?_)
      | refine ew_n (hn := r_field) (h := ?_)
      | refine ew_n (hn := r_len) (h := ?_)
      | refine ew_n (hn := r_len_str) (h := ?_)
      | refine ew_n (hn := r_not) (h := ?_)
      | refine ew_n (hn := r_extract) (h := ?_)
      | refine ew_n (hn := (r_index (h0 := by omega) (h1 := by first | omega | (simp; done) | (simp; omega)))) (h := ?_)
      | refine ew_n (hn := r_nil_eq) (h := ?_)
      | refine ew_n (hn := r_beq) (h := ?_)
      | refine ew_n (hn := r_nil_ne) (h := ?_)
      | refine ew_n (hn := r_bne) (h := ?_)
      | refine ew_n (hn := (r_slice (h := by assumption))) (h := ?_)
      | refine ew_n (hn := (r_shl (hn := by omega))) (h := ?_)
      | refine ew_n (hn := (r_bin (hr := by first | (apply cmp_t; (focus (first | exact ib_eql | exact ib_geq | exact ib_lss | exact ib_neq)); omega) | (apply cmp_f; (focus (first | exact ib_eql | exact ib_geq | exact ib_lss | exact ib_neq)); omega)))) (h := ?_)
      | refine ew_skip (h := ?_)
      | refine ew_load (hc := by (first | assumption | (apply cells_row; (focus ((repeat' (first | assumption | (rw [aadd_block]) | (apply gN; (focus (first | exact rfl | omega | (simp only [AHeap.push_next, AHeap.put_next, aadd_block] <;> omega))); (focus exact rfl)) | (apply gO; (focus (first | omega | (simp only [AHeap.push_next, AHeap.put_next, aadd_block, ne_eq] <;> omega)))) | (apply gS; (focus (first | exact rfl | omega | (simp only [AHeap.push_next, AHeap.put_next, aadd_block] <;> omega))); (focus exact rfl)) | (apply gP; (focus (first | omega | (simp only [AHeap.push_next, AHeap.put_next, aadd_block, ne_eq] <;> omega)))) | exact rfl)); done)); (focus exact rfl); (focus exact rfl); (focus (first | exact (rfl : _ = some [_]) | exact (rfl : _ = some [_, _, _])))) | (apply cells_k; (focus assumption); (focus (first | assumption | (simp only [aadd_block] <;> first | assumption | omega))); (focus ((repeat' (first | exact Keep.refl | assumption | (apply Keep.push) | (refine Keep.put ?_ ?_; rotate_left; (focus (intro hlt; first | assumption | omega | (exfalso; simp only [AHeap.push_next, AHeap.put_next, aadd_block] at hlt; omega)))))); done))))) (hv := by exact rfl) (h := ?_)
      | refine ew_convI _ (hv := by first | exact conv_u8 _ | exact rfl) (h := ?_)
      | refine ew_conv (hn := r_conv_br (h := by first | assumption | (apply Rd.keep0; (focus assumption); ((repeat' (first | exact Keep.refl | assumption | (apply Keep.push) | (refine Keep.put ?_ ?_; rotate_left; (focus (intro hlt; first | assumption | omega | (exfalso; simp only [AHeap.push_next, AHeap.put_next, aadd_block] at hlt; omega)))))); done)))) (h := ?_)
      | (refine ew_fresh ?_; intro b hb; (first | refine ew_n (hn := (r_alloc hb)) (h := ?_)); (try simp only [AHeap.push_next, AHeap.put_next] at hb))
      | refine ew_e (he := er_store (hc := by (apply setCells_at; (focus ((repeat' (first | assumption | (rw [aadd_block]) | (apply gN; (focus (first | exact rfl | omega | (simp only [AHeap.push_next, AHeap.put_next, aadd_block] <;> omega))); (focus exact rfl)) | (apply gO; (focus (first | omega | (simp only [AHeap.push_next, AHeap.put_next, aadd_block, ne_eq] <;> omega)))) | (apply gS; (focus (first | exact rfl | omega | (simp only [AHeap.push_next, AHeap.put_next, aadd_block] <;> omega))); (focus exact rfl)) | (apply gP; (focus (first | omega | (simp only [AHeap.push_next, AHeap.put_next, aadd_block, ne_eq] <;> omega)))) | exact rfl)); done)); (focus exact rfl); (focus (first | exact Nat.le_of_ble_eq_true rfl | (simp; omega) | (simp; done) | (simp [Value.cells]; omega))); (focus (first | exact rfl | (simp; done))); (focus (first | exact (rfl : _ = [_]) | exact (rfl : _ = [_, _, _]) | exact rfl)); (focus (first | exact aadd_block _ _ | exact rfl))))) (hk := by (first | exact Mode.kept_seq rfl | (dsimp only [Mode.kept, Mode.logged, Mode.at]; (repeat' (first | exact (fun _ h => absurd h List.not_mem_nil) | (refine List.forall_mem_cons.2 ⟨?_, ?_⟩) | (refine .inl ?_; exact rfl) | (refine .inl ?_; dsimp only; decide))); done))) (h := ?_)
      | (refine ew_dec (hn := r_streq) (ht := ?_) (hf := ?_) <;> intro _)
      | (refine ew_dec (hn := (r_bin (hr := by (first | exact ib_eql | exact ib_geq | exact ib_lss | exact ib_neq)))) (ht := ?_) (hf := ?_) <;> intro _)
      | refine ew_n (hn := r_bin (hr := by (first | exact ib_xor8 _ _ | (simp (disch := omega) only [intBin, wrap_in, wrap8_in, tdiv_in, tmod_in, if_false, reduceIte]; exact rfl) | (apply ib_rem; omega)))) (h := ?_)
      | (refine w_nil ?_)
      | (refine w_nilD ?_))
    | (show EC _ _ _ _ _ _ _; first | (refine k_seq ?_) | (refine k_region ?_) | (refine k_draw (h := ?_)) | (refine k_skip ?_) | (refine k_ret ?_) | (refine k_exit ?_) | (refine k_block ?_) | (refine k_true (h := ?_)) | (refine k_false (h := ?_)))
    | (show EX _ (bodyA _ _ _) _ _ _; first | (refine x_end1 (hq := ?_)))
    | (show EX _ _ _ _ _; first | (refine x_normal ?_) | (refine x_ret ?_) | (refine x_exit ?_) | (refine x_same ?_) | (refine x_other (h := ?_)) | (refine x_bnormal ?_) | (refine x_bret ?_)))
      (first | (refine' ew_callS (hc := cr_call) (hR := ?_) (h := ?_); rotate_left 1) | (refine' ew_call (hc := cr_call) (hR := ?_) (h := ?_); rotate_left 1))
      · exact same_calls _ (r14.keep0 hk15) r15 (by omega)
      rintro _ H16 ⟨rfl, hk16⟩
      refine ⟨by (dsimp only [Mode.kept, Mode.logged, Mode.at]; (repeat' (first | exact (fun _ h => absurd h List.not_mem_nil) | (refine List.forall_mem_cons.2 ⟨?_, ?_⟩) | (refine .inl ?_; exact rfl) | (refine .inl ?_; dsimp only; decide) | (refine .inr ?_; exact hk16.cells (by simp only [aadd_block]; omega) id)))), ?_⟩
      have t16 := t15.keep0 hk16
      rw [decide_eq_true rfl]
      repeat' (first
    | (show EW _ _ _ _ _; first
      | refine ew_n (hn := r_move) (h := ?_)
      | refine ew_n (hn := r_assign) (h := ?_)
      | refine ew_n (hn := r_pick_t) (h := ?_)
      | refine ew_n (hn := r_pick_f) (h := ?_)
      | refine ew_n (hn := r_field) (h := ?_)
      | refine ew_n (hn := r_len) (h := ?_)
      | refine ew_n (hn := r_len_str) (h := ?_)
      | refine ew_n (hn := r_not) (h := ?_)
      | refine ew_n (hn := r_extract) (h := ?_)
      | refine ew_n (hn := (r_index (h0 := by omega) (h1 := by first | omega | (simp; done) | (simp; omega)))) (h := ?_)
      | refine ew_n (hn := r_nil_eq) (h := ?_)
      | refine ew_n (hn := r_beq) (h := ?_)
      | refine ew_n (hn := r_nil_ne) (h := ?_)
      | refine ew_n (hn := r_bne) (h := ?_)
      | refine ew_n (hn := (r_slice (h := by assumption))) (h := ?_)
      | refine ew_n (hn := (r_shl (hn := by omega))) (h := ?_)
      | refine ew_n (hn := (r_bin (hr := by first | (apply cmp_t; (focus (first | exact ib_eql | exact ib_geq | exact ib_lss | exact ib_neq)); omega) | (apply cmp_f; (focus (first | exact ib_eql | exact ib_geq | exact ib_lss | exact ib_neq)); omega)))) (h := ?_)
      | refine ew_skip (h := ?_)
      | refine ew_load (hc := by (first | assumption | (apply cells_row; (focus ((repeat' (first | assumption | (rw [aadd_block]) | (apply gN; (focus (first | exact rfl | omega | (simp only [AHeap.push_next, AHeap.put_next, aadd_block] <;> omega))); (focus exact rfl)) | (apply gO; (focus (first | omega | (simp only [AHeap.push_next, AHeap.put_next, aadd_block, ne_eq] <;> omega)))) | (apply gS; (focus (first | exact rfl | omega | (simp only [AHeap.push_next, AHeap.put_next, aadd_block] <;> omega))); (focus exact rfl)) | (apply gP; (focus (first | omega | (simp only [AHeap.push_next, AHeap.put_next, aadd_block, ne_eq] <;> omega)))) | exact rfl)); done)); (focus exact rfl); (focus exact rfl); (focus (first | exact (rfl : _ = some [_]) | exact (rfl : _ = some [_, _, _])))) | (apply cells_k; (focus assumption); (focus (first | assumption | (simp only [aadd_block] <;> first | assumption | omega))); (focus ((repeat' (first | exact Keep.refl | assumption | (apply Keep.push) | (refine Keep.put ?_ ?_; rotate_left; (focus (intro hlt; first | assumption | omega | (exfalso; simp only [AHeap.push_next, AHeap.put_next, aadd_block] at hlt; omega)))))); done))))) (hv := by exact rfl) (h := ?_)
      | refine ew_convI _ (hv := by first | exact conv_u8 _ | exact rfl) (h := ?_)
      | refine ew_conv (hn := r_conv_br (h := by first | assumption | (apply Rd.keep0; (focus assumption); ((repeat' (first | exact Keep.refl | assumption | (apply Keep.push) | (refine Keep.put ?_ ?_; rotate_left; (focus (intro hlt; first | assumption | omega | (exfalso; simp only [AHeap.push_next, AHeap.put_next, aadd_block] at hlt; omega)))))); done)))) (h := ?_)
      | (refine ew_fresh ?_; intro b hb; (first | refine ew_n (hn := (r_alloc hb)) (h := ?_)); (try simp only [AHeap.push_next, AHeap.put_next] at hb))
      | refine ew_e (he := er_store (hc := by (apply setCells_at; (focus ((repeat' (first | assumption | (rw [aadd_block]) | (apply gN; (focus (first | exact rfl | omega | (simp only [AHeap.push_next, AHeap.put_next, aadd_block] <;> omega))); (focus exact rfl)) | (apply gO; (focus (first | omega | (simp only [AHeap.push_next, AHeap.put_next, aadd_block, ne_eq] <;> omega)))) | (apply gS; (focus (first | exact rfl | omega | (simp only [AHeap.push_next, AHeap.put_next, aadd_block] <;> omega))); (focus exact rfl)) | (apply gP; (focus (first | omega | (simp only [AHeap.push_next, AHeap.put_next, aadd_block, ne_eq] <;> omega)))) | exact rfl)); done)); (focus exact rfl); (focus (first | exact Nat.le_of_ble_eq_true rfl | (simp; omega) | (simp; done) | (simp [Value.cells]; omega))); (focus (first | exact rfl | (simp; done))); (focus (first | exact (rfl : _ = [_]) | exact (rfl : _ = [_, _, _]) | exact rfl)); (focus (first | exact aadd_block _ _ | exact rfl))))) (hk := by (first | exact Mode.kept_seq rfl | (dsimp only [Mode.kept, Mode.logged, Mode.at]; (repeat' (first | exact (fun _ h => absurd h List.not_mem_nil) | (refine List.forall_mem_cons.2 ⟨?_, ?_⟩) | (refine .inl ?_; exact rfl) | (refine .inl ?_; dsimp only; decide))); done))) (h := ?_)
      | (refine ew_dec (hn := r_streq) (ht := ?_) (hf := ?_) <;> intro _)
      | (refine ew_dec (hn := (r_bin (hr := by (first | exact ib_eql | exact ib_geq | exact ib_lss | exact ib_neq)))) (ht := ?_) (hf := ?_) <;> intro _)
      | refine ew_n (hn := r_bin (hr := by (first | exact ib_xor8 _ _ | (simp (disch := omega) only [intBin, wrap_in, wrap8_in, tdiv_in, tmod_in, if_false, reduceIte]; exact rfl) | (apply ib_rem; omega)))) (h := ?_)
      | (refine w_nil ?_)
      | (refine w_nilD ?_))
    | (show EC _ _ _ _ _ _ _; first | (refine k_seq ?_) | (refine k_region ?_) | (refine k_draw (h := ?_)) | (refine k_skip ?_) | (refine k_ret ?_) | (refine k_exit ?_) | (refine k_block ?_) | (refine k_true (h := ?_)) | (refine k_false (h := ?_)))
    | (show EX _ (bodyA _ _ _) _ _ _; first | (refine x_end1 (hq := ?_)))
    | (show EX _ _ _ _ _; first | (refine x_normal ?_) | (refine x_ret ?_) | (refine x_exit ?_) | (refine x_same ?_) | (refine x_other (h := ?_)) | (refine x_bnormal ?_) | (refine x_bret ?_)))
      (first | (refine' ew_callS (hc := cr_call) (hR := ?_) (h := ?_); rotate_left 1) | (refine' ew_call (hc := cr_call) (hR := ?_) (h := ?_); rotate_left 1))
      · exact listM t16.a
      rintro n17 H17 ⟨hk17, L17, hL17, hm17⟩
      have t17 := t16.keep0 hk17
      have r17 := hL17.reads
      rw [hm17] at r17
      repeat' (first
    | (show EW _ _ _ _ _; first
      | refine ew_n (hn := r_move) (h := ?_)
      | refine ew_n (hn := r_assign) (h := ?_)
      | refine ew_n (hn := r_pick_t) (h := ?_)
      | refine ew_n (hn := r_pick_f) (h := ?_)
      | refine ew_n (hn := r_field) (h := ?_)
      | refine ew_n (hn := r_len) (h := ?_)
      | refine ew_n (hn := r_len_str) (h := ?_)
      | refine ew_n (hn := r_not) (h := ?_)
      | refine ew_n (hn := r_extract) (h := ?_)
      | refine ew_n (hn := (r_index (h0 := by omega) (h1 := by first | omega | (simp; done) | (simp; omega)))) (h := ?_)
      | refine ew_n (hn := r_nil_eq) (h := ?_)
      | refine ew_n (hn := r_beq) (h := ?_)
      | refine ew_n (hn := r_nil_ne) (h := ?_)
      | refine ew_n (hn := r_bne) (h := ?_)
      | refine ew_n (hn := (r_slice (h := by assumption))) (h := ?_)
      | refine ew_n (hn := (r_shl (hn := by omega))) (h := ?_)
      | refine ew_n (hn := (r_bin (hr := by first | (apply cmp_t; (focus (first | exact ib_eql | exact ib_geq | exact ib_lss | exact ib_neq)); omega) | (apply cmp_f; (focus (first | exact ib_eql | exact ib_geq | exact ib_lss | exact ib_neq)); omega)))) (h := ?_)
      | refine ew_skip (h := ?_)
      | refine ew_load (hc := by (first | assumption | (apply cells_row; (focus ((repeat' (first | assumption | (rw [aadd_block]) | (apply gN; (focus (first | exact rfl | omega | (simp only [AHeap.push_next, AHeap.put_next, aadd_block] <;> omega))); (focus exact rfl)) | (apply gO; (focus (first | omega | (simp only [AHeap.push_next, AHeap.put_next, aadd_block, ne_eq] <;> omega)))) | (apply gS; (focus (first | exact rfl | omega | (simp only [AHeap.push_next, AHeap.put_next, aadd_block] <;> omega))); (focus exact rfl)) | (apply gP; (focus (first | omega | (simp only [AHeap.push_next, AHeap.put_next, aadd_block, ne_eq] <;> omega)))) | exact rfl)); done)); (focus exact rfl); (focus exact rfl); (focus (first | exact (rfl : _ = some [_]) | exact (rfl : _ = some [_, _, _])))) | (apply cells_k; (focus assumption); (focus (first | assumption | (simp only [aadd_block] <;> first | assumption | omega))); (focus ((repeat' (first | exact Keep.refl | assumption | (apply Keep.push) | (refine Keep.put ?_ ?_; rotate_left; (focus (intro hlt; first | assumption | omega | (exfalso; simp only [AHeap.push_next, AHeap.put_next, aadd_block] at hlt; omega)))))); done))))) (hv := by exact rfl) (h := ?_)
      | refine ew_convI _ (hv := by first | exact conv_u8 _ | exact rfl) (h := ?_)
      | refine ew_conv (hn := r_conv_br (h := by first | assumption | (apply Rd.keep0; (focus assumption); ((repeat' (first | exact Keep.refl | assumption | (apply Keep.push) | (refine Keep.put ?_ ?_; rotate_left; (focus (intro hlt; first | assumption | omega | (exfalso; simp only [AHeap.push_next, AHeap.put_next, aadd_block] at hlt; omega)))))); done)))) (h := ?_)
      | (refine ew_fresh ?_; intro b hb; (first | refine ew_n (hn := (r_alloc hb)) (h := ?_)); (try simp only [AHeap.push_next, AHeap.put_next] at hb))
      | refine ew_e (he := er_store (hc := by (apply setCells_at; (focus ((repeat' (first | assumption | (rw [aadd_block]) | (apply gN; (focus (first | exact rfl | omega | (simp only [AHeap.push_next, AHeap.put_next, aadd_block] <;> omega))); (focus exact rfl)) | (apply gO; (focus (first | omega | (simp only [AHeap.push_next, AHeap.put_next, aadd_block, ne_eq] <;> omega)))) | (apply gS; (focus (first | exact rfl | omega | (simp only [AHeap.push_next, AHeap.put_next, aadd_block] <;> omega))); (focus exact rfl)) | (apply gP; (focus (first | omega | (simp only [AHeap.push_next, AHeap.put_next, aadd_block, ne_eq] <;> omega)))) | exact rfl)); done)); (focus exact rfl); (focus (first | exact Nat.le_of_ble_eq_true rfl | (simp; omega) | (simp; done) | (simp [Value.cells]; omega))); (focus (first | exact rfl | (simp; done))); (focus (first | exact (rfl : _ = [_]) | exact (rfl : _ = [_, _, _]) | exact rfl)); (focus (first | exact aadd_block _ _ | exact rfl))))) (hk := by (first | exact Mode.kept_seq rfl | (dsimp only [Mode.kept, Mode.logged, Mode.at]; (repeat' (first | exact (fun _ h => absurd h List.not_mem_nil) | (refine List.forall_mem_cons.2 ⟨?_, ?_⟩) | (refine .inl ?_; exact rfl) | (refine .inl ?_; dsimp only; decide))); done))) (h := ?_)
      | (refine ew_dec (hn := r_streq) (ht := ?_) (hf := ?_) <;> intro _)
      | (refine ew_dec (hn := (r_bin (hr := by (first | exact ib_eql | exact ib_geq | exact ib_lss | exact ib_neq)))) (ht := ?_) (hf := ?_) <;> intro _)
      | refine ew_n (hn := r_bin (hr := by (first | exact ib_xor8 _ _ | (simp (disch := omega) only [intBin, wrap_in, wrap8_in, tdiv_in, tmod_in, if_false, reduceIte]; exact rfl) | (apply ib_rem; omega)))) (h := ?_)
      | (refine w_nil ?_)
      | (refine w_nilD ?_))
    | (show EC _ _ _ _ _ _ _; first | (refine k_seq ?_) | (refine k_region ?_) | (refine k_draw (h := ?_)) | (refine k_skip ?_) | (refine k_ret ?_) | (refine k_exit ?_) | (refine k_block ?_) | (refine k_true (h := ?_)) | (refine k_false (h := ?_)))
    | (show EX _ (bodyA _ _ _) _ _ _; first | (refine x_end1 (hq := ?_)))
    | (show EX _ _ _ _ _; first | (refine x_normal ?_) | (refine x_ret ?_) | (refine x_exit ?_) | (refine x_same ?_) | (refine x_other (h := ?_)) | (refine x_bnormal ?_) | (refine x_bret ?_)))
      (first | (refine' ew_callS (hc := cr_call) (hR := ?_) (h := ?_); rotate_left 1) | (refine' ew_call (hc := cr_call) (hR := ?_) (h := ?_); rotate_left 1))
      · exact same_calls _ r17 t17.w (by omega)
      rintro _ H18 ⟨rfl, hk18⟩
      rw [decide_eq_true rfl]
      repeat' (first
    | (show EW _ _ _ _ _; first
      | refine ew_n (hn := r_move) (h := ?_)
      | refine ew_n (hn := r_assign) (h := ?_)
      | refine ew_n (hn := r_pick_t) (h := ?_)
      | refine ew_n (hn := r_pick_f) (h := ?_)
      | refine ew_n (hn := r_field) (h := ?_)
      | refine ew_n (hn := r_len) (h := ?_)
      | refine ew_n (hn := r_len_str) (h := ?_)
      | refine ew_n (hn := r_not) (h := ?_)
      | refine ew_n (hn := r_extract) (h := ?_)
      | refine ew_n (hn := (r_index (h0 := by omega) (h1 := by first | omega | (simp; done) | (simp; omega)))) (h := ?_)
      | refine ew_n (hn := r_nil_eq) (h := ?_)
      | refine ew_n (hn := r_beq) (h := ?_)
      | refine ew_n (hn := r_nil_ne) (h := ?_)
      | refine ew_n (hn := r_bne) (h := ?_)
      | refine ew_n (hn := (r_slice (h := by assumption))) (h := ?_)
      | refine ew_n (hn := (r_shl (hn := by omega))) (h := ?_)
      | refine ew_n (hn := (r_bin (hr := by first | (apply cmp_t; (focus (first | exact ib_eql | exact ib_geq | exact ib_lss | exact ib_neq)); omega) | (apply cmp_f; (focus (first | exact ib_eql | exact ib_geq | exact ib_lss | exact ib_neq)); omega)))) (h := ?_)
      | refine ew_skip (h := ?_)
      | refine ew_load (hc := by (first | assumption | (apply cells_row; (focus ((repeat' (first | assumption | (rw [aadd_block]) | (apply gN; (focus (first | exact rfl | omega | (simp only [AHeap.push_next, AHeap.put_next, aadd_block] <;> omega))); (focus exact rfl)) | (apply gO; (focus (first | omega | (simp only [AHeap.push_next, AHeap.put_next, aadd_block, ne_eq] <;> omega)))) | (apply gS; (focus (first | exact rfl | omega | (simp only [AHeap.push_next, AHeap.put_next, aadd_block] <;> omega))); (focus exact rfl)) | (apply gP; (focus (first | omega | (simp only [AHeap.push_next, AHeap.put_next, aadd_block, ne_eq] <;> omega)))) | exact rfl)); done)); (focus exact rfl); (focus exact rfl); (focus (first | exact (rfl : _ = some [_]) | exact (rfl : _ = some [_, _, _])))) | (apply cells_k; (focus assumption); (focus (first | assumption | (simp only [aadd_block] <;> first | assumption | omega))); (focus ((repeat' (first | exact Keep.refl | assumption | (apply Keep.push) | (refine Keep.put ?_ ?_; rotate_left; (focus (intro hlt; first | assumption | omega | (exfalso; simp only [AHeap.push_next, AHeap.put_next, aadd_block] at hlt; omega)))))); done))))) (hv := by exact rfl) (h := ?_)
      | refine ew_convI _ (hv := by first | exact conv_u8 _ | exact rfl) (h := ?_)
      | refine ew_conv (hn := r_conv_br (h := by first | assumption | (apply Rd.keep0; (focus assumption); ((repeat' (first | exact Keep.refl | assumption | (apply Keep.push) | (refine Keep.put ?_ ?_; rotate_left; (focus (intro hlt; first | assumption | omega | (exfalso; simp only [AHeap.push_next, AHeap.put_next, aadd_block] at hlt; omega)))))); done)))) (h := ?_)
      | (refine ew_fresh ?_; intro b hb; (first | refine ew_n (hn := (r_alloc hb)) (h := ?_)); (try simp only [AHeap.push_next, AHeap.put_next] at hb))
      | refine ew_e (he := er_store (hc := by (apply setCells_at; (focus ((repeat' (first | assumption | (rw [aadd_block]) | (apply gN; (focus (first | exact rfl | omega | (simp only [AHeap.push_next, AHeap.put_next, aadd_block] <;> omega))); (focus exact rfl)) | (apply gO; (focus (first | omega | (simp only [AHeap.push_next, AHeap.put_next, aadd_block, ne_eq] <;> omega)))) | (apply gS; (focus (first | exact rfl | omega | (simp only [AHeap.push_next, AHeap.put_next, aadd_block] <;> omega))); (focus exact rfl)) | (apply gP; (focus (first | omega | (simp only [AHeap.push_next, AHeap.put_next, aadd_block, ne_eq] <;> omega)))) | exact rfl)); done)); (focus exact rfl); (focus (first | exact Nat.le_of_ble_eq_true rfl | (simp; omega) | (simp; done) | (simp [Value.cells]; omega))); (focus (first | exact rfl | (simp; done))); (focus (first | exact (rfl : _ = [_]) | exact (rfl : _ = [_, _, _]) | exact rfl)); (focus (first | exact aadd_block _ _ | exact rfl))))) (hk := by (first | exact Mode.kept_seq rfl | (dsimp only [Mode.kept, Mode.logged, Mode.at]; (repeat' (first | exact (fun _ h => absurd h List.not_mem_nil) | (refine List.forall_mem_cons.2 ⟨?_, ?_⟩) | (refine .inl ?_; exact rfl) | (refine .inl ?_; dsimp only; decide))); done))) (h := ?_)
      | (refine ew_dec (hn := r_streq) (ht := ?_) (hf := ?_) <;> intro _)
      | (refine ew_dec (hn := (r_bin (hr := by (first | exact ib_eql | exact ib_geq | exact ib_lss | exact ib_neq)))) (ht := ?_) (hf := ?_) <;> intro _)
      | refine ew_n (hn := r_bin (hr := by (first | exact ib_xor8 _ _ | (simp (disch := omega) only [intBin, wrap_in, wrap8_in, tdiv_in, tmod_in, if_false, reduceIte]; exact rfl) | (apply ib_rem; omega)))) (h := ?_)
      | (refine w_nil ?_)
      | (refine w_nilD ?_))
    | (show EC _ _ _ _ _ _ _; first | (refine k_seq ?_) | (refine k_region ?_) | (refine k_draw (h := ?_)) | (refine k_skip ?_) | (refine k_ret ?_) | (refine k_exit ?_) | (refine k_block ?_) | (refine k_true (h := ?_)) | (refine k_false (h := ?_)))
    | (show EX _ (bodyA _ _ _) _ _ _; first | (refine x_end1 (hq := ?_)))
    | (show EX _ _ _ _ _; first | (refine x_normal ?_) | (refine x_ret ?_) | (refine x_exit ?_) | (refine x_same ?_) | (refine x_other (h := ?_)) | (refine x_bnormal ?_) | (refine x_bret ?_)))
      rfl)
  obtain ⟨j, rfl⟩ : ∃ j : Nat, i = j := ⟨i.toNat, by omega⟩
  have hj : j < M.length := by omega
  obtain ⟨x, hx⟩ : ∃ x, M[j]? = some x := ⟨M[j], List.getElem?_eq_getElem hj⟩
  have hat : atI M (j : Int) = some x := by rw [atI_nat, hx]
  obtain ⟨adw, cw, _, _, rfl, _⟩ := t4.w.at3 hx
  have hxl : x.2.2.length ≤ 32776 := t4.a.sizes x (List.mem_of_getElem? hx)
  repeat' (first
    | (show EW _ _ _ _ _; first
      | refine ew_n (hn := r_move) (h := ?_)
      | refine ew_n (hn := r_assign) (h := ?_)
      | refine ew_n (hn := r_pick_t) (h := ?_)
      | refine ew_n (hn := r_pick_f) (h := ?_)
      | refine ew_n (hn := r_field) (h := ?_)
      | refine ew_n (hn := r_len) (h := ?_)
      | refine ew_n (hn := r_len_str) (h := ?_)
      | refine ew_n (hn := r_not) (h := ?_)
      | refine ew_n (hn := r_extract) (h := ?_)
      | refine ew_n (hn := (r_index (h0 := by omega) (h1 := by first | omega | (simp; done) | (simp; omega)))) (h := ?_)
      | refine ew_n (hn := r_nil_eq) (h := ?_)
      | refine ew_n (hn := r_beq) (h := ?_)
      | refine ew_n (hn := r_nil_ne) (h := ?_)
      | refine ew_n (hn := r_bne) (h := ?_)
      | refine ew_n (hn := (r_slice (h := by assumption))) (h := ?_)
      | refine ew_n (hn := (r_shl (hn := by omega))) (h := ?_)
      | refine ew_n (hn := (r_bin (hr := by first | (apply cmp_t; (focus (first | exact ib_eql | exact ib_geq | exact ib_lss | exact ib_neq)); omega) | (apply cmp_f; (focus (first | exact ib_eql | exact ib_geq | exact ib_lss | exact ib_neq)); omega)))) (h := ?_)
      | refine ew_skip (h := ?_)
      | refine ew_load (hc := by (first | assumption | (apply cells_row; (focus ((repeat' (first | assumption | (rw [aadd_block]) | (apply gN; (focus (first | exact rfl | omega | (simp only [AHeap.push_next, AHeap.put_next, aadd_block] <;> omega))); (focus exact rfl)) | (apply gO; (focus (first | omega | (simp only [AHeap.push_next, AHeap.put_next, aadd_block, ne_eq] <;> omega)))) | (apply gS; (focus (first | exact rfl | omega | (simp only [AHeap.push_next, AHeap.put_next, aadd_block] <;> omega))); (focus exact rfl)) | (apply gP; (focus (first | omega | (simp only [AHeap.push_next, AHeap.put_next, aadd_block, ne_eq] <;> omega)))) | exact rfl)); done)); (focus exact rfl); (focus exact rfl); (focus (first | exact (rfl : _ = some [_]) | exact (rfl : _ = some [_, _, _])))) | (apply cells_k; (focus assumption); (focus (first | assumption | (simp only [aadd_block] <;> first | assumption | omega))); (focus ((repeat' (first | exact Keep.refl | assumption | (apply Keep.push) | (refine Keep.put ?_ ?_; rotate_left; (focus (intro hlt; first | assumption | omega | (exfalso; simp only [AHeap.push_next, AHeap.put_next, aadd_block] at hlt; omega)))))); done))))) (hv := by exact rfl) (h := ?_)
      | refine ew_convI _ (hv := by first | exact conv_u8 _ | exact rfl) (h := ?_)
      | refine ew_conv (hn := r_conv_br (h := by first | assumption | (apply Rd.keep0; (focus assumption); ((repeat' (first | exact Keep.refl | assumption | (apply Keep.push) | (refine Keep.put ?_ ?_; rotate_left; (focus (intro hlt; first | assumption | omega | (exfalso; simp only [AHeap.push_next, AHeap.put_next, aadd_block] at hlt; omega)))))); done)))) (h := ?_)
      | (refine ew_fresh ?_; intro b hb; (first | refine ew_n (hn := (r_alloc hb)) (h := ?_)); (try simp only [AHeap.push_next, AHeap.put_next] at hb))
      | refine ew_e (he := er_store (hc := by (apply setCells_at; (focus ((repeat' (first | assumption | (rw [aadd_block]) | (apply gN; (focus (first | exact rfl | omega | (simp only [AHeap.push_next, AHeap.put_next, aadd_block] <;> omega))); (focus exact rfl)) | (apply gO; (focus (first | omega | (simp only [AHeap.push_next, AHeap.put_next, aadd_block, ne_eq] <;> omega)))) | (apply gS; (focus (first | exact rfl | omega | (simp only [AHeap.push_next, AHeap.put_next, aadd_block] <;> omega))); (focus exact rfl)) | (apply gP; (focus (first | omega | (simp only [AHeap.push_next, AHeap.put_next, aadd_block, ne_eq] <;> omega)))) | exact rfl)); done)); (focus exact rfl); (focus (first | exact Nat.le_of_ble_eq_true rfl | (simp; omega) | (simp; done) | (simp [Value.cells]; omega))); (focus (first | exact rfl | (simp; done))); (focus (first | exact (rfl : _ = [_]) | exact (rfl : _ = [_, _, _]) | exact rfl)); (focus (first | exact aadd_block _ _ | exact rfl))))) (hk := by (first | exact Mode.kept_seq rfl | (dsimp only [Mode.kept, Mode.logged, Mode.at]; (repeat' (first | exact (fun _ h => absurd h List.not_mem_nil) | (refine List.forall_mem_cons.2 ⟨?_, ?_⟩) | (refine .inl ?_; exact rfl) | (refine .inl ?_; dsimp only; decide))); done))) (h := ?_)
      | (refine ew_dec (hn := r_streq) (ht := ?_) (hf := ?_) <;> intro _)
      | (refine ew_dec (hn := (r_bin (hr := by (first | exact ib_eql | exact ib_geq | exact ib_lss | exact ib_neq)))) (ht := ?_) (hf := ?_) <;> intro _)
      | refine ew_n (hn := r_bin (hr := by (first | exact ib_xor8 _ _ | (simp (disch := omega) only [intBin, wrap_in, wrap8_in, tdiv_in, tmod_in, if_false, reduceIte]; exact rfl) | (apply ib_rem; omega)))) (h := ?_)
      | (refine w_nil ?_)
      | (refine w_nilD ?_))
    | (show EC _ _ _ _ _ _ _; first | (refine k_seq ?_) | (refine k_region ?_) | (refine k_draw (h := ?_)) | (refine k_skip ?_) | (refine k_ret ?_) | (refine k_exit ?_) | (refine k_block ?_) | (refine k_true (h := ?_)) | (refine k_false (h := ?_)))
    | (show EX _ (bodyA _ _ _) _ _ _; first | (refine x_end1 (hq := ?_)))
    | (show EX _ _ _ _ _; first | (refine x_normal ?_) | (refine x_ret ?_) | (refine x_exit ?_) | (refine x_same ?_) | (refine x_other (h := ?_)) | (refine x_bnormal ?_) | (refine x_bret ?_)))
  (first | (refine' ew_callS (hc := cr_call) (hR := ?_) (h := ?_); rotate_left 1) | (refine' ew_call (hc := cr_call) (hR := ?_) (h := ?_); rotate_left 1))
  · exact flipM j bit t4.a hb1 hb2
  have hcase : (bit < 0 ∨ (x.2.2.length : Int) ≤ bit / 8) ∨ (0 ≤ bit ∧ bit / 8 < x.2.2.length) := by omega
  rcases hcase with hno | ⟨hb0, hb8⟩
  focus
    have hflip : flipP M j bit = (false, M) := by unfold flipP; rw [hat]; simp only; rw [if_pos hno]
    simp only [hflip]
    rintro _ H5 ⟨rfl, hk5, hN5⟩
    have t5 := t4.stepA hk5 hN5 Grow.refl
    repeat' (first
    | (show EW _ _ _ _ _; first
      | refine ew_n (hn := r_move) (h := ?_)
      | refine ew_n (hn := r_assign) (h := ?_)
      | refine ew_n (hn := r_pick_t) (h := ?_)
      | refine ew_n (hn := r_pick_f) (h := ?_)
      | refine ew_n (hn := r_field) (h := ?_)
      | refine ew_n (hn := r_len) (h := ?_)
      | refine ew_n (hn := r_len_str) (h := ?_)
      | refine ew_n (hn := r_not) (h := ?_)
      | refine ew_n (hn := r_extract) (h := ?_)
      | refine ew_n (hn := (r_index (h0 := by omega) (h1 := by first | omega | (simp; done) | (simp; omega)))) (h := ?_)
      | refine ew_n (hn := r_nil_eq) (h := ?_)
      | refine ew_n (hn := r_beq) (h := ?_)
      | refine ew_n (hn := r_nil_ne) (h := ?_)
      | refine ew_n (hn := r_bne) (h := ?_)
      | refine ew_n (hn := (r_slice (h := by assumption))) (h := ?_)
      | refine ew_n (hn := (r_shl (hn := by omega))) (h := ?_)
      | refine ew_n (hn := (r_bin (hr := by first | (apply cmp_t; (focus (first | exact ib_eql | exact ib_geq | exact ib_lss | exact ib_neq)); omega) | (apply cmp_f; (focus (first | exact ib_eql | exact ib_geq | exact ib_lss | exact ib_neq)); omega)))) (h := ?_)
      | refine ew_skip (h := ?_)
      | refine ew_load (hc := by (first | assumption | (apply cells_row; (focus ((repeat' (first | assumption | (rw [aadd_block]) | (apply gN; (focus (first | exact rfl | omega | (simp only [AHeap.push_next, AHeap.put_next, aadd_block] <;> omega))); (focus exact rfl)) | (apply gO; (focus (first | omega | (simp only [AHeap.push_next, AHeap.put_next, aadd_block, ne_eq] <;> omega)))) | (apply gS; (focus (first | exact rfl | omega | (simp only [AHeap.push_next, AHeap.put_next, aadd_block] <;> omega))); (focus exact rfl)) | (apply gP; (focus (first | omega | (simp only [AHeap.push_next, AHeap.put_next, aadd_block, ne_eq] <;> omega)))) | exact rfl)); done)); (focus exact rfl); (focus exact rfl); (focus (first | exact (rfl : _ = some [_]) | exact (rfl : _ = some [_, _, _])))) | (apply cells_k; (focus assumption); (focus (first | assumption | (simp only [aadd_block] <;> first | assumption | omega))); (focus ((repeat' (first | exact Keep.refl | assumption | (apply Keep.push) | (refine Keep.put ?_ ?_; rotate_left; (focus (intro hlt; first | assumption | omega | (exfalso; simp only [AHeap.push_next, AHeap.put_next, aadd_block] at hlt; omega)))))); done))))) (hv := by exact rfl) (h := ?_)
      | refine ew_convI _ (hv := by first | exact conv_u8 _ | exact rfl) (h := ?_)
      | refine ew_conv (hn := r_conv_br (h := by first | assumption | (apply Rd.keep0; (focus assumption); ((repeat' (first | exact Keep.refl | assumption | (apply Keep.push) | (refine Keep.put ?_ ?_; rotate_left; (focus (intro hlt; first | assumption | omega | (exfalso; simp only [AHeap.push_next, AHeap.put_next, aadd_block] at hlt; omega)))))); done)))) (h := ?_)
      | (refine ew_fresh ?_; intro b hb; (first | refine ew_n (hn := (r_alloc hb)) (h := ?_)); (try simp only [AHeap.push_next, AHeap.put_next] at hb))
      | refine ew_e (he := er_store (hc := by (apply setCells_at; (focus ((repeat' (first | assumption | (rw [aadd_block]) | (apply gN; (focus (first | exact rfl | omega | (simp only [AHeap.push_next, AHeap.put_next, aadd_block] <;> omega))); (focus exact rfl)) | (apply gO; (focus (first | omega | (simp only [AHeap.push_next, AHeap.put_next, aadd_block, ne_eq] <;> omega)))) | (apply gS; (focus (first | exact rfl | omega | (simp only [AHeap.push_next, AHeap.put_next, aadd_block] <;> omega))); (focus exact rfl)) | (apply gP; (focus (first | omega | (simp only [AHeap.push_next, AHeap.put_next, aadd_block, ne_eq] <;> omega)))) | exact rfl)); done)); (focus exact rfl); (focus (first | exact Nat.le_of_ble_eq_true rfl | (simp; omega) | (simp; done) | (simp [Value.cells]; omega))); (focus (first | exact rfl | (simp; done))); (focus (first | exact (rfl : _ = [_]) | exact (rfl : _ = [_, _, _]) | exact rfl)); (focus (first | exact aadd_block _ _ | exact rfl))))) (hk := by (first | exact Mode.kept_seq rfl | (dsimp only [Mode.kept, Mode.logged, Mode.at]; (repeat' (first | exact (fun _ h => absurd h List.not_mem_nil) | (refine List.forall_mem_cons.2 ⟨?_, ?_⟩) | (refine .inl ?_; exact rfl) | (refine .inl ?_; dsimp only; decide))); done))) (h := ?_)
      | (refine ew_dec (hn := r_streq) (ht := ?_) (hf := ?_) <;> intro _)
      | (refine ew_dec (hn := (r_bin (hr := by (first | exact ib_eql | exact ib_geq | exact ib_lss | exact ib_neq)))) (ht := ?_) (hf := ?_) <;> intro _)
      | refine ew_n (hn := r_bin (hr := by (first | exact ib_xor8 _ _ | (simp (disch := omega) only [intBin, wrap_in, wrap8_in, tdiv_in, tmod_in, if_false, reduceIte]; exact rfl) | (apply ib_rem; omega)))) (h := ?_)
      | (refine w_nil ?_)
      | (refine w_nilD ?_))
    | (show EC _ _ _ _ _ _ _; first | (refine k_seq ?_) | (refine k_region ?_) | (refine k_draw (h := ?_)) | (refine k_skip ?_) | (refine k_ret ?_) | (refine k_exit ?_) | (refine k_block ?_) | (refine k_true (h := ?_)) | (refine k_false (h := ?_)))
    | (show EX _ (bodyA _ _ _) _ _ _; first | (refine x_end1 (hq := ?_)))
    | (show EX _ _ _ _ _; first | (refine x_normal ?_) | (refine x_ret ?_) | (refine x_exit ?_) | (refine x_same ?_) | (refine x_other (h := ?_)) | (refine x_bnormal ?_) | (refine x_bret ?_)))
    (first | (refine' ew_callS (hc := cr_call) (hR := ?_) (h := ?_); rotate_left 1) | (refine' ew_call (hc := cr_call) (hR := ?_) (h := ?_); rotate_left 1))
    · exact listM t5.a
    rintro nN HN ⟨hk6, LN, hLN, hm6⟩
    have tN := t5.keep0 hk6
    have rN := hLN.reads
    rw [hm6] at rN
    obtain ⟨zN, cN, rfl⟩ := rN.slice
    generalize New H5 HN = GN at rN hLN
    have t6 := tN
    by_cases hneg : bit < 0
    focus
      repeat' (first
    | (show EW _ _ _ _ _; first
      | refine ew_n (hn := r_move) (h := ?_)
      | refine ew_n (hn := r_assign) (h := ?_)
      | refine ew_n (hn := r_pick_t) (h := ?_)
      | refine ew_n (hn := r_pick_f) (h := ?_)
      | refine ew_n (hn := r_field) (h := ?_)
      | refine ew_n (hn := r_len) (h := ?_)
      | refine ew_n (hn := r_len_str) (h := ?_)
      | refine ew_n (hn := r_not) (h := ?_)
      | refine ew_n (hn := r_extract) (h := ?_)
      | refine ew_n (hn := (r_index (h0 := by omega) (h1 := by first | omega | (simp; done) | (simp; omega)))) (h := ?_)
      | refine ew_n (hn := r_nil_eq) (h := ?_)
      | refine ew_n (hn := r_beq) (h := ?_)
      | refine ew_n (hn := r_nil_ne) (h := ?_)
      | refine ew_n (hn := r_bne) (h := ?_)
      | refine ew_n (hn := (r_slice (h := by assumption))) (h := ?_)
      | refine ew_n (hn := (r_shl (hn := by omega))) (h := ?_)
      | refine ew_n (hn := (r_bin (hr := by first | (apply cmp_t; (focus (first | exact ib_eql | exact ib_geq | exact ib_lss | exact ib_neq)); omega) | (apply cmp_f; (focus (first | exact ib_eql | exact ib_geq | exact ib_lss | exact ib_neq)); omega)))) (h := ?_)
      | refine ew_skip (h := ?_)
      | refine ew_load (hc := by (first | assumption | (apply cells_row; (focus ((repeat' (first | assumption | (rw [aadd_block]) | (apply gN; (focus (first | exact rfl | omega | (simp only [AHeap.push_next, AHeap.put_next, aadd_block] <;> omega))); (focus exact rfl)) | (apply gO; (focus (first | omega | (simp only [AHeap.push_next, AHeap.put_next, aadd_block, ne_eq] <;> omega)))) | (apply gS; (focus (first | exact rfl | omega | (simp only [AHeap.push_next, AHeap.put_next, aadd_block] <;> omega))); (focus exact rfl)) | (apply gP; (focus (first | omega | (simp only [AHeap.push_next, AHeap.put_next, aadd_block, ne_eq] <;> omega)))) | exact rfl)); done)); (focus exact rfl); (focus exact rfl); (focus (first | exact (rfl : _ = some [_]) | exact (rfl : _ = some [_, _, _])))) | (apply cells_k; (focus assumption); (focus (first | assumption | (simp only [aadd_block] <;> first | assumption | omega))); (focus ((repeat' (first | exact Keep.refl | assumption | (apply Keep.push) | (refine Keep.put ?_ ?_; rotate_left; (focus (intro hlt; first | assumption | omega | (exfalso; simp only [AHeap.push_next, AHeap.put_next, aadd_block] at hlt; omega)))))); done))))) (hv := by exact rfl) (h := ?_)
      | refine ew_convI _ (hv := by first | exact conv_u8 _ | exact rfl) (h := ?_)
      | refine ew_conv (hn := r_conv_br (h := by first | assumption | (apply Rd.keep0; (focus assumption); ((repeat' (first | exact Keep.refl | assumption | (apply Keep.push) | (refine Keep.put ?_ ?_; rotate_left; (focus (intro hlt; first | assumption | omega | (exfalso; simp only [AHeap.push_next, AHeap.put_next, aadd_block] at hlt; omega)))))); done)))) (h := ?_)
      | (refine ew_fresh ?_; intro b hb; (first | refine ew_n (hn := (r_alloc hb)) (h := ?_)); (try simp only [AHeap.push_next, AHeap.put_next] at hb))
      | refine ew_e (he := er_store (hc := by (apply setCells_at; (focus ((repeat' (first | assumption | (rw [aadd_block]) | (apply gN; (focus (first | exact rfl | omega | (simp only [AHeap.push_next, AHeap.put_next, aadd_block] <;> omega))); (focus exact rfl)) | (apply gO; (focus (first | omega | (simp only [AHeap.push_next, AHeap.put_next, aadd_block, ne_eq] <;> omega)))) | (apply gS; (focus (first | exact rfl | omega | (simp only [AHeap.push_next, AHeap.put_next, aadd_block] <;> omega))); (focus exact rfl)) | (apply gP; (focus (first | omega | (simp only [AHeap.push_next, AHeap.put_next, aadd_block, ne_eq] <;> omega)))) | exact rfl)); done)); (focus exact rfl); (focus (first | exact Nat.le_of_ble_eq_true rfl | (simp; omega) | (simp; done) | (simp [Value.cells]; omega))); (focus (first | exact rfl | (simp; done))); (focus (first | exact (rfl : _ = [_]) | exact (rfl : _ = [_, _, _]) | exact rfl)); (focus (first | exact aadd_block _ _ | exact rfl))))) (hk := by (first | exact Mode.kept_seq rfl | (dsimp only [Mode.kept, Mode.logged, Mode.at]; (repeat' (first | exact (fun _ h => absurd h List.not_mem_nil) | (refine List.forall_mem_cons.2 ⟨?_, ?_⟩) | (refine .inl ?_; exact rfl) | (refine .inl ?_; dsimp only; decide))); done))) (h := ?_)
      | (refine ew_dec (hn := r_streq) (ht := ?_) (hf := ?_) <;> intro _)
      | (refine ew_dec (hn := (r_bin (hr := by (first | exact ib_eql | exact ib_geq | exact ib_lss | exact ib_neq)))) (ht := ?_) (hf := ?_) <;> intro _)
      | refine ew_n (hn := r_bin (hr := by (first | exact ib_xor8 _ _ | (simp (disch := omega) only [intBin, wrap_in, wrap8_in, tdiv_in, tmod_in, if_false, reduceIte]; exact rfl) | (apply ib_rem; omega)))) (h := ?_)
      | (refine w_nil ?_)
      | (refine w_nilD ?_))
    | (show EC _ _ _ _ _ _ _; first | (refine k_seq ?_) | (refine k_region ?_) | (refine k_draw (h := ?_)) | (refine k_skip ?_) | (refine k_ret ?_) | (refine k_exit ?_) | (refine k_block ?_) | (refine k_true (h := ?_)) | (refine k_false (h := ?_)))
    | (show EX _ (bodyA _ _ _) _ _ _; first | (refine x_end1 (hq := ?_)))
    | (show EX _ _ _ _ _; first | (refine x_normal ?_) | (refine x_ret ?_) | (refine x_exit ?_) | (refine x_same ?_) | (refine x_other (h := ?_)) | (refine x_bnormal ?_) | (refine x_bret ?_)))
    rotate_left 1
    focus
      have h8 : (x.2.2.length : Int) ≤ bit / 8 := by omega
      repeat' (first
    | (show EW _ _ _ _ _; first
      | refine ew_n (hn := r_move) (h := ?_)
      | refine ew_n (hn := r_assign) (h := ?_)
      | refine ew_n (hn := r_pick_t) (h := ?_)
      | refine ew_n (hn := r_pick_f) (h := ?_)
      | refine ew_n (hn := r_field) (h := ?_)
      | refine ew_n (hn := r_len) (h := ?_)
      | refine ew_n (hn := r_len_str) (h := ?_)
      | refine ew_n (hn := r_not) (h := ?_)
      | refine ew_n (hn := r_extract) (h := ?_)
      | refine ew_n (hn := (r_index (h0 := by omega) (h1 := by first | omega | (simp; done) | (simp; omega)))) (h := ?_)
      | refine ew_n (hn := r_nil_eq) (h := ?_)
      | refine ew_n (hn := r_beq) (h := ?_)
      | refine ew_n (hn := r_nil_ne) (h := ?_)
      | refine ew_n (hn := r_bne) (h := ?_)
      | refine ew_n (hn := (r_slice (h := by assumption))) (h := ?_)
      | refine ew_n (hn := (r_shl (hn := by omega))) (h := ?_)
      | refine ew_n (hn := (r_bin (hr := by first | (apply cmp_t; (focus (first | exact ib_eql | exact ib_geq | exact ib_lss | exact ib_neq)); omega) | (apply cmp_f; (focus (first | exact ib_eql | exact ib_geq | exact ib_lss | exact ib_neq)); omega)))) (h := ?_)
      | refine ew_skip (h := ?_)
      | refine ew_load (hc := by (first | assumption | (apply cells_row; (focus ((repeat' (first | assumption | (rw [aadd_block]) | (apply gN; (focus (first | exact rfl | omega | (simp only [AHeap.push_next, AHeap.put_next, aadd_block] <;> omega))); (focus exact rfl)) | (apply gO; (focus (first | omega | (simp only [AHeap.push_next, AHeap.put_next, aadd_block, ne_eq] <;> omega)))) | (apply gS; (focus (first | exact rfl | omega | (simp only [AHeap.push_next, AHeap.put_next, aadd_block] <;> omega))); (focus exact rfl)) | (apply gP; (focus (first | omega | (simp only [AHeap.push_next, AHeap.put_next, aadd_block, ne_eq] <;> omega)))) | exact rfl)); done)); (focus exact rfl); (focus exact rfl); (focus (first | exact (rfl : _ = some [_]) | exact (rfl : _ = some [_, _, _])))) | (apply cells_k; (focus assumption); (focus (first | assumption | (simp only [aadd_block] <;> first | assumption | omega))); (focus ((repeat' (first | exact Keep.refl | assumption | (apply Keep.push) | (refine Keep.put ?_ ?_; rotate_left; (focus (intro hlt; first | assumption | omega | (exfalso; simp only [AHeap.push_next, AHeap.put_next, aadd_block] at hlt; omega)))))); done))))) (hv := by exact rfl) (h := ?_)
      | refine ew_convI _ (hv := by first | exact conv_u8 _ | exact rfl) (h := ?_)
      | refine ew_conv (hn := r_conv_br (h := by first | assumption | (apply Rd.keep0; (focus assumption); ((repeat' (first | exact Keep.refl | assumption | (apply Keep.push) | (refine Keep.put ?_ ?_; rotate_left; (focus (intro hlt; first | assumption | omega | (exfalso; simp only [AHeap.push_next, AHeap.put_next, aadd_block] at hlt; omega)))))); done)))) (h := ?_)
      | (refine ew_fresh ?_; intro b hb; (first | refine ew_n (hn := (r_alloc hb)) (h := ?_)); (try simp only [AHeap.push_next, AHeap.put_next] at hb))
      | refine ew_e (he := er_store (hc := by (apply setCells_at; (focus ((repeat' (first | assumption | (rw [aadd_block]) | (apply gN; (focus (first | exact rfl | omega | (simp only [AHeap.push_next, AHeap.put_next, aadd_block] <;> omega))); (focus exact rfl)) | (apply gO; (focus (first | omega | (simp only [AHeap.push_next, AHeap.put_next, aadd_block, ne_eq] <;> omega)))) | (apply gS; (focus (first | exact rfl | omega | (simp only [AHeap.push_next, AHeap.put_next, aadd_block] <;> omega))); (focus exact rfl)) | (apply gP; (focus (first | omega | (simp only [AHeap.push_next, AHeap.put_next, aadd_block, ne_eq] <;> omega)))) | exact rfl)); done)); (focus exact rfl); (focus (first | exact Nat.le_of_ble_eq_true rfl | (simp; omega) | (simp; done) | (simp [Value.cells]; omega))); (focus (first | exact rfl | (simp; done))); (focus (first | exact (rfl : _ = [_]) | exact (rfl : _ = [_, _, _]) | exact rfl)); (focus (first | exact aadd_block _ _ | exact rfl))))) (hk := by (first | exact Mode.kept_seq rfl | (dsimp only [Mode.kept, Mode.logged, Mode.at]; (repeat' (first | exact (fun _ h => absurd h List.not_mem_nil) | (refine List.forall_mem_cons.2 ⟨?_, ?_⟩) | (refine .inl ?_; exact rfl) | (refine .inl ?_; dsimp only; decide))); done))) (h := ?_)
      | (refine ew_dec (hn := r_streq) (ht := ?_) (hf := ?_) <;> intro _)
      | (refine ew_dec (hn := (r_bin (hr := by (first | exact ib_eql | exact ib_geq | exact ib_lss | exact ib_neq)))) (ht := ?_) (hf := ?_) <;> intro _)
      | refine ew_n (hn := r_bin (hr := by (first | exact ib_xor8 _ _ | (simp (disch := omega) only [intBin, wrap_in, wrap8_in, tdiv_in, tmod_in, if_false, reduceIte]; exact rfl) | (apply ib_rem; omega)))) (h := ?_)
      | (refine w_nil ?_)
      | (refine w_nilD ?_))
    | (show EC _ _ _ _ _ _ _; first | (refine k_seq ?_) | (refine k_region ?_) | (refine k_draw (h := ?_)) | (refine k_skip ?_) | (refine k_ret ?_) | (refine k_exit ?_) | (refine k_block ?_) | (refine k_true (h := ?_)) | (refine k_false (h := ?_)))
    | (show EX _ (bodyA _ _ _) _ _ _; first | (refine x_end1 (hq := ?_)))
    | (show EX _ _ _ _ _; first | (refine x_normal ?_) | (refine x_ret ?_) | (refine x_exit ?_) | (refine x_same ?_) | (refine x_other (h := ?_)) | (refine x_bnormal ?_) | (refine x_bret ?_)))
      (first | (refine' ew_callS (hc := cr_call) (hR := ?_) (h := ?_); rotate_left 1) | (refine' ew_call (hc := cr_call) (hR := ?_) (h := ?_); rotate_left 1))
      · exact mod_calls j M.length _ (by omega)
      rintro _ H7 ⟨rfl, rfl⟩
      rw [modI_in _ _ (by omega) (by omega)]
      obtain ⟨ad', c', z', cb', hv', hlt', hc3', hc1', hbr'⟩ := tN.w.at3 hx
      simp only [Value.slice.injEq, true_and, Option.some.injEq] at hv'
      obtain ⟨rfl, rfl⟩ := hv'
      repeat' (first
    | (show EW _ _ _ _ _; first
      | refine ew_n (hn := r_move) (h := ?_)
      | refine ew_n (hn := r_assign) (h := ?_)
      | refine ew_n (hn := r_pick_t) (h := ?_)
      | refine ew_n (hn := r_pick_f) (h := ?_)
      | refine ew_n (hn := r_field) (h := ?_)
      | refine ew_n (hn := r_len) (h := ?_)
      | refine ew_n (hn := r_len_str) (h := ?_)
      | refine ew_n (hn := r_not) (h := ?_)
      | refine ew_n (hn := r_extract) (h := ?_)
      | refine ew_n (hn := (r_index (h0 := by omega) (h1 := by first | omega | (simp; done) | (simp; omega)))) (h := ?_)
      | refine ew_n (hn := r_nil_eq) (h := ?_)
      | refine ew_n (hn := r_beq) (h := ?_)
      | refine ew_n (hn := r_nil_ne) (h := ?_)
      | refine ew_n (hn := r_bne) (h := ?_)
      | refine ew_n (hn := (r_slice (h := by assumption))) (h := ?_)
      | refine ew_n (hn := (r_shl (hn := by omega))) (h := ?_)
      | refine ew_n (hn := (r_bin (hr := by first | (apply cmp_t; (focus (first | exact ib_eql | exact ib_geq | exact ib_lss | exact ib_neq)); omega) | (apply cmp_f; (focus (first | exact ib_eql | exact ib_geq | exact ib_lss | exact ib_neq)); omega)))) (h := ?_)
      | refine ew_skip (h := ?_)
      | refine ew_load (hc := by (first | assumption | (apply cells_row; (focus ((repeat' (first | assumption | (rw [aadd_block]) | (apply gN; (focus (first | exact rfl | omega | (simp only [AHeap.push_next, AHeap.put_next, aadd_block] <;> omega))); (focus exact rfl)) | (apply gO; (focus (first | omega | (simp only [AHeap.push_next, AHeap.put_next, aadd_block, ne_eq] <;> omega)))) | (apply gS; (focus (first | exact rfl | omega | (simp only [AHeap.push_next, AHeap.put_next, aadd_block] <;> omega))); (focus exact rfl)) | (apply gP; (focus (first | omega | (simp only [AHeap.push_next, AHeap.put_next, aadd_block, ne_eq] <;> omega)))) | exact rfl)); done)); (focus exact rfl); (focus exact rfl); (focus (first | exact (rfl : _ = some [_]) | exact (rfl : _ = some [_, _, _])))) | (apply cells_k; (focus assumption); (focus (first | assumption | (simp only [aadd_block] <;> first | assumption | omega))); (focus ((repeat' (first | exact Keep.refl | assumption | (apply Keep.push) | (refine Keep.put ?_ ?_; rotate_left; (focus (intro hlt; first | assumption | omega | (exfalso; simp only [AHeap.push_next, AHeap.put_next, aadd_block] at hlt; omega)))))); done))))) (hv := by exact rfl) (h := ?_)
      | refine ew_convI _ (hv := by first | exact conv_u8 _ | exact rfl) (h := ?_)
      | refine ew_conv (hn := r_conv_br (h := by first | assumption | (apply Rd.keep0; (focus assumption); ((repeat' (first | exact Keep.refl | assumption | (apply Keep.push) | (refine Keep.put ?_ ?_; rotate_left; (focus (intro hlt; first | assumption | omega | (exfalso; simp only [AHeap.push_next, AHeap.put_next, aadd_block] at hlt; omega)))))); done)))) (h := ?_)
      | (refine ew_fresh ?_; intro b hb; (first | refine ew_n (hn := (r_alloc hb)) (h := ?_)); (try simp only [AHeap.push_next, AHeap.put_next] at hb))
      | refine ew_e (he := er_store (hc := by (apply setCells_at; (focus ((repeat' (first | assumption | (rw [aadd_block]) | (apply gN; (focus (first | exact rfl | omega | (simp only [AHeap.push_next, AHeap.put_next, aadd_block] <;> omega))); (focus exact rfl)) | (apply gO; (focus (first | omega | (simp only [AHeap.push_next, AHeap.put_next, aadd_block, ne_eq] <;> omega)))) | (apply gS; (focus (first | exact rfl | omega | (simp only [AHeap.push_next, AHeap.put_next, aadd_block] <;> omega))); (focus exact rfl)) | (apply gP; (focus (first | omega | (simp only [AHeap.push_next, AHeap.put_next, aadd_block, ne_eq] <;> omega)))) | exact rfl)); done)); (focus exact rfl); (focus (first | exact Nat.le_of_ble_eq_true rfl | (simp; omega) | (simp; done) | (simp [Value.cells]; omega))); (focus (first | exact rfl | (simp; done))); (focus (first | exact (rfl : _ = [_]) | exact (rfl : _ = [_, _, _]) | exact rfl)); (focus (first | exact aadd_block _ _ | exact rfl))))) (hk := by (first | exact Mode.kept_seq rfl | (dsimp only [Mode.kept, Mode.logged, Mode.at]; (repeat' (first | exact (fun _ h => absurd h List.not_mem_nil) | (refine List.forall_mem_cons.2 ⟨?_, ?_⟩) | (refine .inl ?_; exact rfl) | (refine .inl ?_; dsimp only; decide))); done))) (h := ?_)
      | (refine ew_dec (hn := r_streq) (ht := ?_) (hf := ?_) <;> intro _)
      | (refine ew_dec (hn := (r_bin (hr := by (first | exact ib_eql | exact ib_geq | exact ib_lss | exact ib_neq)))) (ht := ?_) (hf := ?_) <;> intro _)
      | refine ew_n (hn := r_bin (hr := by (first | exact ib_xor8 _ _ | (simp (disch := omega) only [intBin, wrap_in, wrap8_in, tdiv_in, tmod_in, if_false, reduceIte]; exact rfl) | (apply ib_rem; omega)))) (h := ?_)
      | (refine w_nil ?_)
      | (refine w_nilD ?_))
    | (show EC _ _ _ _ _ _ _; first | (refine k_seq ?_) | (refine k_region ?_) | (refine k_draw (h := ?_)) | (refine k_skip ?_) | (refine k_ret ?_) | (refine k_exit ?_) | (refine k_block ?_) | (refine k_true (h := ?_)) | (refine k_false (h := ?_)))
    | (show EX _ (bodyA _ _ _) _ _ _; first | (refine x_end1 (hq := ?_)))
    | (show EX _ _ _ _ _; first | (refine x_normal ?_) | (refine x_ret ?_) | (refine x_exit ?_) | (refine x_same ?_) | (refine x_other (h := ?_)) | (refine x_bnormal ?_) | (refine x_bret ?_)))
  rotate_left 2
  focus
    have hkn : (bit / 8).toNat < x.2.2.length := by omega
    obtain ⟨x', hx'⟩ : ∃ x' : Msg, x' = (x.1, x.2.1, flipB x.2.2 bit) := ⟨_, rfl⟩
    have hx2 : x'.2.2 = flipB x.2.2 bit := by rw [hx']
    have hxl2 : x'.2.2.length = x.2.2.length := by rw [hx2, flipB_length]
    have hflip : flipP M j bit = (true, M.set j x') := by unfold flipP; rw [hat]; simp only; rw [if_neg (by omega), Int.toNat_natCast, hx']
    have hset : (M.set j x')[j]? = some x' := List.getElem?_set_self hj
    have hsl : (M.set j x').length = M.length := List.length_set
    simp only [hflip]
    rintro _ H5 ⟨rfl, hk5, hN5⟩
    have t5 := t4.stepA hk5 hN5 Grow.refl
    repeat' (first
    | (show EW _ _ _ _ _; first
      | refine ew_n (hn := r_move) (h := ?_)
      | refine ew_n (hn := r_assign) (h := ?_)
      | refine ew_n (hn := r_pick_t) (h := ?_)
      | refine ew_n (hn := r_pick_f) (h := ?_)
      | refine ew_n (hn := r_field) (h := ?_)
      | refine ew_n (hn := r_len) (h := ?_)
      | refine ew_n (hn := r_len_str) (h := ?_)
      | refine ew_n (hn := r_not) (h := ?_)
      | refine ew_n (hn := r_extract) (h := ?_)
      | refine ew_n (hn := (r_index (h0 := by omega) (h1 := by first | omega | (simp; done) | (simp; omega)))) (h := ?_)
      | refine ew_n (hn := r_nil_eq) (h := ?_)
      | refine ew_n (hn := r_beq) (h := ?_)
      | refine ew_n (hn := r_nil_ne) (h := ?_)
      | refine ew_n (hn := r_bne) (h := ?_)
      | refine ew_n (hn := (r_slice (h := by assumption))) (h := ?_)
      | refine ew_n (hn := (r_shl (hn := by omega))) (h := ?_)
      | refine ew_n (hn := (r_bin (hr := by first | (apply cmp_t; (focus (first | exact ib_eql | exact ib_geq | exact ib_lss | exact ib_neq)); omega) | (apply cmp_f; (focus (first | exact ib_eql | exact ib_geq | exact ib_lss | exact ib_neq)); omega)))) (h := ?_)
      | refine ew_skip (h := ?_)
      | refine ew_load (hc := by (first | assumption | (apply cells_row; (focus ((repeat' (first | assumption | (rw [aadd_block]) | (apply gN; (focus (first | exact rfl | omega | (simp only [AHeap.push_next, AHeap.put_next, aadd_block] <;> omega))); (focus exact rfl)) | (apply gO; (focus (first | omega | (simp only [AHeap.push_next, AHeap.put_next, aadd_block, ne_eq] <;> omega)))) | (apply gS; (focus (first | exact rfl | omega | (simp only [AHeap.push_next, AHeap.put_next, aadd_block] <;> omega))); (focus exact rfl)) | (apply gP; (focus (first | omega | (simp only [AHeap.push_next, AHeap.put_next, aadd_block, ne_eq] <;> omega)))) | exact rfl)); done)); (focus exact rfl); (focus exact rfl); (focus (first | exact (rfl : _ = some [_]) | exact (rfl : _ = some [_, _, _])))) | (apply cells_k; (focus assumption); (focus (first | assumption | (simp only [aadd_block] <;> first | assumption | omega))); (focus ((repeat' (first | exact Keep.refl | assumption | (apply Keep.push) | (refine Keep.put ?_ ?_; rotate_left; (focus (intro hlt; first | assumption | omega | (exfalso; simp only [AHeap.push_next, AHeap.put_next, aadd_block] at hlt; omega)))))); done))))) (hv := by exact rfl) (h := ?_)
      | refine ew_convI _ (hv := by first | exact conv_u8 _ | exact rfl) (h := ?_)
      | refine ew_conv (hn := r_conv_br (h := by first | assumption | (apply Rd.keep0; (focus assumption); ((repeat' (first | exact Keep.refl | assumption | (apply Keep.push) | (refine Keep.put ?_ ?_; rotate_left; (focus (intro hlt; first | assumption | omega | (exfalso; simp only [AHeap.push_next, AHeap.put_next, aadd_block] at hlt; omega)))))); done)))) (h := ?_)
      | (refine ew_fresh ?_; intro b hb; (first | refine ew_n (hn := (r_alloc hb)) (h := ?_)); (try simp only [AHeap.push_next, AHeap.put_next] at hb))
      | refine ew_e (he := er_store (hc := by (apply setCells_at; (focus ((repeat' (first | assumption | (rw [aadd_block]) | (apply gN; (focus (first | exact rfl | omega | (simp only [AHeap.push_next, AHeap.put_next, aadd_block] <;> omega))); (focus exact rfl)) | (apply gO; (focus (first | omega | (simp only [AHeap.push_next, AHeap.put_next, aadd_block, ne_eq] <;> omega)))) | (apply gS; (focus (first | exact rfl | omega | (simp only [AHeap.push_next, AHeap.put_next, aadd_block] <;> omega))); (focus exact rfl)) | (apply gP; (focus (first | omega | (simp only [AHeap.push_next, AHeap.put_next, aadd_block, ne_eq] <;> omega)))) | exact rfl)); done)); (focus exact rfl); (focus (first | exact Nat.le_of_ble_eq_true rfl | (simp; omega) | (simp; done) | (simp [Value.cells]; omega))); (focus (first | exact rfl | (simp; done))); (focus (first | exact (rfl : _ = [_]) | exact (rfl : _ = [_, _, _]) | exact rfl)); (focus (first | exact aadd_block _ _ | exact rfl))))) (hk := by (first | exact Mode.kept_seq rfl | (dsimp only [Mode.kept, Mode.logged, Mode.at]; (repeat' (first | exact (fun _ h => absurd h List.not_mem_nil) | (refine List.forall_mem_cons.2 ⟨?_, ?_⟩) | (refine .inl ?_; exact rfl) | (refine .inl ?_; dsimp only; decide))); done))) (h := ?_)
      | (refine ew_dec (hn := r_streq) (ht := ?_) (hf := ?_) <;> intro _)
      | (refine ew_dec (hn := (r_bin (hr := by (first | exact ib_eql | exact ib_geq | exact ib_lss | exact ib_neq)))) (ht := ?_) (hf := ?_) <;> intro _)
      | refine ew_n (hn := r_bin (hr := by (first | exact ib_xor8 _ _ | (simp (disch := omega) only [intBin, wrap_in, wrap8_in, tdiv_in, tmod_in, if_false, reduceIte]; exact rfl) | (apply ib_rem; omega)))) (h := ?_)
      | (refine w_nil ?_)
      | (refine w_nilD ?_))
    | (show EC _ _ _ _ _ _ _; first | (refine k_seq ?_) | (refine k_region ?_) | (refine k_draw (h := ?_)) | (refine k_skip ?_) | (refine k_ret ?_) | (refine k_exit ?_) | (refine k_block ?_) | (refine k_true (h := ?_)) | (refine k_false (h := ?_)))
    | (show EX _ (bodyA _ _ _) _ _ _; first | (refine x_end1 (hq := ?_)))
    | (show EX _ _ _ _ _; first | (refine x_normal ?_) | (refine x_ret ?_) | (refine x_exit ?_) | (refine x_same ?_) | (refine x_other (h := ?_)) | (refine x_bnormal ?_) | (refine x_bret ?_)))
    (first | (refine' ew_callS (hc := cr_call) (hR := ?_) (h := ?_); rotate_left 1) | (refine' ew_call (hc := cr_call) (hR := ?_) (h := ?_); rotate_left 1))
    · exact listM t5.a
    rintro n6 H6 ⟨hk6, L6, hL6, hm6⟩
    have t6 := t5.keep0 hk6
    have r6 := hL6.reads
    rw [hm6] at r6
    obtain ⟨ad6, c6, z6, cb6, rfl, hlt6, hc36, hc16, hbr6⟩ := r6.at3 hset
    obtain ⟨ad', c', z', cb', hv', hlt', hc3', hc1', hbr'⟩ := t6.w.at3 hx
    simp only [Value.slice.injEq, true_and, Option.some.injEq] at hv'
    obtain ⟨rfl, rfl⟩ := hv'
    repeat' (first
    | (show EW _ _ _ _ _; first
      | refine ew_n (hn := r_move) (h := ?_)
      | refine ew_n (hn := r_assign) (h := ?_)
      | refine ew_n (hn := r_pick_t) (h := ?_)
      | refine ew_n (hn := r_pick_f) (h := ?_)
      | refine ew_n (hn := r_field) (h := ?_)
      | refine ew_n (hn := r_len) (h := ?_)
      | refine ew_n (hn := r_len_str) (h := ?_)
      | refine ew_n (hn := r_not) (h := ?_)
      | refine ew_n (hn := r_extract) (h := ?_)
      | refine ew_n (hn := (r_index (h0 := by omega) (h1 := by first | omega | (simp; done) | (simp; omega)))) (h := ?_)
      | refine ew_n (hn := r_nil_eq) (h := ?_)
      | refine ew_n (hn := r_beq) (h := ?_)
      | refine ew_n (hn := r_nil_ne) (h := ?_)
      | refine ew_n (hn := r_bne) (h := ?_)
      | refine ew_n (hn := (r_slice (h := by assumption))) (h := ?_)
      | refine ew_n (hn := (r_shl (hn := by omega))) (h := ?_)
      | refine ew_n (hn := (r_bin (hr := by first | (apply cmp_t; (focus (first | exact ib_eql | exact ib_geq | exact ib_lss | exact ib_neq)); omega) | (apply cmp_f; (focus (first | exact ib_eql | exact ib_geq | exact ib_lss | exact ib_neq)); omega)))) (h := ?_)
      | refine ew_skip (h := ?_)
      | refine ew_load (hc := by (first | assumption | (apply cells_row; (focus ((repeat' (first | assumption | (rw [aadd_block]) | (apply gN; (focus (first | exact rfl | omega | (simp only [AHeap.push_next, AHeap.put_next, aadd_block] <;> omega))); (focus exact rfl)) | (apply gO; (focus (first | omega | (simp only [AHeap.push_next, AHeap.put_next, aadd_block, ne_eq] <;> omega)))) | (apply gS; (focus (first | exact rfl | omega | (simp only [AHeap.push_next, AHeap.put_next, aadd_block] <;> omega))); (focus exact rfl)) | (apply gP; (focus (first | omega | (simp only [AHeap.push_next, AHeap.put_next, aadd_block, ne_eq] <;> omega)))) | exact rfl)); done)); (focus exact rfl); (focus exact rfl); (focus (first | exact (rfl : _ = some [_]) | exact (rfl : _ = some [_, _, _])))) | (apply cells_k; (focus assumption); (focus (first | assumption | (simp only [aadd_block] <;> first | assumption | omega))); (focus ((repeat' (first | exact Keep.refl | assumption | (apply Keep.push) | (refine Keep.put ?_ ?_; rotate_left; (focus (intro hlt; first | assumption | omega | (exfalso; simp only [AHeap.push_next, AHeap.put_next, aadd_block] at hlt; omega)))))); done))))) (hv := by exact rfl) (h := ?_)
      | refine ew_convI _ (hv := by first | exact conv_u8 _ | exact rfl) (h := ?_)
      | refine ew_conv (hn := r_conv_br (h := by first | assumption | (apply Rd.keep0; (focus assumption); ((repeat' (first | exact Keep.refl | assumption | (apply Keep.push) | (refine Keep.put ?_ ?_; rotate_left; (focus (intro hlt; first | assumption | omega | (exfalso; simp only [AHeap.push_next, AHeap.put_next, aadd_block] at hlt; omega)))))); done)))) (h := ?_)
      | (refine ew_fresh ?_; intro b hb; (first | refine ew_n (hn := (r_alloc hb)) (h := ?_)); (try simp only [AHeap.push_next, AHeap.put_next] at hb))
      | refine ew_e (he := er_store (hc := by (apply setCells_at; (focus ((repeat' (first | assumption | (rw [aadd_block]) | (apply gN; (focus (first | exact rfl | omega | (simp only [AHeap.push_next, AHeap.put_next, aadd_block] <;> omega))); (focus exact rfl)) | (apply gO; (focus (first | omega | (simp only [AHeap.push_next, AHeap.put_next, aadd_block, ne_eq] <;> omega)))) | (apply gS; (focus (first | exact rfl | omega | (simp only [AHeap.push_next, AHeap.put_next, aadd_block] <;> omega))); (focus exact rfl)) | (apply gP; (focus (first | omega | (simp only [AHeap.push_next, AHeap.put_next, aadd_block, ne_eq] <;> omega)))) | exact rfl)); done)); (focus exact rfl); (focus (first | exact Nat.le_of_ble_eq_true rfl | (simp; omega) | (simp; done) | (simp [Value.cells]; omega))); (focus (first | exact rfl | (simp; done))); (focus (first | exact (rfl : _ = [_]) | exact (rfl : _ = [_, _, _]) | exact rfl)); (focus (first | exact aadd_block _ _ | exact rfl))))) (hk := by (first | exact Mode.kept_seq rfl | (dsimp only [Mode.kept, Mode.logged, Mode.at]; (repeat' (first | exact (fun _ h => absurd h List.not_mem_nil) | (refine List.forall_mem_cons.2 ⟨?_, ?_⟩) | (refine .inl ?_; exact rfl) | (refine .inl ?_; dsimp only; decide))); done))) (h := ?_)
      | (refine ew_dec (hn := r_streq) (ht := ?_) (hf := ?_) <;> intro _)
      | (refine ew_dec (hn := (r_bin (hr := by (first | exact ib_eql | exact ib_geq | exact ib_lss | exact ib_neq)))) (ht := ?_) (hf := ?_) <;> intro _)
      | refine ew_n (hn := r_bin (hr := by (first | exact ib_xor8 _ _ | (simp (disch := omega) only [intBin, wrap_in, wrap8_in, tdiv_in, tmod_in, if_false, reduceIte]; exact rfl) | (apply ib_rem; omega)))) (h := ?_)
      | (refine w_nil ?_)
      | (refine w_nilD ?_))
    | (show EC _ _ _ _ _ _ _; first | (refine k_seq ?_) | (refine k_region ?_) | (refine k_draw (h := ?_)) | (refine k_skip ?_) | (refine k_ret ?_) | (refine k_exit ?_) | (refine k_block ?_) | (refine k_true (h := ?_)) | (refine k_false (h := ?_)))
    | (show EX _ (bodyA _ _ _) _ _ _; first | (refine x_end1 (hq := ?_)))
    | (show EX _ _ _ _ _; first | (refine x_normal ?_) | (refine x_ret ?_) | (refine x_exit ?_) | (refine x_same ?_) | (refine x_other (h := ?_)) | (refine x_bnormal ?_) | (refine x_bret ?_)))
    (first | (refine' ew_callS (hc := cr_call) (hR := ?_) (h := ?_); rotate_left 1) | (refine' ew_call (hc := cr_call) (hR := ?_) (h := ?_); rotate_left 1))
    · exact mod_calls j M.length _ (by omega)
    rintro _ H6 ⟨rfl, rfl⟩
    rw [modI_in _ _ (by omega) (by omega)]
    repeat' (first
    | (show EW _ _ _ _ _; first
      | refine ew_n (hn := r_move) (h := ?_)
      | refine ew_n (hn := r_assign) (h := ?_)
      | refine ew_n (hn := r_pick_t) (h := ?_)
      | refine ew_n (hn := r_pick_f) (h := ?_)
      | refine ew_n (hn := r_field) (h := ?_)
      | refine ew_n (hn := r_len) (h := ?_)
      | refine ew_n (hn := r_len_str) (h := ?_)
      | refine ew_n (hn := r_not) (h := ?_)
      | refine ew_n (hn := r_extract) (h := ?_)
      | refine ew_n (hn := (r_index (h0 := by omega) (h1 := by first | omega | (simp; done) | (simp; omega)))) (h := ?_)
      | refine ew_n (hn := r_nil_eq) (h := ?_)
      | refine ew_n (hn := r_beq) (h := ?_)
      | refine ew_n (hn := r_nil_ne) (h := ?_)
      | refine ew_n (hn := r_bne) (h := ?_)
      | refine ew_n (hn := (r_slice (h := by assumption))) (h := ?_)
      | refine ew_n (hn := (r_shl (hn := by omega))) (h := ?_)
      | refine ew_n (hn := (r_bin (hr := by first | (apply cmp_t; (focus (first | exact ib_eql | exact ib_geq | exact ib_lss | exact ib_neq)); omega) | (apply cmp_f; (focus (first | exact ib_eql | exact ib_geq | exact ib_lss | exact ib_neq)); omega)))) (h := ?_)
      | refine ew_skip (h := ?_)
      | refine ew_load (hc := by (first | assumption | (apply cells_row; (focus ((repeat' (first | assumption | (rw [aadd_block]) | (apply gN; (focus (first | exact rfl | omega | (simp only [AHeap.push_next, AHeap.put_next, aadd_block] <;> omega))); (focus exact rfl)) | (apply gO; (focus (first | omega | (simp only [AHeap.push_next, AHeap.put_next, aadd_block, ne_eq] <;> omega)))) | (apply gS; (focus (first | exact rfl | omega | (simp only [AHeap.push_next, AHeap.put_next, aadd_block] <;> omega))); (focus exact rfl)) | (apply gP; (focus (first | omega | (simp only [AHeap.push_next, AHeap.put_next, aadd_block, ne_eq] <;> omega)))) | exact rfl)); done)); (focus exact rfl); (focus exact rfl); (focus (first | exact (rfl : _ = some [_]) | exact (rfl : _ = some [_, _, _])))) | (apply cells_k; (focus assumption); (focus (first | assumption | (simp only [aadd_block] <;> first | assumption | omega))); (focus ((repeat' (first | exact Keep.refl | assumption | (apply Keep.push) | (refine Keep.put ?_ ?_; rotate_left; (focus (intro hlt; first | assumption | omega | (exfalso; simp only [AHeap.push_next, AHeap.put_next, aadd_block] at hlt; omega)))))); done))))) (hv := by exact rfl) (h := ?_)
      | refine ew_convI _ (hv := by first | exact conv_u8 _ | exact rfl) (h := ?_)
      | refine ew_conv (hn := r_conv_br (h := by first | assumption | (apply Rd.keep0; (focus assumption); ((repeat' (first | exact Keep.refl | assumption | (apply Keep.push) | (refine Keep.put ?_ ?_; rotate_left; (focus (intro hlt; first | assumption | omega | (exfalso; simp only [AHeap.push_next, AHeap.put_next, aadd_block] at hlt; omega)))))); done)))) (h := ?_)
      | (refine ew_fresh ?_; intro b hb; (first | refine ew_n (hn := (r_alloc hb)) (h := ?_)); (try simp only [AHeap.push_next, AHeap.put_next] at hb))
      | refine ew_e (he := er_store (hc := by (apply setCells_at; (focus ((repeat' (first | assumption | (rw [aadd_block]) | (apply gN; (focus (first | exact rfl | omega | (simp only [AHeap.push_next, AHeap.put_next, aadd_block] <;> omega))); (focus exact rfl)) | (apply gO; (focus (first | omega | (simp only [AHeap.push_next, AHeap.put_next, aadd_block, ne_eq] <;> omega)))) | (apply gS; (focus (first | exact rfl | omega | (simp only [AHeap.push_next, AHeap.put_next, aadd_block] <;> omega))); (focus exact rfl)) | (apply gP; (focus (first | omega | (simp only [AHeap.push_next, AHeap.put_next, aadd_block, ne_eq] <;> omega)))) | exact rfl)); done)); (focus exact rfl); (focus (first | exact Nat.le_of_ble_eq_true rfl | (simp; omega) | (simp; done) | (simp [Value.cells]; omega))); (focus (first | exact rfl | (simp; done))); (focus (first | exact (rfl : _ = [_]) | exact (rfl : _ = [_, _, _]) | exact rfl)); (focus (first | exact aadd_block _ _ | exact rfl))))) (hk := by (first | exact Mode.kept_seq rfl | (dsimp only [Mode.kept, Mode.logged, Mode.at]; (repeat' (first | exact (fun _ h => absurd h List.not_mem_nil) | (refine List.forall_mem_cons.2 ⟨?_, ?_⟩) | (refine .inl ?_; exact rfl) | (refine .inl ?_; dsimp only; decide))); done))) (h := ?_)
      | (refine ew_dec (hn := r_streq) (ht := ?_) (hf := ?_) <;> intro _)
      | (refine ew_dec (hn := (r_bin (hr := by (first | exact ib_eql | exact ib_geq | exact ib_lss | exact ib_neq)))) (ht := ?_) (hf := ?_) <;> intro _)
      | refine ew_n (hn := r_bin (hr := by (first | exact ib_xor8 _ _ | (simp (disch := omega) only [intBin, wrap_in, wrap8_in, tdiv_in, tmod_in, if_false, reduceIte]; exact rfl) | (apply ib_rem; omega)))) (h := ?_)
      | (refine w_nil ?_)
      | (refine w_nilD ?_))
    | (show EC _ _ _ _ _ _ _; first | (refine k_seq ?_) | (refine k_region ?_) | (refine k_draw (h := ?_)) | (refine k_skip ?_) | (refine k_ret ?_) | (refine k_exit ?_) | (refine k_block ?_) | (refine k_true (h := ?_)) | (refine k_false (h := ?_)))
    | (show EX _ (bodyA _ _ _) _ _ _; first | (refine x_end1 (hq := ?_)))
    | (show EX _ _ _ _ _; first | (refine x_normal ?_) | (refine x_ret ?_) | (refine x_exit ?_) | (refine x_same ?_) | (refine x_other (h := ?_)) | (refine x_bnormal ?_) | (refine x_bret ?_)))
    (first | (refine' ew_callS (hc := cr_call) (hR := ?_) (h := ?_); rotate_left 1) | (refine' ew_call (hc := cr_call) (hR := ?_) (h := ?_); rotate_left 1))
    · exact bits_calls _ hbr6 hbr' (by omega)
    rintro _ H6 ⟨rfl, rfl⟩
    refine ⟨by (dsimp only [Mode.kept, Mode.logged, Mode.at]; (repeat' (first | exact (fun _ h => absurd h List.not_mem_nil) | (refine List.forall_mem_cons.2 ⟨?_, ?_⟩) | (refine .inl ?_; exact rfl) | (refine .inl ?_; dsimp only; decide) | (refine .inr ?_; exact rfl)))), ?_⟩
    have hone : bitsP x'.2.2 x.2.2 = 1 := by rw [hx2]; exact bitsP_flip _ _ hb0 hkn
    rw [hone]
    -- the bytes
    have hbn := flipB_at x.2.2 bit hkn
    rw [← hx2] at hbn
    have hbw : x.2.2[(bit / 8).toNat]? = some (x.2.2.getD (bit / 8).toNat 0) := by simp [List.getD, hkn]
    obtain ⟨adn, cn, hvn, _, hltn, hcn⟩ := BR.at hbr6 hbn
    obtain ⟨adv, cv, hvv, _, hltv, hcv⟩ := BR.at hbr' hbw
    simp only [Value.slice.injEq, true_and] at hvn hvv
    obtain ⟨rfl, rfl⟩ := hvn
    obtain ⟨rfl, rfl⟩ := hvv
    have hcn' : H6.cellsAt (aadd adn ((bit / 8).toNat * 1)) 1 = some [.int .u8 ((x.2.2.getD (bit / 8).toNat 0 ^^^ maskB bit).toNat : Int)] := hcn
    have hcv' : H6.cellsAt (aadd adv ((bit / 8).toNat * 1)) 1 = some [.int .u8 ((x.2.2.getD (bit / 8).toNat 0).toNat : Int)] := hcv
    have hsh := shl64 bit hb0
    have hxm := xor_mask (x.2.2.getD (bit / 8).toNat 0) (maskB bit)
    have hsh' : IntKind.i64.wrap (1 * 2 ^ min (bit % 8).toNat IntKind.i64.bits) = (((x.2.2.getD (bit / 8).toNat 0 ^^^ maskB bit) ^^^ x.2.2.getD (bit / 8).toNat 0).toNat : Int) := by rw [hxm]; exact hsh
    repeat' (first
    | (show EW _ _ _ _ _; first
      | refine ew_n (hn := r_move) (h := ?_)
      | refine ew_n (hn := r_assign) (h := ?_)
      | refine ew_n (hn := r_pick_t) (h := ?_)
      | refine ew_n (hn := r_pick_f) (h := ?_)
      | refine ew_n (hn := r_field) (h := ?_)
      | refine ew_n (hn := r_len) (h := ?_)
      | refine ew_n (hn := r_len_str) (h := ?_)
      | refine ew_n (hn := r_not) (h := ?_)
      | refine ew_n (hn := r_extract) (h := ?_)
      | refine ew_n (hn := (r_index (h0 := by omega) (h1 := by first | omega | (simp; done) | (simp; omega)))) (h := ?_)
      | refine ew_n (hn := r_nil_eq) (h := ?_)
      | refine ew_n (hn := r_beq) (h := ?_)
      | refine ew_n (hn := r_nil_ne) (h := ?_)
      | refine ew_n (hn := r_bne) (h := ?_)
      | refine ew_n (hn := (r_slice (h := by assumption))) (h := ?_)
      | refine ew_n (hn := (r_shl (hn := by omega))) (h := ?_)
      | refine ew_n (hn := (r_bin (hr := by first | (apply cmp_t; (focus (first | exact ib_eql | exact ib_geq | exact ib_lss | exact ib_neq)); omega) | (apply cmp_f; (focus (first | exact ib_eql | exact ib_geq | exact ib_lss | exact ib_neq)); omega)))) (h := ?_)
      | refine ew_skip (h := ?_)
      | refine ew_load (hc := by (first | assumption | (apply cells_row; (focus ((repeat' (first | assumption | (rw [aadd_block]) | (apply gN; (focus (first | exact rfl | omega | (simp only [AHeap.push_next, AHeap.put_next, aadd_block] <;> omega))); (focus exact rfl)) | (apply gO; (focus (first | omega | (simp only [AHeap.push_next, AHeap.put_next, aadd_block, ne_eq] <;> omega)))) | (apply gS; (focus (first | exact rfl | omega | (simp only [AHeap.push_next, AHeap.put_next, aadd_block] <;> omega))); (focus exact rfl)) | (apply gP; (focus (first | omega | (simp only [AHeap.push_next, AHeap.put_next, aadd_block, ne_eq] <;> omega)))) | exact rfl)); done)); (focus exact rfl); (focus exact rfl); (focus (first | exact (rfl : _ = some [_]) | exact (rfl : _ = some [_, _, _])))) | (apply cells_k; (focus assumption); (focus (first | assumption | (simp only [aadd_block] <;> first | assumption | omega))); (focus ((repeat' (first | exact Keep.refl | assumption | (apply Keep.push) | (refine Keep.put ?_ ?_; rotate_left; (focus (intro hlt; first | assumption | omega | (exfalso; simp only [AHeap.push_next, AHeap.put_next, aadd_block] at hlt; omega)))))); done))))) (hv := by exact rfl) (h := ?_)
      | refine ew_convI _ (hv := by first | exact conv_u8 _ | exact rfl) (h := ?_)
      | refine ew_conv (hn := r_conv_br (h := by first | assumption | (apply Rd.keep0; (focus assumption); ((repeat' (first | exact Keep.refl | assumption | (apply Keep.push) | (refine Keep.put ?_ ?_; rotate_left; (focus (intro hlt; first | assumption | omega | (exfalso; simp only [AHeap.push_next, AHeap.put_next, aadd_block] at hlt; omega)))))); done)))) (h := ?_)
      | (refine ew_fresh ?_; intro b hb; (first | refine ew_n (hn := (r_alloc hb)) (h := ?_)); (try simp only [AHeap.push_next, AHeap.put_next] at hb))
      | refine ew_e (he := er_store (hc := by (apply setCells_at; (focus ((repeat' (first | assumption | (rw [aadd_block]) | (apply gN; (focus (first | exact rfl | omega | (simp only [AHeap.push_next, AHeap.put_next, aadd_block] <;> omega))); (focus exact rfl)) | (apply gO; (focus (first | omega | (simp only [AHeap.push_next, AHeap.put_next, aadd_block, ne_eq] <;> omega)))) | (apply gS; (focus (first | exact rfl | omega | (simp only [AHeap.push_next, AHeap.put_next, aadd_block] <;> omega))); (focus exact rfl)) | (apply gP; (focus (first | omega | (simp only [AHeap.push_next, AHeap.put_next, aadd_block, ne_eq] <;> omega)))) | exact rfl)); done)); (focus exact rfl); (focus (first | exact Nat.le_of_ble_eq_true rfl | (simp; omega) | (simp; done) | (simp [Value.cells]; omega))); (focus (first | exact rfl | (simp; done))); (focus (first | exact (rfl : _ = [_]) | exact (rfl : _ = [_, _, _]) | exact rfl)); (focus (first | exact aadd_block _ _ | exact rfl))))) (hk := by (first | exact Mode.kept_seq rfl | (dsimp only [Mode.kept, Mode.logged, Mode.at]; (repeat' (first | exact (fun _ h => absurd h List.not_mem_nil) | (refine List.forall_mem_cons.2 ⟨?_, ?_⟩) | (refine .inl ?_; exact rfl) | (refine .inl ?_; dsimp only; decide))); done))) (h := ?_)
      | (refine ew_dec (hn := r_streq) (ht := ?_) (hf := ?_) <;> intro _)
      | (refine ew_dec (hn := (r_bin (hr := by (first | exact ib_eql | exact ib_geq | exact ib_lss | exact ib_neq)))) (ht := ?_) (hf := ?_) <;> intro _)
      | refine ew_n (hn := r_bin (hr := by (first | exact ib_xor8 _ _ | (simp (disch := omega) only [intBin, wrap_in, wrap8_in, tdiv_in, tmod_in, if_false, reduceIte]; exact rfl) | (apply ib_rem; omega)))) (h := ?_)
      | (refine w_nil ?_)
      | (refine w_nilD ?_))
    | (show EC _ _ _ _ _ _ _; first | (refine k_seq ?_) | (refine k_region ?_) | (refine k_draw (h := ?_)) | (refine k_skip ?_) | (refine k_ret ?_) | (refine k_exit ?_) | (refine k_block ?_) | (refine k_true (h := ?_)) | (refine k_false (h := ?_)))
    | (show EX _ (bodyA _ _ _) _ _ _; first | (refine x_end1 (hq := ?_)))
    | (show EX _ _ _ _ _; first | (refine x_normal ?_) | (refine x_ret ?_) | (refine x_exit ?_) | (refine x_same ?_) | (refine x_other (h := ?_)) | (refine x_bnormal ?_) | (refine x_bret ?_)))
    (first | (refine' ew_callS (hc := cr_call) (hR := ?_) (h := ?_); rotate_left 1) | (refine' ew_call (hc := cr_call) (hR := ?_) (h := ?_); rotate_left 1))
    · exact flipM j bit t6.a hb1 hb2
    have hflip2 : flipP (M.set j x') j bit = (true, M) := by
      unfold flipP
      rw [atI_nat, hset]
      simp only
      rw [if_neg (by omega), Int.toNat_natCast]
      have : (x'.1, x'.2.1, flipB x'.2.2 bit) = x := by rw [hx2, flipB_flipB _ _ hkn, hx']
      rw [this, set_set_same _ _ _ _ hx]
    simp only [hflip2]
    rintro _ H7 ⟨rfl, hk7, hN7⟩
    have t7 := t6.stepA hk7 hN7 Grow.refl
    repeat' (first
    | (show EW _ _ _ _ _; first
      | refine ew_n (hn := r_move) (h := ?_)
      | refine ew_n (hn := r_assign) (h := ?_)
      | refine ew_n (hn := r_pick_t) (h := ?_)
      | refine ew_n (hn := r_pick_f) (h := ?_)
      | refine ew_n (hn := r_field) (h := ?_)
      | refine ew_n (hn := r_len) (h := ?_)
      | refine ew_n (hn := r_len_str) (h := ?_)
      | refine ew_n (hn := r_not) (h := ?_)
      | refine ew_n (hn := r_extract) (h := ?_)
      | refine ew_n (hn := (r_index (h0 := by omega) (h1 := by first | omega | (simp; done) | (simp; omega)))) (h := ?_)
      | refine ew_n (hn := r_nil_eq) (h := ?_)
      | refine ew_n (hn := r_beq) (h := ?_)
      | refine ew_n (hn := r_nil_ne) (h := ?_)
      | refine ew_n (hn := r_bne) (h := ?_)
      | refine ew_n (hn := (r_slice (h := by assumption))) (h := ?_)
      | refine ew_n (hn := (r_shl (hn := by omega))) (h := ?_)
      | refine ew_n (hn := (r_bin (hr := by first | (apply cmp_t; (focus (first | exact ib_eql | exact ib_geq | exact ib_lss | exact ib_neq)); omega) | (apply cmp_f; (focus (first | exact ib_eql | exact ib_geq | exact ib_lss | exact ib_neq)); omega)))) (h := ?_)
      | refine ew_skip (h := ?_)
      | refine ew_load (hc := by (first | assumption | (apply cells_row; (focus ((repeat' (first | assumption | (rw [aadd_block]) | (apply gN; (focus (first | exact rfl | omega | (simp only [AHeap.push_next, AHeap.put_next, aadd_block] <;> omega))); (focus exact rfl)) | (apply gO; (focus (first | omega | (simp only [AHeap.push_next, AHeap.put_next, aadd_block, ne_eq] <;> omega)))) | (apply gS; (focus (first | exact rfl | omega | (simp only [AHeap.push_next, AHeap.put_next, aadd_block] <;> omega))); (focus exact rfl)) | (apply gP; (focus (first | omega | (simp only [AHeap.push_next, AHeap.put_next, aadd_block, ne_eq] <;> omega)))) | exact rfl)); done)); (focus exact rfl); (focus exact rfl); (focus (first | exact (rfl : _ = some [_]) | exact (rfl : _ = some [_, _, _])))) | (apply cells_k; (focus assumption); (focus (first | assumption | (simp only [aadd_block] <;> first | assumption | omega))); (focus ((repeat' (first | exact Keep.refl | assumption | (apply Keep.push) | (refine Keep.put ?_ ?_; rotate_left; (focus (intro hlt; first | assumption | omega | (exfalso; simp only [AHeap.push_next, AHeap.put_next, aadd_block] at hlt; omega)))))); done))))) (hv := by exact rfl) (h := ?_)
      | refine ew_convI _ (hv := by first | exact conv_u8 _ | exact rfl) (h := ?_)
      | refine ew_conv (hn := r_conv_br (h := by first | assumption | (apply Rd.keep0; (focus assumption); ((repeat' (first | exact Keep.refl | assumption | (apply Keep.push) | (refine Keep.put ?_ ?_; rotate_left; (focus (intro hlt; first | assumption | omega | (exfalso; simp only [AHeap.push_next, AHeap.put_next, aadd_block] at hlt; omega)))))); done)))) (h := ?_)
      | (refine ew_fresh ?_; intro b hb; (first | refine ew_n (hn := (r_alloc hb)) (h := ?_)); (try simp only [AHeap.push_next, AHeap.put_next] at hb))
      | refine ew_e (he := er_store (hc := by (apply setCells_at; (focus ((repeat' (first | assumption | (rw [aadd_block]) | (apply gN; (focus (first | exact rfl | omega | (simp only [AHeap.push_next, AHeap.put_next, aadd_block] <;> omega))); (focus exact rfl)) | (apply gO; (focus (first | omega | (simp only [AHeap.push_next, AHeap.put_next, aadd_block, ne_eq] <;> omega)))) | (apply gS; (focus (first | exact rfl | omega | (simp only [AHeap.push_next, AHeap.put_next, aadd_block] <;> omega))); (focus exact rfl)) | (apply gP; (focus (first | omega | (simp only [AHeap.push_next, AHeap.put_next, aadd_block, ne_eq] <;> omega)))) | exact rfl)); done)); (focus exact rfl); (focus (first | exact Nat.le_of_ble_eq_true rfl | (simp; omega) | (simp; done) | (simp [Value.cells]; omega))); (focus (first | exact rfl | (simp; done))); (focus (first | exact (rfl : _ = [_]) | exact (rfl : _ = [_, _, _]) | exact rfl)); (focus (first | exact aadd_block _ _ | exact rfl))))) (hk := by (first | exact Mode.kept_seq rfl | (dsimp only [Mode.kept, Mode.logged, Mode.at]; (repeat' (first | exact (fun _ h => absurd h List.not_mem_nil) | (refine List.forall_mem_cons.2 ⟨?_, ?_⟩) | (refine .inl ?_; exact rfl) | (refine .inl ?_; dsimp only; decide))); done))) (h := ?_)
      | (refine ew_dec (hn := r_streq) (ht := ?_) (hf := ?_) <;> intro _)
      | (refine ew_dec (hn := (r_bin (hr := by (first | exact ib_eql | exact ib_geq | exact ib_lss | exact ib_neq)))) (ht := ?_) (hf := ?_) <;> intro _)
      | refine ew_n (hn := r_bin (hr := by (first | exact ib_xor8 _ _ | (simp (disch := omega) only [intBin, wrap_in, wrap8_in, tdiv_in, tmod_in, if_false, reduceIte]; exact rfl) | (apply ib_rem; omega)))) (h := ?_)
      | (refine w_nil ?_)
      | (refine w_nilD ?_))
    | (show EC _ _ _ _ _ _ _; first | (refine k_seq ?_) | (refine k_region ?_) | (refine k_draw (h := ?_)) | (refine k_skip ?_) | (refine k_ret ?_) | (refine k_exit ?_) | (refine k_block ?_) | (refine k_true (h := ?_)) | (refine k_false (h := ?_)))
    | (show EX _ (bodyA _ _ _) _ _ _; first | (refine x_end1 (hq := ?_)))
    | (show EX _ _ _ _ _; first | (refine x_normal ?_) | (refine x_ret ?_) | (refine x_exit ?_) | (refine x_same ?_) | (refine x_other (h := ?_)) | (refine x_bnormal ?_) | (refine x_bret ?_)))
    (first | (refine' ew_callS (hc := cr_call) (hR := ?_) (h := ?_); rotate_left 1) | (refine' ew_call (hc := cr_call) (hR := ?_) (h := ?_); rotate_left 1))
    · exact listM t7.a
    rintro nN HN ⟨hk8, LN, hLN, hm8⟩
    have hk6 := hk8
    have hm6 := hm8
    clear hk8 hm8
    have tN := t7.keep0 hk6
    have rN := hLN.reads
    rw [hm6] at rN
    obtain ⟨zN, cN, rfl⟩ := rN.slice
    generalize New H7 HN = GN at rN hLN
    repeat' (first
    | (show EW _ _ _ _ _; first
      | refine ew_n (hn := r_move) (h := ?_)
      | refine ew_n (hn := r_assign) (h := ?_)
      | refine ew_n (hn := r_pick_t) (h := ?_)
      | refine ew_n (hn := r_pick_f) (h := ?_)
      | refine ew_n (hn := r_field) (h := ?_)
      | refine ew_n (hn := r_len) (h := ?_)
      | refine ew_n (hn := r_len_str) (h := ?_)
      | refine ew_n (hn := r_not) (h := ?_)
      | refine ew_n (hn := r_extract) (h := ?_)
      | refine ew_n (hn := (r_index (h0 := by omega) (h1 := by first | omega | (simp; done) | (simp; omega)))) (h := ?_)
      | refine ew_n (hn := r_nil_eq) (h := ?_)
      | refine ew_n (hn := r_beq) (h := ?_)
      | refine ew_n (hn := r_nil_ne) (h := ?_)
      | refine ew_n (hn := r_bne) (h := ?_)
      | refine ew_n (hn := (r_slice (h := by assumption))) (h := ?_)
      | refine ew_n (hn := (r_shl (hn := by omega))) (h := ?_)
      | refine ew_n (hn := (r_bin (hr := by first | (apply cmp_t; (focus (first | exact ib_eql | exact ib_geq | exact ib_lss | exact ib_neq)); omega) | (apply cmp_f; (focus (first | exact ib_eql | exact ib_geq | exact ib_lss | exact ib_neq)); omega)))) (h := ?_)
      | refine ew_skip (h := ?_)
      | refine ew_load (hc := by (first | assumption | (apply cells_row; (focus ((repeat' (first | assumption | (rw [aadd_block]) | (apply gN; (focus (first | exact rfl | omega | (simp only [AHeap.push_next, AHeap.put_next, aadd_block] <;> omega))); (focus exact rfl)) | (apply gO; (focus (first | omega | (simp only [AHeap.push_next, AHeap.put_next, aadd_block, ne_eq] <;> omega)))) | (apply gS; (focus (first | exact rfl | omega | (simp only [AHeap.push_next, AHeap.put_next, aadd_block] <;> omega))); (focus exact rfl)) | (apply gP; (focus (first | omega | (simp only [AHeap.push_next, AHeap.put_next, aadd_block, ne_eq] <;> omega)))) | exact rfl)); done)); (focus exact rfl); (focus exact rfl); (focus (first | exact (rfl : _ = some [_]) | exact (rfl : _ = some [_, _, _])))) | (apply cells_k; (focus assumption); (focus (first | assumption | (simp only [aadd_block] <;> first | assumption | omega))); (focus ((repeat' (first | exact Keep.refl | assumption | (apply Keep.push) | (refine Keep.put ?_ ?_; rotate_left; (focus (intro hlt; first | assumption | omega | (exfalso; simp only [AHeap.push_next, AHeap.put_next, aadd_block] at hlt; omega)))))); done))))) (hv := by exact rfl) (h := ?_)
      | refine ew_convI _ (hv := by first | exact conv_u8 _ | exact rfl) (h := ?_)
      | refine ew_conv (hn := r_conv_br (h := by first | assumption | (apply Rd.keep0; (focus assumption); ((repeat' (first | exact Keep.refl | assumption | (apply Keep.push) | (refine Keep.put ?_ ?_; rotate_left; (focus (intro hlt; first | assumption | omega | (exfalso; simp only [AHeap.push_next, AHeap.put_next, aadd_block] at hlt; omega)))))); done)))) (h := ?_)
      | (refine ew_fresh ?_; intro b hb; (first | refine ew_n (hn := (r_alloc hb)) (h := ?_)); (try simp only [AHeap.push_next, AHeap.put_next] at hb))
      | refine ew_e (he := er_store (hc := by (apply setCells_at; (focus ((repeat' (first | assumption | (rw [aadd_block]) | (apply gN; (focus (first | exact rfl | omega | (simp only [AHeap.push_next, AHeap.put_next, aadd_block] <;> omega))); (focus exact rfl)) | (apply gO; (focus (first | omega | (simp only [AHeap.push_next, AHeap.put_next, aadd_block, ne_eq] <;> omega)))) | (apply gS; (focus (first | exact rfl | omega | (simp only [AHeap.push_next, AHeap.put_next, aadd_block] <;> omega))); (focus exact rfl)) | (apply gP; (focus (first | omega | (simp only [AHeap.push_next, AHeap.put_next, aadd_block, ne_eq] <;> omega)))) | exact rfl)); done)); (focus exact rfl); (focus (first | exact Nat.le_of_ble_eq_true rfl | (simp; omega) | (simp; done) | (simp [Value.cells]; omega))); (focus (first | exact rfl | (simp; done))); (focus (first | exact (rfl : _ = [_]) | exact (rfl : _ = [_, _, _]) | exact rfl)); (focus (first | exact aadd_block _ _ | exact rfl))))) (hk := by (first | exact Mode.kept_seq rfl | (dsimp only [Mode.kept, Mode.logged, Mode.at]; (repeat' (first | exact (fun _ h => absurd h List.not_mem_nil) | (refine List.forall_mem_cons.2 ⟨?_, ?_⟩) | (refine .inl ?_; exact rfl) | (refine .inl ?_; dsimp only; decide))); done))) (h := ?_)
      | (refine ew_dec (hn := r_streq) (ht := ?_) (hf := ?_) <;> intro _)
      | (refine ew_dec (hn := (r_bin (hr := by (first | exact ib_eql | exact ib_geq | exact ib_lss | exact ib_neq)))) (ht := ?_) (hf := ?_) <;> intro _)
      | refine ew_n (hn := r_bin (hr := by (first | exact ib_xor8 _ _ | (simp (disch := omega) only [intBin, wrap_in, wrap8_in, tdiv_in, tmod_in, if_false, reduceIte]; exact rfl) | (apply ib_rem; omega)))) (h := ?_)
      | (refine w_nil ?_)
      | (refine w_nilD ?_))
    | (show EC _ _ _ _ _ _ _; first | (refine k_seq ?_) | (refine k_region ?_) | (refine k_draw (h := ?_)) | (refine k_skip ?_) | (refine k_ret ?_) | (refine k_exit ?_) | (refine k_block ?_) | (refine k_true (h := ?_)) | (refine k_false (h := ?_)))
    | (show EX _ (bodyA _ _ _) _ _ _; first | (refine x_end1 (hq := ?_)))
    | (show EX _ _ _ _ _; first | (refine x_normal ?_) | (refine x_ret ?_) | (refine x_exit ?_) | (refine x_same ?_) | (refine x_other (h := ?_)) | (refine x_bnormal ?_) | (refine x_bret ?_)))
  all_goals (
    have hML : (M ++ [x]).length = M.length + 1 := by simp
    (first | (refine' ew_callS (hc := cr_call) (hR := ?_) (h := ?_); rotate_left 1) | (refine' ew_call (hc := cr_call) (hR := ?_) (h := ?_); rotate_left 1))
    · exact same_calls _ rN tN.w (by omega)
    rintro _ H7 ⟨rfl, hk7⟩
    have t7 := tN.keep0 hk7
    rw [decide_eq_true rfl]
    repeat' (first
    | (show EW _ _ _ _ _; first
      | refine ew_n (hn := r_move) (h := ?_)
      | refine ew_n (hn := r_assign) (h := ?_)
      | refine ew_n (hn := r_pick_t) (h := ?_)
      | refine ew_n (hn := r_pick_f) (h := ?_)
      | refine ew_n (hn := r_field) (h := ?_)
      | refine ew_n (hn := r_len) (h := ?_)
      | refine ew_n (hn := r_len_str) (h := ?_)
      | refine ew_n (hn := r_not) (h := ?_)
      | refine ew_n (hn := r_extract) (h := ?_)
      | refine ew_n (hn := (r_index (h0 := by omega) (h1 := by first | omega | (simp; done) | (simp; omega)))) (h := ?_)
      | refine ew_n (hn := r_nil_eq) (h := ?_)
      | refine ew_n (hn := r_beq) (h := ?_)
      | refine ew_n (hn := r_nil_ne) (h := ?_)
      | refine ew_n (hn := r_bne) (h := ?_)
      | refine ew_n (hn := (r_slice (h := by assumption))) (h := ?_)
      | refine ew_n (hn := (r_shl (hn := by omega))) (h := ?_)
      | refine ew_n (hn := (r_bin (hr := by first | (apply cmp_t; (focus (first | exact ib_eql | exact ib_geq | exact ib_lss | exact ib_neq)); omega) | (apply cmp_f; (focus (first | exact ib_eql | exact ib_geq | exact ib_lss | exact ib_neq)); omega)))) (h := ?_)
      | refine ew_skip (h := ?_)
      | refine ew_load (hc := by (first | assumption | (apply cells_row; (focus ((repeat' (first | assumption | (rw [aadd_block]) | (apply gN; (focus (first | exact rfl | omega | (simp only [AHeap.push_next, AHeap.put_next, aadd_block] <;> omega))); (focus exact rfl)) | (apply gO; (focus (first | omega | (simp only [AHeap.push_next, AHeap.put_next, aadd_block, ne_eq] <;> omega)))) | (apply gS; (focus (first | exact rfl | omega | (simp only [AHeap.push_next, AHeap.put_next, aadd_block] <;> omega))); (focus exact rfl)) | (apply gP; (focus (first | omega | (simp only [AHeap.push_next, AHeap.put_next, aadd_block, ne_eq] <;> omega)))) | exact rfl)); done)); (focus exact rfl); (focus exact rfl); (focus (first | exact (rfl : _ = some [_]) | exact (rfl : _ = some [_, _, _])))) | (apply cells_k; (focus assumption); (focus (first | assumption | (simp only [aadd_block] <;> first | assumption | omega))); (focus ((repeat' (first | exact Keep.refl | assumption | (apply Keep.push) | (refine Keep.put ?_ ?_; rotate_left; (focus (intro hlt; first | assumption | omega | (exfalso; simp only [AHeap.push_next, AHeap.put_next, aadd_block] at hlt; omega)))))); done))))) (hv := by exact rfl) (h := ?_)
      | refine ew_convI _ (hv := by first | exact conv_u8 _ | exact rfl) (h := ?_)
      | refine ew_conv (hn := r_conv_br (h := by first | assumption | (apply Rd.keep0; (focus assumption); ((repeat' (first | exact Keep.refl | assumption | (apply Keep.push) | (refine Keep.put ?_ ?_; rotate_left; (focus (intro hlt; first | assumption | omega | (exfalso; simp only [AHeap.push_next, AHeap.put_next, aadd_block] at hlt; omega)))))); done)))) (h := ?_)
      | (refine ew_fresh ?_; intro b hb; (first | refine ew_n (hn := (r_alloc hb)) (h := ?_)); (try simp only [AHeap.push_next, AHeap.put_next] at hb))
      | refine ew_e (he := er_store (hc := by (apply setCells_at; (focus ((repeat' (first | assumption | (rw [aadd_block]) | (apply gN; (focus (first | exact rfl | omega | (simp only [AHeap.push_next, AHeap.put_next, aadd_block] <;> omega))); (focus exact rfl)) | (apply gO; (focus (first | omega | (simp only [AHeap.push_next, AHeap.put_next, aadd_block, ne_eq] <;> omega)))) | (apply gS; (focus (first | exact rfl | omega | (simp only [AHeap.push_next, AHeap.put_next, aadd_block] <;> omega))); (focus exact rfl)) | (apply gP; (focus (first | omega | (simp only [AHeap.push_next, AHeap.put_next, aadd_block, ne_eq] <;> omega)))) | exact rfl)); done)); (focus exact rfl); (focus (first | exact Nat.le_of_ble_eq_true rfl | (simp; omega) | (simp; done) | (simp [Value.cells]; omega))); (focus (first | exact rfl | (simp; done))); (focus (first | exact (rfl : _ = [_]) | exact (rfl : _ = [_, _, _]) | exact rfl)); (focus (first | exact aadd_block _ _ | exact rfl))))) (hk := by (first | exact Mode.kept_seq rfl | (dsimp only [Mode.kept, Mode.logged, Mode.at]; (repeat' (first | exact (fun _ h => absurd h List.not_mem_nil) | (refine List.forall_mem_cons.2 ⟨?_, ?_⟩) | (refine .inl ?_; exact rfl) | (refine .inl ?_; dsimp only; decide))); done))) (h := ?_)
      | (refine ew_dec (hn := r_streq) (ht := ?_) (hf := ?_) <;> intro _)
      | (refine ew_dec (hn := (r_bin (hr := by (first | exact ib_eql | exact ib_geq | exact ib_lss | exact ib_neq)))) (ht := ?_) (hf := ?_) <;> intro _)
      | refine ew_n (hn := r_bin (hr := by (first | exact ib_xor8 _ _ | (simp (disch := omega) only [intBin, wrap_in, wrap8_in, tdiv_in, tmod_in, if_false, reduceIte]; exact rfl) | (apply ib_rem; omega)))) (h := ?_)
      | (refine w_nil ?_)
      | (refine w_nilD ?_))
    | (show EC _ _ _ _ _ _ _; first | (refine k_seq ?_) | (refine k_region ?_) | (refine k_draw (h := ?_)) | (refine k_skip ?_) | (refine k_ret ?_) | (refine k_exit ?_) | (refine k_block ?_) | (refine k_true (h := ?_)) | (refine k_false (h := ?_)))
    | (show EX _ (bodyA _ _ _) _ _ _; first | (refine x_end1 (hq := ?_)))
    | (show EX _ _ _ _ _; first | (refine x_normal ?_) | (refine x_ret ?_) | (refine x_exit ?_) | (refine x_same ?_) | (refine x_other (h := ?_)) | (refine x_bnormal ?_) | (refine x_bret ?_)))
    (first | (refine' ew_callS (hc := cr_call) (hR := ?_) (h := ?_); rotate_left 1) | (refine' ew_call (hc := cr_call) (hR := ?_) (h := ?_); rotate_left 1))
    · exact copyM j t7.a
    have hcopy : copyP M j = (0, M ++ [x]) := by unfold copyP; rw [hat]; simp only; rw [if_neg (by omega)]
    simp only [hcopy]
    rintro _ H8 ⟨rfl, hk8, Fa8, hN8, hg8⟩
    have t8 := t7.stepA hk8 hN8 hg8
    repeat' (first
    | (show EW _ _ _ _ _; first
      | refine ew_n (hn := r_move) (h := ?_)
      | refine ew_n (hn := r_assign) (h := ?_)
      | refine ew_n (hn := r_pick_t) (h := ?_)
      | refine ew_n (hn := r_pick_f) (h := ?_)
      | refine ew_n (hn := r_field) (h := ?_)
      | refine ew_n (hn := r_len) (h := ?_)
      | refine ew_n (hn := r_len_str) (h := ?_)
      | refine ew_n (hn := r_not) (h := ?_)
      | refine ew_n (hn := r_extract) (h := ?_)
      | refine ew_n (hn := (r_index (h0 := by omega) (h1 := by first | omega | (simp; done) | (simp; omega)))) (h := ?_)
      | refine ew_n (hn := r_nil_eq) (h := ?_)
      | refine ew_n (hn := r_beq) (h := ?_)
      | refine ew_n (hn := r_nil_ne) (h := ?_)
      | refine ew_n (hn := r_bne) (h := ?_)
      | refine ew_n (hn := (r_slice (h := by assumption))) (h := ?_)
      | refine ew_n (hn := (r_shl (hn := by omega))) (h := ?_)
      | refine ew_n (hn := (r_bin (hr := by first | (apply cmp_t; (focus (first | exact ib_eql | exact ib_geq | exact ib_lss | exact ib_neq)); omega) | (apply cmp_f; (focus (first | exact ib_eql | exact ib_geq | exact ib_lss | exact ib_neq)); omega)))) (h := ?_)
      | refine ew_skip (h := ?_)
      | refine ew_load (hc := by (first | assumption | (apply cells_row; (focus ((repeat' (first | assumption | (rw [aadd_block]) | (apply gN; (focus (first | exact rfl | omega | (simp only [AHeap.push_next, AHeap.put_next, aadd_block] <;> omega))); (focus exact rfl)) | (apply gO; (focus (first | omega | (simp only [AHeap.push_next, AHeap.put_next, aadd_block, ne_eq] <;> omega)))) | (apply gS; (focus (first | exact rfl | omega | (simp only [AHeap.push_next, AHeap.put_next, aadd_block] <;> omega))); (focus exact rfl)) | (apply gP; (focus (first | omega | (simp only [AHeap.push_next, AHeap.put_next, aadd_block, ne_eq] <;> omega)))) | exact rfl)); done)); (focus exact rfl); (focus exact rfl); (focus (first | exact (rfl : _ = some [_]) | exact (rfl : _ = some [_, _, _])))) | (apply cells_k; (focus assumption); (focus (first | assumption | (simp only [aadd_block] <;> first | assumption | omega))); (focus ((repeat' (first | exact Keep.refl | assumption | (apply Keep.push) | (refine Keep.put ?_ ?_; rotate_left; (focus (intro hlt; first | assumption | omega | (exfalso; simp only [AHeap.push_next, AHeap.put_next, aadd_block] at hlt; omega)))))); done))))) (hv := by exact rfl) (h := ?_)
      | refine ew_convI _ (hv := by first | exact conv_u8 _ | exact rfl) (h := ?_)
      | refine ew_conv (hn := r_conv_br (h := by first | assumption | (apply Rd.keep0; (focus assumption); ((repeat' (first | exact Keep.refl | assumption | (apply Keep.push) | (refine Keep.put ?_ ?_; rotate_left; (focus (intro hlt; first | assumption | omega | (exfalso; simp only [AHeap.push_next, AHeap.put_next, aadd_block] at hlt; omega)))))); done)))) (h := ?_)
      | (refine ew_fresh ?_; intro b hb; (first | refine ew_n (hn := (r_alloc hb)) (h := ?_)); (try simp only [AHeap.push_next, AHeap.put_next] at hb))
      | refine ew_e (he := er_store (hc := by (apply setCells_at; (focus ((repeat' (first | assumption | (rw [aadd_block]) | (apply gN; (focus (first | exact rfl | omega | (simp only [AHeap.push_next, AHeap.put_next, aadd_block] <;> omega))); (focus exact rfl)) | (apply gO; (focus (first | omega | (simp only [AHeap.push_next, AHeap.put_next, aadd_block, ne_eq] <;> omega)))) | (apply gS; (focus (first | exact rfl | omega | (simp only [AHeap.push_next, AHeap.put_next, aadd_block] <;> omega))); (focus exact rfl)) | (apply gP; (focus (first | omega | (simp only [AHeap.push_next, AHeap.put_next, aadd_block, ne_eq] <;> omega)))) | exact rfl)); done)); (focus exact rfl); (focus (first | exact Nat.le_of_ble_eq_true rfl | (simp; omega) | (simp; done) | (simp [Value.cells]; omega))); (focus (first | exact rfl | (simp; done))); (focus (first | exact (rfl : _ = [_]) | exact (rfl : _ = [_, _, _]) | exact rfl)); (focus (first | exact aadd_block _ _ | exact rfl))))) (hk := by (first | exact Mode.kept_seq rfl | (dsimp only [Mode.kept, Mode.logged, Mode.at]; (repeat' (first | exact (fun _ h => absurd h List.not_mem_nil) | (refine List.forall_mem_cons.2 ⟨?_, ?_⟩) | (refine .inl ?_; exact rfl) | (refine .inl ?_; dsimp only; decide))); done))) (h := ?_)
      | (refine ew_dec (hn := r_streq) (ht := ?_) (hf := ?_) <;> intro _)
      | (refine ew_dec (hn := (r_bin (hr := by (first | exact ib_eql | exact ib_geq | exact ib_lss | exact ib_neq)))) (ht := ?_) (hf := ?_) <;> intro _)
      | refine ew_n (hn := r_bin (hr := by (first | exact ib_xor8 _ _ | (simp (disch := omega) only [intBin, wrap_in, wrap8_in, tdiv_in, tmod_in, if_false, reduceIte]; exact rfl) | (apply ib_rem; omega)))) (h := ?_)
      | (refine w_nil ?_)
      | (refine w_nilD ?_))
    | (show EC _ _ _ _ _ _ _; first | (refine k_seq ?_) | (refine k_region ?_) | (refine k_draw (h := ?_)) | (refine k_skip ?_) | (refine k_ret ?_) | (refine k_exit ?_) | (refine k_block ?_) | (refine k_true (h := ?_)) | (refine k_false (h := ?_)))
    | (show EX _ (bodyA _ _ _) _ _ _; first | (refine x_end1 (hq := ?_)))
    | (show EX _ _ _ _ _; first | (refine x_normal ?_) | (refine x_ret ?_) | (refine x_exit ?_) | (refine x_same ?_) | (refine x_other (h := ?_)) | (refine x_bnormal ?_) | (refine x_bret ?_)))
    (first | (refine' ew_callS (hc := cr_call) (hR := ?_) (h := ?_); rotate_left 1) | (refine' ew_call (hc := cr_call) (hR := ?_) (h := ?_); rotate_left 1))
    · exact listM t8.a
    rintro n9 H9 ⟨hk9, L9, hL9, hm9⟩
    have t9 := t8.keep0 hk9
    have r9 := hL9.reads
    rw [hm9] at r9
    have hl9 : L9.length = (M ++ [x]).length := by rw [← hm9, List.length_map]
    have s9 := hL9.shp (by rw [hl9, hML]; unfold openCap; omega)
    obtain ⟨s1, hs1, rs1⟩ := r9.takeS s9 (j := M.length) (by omega)
    rw [List.take_left] at rs1
    have hxl9 : (M ++ [x])[M.length]? = some x := by simp
    obtain ⟨ad9, c9, zz9, cb9, rfl, hlt9, hc39, hc19, hbr9⟩ := r9.at3 hxl9
    obtain ⟨ad', c', zz', cb', hv', hlt', hc3', hc1', hbr'⟩ := t9.w.at3 hx
    simp only [Value.slice.injEq, true_and, Option.some.injEq] at hv'
    obtain ⟨rfl, rfl⟩ := hv'
    repeat' (first
    | (show EW _ _ _ _ _; first
      | refine ew_n (hn := r_move) (h := ?_)
      | refine ew_n (hn := r_assign) (h := ?_)
      | refine ew_n (hn := r_pick_t) (h := ?_)
      | refine ew_n (hn := r_pick_f) (h := ?_)
      | refine ew_n (hn := r_field) (h := ?_)
      | refine ew_n (hn := r_len) (h := ?_)
      | refine ew_n (hn := r_len_str) (h := ?_)
      | refine ew_n (hn := r_not) (h := ?_)
      | refine ew_n (hn := r_extract) (h := ?_)
      | refine ew_n (hn := (r_index (h0 := by omega) (h1 := by first | omega | (simp; done) | (simp; omega)))) (h := ?_)
      | refine ew_n (hn := r_nil_eq) (h := ?_)
      | refine ew_n (hn := r_beq) (h := ?_)
      | refine ew_n (hn := r_nil_ne) (h := ?_)
      | refine ew_n (hn := r_bne) (h := ?_)
      | refine ew_n (hn := (r_slice (h := by assumption))) (h := ?_)
      | refine ew_n (hn := (r_shl (hn := by omega))) (h := ?_)
      | refine ew_n (hn := (r_bin (hr := by first | (apply cmp_t; (focus (first | exact ib_eql | exact ib_geq | exact ib_lss | exact ib_neq)); omega) | (apply cmp_f; (focus (first | exact ib_eql | exact ib_geq | exact ib_lss | exact ib_neq)); omega)))) (h := ?_)
      | refine ew_skip (h := ?_)
      | refine ew_load (hc := by (first | assumption | (apply cells_row; (focus ((repeat' (first | assumption | (rw [aadd_block]) | (apply gN; (focus (first | exact rfl | omega | (simp only [AHeap.push_next, AHeap.put_next, aadd_block] <;> omega))); (focus exact rfl)) | (apply gO; (focus (first | omega | (simp only [AHeap.push_next, AHeap.put_next, aadd_block, ne_eq] <;> omega)))) | (apply gS; (focus (first | exact rfl | omega | (simp only [AHeap.push_next, AHeap.put_next, aadd_block] <;> omega))); (focus exact rfl)) | (apply gP; (focus (first | omega | (simp only [AHeap.push_next, AHeap.put_next, aadd_block, ne_eq] <;> omega)))) | exact rfl)); done)); (focus exact rfl); (focus exact rfl); (focus (first | exact (rfl : _ = some [_]) | exact (rfl : _ = some [_, _, _])))) | (apply cells_k; (focus assumption); (focus (first | assumption | (simp only [aadd_block] <;> first | assumption | omega))); (focus ((repeat' (first | exact Keep.refl | assumption | (apply Keep.push) | (refine Keep.put ?_ ?_; rotate_left; (focus (intro hlt; first | assumption | omega | (exfalso; simp only [AHeap.push_next, AHeap.put_next, aadd_block] at hlt; omega)))))); done))))) (hv := by exact rfl) (h := ?_)
      | refine ew_convI _ (hv := by first | exact conv_u8 _ | exact rfl) (h := ?_)
      | refine ew_conv (hn := r_conv_br (h := by first | assumption | (apply Rd.keep0; (focus assumption); ((repeat' (first | exact Keep.refl | assumption | (apply Keep.push) | (refine Keep.put ?_ ?_; rotate_left; (focus (intro hlt; first | assumption | omega | (exfalso; simp only [AHeap.push_next, AHeap.put_next, aadd_block] at hlt; omega)))))); done)))) (h := ?_)
      | (refine ew_fresh ?_; intro b hb; (first | refine ew_n (hn := (r_alloc hb)) (h := ?_)); (try simp only [AHeap.push_next, AHeap.put_next] at hb))
      | refine ew_e (he := er_store (hc := by (apply setCells_at; (focus ((repeat' (first | assumption | (rw [aadd_block]) | (apply gN; (focus (first | exact rfl | omega | (simp only [AHeap.push_next, AHeap.put_next, aadd_block] <;> omega))); (focus exact rfl)) | (apply gO; (focus (first | omega | (simp only [AHeap.push_next, AHeap.put_next, aadd_block, ne_eq] <;> omega)))) | (apply gS; (focus (first | exact rfl | omega | (simp only [AHeap.push_next, AHeap.put_next, aadd_block] <;> omega))); (focus exact rfl)) | (apply gP; (focus (first | omega | (simp only [AHeap.push_next, AHeap.put_next, aadd_block, ne_eq] <;> omega)))) | exact rfl)); done)); (focus exact rfl); (focus (first | exact Nat.le_of_ble_eq_true rfl | (simp; omega) | (simp; done) | (simp [Value.cells]; omega))); (focus (first | exact rfl | (simp; done))); (focus (first | exact (rfl : _ = [_]) | exact (rfl : _ = [_, _, _]) | exact rfl)); (focus (first | exact aadd_block _ _ | exact rfl))))) (hk := by (first | exact Mode.kept_seq rfl | (dsimp only [Mode.kept, Mode.logged, Mode.at]; (repeat' (first | exact (fun _ h => absurd h List.not_mem_nil) | (refine List.forall_mem_cons.2 ⟨?_, ?_⟩) | (refine .inl ?_; exact rfl) | (refine .inl ?_; dsimp only; decide))); done))) (h := ?_)
      | (refine ew_dec (hn := r_streq) (ht := ?_) (hf := ?_) <;> intro _)
      | (refine ew_dec (hn := (r_bin (hr := by (first | exact ib_eql | exact ib_geq | exact ib_lss | exact ib_neq)))) (ht := ?_) (hf := ?_) <;> intro _)
      | refine ew_n (hn := r_bin (hr := by (first | exact ib_xor8 _ _ | (simp (disch := omega) only [intBin, wrap_in, wrap8_in, tdiv_in, tmod_in, if_false, reduceIte]; exact rfl) | (apply ib_rem; omega)))) (h := ?_)
      | (refine w_nil ?_)
      | (refine w_nilD ?_))
    | (show EC _ _ _ _ _ _ _; first | (refine k_seq ?_) | (refine k_region ?_) | (refine k_draw (h := ?_)) | (refine k_skip ?_) | (refine k_ret ?_) | (refine k_exit ?_) | (refine k_block ?_) | (refine k_true (h := ?_)) | (refine k_false (h := ?_)))
    | (show EX _ (bodyA _ _ _) _ _ _; first | (refine x_end1 (hq := ?_)))
    | (show EX _ _ _ _ _; first | (refine x_normal ?_) | (refine x_ret ?_) | (refine x_exit ?_) | (refine x_same ?_) | (refine x_other (h := ?_)) | (refine x_bnormal ?_) | (refine x_bret ?_)))
    (first | (refine' ew_callS (hc := cr_call) (hR := ?_) (h := ?_); rotate_left 1) | (refine' ew_call (hc := cr_call) (hR := ?_) (h := ?_); rotate_left 1))
    · exact same_calls _ rs1 t9.w (by omega)
    rintro _ H10 ⟨rfl, hk10⟩
    refine ⟨by (dsimp only [Mode.kept, Mode.logged, Mode.at]; (repeat' (first | exact (fun _ h => absurd h List.not_mem_nil) | (refine List.forall_mem_cons.2 ⟨?_, ?_⟩) | (refine .inl ?_; exact rfl) | (refine .inl ?_; dsimp only; decide) | (refine .inr ?_; exact hk10.cells (by simp only [aadd_block]; omega) id)))), ?_⟩
    have t10 := t9.keep0 hk10
    rw [decide_eq_true rfl]
    repeat' (first
    | (show EW _ _ _ _ _; first
      | refine ew_n (hn := r_move) (h := ?_)
      | refine ew_n (hn := r_assign) (h := ?_)
      | refine ew_n (hn := r_pick_t) (h := ?_)
      | refine ew_n (hn := r_pick_f) (h := ?_)
      | refine ew_n (hn := r_field) (h := ?_)
      | refine ew_n (hn := r_len) (h := ?_)
      | refine ew_n (hn := r_len_str) (h := ?_)
      | refine ew_n (hn := r_not) (h := ?_)
      | refine ew_n (hn := r_extract) (h := ?_)
      | refine ew_n (hn := (r_index (h0 := by omega) (h1 := by first | omega | (simp; done) | (simp; omega)))) (h := ?_)
      | refine ew_n (hn := r_nil_eq) (h := ?_)
      | refine ew_n (hn := r_beq) (h := ?_)
      | refine ew_n (hn := r_nil_ne) (h := ?_)
      | refine ew_n (hn := r_bne) (h := ?_)
      | refine ew_n (hn := (r_slice (h := by assumption))) (h := ?_)
      | refine ew_n (hn := (r_shl (hn := by omega))) (h := ?_)
      | refine ew_n (hn := (r_bin (hr := by first | (apply cmp_t; (focus (first | exact ib_eql | exact ib_geq | exact ib_lss | exact ib_neq)); omega) | (apply cmp_f; (focus (first | exact ib_eql | exact ib_geq | exact ib_lss | exact ib_neq)); omega)))) (h := ?_)
      | refine ew_skip (h := ?_)
      | refine ew_load (hc := by (first | assumption | (apply cells_row; (focus ((repeat' (first | assumption | (rw [aadd_block]) | (apply gN; (focus (first | exact rfl | omega | (simp only [AHeap.push_next, AHeap.put_next, aadd_block] <;> omega))); (focus exact rfl)) | (apply gO; (focus (first | omega | (simp only [AHeap.push_next, AHeap.put_next, aadd_block, ne_eq] <;> omega)))) | (apply gS; (focus (first | exact rfl | omega | (simp only [AHeap.push_next, AHeap.put_next, aadd_block] <;> omega))); (focus exact rfl)) | (apply gP; (focus (first | omega | (simp only [AHeap.push_next, AHeap.put_next, aadd_block, ne_eq] <;> omega)))) | exact rfl)); done)); (focus exact rfl); (focus exact rfl); (focus (first | exact (rfl : _ = some [_]) | exact (rfl : _ = some [_, _, _])))) | (apply cells_k; (focus assumption); (focus (first | assumption | (simp only [aadd_block] <;> first | assumption | omega))); (focus ((repeat' (first | exact Keep.refl | assumption | (apply Keep.push) | (refine Keep.put ?_ ?_; rotate_left; (focus (intro hlt; first | assumption | omega | (exfalso; simp only [AHeap.push_next, AHeap.put_next, aadd_block] at hlt; omega)))))); done))))) (hv := by exact rfl) (h := ?_)
      | refine ew_convI _ (hv := by first | exact conv_u8 _ | exact rfl) (h := ?_)
      | refine ew_conv (hn := r_conv_br (h := by first | assumption | (apply Rd.keep0; (focus assumption); ((repeat' (first | exact Keep.refl | assumption | (apply Keep.push) | (refine Keep.put ?_ ?_; rotate_left; (focus (intro hlt; first | assumption | omega | (exfalso; simp only [AHeap.push_next, AHeap.put_next, aadd_block] at hlt; omega)))))); done)))) (h := ?_)
      | (refine ew_fresh ?_; intro b hb; (first | refine ew_n (hn := (r_alloc hb)) (h := ?_)); (try simp only [AHeap.push_next, AHeap.put_next] at hb))
      | refine ew_e (he := er_store (hc := by (apply setCells_at; (focus ((repeat' (first | assumption | (rw [aadd_block]) | (apply gN; (focus (first | exact rfl | omega | (simp only [AHeap.push_next, AHeap.put_next, aadd_block] <;> omega))); (focus exact rfl)) | (apply gO; (focus (first | omega | (simp only [AHeap.push_next, AHeap.put_next, aadd_block, ne_eq] <;> omega)))) | (apply gS; (focus (first | exact rfl | omega | (simp only [AHeap.push_next, AHeap.put_next, aadd_block] <;> omega))); (focus exact rfl)) | (apply gP; (focus (first | omega | (simp only [AHeap.push_next, AHeap.put_next, aadd_block, ne_eq] <;> omega)))) | exact rfl)); done)); (focus exact rfl); (focus (first | exact Nat.le_of_ble_eq_true rfl | (simp; omega) | (simp; done) | (simp [Value.cells]; omega))); (focus (first | exact rfl | (simp; done))); (focus (first | exact (rfl : _ = [_]) | exact (rfl : _ = [_, _, _]) | exact rfl)); (focus (first | exact aadd_block _ _ | exact rfl))))) (hk := by (first | exact Mode.kept_seq rfl | (dsimp only [Mode.kept, Mode.logged, Mode.at]; (repeat' (first | exact (fun _ h => absurd h List.not_mem_nil) | (refine List.forall_mem_cons.2 ⟨?_, ?_⟩) | (refine .inl ?_; exact rfl) | (refine .inl ?_; dsimp only; decide))); done))) (h := ?_)
      | (refine ew_dec (hn := r_streq) (ht := ?_) (hf := ?_) <;> intro _)
      | (refine ew_dec (hn := (r_bin (hr := by (first | exact ib_eql | exact ib_geq | exact ib_lss | exact ib_neq)))) (ht := ?_) (hf := ?_) <;> intro _)
      | refine ew_n (hn := r_bin (hr := by (first | exact ib_xor8 _ _ | (simp (disch := omega) only [intBin, wrap_in, wrap8_in, tdiv_in, tmod_in, if_false, reduceIte]; exact rfl) | (apply ib_rem; omega)))) (h := ?_)
      | (refine w_nil ?_)
      | (refine w_nilD ?_))
    | (show EC _ _ _ _ _ _ _; first | (refine k_seq ?_) | (refine k_region ?_) | (refine k_draw (h := ?_)) | (refine k_skip ?_) | (refine k_ret ?_) | (refine k_exit ?_) | (refine k_block ?_) | (refine k_true (h := ?_)) | (refine k_false (h := ?_)))
    | (show EX _ (bodyA _ _ _) _ _ _; first | (refine x_end1 (hq := ?_)))
    | (show EX _ _ _ _ _; first | (refine x_normal ?_) | (refine x_ret ?_) | (refine x_exit ?_) | (refine x_same ?_) | (refine x_other (h := ?_)) | (refine x_bnormal ?_) | (refine x_bret ?_)))
    (first | (refine' ew_callS (hc := cr_call) (hR := ?_) (h := ?_); rotate_left 1) | (refine' ew_call (hc := cr_call) (hR := ?_) (h := ?_); rotate_left 1))
    · exact sameFlight_calls (f := x.1) (t := x.2.1) (f' := x.1) (t' := x.2.1) _ (hbr9.keep0 hk10) (hbr'.keep0 hk10)
    rintro _ H11 ⟨rfl, hk11⟩
    refine ⟨by (dsimp only [Mode.kept, Mode.logged, Mode.at]; (repeat' (first | exact (fun _ h => absurd h List.not_mem_nil) | (refine List.forall_mem_cons.2 ⟨?_, ?_⟩) | (refine .inl ?_; exact rfl) | (refine .inl ?_; dsimp only; decide) | (refine .inr ?_; exact hk11.cells (by simp only [aadd_block]; have := hk10.1; omega) id)))), ?_⟩
    have t11 := t10.keep0 hk11
    rw [decide_eq_true ⟨rfl, rfl, rfl⟩]
    repeat' (first
    | (show EW _ _ _ _ _; first
      | refine ew_n (hn := r_move) (h := ?_)
      | refine ew_n (hn := r_assign) (h := ?_)
      | refine ew_n (hn := r_pick_t) (h := ?_)
      | refine ew_n (hn := r_pick_f) (h := ?_)
      | refine ew_n (hn := r_field) (h := ?_)
      | refine ew_n (hn := r_len) (h := ?_)
      | refine ew_n (hn := r_len_str) (h := ?_)
      | refine ew_n (hn := r_not) (h := ?_)
      | refine ew_n (hn := r_extract) (h := ?_)
      | refine ew_n (hn := (r_index (h0 := by omega) (h1 := by first | omega | (simp; done) | (simp; omega)))) (h := ?_)
      | refine ew_n (hn := r_nil_eq) (h := ?_)
      | refine ew_n (hn := r_beq) (h := ?_)
      | refine ew_n (hn := r_nil_ne) (h := ?_)
      | refine ew_n (hn := r_bne) (h := ?_)
      | refine ew_n (hn := (r_slice (h := by assumption))) (h := ?_)
      | refine ew_n (hn := (r_shl (hn := by omega))) (h := ?_)
      | refine ew_n (hn := (r_bin (hr := by first | (apply cmp_t; (focus (first | exact ib_eql | exact ib_geq | exact ib_lss | exact ib_neq)); omega) | (apply cmp_f; (focus (first | exact ib_eql | exact ib_geq | exact ib_lss | exact ib_neq)); omega)))) (h := ?_)
      | refine ew_skip (h := ?_)
      | refine ew_load (hc := by (first | assumption | (apply cells_row; (focus ((repeat' (first | assumption | (rw [aadd_block]) | (apply gN; (focus (first | exact rfl | omega | (simp only [AHeap.push_next, AHeap.put_next, aadd_block] <;> omega))); (focus exact rfl)) | (apply gO; (focus (first | omega | (simp only [AHeap.push_next, AHeap.put_next, aadd_block, ne_eq] <;> omega)))) | (apply gS; (focus (first | exact rfl | omega | (simp only [AHeap.push_next, AHeap.put_next, aadd_block] <;> omega))); (focus exact rfl)) | (apply gP; (focus (first | omega | (simp only [AHeap.push_next, AHeap.put_next, aadd_block, ne_eq] <;> omega)))) | exact rfl)); done)); (focus exact rfl); (focus exact rfl); (focus (first | exact (rfl : _ = some [_]) | exact (rfl : _ = some [_, _, _])))) | (apply cells_k; (focus assumption); (focus (first | assumption | (simp only [aadd_block] <;> first | assumption | omega))); (focus ((repeat' (first | exact Keep.refl | assumption | (apply Keep.push) | (refine Keep.put ?_ ?_; rotate_left; (focus (intro hlt; first | assumption | omega | (exfalso; simp only [AHeap.push_next, AHeap.put_next, aadd_block] at hlt; omega)))))); done))))) (hv := by exact rfl) (h := ?_)
      | refine ew_convI _ (hv := by first | exact conv_u8 _ | exact rfl) (h := ?_)
      | refine ew_conv (hn := r_conv_br (h := by first | assumption | (apply Rd.keep0; (focus assumption); ((repeat' (first | exact Keep.refl | assumption | (apply Keep.push) | (refine Keep.put ?_ ?_; rotate_left; (focus (intro hlt; first | assumption | omega | (exfalso; simp only [AHeap.push_next, AHeap.put_next, aadd_block] at hlt; omega)))))); done)))) (h := ?_)
      | (refine ew_fresh ?_; intro b hb; (first | refine ew_n (hn := (r_alloc hb)) (h := ?_)); (try simp only [AHeap.push_next, AHeap.put_next] at hb))
      | refine ew_e (he := er_store (hc := by (apply setCells_at; (focus ((repeat' (first | assumption | (rw [aadd_block]) | (apply gN; (focus (first | exact rfl | omega | (simp only [AHeap.push_next, AHeap.put_next, aadd_block] <;> omega))); (focus exact rfl)) | (apply gO; (focus (first | omega | (simp only [AHeap.push_next, AHeap.put_next, aadd_block, ne_eq] <;> omega)))) | (apply gS; (focus (first | exact rfl | omega | (simp only [AHeap.push_next, AHeap.put_next, aadd_block] <;> omega))); (focus exact rfl)) | (apply gP; (focus (first | omega | (simp only [AHeap.push_next, AHeap.put_next, aadd_block, ne_eq] <;> omega)))) | exact rfl)); done)); (focus exact rfl); (focus (first | exact Nat.le_of_ble_eq_true rfl | (simp; omega) | (simp; done) | (simp [Value.cells]; omega))); (focus (first | exact rfl | (simp; done))); (focus (first | exact (rfl : _ = [_]) | exact (rfl : _ = [_, _, _]) | exact rfl)); (focus (first | exact aadd_block _ _ | exact rfl))))) (hk := by (first | exact Mode.kept_seq rfl | (dsimp only [Mode.kept, Mode.logged, Mode.at]; (repeat' (first | exact (fun _ h => absurd h List.not_mem_nil) | (refine List.forall_mem_cons.2 ⟨?_, ?_⟩) | (refine .inl ?_; exact rfl) | (refine .inl ?_; dsimp only; decide))); done))) (h := ?_)
      | (refine ew_dec (hn := r_streq) (ht := ?_) (hf := ?_) <;> intro _)
      | (refine ew_dec (hn := (r_bin (hr := by (first | exact ib_eql | exact ib_geq | exact ib_lss | exact ib_neq)))) (ht := ?_) (hf := ?_) <;> intro _)
      | refine ew_n (hn := r_bin (hr := by (first | exact ib_xor8 _ _ | (simp (disch := omega) only [intBin, wrap_in, wrap8_in, tdiv_in, tmod_in, if_false, reduceIte]; exact rfl) | (apply ib_rem; omega)))) (h := ?_)
      | (refine w_nil ?_)
      | (refine w_nilD ?_))
    | (show EC _ _ _ _ _ _ _; first | (refine k_seq ?_) | (refine k_region ?_) | (refine k_draw (h := ?_)) | (refine k_skip ?_) | (refine k_ret ?_) | (refine k_exit ?_) | (refine k_block ?_) | (refine k_true (h := ?_)) | (refine k_false (h := ?_)))
    | (show EX _ (bodyA _ _ _) _ _ _; first | (refine x_end1 (hq := ?_)))
    | (show EX _ _ _ _ _; first | (refine x_normal ?_) | (refine x_ret ?_) | (refine x_exit ?_) | (refine x_same ?_) | (refine x_other (h := ?_)) | (refine x_bnormal ?_) | (refine x_bret ?_)))
    (first | (refine' ew_callS (hc := cr_call) (hR := ?_) (h := ?_); rotate_left 1) | (refine' ew_call (hc := cr_call) (hR := ?_) (h := ?_); rotate_left 1))
    · exact flipM M.length 0 t11.a (by omega) (by omega)
    have hatn : atI (M ++ [x]) (M.length : Int) = some x := by rw [atI_nat, hxl9]
    have hcutQ : ∀ y : Msg, cutP (M ++ [y]) (M.length : Int) = M := fun y => by unfold cutP; rw [atI_nat]; simp [List.eraseIdx_append_of_length_le]
    have hsomeQ : ∀ y : Msg, (atI (M ++ [y]) (M.length : Int)).isSome = true := fun y => by rw [atI_nat]; simp
    by_cases hx0 : x.2.2.length = 0
    focus
      have hf0 : flipP (M ++ [x]) M.length 0 = (false, M ++ [x]) := by unfold flipP; rw [hatn]; simp only; rw [if_pos (by omega)]
      simp only [hf0]
      rintro _ HQ ⟨rfl, hk12, hN12⟩
      have tQ := t11.stepA hk12 hN12 Grow.refl
      repeat' (first
    | (show EW _ _ _ _ _; first
      | refine ew_n (hn := r_move) (h := ?_)
      | refine ew_n (hn := r_assign) (h := ?_)
      | refine ew_n (hn := r_pick_t) (h := ?_)
      | refine ew_n (hn := r_pick_f) (h := ?_)
      | refine ew_n (hn := r_field) (h := ?_)
      | refine ew_n (hn := r_len) (h := ?_)
      | refine ew_n (hn := r_len_str) (h := ?_)
      | refine ew_n (hn := r_not) (h := ?_)
      | refine ew_n (hn := r_extract) (h := ?_)
      | refine ew_n (hn := (r_index (h0 := by omega) (h1 := by first | omega | (simp; done) | (simp; omega)))) (h := ?_)
      | refine ew_n (hn := r_nil_eq) (h := ?_)
      | refine ew_n (hn := r_beq) (h := ?_)
      | refine ew_n (hn := r_nil_ne) (h := ?_)
      | refine ew_n (hn := r_bne) (h := ?_)
      | refine ew_n (hn := (r_slice (h := by assumption))) (h := ?_)
      | refine ew_n (hn := (r_shl (hn := by omega))) (h := ?_)
      | refine ew_n (hn := (r_bin (hr := by first | (apply cmp_t; (focus (first | exact ib_eql | exact ib_geq | exact ib_lss | exact ib_neq)); omega) | (apply cmp_f; (focus (first | exact ib_eql | exact ib_geq | exact ib_lss | exact ib_neq)); omega)))) (h := ?_)
      | refine ew_skip (h := ?_)
      | refine ew_load (hc := by (first | assumption | (apply cells_row; (focus ((repeat' (first | assumption | (rw [aadd_block]) | (apply gN; (focus (first | exact rfl | omega | (simp only [AHeap.push_next, AHeap.put_next, aadd_block] <;> omega))); (focus exact rfl)) | (apply gO; (focus (first | omega | (simp only [AHeap.push_next, AHeap.put_next, aadd_block, ne_eq] <;> omega)))) | (apply gS; (focus (first | exact rfl | omega | (simp only [AHeap.push_next, AHeap.put_next, aadd_block] <;> omega))); (focus exact rfl)) | (apply gP; (focus (first | omega | (simp only [AHeap.push_next, AHeap.put_next, aadd_block, ne_eq] <;> omega)))) | exact rfl)); done)); (focus exact rfl); (focus exact rfl); (focus (first | exact (rfl : _ = some [_]) | exact (rfl : _ = some [_, _, _])))) | (apply cells_k; (focus assumption); (focus (first | assumption | (simp only [aadd_block] <;> first | assumption | omega))); (focus ((repeat' (first | exact Keep.refl | assumption | (apply Keep.push) | (refine Keep.put ?_ ?_; rotate_left; (focus (intro hlt; first | assumption | omega | (exfalso; simp only [AHeap.push_next, AHeap.put_next, aadd_block] at hlt; omega)))))); done))))) (hv := by exact rfl) (h := ?_)
      | refine ew_convI _ (hv := by first | exact conv_u8 _ | exact rfl) (h := ?_)
      | refine ew_conv (hn := r_conv_br (h := by first | assumption | (apply Rd.keep0; (focus assumption); ((repeat' (first | exact Keep.refl | assumption | (apply Keep.push) | (refine Keep.put ?_ ?_; rotate_left; (focus (intro hlt; first | assumption | omega | (exfalso; simp only [AHeap.push_next, AHeap.put_next, aadd_block] at hlt; omega)))))); done)))) (h := ?_)
      | (refine ew_fresh ?_; intro b hb; (first | refine ew_n (hn := (r_alloc hb)) (h := ?_)); (try simp only [AHeap.push_next, AHeap.put_next] at hb))
      | refine ew_e (he := er_store (hc := by (apply setCells_at; (focus ((repeat' (first | assumption | (rw [aadd_block]) | (apply gN; (focus (first | exact rfl | omega | (simp only [AHeap.push_next, AHeap.put_next, aadd_block] <;> omega))); (focus exact rfl)) | (apply gO; (focus (first | omega | (simp only [AHeap.push_next, AHeap.put_next, aadd_block, ne_eq] <;> omega)))) | (apply gS; (focus (first | exact rfl | omega | (simp only [AHeap.push_next, AHeap.put_next, aadd_block] <;> omega))); (focus exact rfl)) | (apply gP; (focus (first | omega | (simp only [AHeap.push_next, AHeap.put_next, aadd_block, ne_eq] <;> omega)))) | exact rfl)); done)); (focus exact rfl); (focus (first | exact Nat.le_of_ble_eq_true rfl | (simp; omega) | (simp; done) | (simp [Value.cells]; omega))); (focus (first | exact rfl | (simp; done))); (focus (first | exact (rfl : _ = [_]) | exact (rfl : _ = [_, _, _]) | exact rfl)); (focus (first | exact aadd_block _ _ | exact rfl))))) (hk := by (first | exact Mode.kept_seq rfl | (dsimp only [Mode.kept, Mode.logged, Mode.at]; (repeat' (first | exact (fun _ h => absurd h List.not_mem_nil) | (refine List.forall_mem_cons.2 ⟨?_, ?_⟩) | (refine .inl ?_; exact rfl) | (refine .inl ?_; dsimp only; decide))); done))) (h := ?_)
      | (refine ew_dec (hn := r_streq) (ht := ?_) (hf := ?_) <;> intro _)
      | (refine ew_dec (hn := (r_bin (hr := by (first | exact ib_eql | exact ib_geq | exact ib_lss | exact ib_neq)))) (ht := ?_) (hf := ?_) <;> intro _)
      | refine ew_n (hn := r_bin (hr := by (first | exact ib_xor8 _ _ | (simp (disch := omega) only [intBin, wrap_in, wrap8_in, tdiv_in, tmod_in, if_false, reduceIte]; exact rfl) | (apply ib_rem; omega)))) (h := ?_)
      | (refine w_nil ?_)
      | (refine w_nilD ?_))
    | (show EC _ _ _ _ _ _ _; first | (refine k_seq ?_) | (refine k_region ?_) | (refine k_draw (h := ?_)) | (refine k_skip ?_) | (refine k_ret ?_) | (refine k_exit ?_) | (refine k_block ?_) | (refine k_true (h := ?_)) | (refine k_false (h := ?_)))
    | (show EX _ (bodyA _ _ _) _ _ _; first | (refine x_end1 (hq := ?_)))
    | (show EX _ _ _ _ _; first | (refine x_normal ?_) | (refine x_ret ?_) | (refine x_exit ?_) | (refine x_same ?_) | (refine x_other (h := ?_)) | (refine x_bnormal ?_) | (refine x_bret ?_)))
    rotate_left 1
    focus
      obtain ⟨y, hy⟩ : ∃ y : Msg, y = (x.1, x.2.1, flipB x.2.2 0) := ⟨_, rfl⟩
      have hy2 : y.2.2 = flipB x.2.2 0 := by rw [hy]
      have hyl : y.2.2.length = x.2.2.length := by rw [hy2, flipB_length]
      have hf0 : flipP (M ++ [x]) M.length 0 = (true, M ++ [y]) := by unfold flipP; rw [hatn]; simp only; rw [if_neg (by omega), Int.toNat_natCast, hy]; simp
      have hMy : (M ++ [y]).length = M.length + 1 := by simp
      simp only [hf0]
      rintro _ H12 ⟨rfl, hk12, hN12⟩
      have t12 := t11.stepA hk12 hN12 Grow.refl
      repeat' (first
    | (show EW _ _ _ _ _; first
      | refine ew_n (hn := r_move) (h := ?_)
      | refine ew_n (hn := r_assign) (h := ?_)
      | refine ew_n (hn := r_pick_t) (h := ?_)
      | refine ew_n (hn := r_pick_f) (h := ?_)
      | refine ew_n (hn := r_field) (h := ?_)
      | refine ew_n (hn := r_len) (h := ?_)
      | refine ew_n (hn := r_len_str) (h := ?_)
      | refine ew_n (hn := r_not) (h := ?_)
      | refine ew_n (hn := r_extract) (h := ?_)
      | refine ew_n (hn := (r_index (h0 := by omega) (h1 := by first | omega | (simp; done) | (simp; omega)))) (h := ?_)
      | refine ew_n (hn := r_nil_eq) (h := ?_)
      | refine ew_n (hn := r_beq) (h := ?_)
      | refine ew_n (hn := r_nil_ne) (h := ?_)
      | refine ew_n (hn := r_bne) (h := ?_)
      | refine ew_n (hn := (r_slice (h := by assumption))) (h := ?_)
      | refine ew_n (hn := (r_shl (hn := by omega))) (h := ?_)
      | refine ew_n (hn := (r_bin (hr := by first | (apply cmp_t; (focus (first | exact ib_eql | exact ib_geq | exact ib_lss | exact ib_neq)); omega) | (apply cmp_f; (focus (first | exact ib_eql | exact ib_geq | exact ib_lss | exact ib_neq)); omega)))) (h := ?_)
      | refine ew_skip (h := ?_)
      | refine ew_load (hc := by (first | assumption | (apply cells_row; (focus ((repeat' (first | assumption | (rw [aadd_block]) | (apply gN; (focus (first | exact rfl | omega | (simp only [AHeap.push_next, AHeap.put_next, aadd_block] <;> omega))); (focus exact rfl)) | (apply gO; (focus (first | omega | (simp only [AHeap.push_next, AHeap.put_next, aadd_block, ne_eq] <;> omega)))) | (apply gS; (focus (first | exact rfl | omega | (simp only [AHeap.push_next, AHeap.put_next, aadd_block] <;> omega))); (focus exact rfl)) | (apply gP; (focus (first | omega | (simp only [AHeap.push_next, AHeap.put_next, aadd_block, ne_eq] <;> omega)))) | exact rfl)); done)); (focus exact rfl); (focus exact rfl); (focus (first | exact (rfl : _ = some [_]) | exact (rfl : _ = some [_, _, _])))) | (apply cells_k; (focus assumption); (focus (first | assumption | (simp only [aadd_block] <;> first | assumption | omega))); (focus ((repeat' (first | exact Keep.refl | assumption | (apply Keep.push) | (refine Keep.put ?_ ?_; rotate_left; (focus (intro hlt; first | assumption | omega | (exfalso; simp only [AHeap.push_next, AHeap.put_next, aadd_block] at hlt; omega)))))); done))))) (hv := by exact rfl) (h := ?_)
      | refine ew_convI _ (hv := by first | exact conv_u8 _ | exact rfl) (h := ?_)
      | refine ew_conv (hn := r_conv_br (h := by first | assumption | (apply Rd.keep0; (focus assumption); ((repeat' (first | exact Keep.refl | assumption | (apply Keep.push) | (refine Keep.put ?_ ?_; rotate_left; (focus (intro hlt; first | assumption | omega | (exfalso; simp only [AHeap.push_next, AHeap.put_next, aadd_block] at hlt; omega)))))); done)))) (h := ?_)
      | (refine ew_fresh ?_; intro b hb; (first | refine ew_n (hn := (r_alloc hb)) (h := ?_)); (try simp only [AHeap.push_next, AHeap.put_next] at hb))
      | refine ew_e (he := er_store (hc := by (apply setCells_at; (focus ((repeat' (first | assumption | (rw [aadd_block]) | (apply gN; (focus (first | exact rfl | omega | (simp only [AHeap.push_next, AHeap.put_next, aadd_block] <;> omega))); (focus exact rfl)) | (apply gO; (focus (first | omega | (simp only [AHeap.push_next, AHeap.put_next, aadd_block, ne_eq] <;> omega)))) | (apply gS; (focus (first | exact rfl | omega | (simp only [AHeap.push_next, AHeap.put_next, aadd_block] <;> omega))); (focus exact rfl)) | (apply gP; (focus (first | omega | (simp only [AHeap.push_next, AHeap.put_next, aadd_block, ne_eq] <;> omega)))) | exact rfl)); done)); (focus exact rfl); (focus (first | exact Nat.le_of_ble_eq_true rfl | (simp; omega) | (simp; done) | (simp [Value.cells]; omega))); (focus (first | exact rfl | (simp; done))); (focus (first | exact (rfl : _ = [_]) | exact (rfl : _ = [_, _, _]) | exact rfl)); (focus (first | exact aadd_block _ _ | exact rfl))))) (hk := by (first | exact Mode.kept_seq rfl | (dsimp only [Mode.kept, Mode.logged, Mode.at]; (repeat' (first | exact (fun _ h => absurd h List.not_mem_nil) | (refine List.forall_mem_cons.2 ⟨?_, ?_⟩) | (refine .inl ?_; exact rfl) | (refine .inl ?_; dsimp only; decide))); done))) (h := ?_)
      | (refine ew_dec (hn := r_streq) (ht := ?_) (hf := ?_) <;> intro _)
      | (refine ew_dec (hn := (r_bin (hr := by (first | exact ib_eql | exact ib_geq | exact ib_lss | exact ib_neq)))) (ht := ?_) (hf := ?_) <;> intro _)
      | refine ew_n (hn := r_bin (hr := by (first | exact ib_xor8 _ _ | (simp (disch := omega) only [intBin, wrap_in, wrap8_in, tdiv_in, tmod_in, if_false, reduceIte]; exact rfl) | (apply ib_rem; omega)))) (h := ?_)
      | (refine w_nil ?_)
      | (refine w_nilD ?_))
    | (show EC _ _ _ _ _ _ _; first | (refine k_seq ?_) | (refine k_region ?_) | (refine k_draw (h := ?_)) | (refine k_skip ?_) | (refine k_ret ?_) | (refine k_exit ?_) | (refine k_block ?_) | (refine k_true (h := ?_)) | (refine k_false (h := ?_)))
    | (show EX _ (bodyA _ _ _) _ _ _; first | (refine x_end1 (hq := ?_)))
    | (show EX _ _ _ _ _; first | (refine x_normal ?_) | (refine x_ret ?_) | (refine x_exit ?_) | (refine x_same ?_) | (refine x_other (h := ?_)) | (refine x_bnormal ?_) | (refine x_bret ?_)))
      (first | (refine' ew_callS (hc := cr_call) (hR := ?_) (h := ?_); rotate_left 1) | (refine' ew_call (hc := cr_call) (hR := ?_) (h := ?_); rotate_left 1))
      · exact listM t12.a
      rintro n13 H13 ⟨hk13, L13, hL13, hm13⟩
      have t13 := t12.keep0 hk13
      have r13 := hL13.reads
      rw [hm13] at r13
      have hl13 : L13.length = (M ++ [y]).length := by rw [← hm13, List.length_map]
      have s13 := hL13.shp (by rw [hl13, hMy]; unfold openCap; omega)
      obtain ⟨s2, hs2, rs2⟩ := r13.takeS s13 (j := M.length) (by omega)
      rw [List.take_left] at rs2
      have hyl13 : (M ++ [y])[M.length]? = some y := by simp
      obtain ⟨ad13, c13, zz13, cb13, rfl, hlt13, hc313, hc113, hbr13⟩ := r13.at3 hyl13
      obtain ⟨ad'', c'', zz'', cb'', hv'', hlt'', hc3'', hc1'', hbr''⟩ := t13.w.at3 hx
      simp only [Value.slice.injEq, true_and, Option.some.injEq] at hv''
      obtain ⟨rfl, rfl⟩ := hv''
      repeat' (first
    | (show EW _ _ _ _ _; first
      | refine ew_n (hn := r_move) (h := ?_)
      | refine ew_n (hn := r_assign) (h := ?_)
      | refine ew_n (hn := r_pick_t) (h := ?_)
      | refine ew_n (hn := r_pick_f) (h := ?_)
      | refine ew_n (hn := r_field) (h := ?_)
      | refine ew_n (hn := r_len) (h := ?_)
      | refine ew_n (hn := r_len_str) (h := ?_)
      | refine ew_n (hn := r_not) (h := ?_)
      | refine ew_n (hn := r_extract) (h := ?_)
      | refine ew_n (hn := (r_index (h0 := by omega) (h1 := by first | omega | (simp; done) | (simp; omega)))) (h := ?_)
      | refine ew_n (hn := r_nil_eq) (h := ?_)
      | refine ew_n (hn := r_beq) (h := ?_)
      | refine ew_n (hn := r_nil_ne) (h := ?_)
      | refine ew_n (hn := r_bne) (h := ?_)
      | refine ew_n (hn := (r_slice (h := by assumption))) (h := ?_)
      | refine ew_n (hn := (r_shl (hn := by omega))) (h := ?_)
      | refine ew_n (hn := (r_bin (hr := by first | (apply cmp_t; (focus (first | exact ib_eql | exact ib_geq | exact ib_lss | exact ib_neq)); omega) | (apply cmp_f; (focus (first | exact ib_eql | exact ib_geq | exact ib_lss | exact ib_neq)); omega)))) (h := ?_)
      | refine ew_skip (h := ?_)
      | refine ew_load (hc := by (first | assumption | (apply cells_row; (focus ((repeat' (first | assumption | (rw [aadd_block]) | (apply gN; (focus (first | exact rfl | omega | (simp only [AHeap.push_next, AHeap.put_next, aadd_block] <;> omega))); (focus exact rfl)) | (apply gO; (focus (first | omega | (simp only [AHeap.push_next, AHeap.put_next, aadd_block, ne_eq] <;> omega)))) | (apply gS; (focus (first | exact rfl | omega | (simp only [AHeap.push_next, AHeap.put_next, aadd_block] <;> omega))); (focus exact rfl)) | (apply gP; (focus (first | omega | (simp only [AHeap.push_next, AHeap.put_next, aadd_block, ne_eq] <;> omega)))) | exact rfl)); done)); (focus exact rfl); (focus exact rfl); (focus (first | exact (rfl : _ = some [_]) | exact (rfl : _ = some [_, _, _])))) | (apply cells_k; (focus assumption); (focus (first | assumption | (simp only [aadd_block] <;> first | assumption | omega))); (focus ((repeat' (first | exact Keep.refl | assumption | (apply Keep.push) | (refine Keep.put ?_ ?_; rotate_left; (focus (intro hlt; first | assumption | omega | (exfalso; simp only [AHeap.push_next, AHeap.put_next, aadd_block] at hlt; omega)))))); done))))) (hv := by exact rfl) (h := ?_)
      | refine ew_convI _ (hv := by first | exact conv_u8 _ | exact rfl) (h := ?_)
      | refine ew_conv (hn := r_conv_br (h := by first | assumption | (apply Rd.keep0; (focus assumption); ((repeat' (first | exact Keep.refl | assumption | (apply Keep.push) | (refine Keep.put ?_ ?_; rotate_left; (focus (intro hlt; first | assumption | omega | (exfalso; simp only [AHeap.push_next, AHeap.put_next, aadd_block] at hlt; omega)))))); done)))) (h := ?_)
      | (refine ew_fresh ?_; intro b hb; (first | refine ew_n (hn := (r_alloc hb)) (h := ?_)); (try simp only [AHeap.push_next, AHeap.put_next] at hb))
      | refine ew_e (he := er_store (hc := by (apply setCells_at; (focus ((repeat' (first | assumption | (rw [aadd_block]) | (apply gN; (focus (first | exact rfl | omega | (simp only [AHeap.push_next, AHeap.put_next, aadd_block] <;> omega))); (focus exact rfl)) | (apply gO; (focus (first | omega | (simp only [AHeap.push_next, AHeap.put_next, aadd_block, ne_eq] <;> omega)))) | (apply gS; (focus (first | exact rfl | omega | (simp only [AHeap.push_next, AHeap.put_next, aadd_block] <;> omega))); (focus exact rfl)) | (apply gP; (focus (first | omega | (simp only [AHeap.push_next, AHeap.put_next, aadd_block, ne_eq] <;> omega)))) | exact rfl)); done)); (focus exact rfl); (focus (first | exact Nat.le_of_ble_eq_true rfl | (simp; omega) | (simp; done) | (simp [Value.cells]; omega))); (focus (first | exact rfl | (simp; done))); (focus (first | exact (rfl : _ = [_]) | exact (rfl : _ = [_, _, _]) | exact rfl)); (focus (first | exact aadd_block _ _ | exact rfl))))) (hk := by (first | exact Mode.kept_seq rfl | (dsimp only [Mode.kept, Mode.logged, Mode.at]; (repeat' (first | exact (fun _ h => absurd h List.not_mem_nil) | (refine List.forall_mem_cons.2 ⟨?_, ?_⟩) | (refine .inl ?_; exact rfl) | (refine .inl ?_; dsimp only; decide))); done))) (h := ?_)
      | (refine ew_dec (hn := r_streq) (ht := ?_) (hf := ?_) <;> intro _)
      | (refine ew_dec (hn := (r_bin (hr := by (first | exact ib_eql | exact ib_geq | exact ib_lss | exact ib_neq)))) (ht := ?_) (hf := ?_) <;> intro _)
      | refine ew_n (hn := r_bin (hr := by (first | exact ib_xor8 _ _ | (simp (disch := omega) only [intBin, wrap_in, wrap8_in, tdiv_in, tmod_in, if_false, reduceIte]; exact rfl) | (apply ib_rem; omega)))) (h := ?_)
      | (refine w_nil ?_)
      | (refine w_nilD ?_))
    | (show EC _ _ _ _ _ _ _; first | (refine k_seq ?_) | (refine k_region ?_) | (refine k_draw (h := ?_)) | (refine k_skip ?_) | (refine k_ret ?_) | (refine k_exit ?_) | (refine k_block ?_) | (refine k_true (h := ?_)) | (refine k_false (h := ?_)))
    | (show EX _ (bodyA _ _ _) _ _ _; first | (refine x_end1 (hq := ?_)))
    | (show EX _ _ _ _ _; first | (refine x_normal ?_) | (refine x_ret ?_) | (refine x_exit ?_) | (refine x_same ?_) | (refine x_other (h := ?_)) | (refine x_bnormal ?_) | (refine x_bret ?_)))
      (first | (refine' ew_callS (hc := cr_call) (hR := ?_) (h := ?_); rotate_left 1) | (refine' ew_call (hc := cr_call) (hR := ?_) (h := ?_); rotate_left 1))
      · exact same_calls _ rs2 t13.w (by omega)
      rintro _ HQ ⟨rfl, hk14⟩
      refine ⟨by (dsimp only [Mode.kept, Mode.logged, Mode.at]; (repeat' (first | exact (fun _ h => absurd h List.not_mem_nil) | (refine List.forall_mem_cons.2 ⟨?_, ?_⟩) | (refine .inl ?_; exact rfl) | (refine .inl ?_; dsimp only; decide) | (refine .inr ?_; exact hk14.cells (by simp only [aadd_block]; omega) id)))), ?_⟩
      have tQ := t13.keep0 hk14
      rw [decide_eq_true rfl]
      repeat' (first
    | (show EW _ _ _ _ _; first
      | refine ew_n (hn := r_move) (h := ?_)
      | refine ew_n (hn := r_assign) (h := ?_)
      | refine ew_n (hn := r_pick_t) (h := ?_)
      | refine ew_n (hn := r_pick_f) (h := ?_)
      | refine ew_n (hn := r_field) (h := ?_)
      | refine ew_n (hn := r_len) (h := ?_)
      | refine ew_n (hn := r_len_str) (h := ?_)
      | refine ew_n (hn := r_not) (h := ?_)
      | refine ew_n (hn := r_extract) (h := ?_)
      | refine ew_n (hn := (r_index (h0 := by omega) (h1 := by first | omega | (simp; done) | (simp; omega)))) (h := ?_)
      | refine ew_n (hn := r_nil_eq) (h := ?_)
      | refine ew_n (hn := r_beq) (h := ?_)
      | refine ew_n (hn := r_nil_ne) (h := ?_)
      | refine ew_n (hn := r_bne) (h := ?_)
      | refine ew_n (hn := (r_slice (h := by assumption))) (h := ?_)
      | refine ew_n (hn := (r_shl (hn := by omega))) (h := ?_)
      | refine ew_n (hn := (r_bin (hr := by first | (apply cmp_t; (focus (first | exact ib_eql | exact ib_geq | exact ib_lss | exact ib_neq)); omega) | (apply cmp_f; (focus (first | exact ib_eql | exact ib_geq | exact ib_lss | exact ib_neq)); omega)))) (h := ?_)
      | refine ew_skip (h := ?_)
      | refine ew_load (hc := by (first | assumption | (apply cells_row; (focus ((repeat' (first | assumption | (rw [aadd_block]) | (apply gN; (focus (first | exact rfl | omega | (simp only [AHeap.push_next, AHeap.put_next, aadd_block] <;> omega))); (focus exact rfl)) | (apply gO; (focus (first | omega | (simp only [AHeap.push_next, AHeap.put_next, aadd_block, ne_eq] <;> omega)))) | (apply gS; (focus (first | exact rfl | omega | (simp only [AHeap.push_next, AHeap.put_next, aadd_block] <;> omega))); (focus exact rfl)) | (apply gP; (focus (first | omega | (simp only [AHeap.push_next, AHeap.put_next, aadd_block, ne_eq] <;> omega)))) | exact rfl)); done)); (focus exact rfl); (focus exact rfl); (focus (first | exact (rfl : _ = some [_]) | exact (rfl : _ = some [_, _, _])))) | (apply cells_k; (focus assumption); (focus (first | assumption | (simp only [aadd_block] <;> first | assumption | omega))); (focus ((repeat' (first | exact Keep.refl | assumption | (apply Keep.push) | (refine Keep.put ?_ ?_; rotate_left; (focus (intro hlt; first | assumption | omega | (exfalso; simp only [AHeap.push_next, AHeap.put_next, aadd_block] at hlt; omega)))))); done))))) (hv := by exact rfl) (h := ?_)
      | refine ew_convI _ (hv := by first | exact conv_u8 _ | exact rfl) (h := ?_)
      | refine ew_conv (hn := r_conv_br (h := by first | assumption | (apply Rd.keep0; (focus assumption); ((repeat' (first | exact Keep.refl | assumption | (apply Keep.push) | (refine Keep.put ?_ ?_; rotate_left; (focus (intro hlt; first | assumption | omega | (exfalso; simp only [AHeap.push_next, AHeap.put_next, aadd_block] at hlt; omega)))))); done)))) (h := ?_)
      | (refine ew_fresh ?_; intro b hb; (first | refine ew_n (hn := (r_alloc hb)) (h := ?_)); (try simp only [AHeap.push_next, AHeap.put_next] at hb))
      | refine ew_e (he := er_store (hc := by (apply setCells_at; (focus ((repeat' (first | assumption | (rw [aadd_block]) | (apply gN; (focus (first | exact rfl | omega | (simp only [AHeap.push_next, AHeap.put_next, aadd_block] <;> omega))); (focus exact rfl)) | (apply gO; (focus (first | omega | (simp only [AHeap.push_next, AHeap.put_next, aadd_block, ne_eq] <;> omega)))) | (apply gS; (focus (first | exact rfl | omega | (simp only [AHeap.push_next, AHeap.put_next, aadd_block] <;> omega))); (focus exact rfl)) | (apply gP; (focus (first | omega | (simp only [AHeap.push_next, AHeap.put_next, aadd_block, ne_eq] <;> omega)))) | exact rfl)); done)); (focus exact rfl); (focus (first | exact Nat.le_of_ble_eq_true rfl | (simp; omega) | (simp; done) | (simp [Value.cells]; omega))); (focus (first | exact rfl | (simp; done))); (focus (first | exact (rfl : _ = [_]) | exact (rfl : _ = [_, _, _]) | exact rfl)); (focus (first | exact aadd_block _ _ | exact rfl))))) (hk := by (first | exact Mode.kept_seq rfl | (dsimp only [Mode.kept, Mode.logged, Mode.at]; (repeat' (first | exact (fun _ h => absurd h List.not_mem_nil) | (refine List.forall_mem_cons.2 ⟨?_, ?_⟩) | (refine .inl ?_; exact rfl) | (refine .inl ?_; dsimp only; decide))); done))) (h := ?_)
      | (refine ew_dec (hn := r_streq) (ht := ?_) (hf := ?_) <;> intro _)
      | (refine ew_dec (hn := (r_bin (hr := by (first | exact ib_eql | exact ib_geq | exact ib_lss | exact ib_neq)))) (ht := ?_) (hf := ?_) <;> intro _)
      | refine ew_n (hn := r_bin (hr := by (first | exact ib_xor8 _ _ | (simp (disch := omega) only [intBin, wrap_in, wrap8_in, tdiv_in, tmod_in, if_false, reduceIte]; exact rfl) | (apply ib_rem; omega)))) (h := ?_)
      | (refine w_nil ?_)
      | (refine w_nilD ?_))
    | (show EC _ _ _ _ _ _ _; first | (refine k_seq ?_) | (refine k_region ?_) | (refine k_draw (h := ?_)) | (refine k_skip ?_) | (refine k_ret ?_) | (refine k_exit ?_) | (refine k_block ?_) | (refine k_true (h := ?_)) | (refine k_false (h := ?_)))
    | (show EX _ (bodyA _ _ _) _ _ _; first | (refine x_end1 (hq := ?_)))
    | (show EX _ _ _ _ _; first | (refine x_normal ?_) | (refine x_ret ?_) | (refine x_exit ?_) | (refine x_same ?_) | (refine x_other (h := ?_)) | (refine x_bnormal ?_) | (refine x_bret ?_)))
      (first | (refine' ew_callS (hc := cr_call) (hR := ?_) (h := ?_); rotate_left 1) | (refine' ew_call (hc := cr_call) (hR := ?_) (h := ?_); rotate_left 1))
      · exact bits_calls _ (hbr13.keep0 hk14) (hbr''.keep0 hk14) (by omega)
      rintro _ HQ ⟨rfl, rfl⟩
      refine ⟨by (dsimp only [Mode.kept, Mode.logged, Mode.at]; (repeat' (first | exact (fun _ h => absurd h List.not_mem_nil) | (refine List.forall_mem_cons.2 ⟨?_, ?_⟩) | (refine .inl ?_; exact rfl) | (refine .inl ?_; dsimp only; decide) | (refine .inr ?_; exact rfl) | (refine .inr ?_; exact hk14.cells (by simp only [aadd_block]; omega) id)))), ?_⟩
      have hone2 : bitsP y.2.2 x.2.2 = 1 := by rw [hy2]; exact bitsP_flip _ _ (by omega) (by omega)
      rw [hone2]
      repeat' (first
    | (show EW _ _ _ _ _; first
      | refine ew_n (hn := r_move) (h := ?_)
      | refine ew_n (hn := r_assign) (h := ?_)
      | refine ew_n (hn := r_pick_t) (h := ?_)
      | refine ew_n (hn := r_pick_f) (h := ?_)
      | refine ew_n (hn := r_field) (h := ?_)
      | refine ew_n (hn := r_len) (h := ?_)
      | refine ew_n (hn := r_len_str) (h := ?_)
      | refine ew_n (hn := r_not) (h := ?_)
      | refine ew_n (hn := r_extract) (h := ?_)
      | refine ew_n (hn := (r_index (h0 := by omega) (h1 := by first | omega | (simp; done) | (simp; omega)))) (h := ?_)
      | refine ew_n (hn := r_nil_eq) (h := ?_)
      | refine ew_n (hn := r_beq) (h := ?_)
      | refine ew_n (hn := r_nil_ne) (h := ?_)
      | refine ew_n (hn := r_bne) (h := ?_)
      | refine ew_n (hn := (r_slice (h := by assumption))) (h := ?_)
      | refine ew_n (hn := (r_shl (hn := by omega))) (h := ?_)
      | refine ew_n (hn := (r_bin (hr := by first | (apply cmp_t; (focus (first | exact ib_eql | exact ib_geq | exact ib_lss | exact ib_neq)); omega) | (apply cmp_f; (focus (first | exact ib_eql | exact ib_geq | exact ib_lss | exact ib_neq)); omega)))) (h := ?_)
      | refine ew_skip (h := ?_)
      | refine ew_load (hc := by (first | assumption | (apply cells_row; (focus ((repeat' (first | assumption | (rw [aadd_block]) | (apply gN; (focus (first | exact rfl | omega | (simp only [AHeap.push_next, AHeap.put_next, aadd_block] <;> omega))); (focus exact rfl)) | (apply gO; (focus (first | omega | (simp only [AHeap.push_next, AHeap.put_next, aadd_block, ne_eq] <;> omega)))) | (apply gS; (focus (first | exact rfl | omega | (simp only [AHeap.push_next, AHeap.put_next, aadd_block] <;> omega))); (focus exact rfl)) | (apply gP; (focus (first | omega | (simp only [AHeap.push_next, AHeap.put_next, aadd_block, ne_eq] <;> omega)))) | exact rfl)); done)); (focus exact rfl); (focus exact rfl); (focus (first | exact (rfl : _ = some [_]) | exact (rfl : _ = some [_, _, _])))) | (apply cells_k; (focus assumption); (focus (first | assumption | (simp only [aadd_block] <;> first | assumption | omega))); (focus ((repeat' (first | exact Keep.refl | assumption | (apply Keep.push) | (refine Keep.put ?_ ?_; rotate_left; (focus (intro hlt; first | assumption | omega | (exfalso; simp only [AHeap.push_next, AHeap.put_next, aadd_block] at hlt; omega)))))); done))))) (hv := by exact rfl) (h := ?_)
      | refine ew_convI _ (hv := by first | exact conv_u8 _ | exact rfl) (h := ?_)
      | refine ew_conv (hn := r_conv_br (h := by first | assumption | (apply Rd.keep0; (focus assumption); ((repeat' (first | exact Keep.refl | assumption | (apply Keep.push) | (refine Keep.put ?_ ?_; rotate_left; (focus (intro hlt; first | assumption | omega | (exfalso; simp only [AHeap.push_next, AHeap.put_next, aadd_block] at hlt; omega)))))); done)))) (h := ?_)
      | (refine ew_fresh ?_; intro b hb; (first | refine ew_n (hn := (r_alloc hb)) (h := ?_)); (try simp only [AHeap.push_next, AHeap.put_next] at hb))
      | refine ew_e (he := er_store (hc := by (apply setCells_at; (focus ((repeat' (first | assumption | (rw [aadd_block]) | (apply gN; (focus (first | exact rfl | omega | (simp only [AHeap.push_next, AHeap.put_next, aadd_block] <;> omega))); (focus exact rfl)) | (apply gO; (focus (first | omega | (simp only [AHeap.push_next, AHeap.put_next, aadd_block, ne_eq] <;> omega)))) | (apply gS; (focus (first | exact rfl | omega | (simp only [AHeap.push_next, AHeap.put_next, aadd_block] <;> omega))); (focus exact rfl)) | (apply gP; (focus (first | omega | (simp only [AHeap.push_next, AHeap.put_next, aadd_block, ne_eq] <;> omega)))) | exact rfl)); done)); (focus exact rfl); (focus (first | exact Nat.le_of_ble_eq_true rfl | (simp; omega) | (simp; done) | (simp [Value.cells]; omega))); (focus (first | exact rfl | (simp; done))); (focus (first | exact (rfl : _ = [_]) | exact (rfl : _ = [_, _, _]) | exact rfl)); (focus (first | exact aadd_block _ _ | exact rfl))))) (hk := by (first | exact Mode.kept_seq rfl | (dsimp only [Mode.kept, Mode.logged, Mode.at]; (repeat' (first | exact (fun _ h => absurd h List.not_mem_nil) | (refine List.forall_mem_cons.2 ⟨?_, ?_⟩) | (refine .inl ?_; exact rfl) | (refine .inl ?_; dsimp only; decide))); done))) (h := ?_)
      | (refine ew_dec (hn := r_streq) (ht := ?_) (hf := ?_) <;> intro _)
      | (refine ew_dec (hn := (r_bin (hr := by (first | exact ib_eql | exact ib_geq | exact ib_lss | exact ib_neq)))) (ht := ?_) (hf := ?_) <;> intro _)
      | refine ew_n (hn := r_bin (hr := by (first | exact ib_xor8 _ _ | (simp (disch := omega) only [intBin, wrap_in, wrap8_in, tdiv_in, tmod_in, if_false, reduceIte]; exact rfl) | (apply ib_rem; omega)))) (h := ?_)
      | (refine w_nil ?_)
      | (refine w_nilD ?_))
    | (show EC _ _ _ _ _ _ _; first | (refine k_seq ?_) | (refine k_region ?_) | (refine k_draw (h := ?_)) | (refine k_skip ?_) | (refine k_ret ?_) | (refine k_exit ?_) | (refine k_block ?_) | (refine k_true (h := ?_)) | (refine k_false (h := ?_)))
    | (show EX _ (bodyA _ _ _) _ _ _; first | (refine x_end1 (hq := ?_)))
    | (show EX _ _ _ _ _; first | (refine x_normal ?_) | (refine x_ret ?_) | (refine x_exit ?_) | (refine x_same ?_) | (refine x_other (h := ?_)) | (refine x_bnormal ?_) | (refine x_bret ?_)))
    all_goals (
      (first | (refine' ew_callS (hc := cr_call) (hR := ?_) (h := ?_); rotate_left 1) | (refine' ew_call (hc := cr_call) (hR := ?_) (h := ?_); rotate_left 1))
      · exact dropM M.length tQ.a
      simp only [hcutQ, hsomeQ]
      rintro _ H15 ⟨rfl, hk15, Fa15, hN15, hg15⟩
      have t15 := tQ.stepA hk15 hN15 hg15
      repeat' (first
    | (show EW _ _ _ _ _; first
      | refine ew_n (hn := r_move) (h := ?_)
      | refine ew_n (hn := r_assign) (h := ?_)
      | refine ew_n (hn := r_pick_t) (h := ?_)
      | refine ew_n (hn := r_pick_f) (h := ?_)
      | refine ew_n (hn := r_field) (h := ?_)
      | refine ew_n (hn := r_len) (h := ?_)
      | refine ew_n (hn := r_len_str) (h := ?_)
      | refine ew_n (hn := r_not) (h := ?_)
      | refine ew_n (hn := r_extract) (h := ?_)
      | refine ew_n (hn := (r_index (h0 := by omega) (h1 := by first | omega | (simp; done) | (simp; omega)))) (h := ?_)
      | refine ew_n (hn := r_nil_eq) (h := ?_)
      | refine ew_n (hn := r_beq) (h := ?_)
      | refine ew_n (hn := r_nil_ne) (h := ?_)
      | refine ew_n (hn := r_bne) (h := ?_)
      | refine ew_n (hn := (r_slice (h := by assumption))) (h := ?_)
      | refine ew_n (hn := (r_shl (hn := by omega))) (h := ?_)
      | refine ew_n (hn := (r_bin (hr := by first | (apply cmp_t; (focus (first | exact ib_eql | exact ib_geq | exact ib_lss | exact ib_neq)); omega) | (apply cmp_f; (focus (first | exact ib_eql | exact ib_geq | exact ib_lss | exact ib_neq)); omega)))) (h := ?_)
      | refine ew_skip (h := ?_)
      | refine ew_load (hc := by (first | assumption | (apply cells_row; (focus ((repeat' (first | assumption | (rw [aadd_block]) | (apply gN; (focus (first | exact rfl | omega | (simp only [AHeap.push_next, AHeap.put_next, aadd_block] <;> omega))); (focus exact rfl)) | (apply gO; (focus (first | omega | (simp only [AHeap.push_next, AHeap.put_next, aadd_block, ne_eq] <;> omega)))) | (apply gS; (focus (first | exact rfl | omega | (simp only [AHeap.push_next, AHeap.put_next, aadd_block] <;> omega))); (focus exact rfl)) | (apply gP; (focus (first | omega | (simp only [AHeap.push_next, AHeap.put_next, aadd_block, ne_eq] <;> omega)))) | exact rfl)); done)); (focus exact rfl); (focus exact rfl); (focus (first | exact (rfl : _ = some [_]) | exact (rfl : _ = some [_, _, _])))) | (apply cells_k; (focus assumption); (focus (first | assumption | (simp only [aadd_block] <;> first | assumption | omega))); (focus ((repeat' (first | exact Keep.refl | assumption | (apply Keep.push) | (refine Keep.put ?_ ?_; rotate_left; (focus (intro hlt; first | assumption | omega | (exfalso; simp only [AHeap.push_next, AHeap.put_next, aadd_block] at hlt; omega)))))); done))))) (hv := by exact rfl) (h := ?_)
      | refine ew_convI _ (hv := by first | exact conv_u8 _ | exact rfl) (h := ?_)
      | refine ew_conv (hn := r_conv_br (h := by first | assumption | (apply Rd.keep0; (focus assumption); ((repeat' (first | exact Keep.refl | assumption | (apply Keep.push) | (refine Keep.put ?_ ?_; rotate_left; (focus (intro hlt; first | assumption | omega | (exfalso; simp only [AHeap.push_next, AHeap.put_next, aadd_block] at hlt; omega)))))); done)))) (h := ?_)
      | (refine ew_fresh ?_; intro b hb; (first | refine ew_n (hn := (r_alloc hb)) (h := ?_)); (try simp only [AHeap.push_next, AHeap.put_next] at hb))
      | refine ew_e (he := er_store (hc := by (apply setCells_at; (focus ((repeat' (first | assumption | (rw [aadd_block]) | (apply gN; (focus (first | exact rfl | omega | (simp only [AHeap.push_next, AHeap.put_next, aadd_block] <;> omega))); (focus exact rfl)) | (apply gO; (focus (first | omega | (simp only [AHeap.push_next, AHeap.put_next, aadd_block, ne_eq] <;> omega)))) | (apply gS; (focus (first | exact rfl | omega | (simp only [AHeap.push_next, AHeap.put_next, aadd_block] <;> omega))); (focus exact rfl)) | (apply gP; (focus (first | omega | (simp only [AHeap.push_next, AHeap.put_next, aadd_block, ne_eq] <;> omega)))) | exact rfl)); done)); (focus exact rfl); (focus (first | exact Nat.le_of_ble_eq_true rfl | (simp; omega) | (simp; done) | (simp [Value.cells]; omega))); (focus (first | exact rfl | (simp; done))); (focus (first | exact (rfl : _ = [_]) | exact (rfl : _ = [_, _, _]) | exact rfl)); (focus (first | exact aadd_block _ _ | exact rfl))))) (hk := by (first | exact Mode.kept_seq rfl | (dsimp only [Mode.kept, Mode.logged, Mode.at]; (repeat' (first | exact (fun _ h => absurd h List.not_mem_nil) | (refine List.forall_mem_cons.2 ⟨?_, ?_⟩) | (refine .inl ?_; exact rfl) | (refine .inl ?_; dsimp only; decide))); done))) (h := ?_)
      | (refine ew_dec (hn := r_streq) (ht := ?_) (hf := ?_) <;> intro _)
      | (refine ew_dec (hn := (r_bin (hr := by (first | exact ib_eql | exact ib_geq | exact ib_lss | exact ib_neq)))) (ht := ?_) (hf := ?_) <;> intro _)
      | refine ew_n (hn := r_bin (hr := by (first | exact ib_xor8 _ _ | (simp (disch := omega) only [intBin, wrap_in, wrap8_in, tdiv_in, tmod_in, if_false, reduceIte]; exact rfl) | (apply ib_rem; omega)))) (h := ?_)
      | (refine w_nil ?_)
      | (refine w_nilD ?_))
    | (show EC _ _ _ _ _ _ _; first | (refine k_seq ?_) | (refine k_region ?_) | (refine k_draw (h := ?_)) | (refine k_skip ?_) | (refine k_ret ?_) | (refine k_exit ?_) | (refine k_block ?_) | (refine k_true (h := ?_)) | (refine k_false (h := ?_)))
    | (show EX _ (bodyA _ _ _) _ _ _; first | (refine x_end1 (hq := ?_)))
    | (show EX _ _ _ _ _; first | (refine x_normal ?_) | (refine x_ret ?_) | (refine x_exit ?_) | (refine x_same ?_) | (refine x_other (h := ?_)) | (refine x_bnormal ?_) | (refine x_bret ?_)))
      (first | (refine' ew_callS (hc := cr_call) (hR := ?_) (h := ?_); rotate_left 1) | (refine' ew_call (hc := cr_call) (hR := ?_) (h := ?_); rotate_left 1))
      · exact deliverM j t15.a
      rintro v H16 (⟨h, _⟩ | ⟨x2, bx, hx2', hv, hk16, hbF, hbn', hbr16, Fa16, hN16, hg16, hnb⟩)
      · rw [hat] at h; cases h
      obtain rfl : x = x2 := Option.some.inj (hat.symm.trans hx2')
      subst hv
      rw [Int.toNat_natCast] at hN16
      have t16 := t15.stepA hk16 hN16 hg16
      have hn16 := hk16.1
      have hHn := t16.k.1
      repeat' (first
    | (show EW _ _ _ _ _; first
      | refine ew_n (hn := r_move) (h := ?_)
      | refine ew_n (hn := r_assign) (h := ?_)
      | refine ew_n (hn := r_pick_t) (h := ?_)
      | refine ew_n (hn := r_pick_f) (h := ?_)
      | refine ew_n (hn := r_field) (h := ?_)
      | refine ew_n (hn := r_len) (h := ?_)
      | refine ew_n (hn := r_len_str) (h := ?_)
      | refine ew_n (hn := r_not) (h := ?_)
      | refine ew_n (hn := r_extract) (h := ?_)
      | refine ew_n (hn := (r_index (h0 := by omega) (h1 := by first | omega | (simp; done) | (simp; omega)))) (h := ?_)
      | refine ew_n (hn := r_nil_eq) (h := ?_)
      | refine ew_n (hn := r_beq) (h := ?_)
      | refine ew_n (hn := r_nil_ne) (h := ?_)
      | refine ew_n (hn := r_bne) (h := ?_)
      | refine ew_n (hn := (r_slice (h := by assumption))) (h := ?_)
      | refine ew_n (hn := (r_shl (hn := by omega))) (h := ?_)
      | refine ew_n (hn := (r_bin (hr := by first | (apply cmp_t; (focus (first | exact ib_eql | exact ib_geq | exact ib_lss | exact ib_neq)); omega) | (apply cmp_f; (focus (first | exact ib_eql | exact ib_geq | exact ib_lss | exact ib_neq)); omega)))) (h := ?_)
      | refine ew_skip (h := ?_)
      | refine ew_load (hc := by (first | assumption | (apply cells_row; (focus ((repeat' (first | assumption | (rw [aadd_block]) | (apply gN; (focus (first | exact rfl | omega | (simp only [AHeap.push_next, AHeap.put_next, aadd_block] <;> omega))); (focus exact rfl)) | (apply gO; (focus (first | omega | (simp only [AHeap.push_next, AHeap.put_next, aadd_block, ne_eq] <;> omega)))) | (apply gS; (focus (first | exact rfl | omega | (simp only [AHeap.push_next, AHeap.put_next, aadd_block] <;> omega))); (focus exact rfl)) | (apply gP; (focus (first | omega | (simp only [AHeap.push_next, AHeap.put_next, aadd_block, ne_eq] <;> omega)))) | exact rfl)); done)); (focus exact rfl); (focus exact rfl); (focus (first | exact (rfl : _ = some [_]) | exact (rfl : _ = some [_, _, _])))) | (apply cells_k; (focus assumption); (focus (first | assumption | (simp only [aadd_block] <;> first | assumption | omega))); (focus ((repeat' (first | exact Keep.refl | assumption | (apply Keep.push) | (refine Keep.put ?_ ?_; rotate_left; (focus (intro hlt; first | assumption | omega | (exfalso; simp only [AHeap.push_next, AHeap.put_next, aadd_block] at hlt; omega)))))); done))))) (hv := by exact rfl) (h := ?_)
      | refine ew_convI _ (hv := by first | exact conv_u8 _ | exact rfl) (h := ?_)
      | refine ew_conv (hn := r_conv_br (h := by first | assumption | (apply Rd.keep0; (focus assumption); ((repeat' (first | exact Keep.refl | assumption | (apply Keep.push) | (refine Keep.put ?_ ?_; rotate_left; (focus (intro hlt; first | assumption | omega | (exfalso; simp only [AHeap.push_next, AHeap.put_next, aadd_block] at hlt; omega)))))); done)))) (h := ?_)
      | (refine ew_fresh ?_; intro b hb; (first | refine ew_n (hn := (r_alloc hb)) (h := ?_)); (try simp only [AHeap.push_next, AHeap.put_next] at hb))
      | refine ew_e (he := er_store (hc := by (apply setCells_at; (focus ((repeat' (first | assumption | (rw [aadd_block]) | (apply gN; (focus (first | exact rfl | omega | (simp only [AHeap.push_next, AHeap.put_next, aadd_block] <;> omega))); (focus exact rfl)) | (apply gO; (focus (first | omega | (simp only [AHeap.push_next, AHeap.put_next, aadd_block, ne_eq] <;> omega)))) | (apply gS; (focus (first | exact rfl | omega | (simp only [AHeap.push_next, AHeap.put_next, aadd_block] <;> omega))); (focus exact rfl)) | (apply gP; (focus (first | omega | (simp only [AHeap.push_next, AHeap.put_next, aadd_block, ne_eq] <;> omega)))) | exact rfl)); done)); (focus exact rfl); (focus (first | exact Nat.le_of_ble_eq_true rfl | (simp; omega) | (simp; done) | (simp [Value.cells]; omega))); (focus (first | exact rfl | (simp; done))); (focus (first | exact (rfl : _ = [_]) | exact (rfl : _ = [_, _, _]) | exact rfl)); (focus (first | exact aadd_block _ _ | exact rfl))))) (hk := by (first | exact Mode.kept_seq rfl | (dsimp only [Mode.kept, Mode.logged, Mode.at]; (repeat' (first | exact (fun _ h => absurd h List.not_mem_nil) | (refine List.forall_mem_cons.2 ⟨?_, ?_⟩) | (refine .inl ?_; exact rfl) | (refine .inl ?_; dsimp only; decide))); done))) (h := ?_)
      | (refine ew_dec (hn := r_streq) (ht := ?_) (hf := ?_) <;> intro _)
      | (refine ew_dec (hn := (r_bin (hr := by (first | exact ib_eql | exact ib_geq | exact ib_lss | exact ib_neq)))) (ht := ?_) (hf := ?_) <;> intro _)
      | refine ew_n (hn := r_bin (hr := by (first | exact ib_xor8 _ _ | (simp (disch := omega) only [intBin, wrap_in, wrap8_in, tdiv_in, tmod_in, if_false, reduceIte]; exact rfl) | (apply ib_rem; omega)))) (h := ?_)
      | (refine w_nil ?_)
      | (refine w_nilD ?_))
    | (show EC _ _ _ _ _ _ _; first | (refine k_seq ?_) | (refine k_region ?_) | (refine k_draw (h := ?_)) | (refine k_skip ?_) | (refine k_ret ?_) | (refine k_exit ?_) | (refine k_block ?_) | (refine k_true (h := ?_)) | (refine k_false (h := ?_)))
    | (show EX _ (bodyA _ _ _) _ _ _; first | (refine x_end1 (hq := ?_)))
    | (show EX _ _ _ _ _; first | (refine x_normal ?_) | (refine x_ret ?_) | (refine x_exit ?_) | (refine x_same ?_) | (refine x_other (h := ?_)) | (refine x_bnormal ?_) | (refine x_bret ?_)))
      have t17 : Tri H _ ea eb (M.eraseIdx j) M Fa16 Fb G (.slice (some adw) M.length cw) M := t16.keep0 (H' := (H16.push (.row ⟨[.int .i64 0, .int .i64 0, .slice none 0 0], 32, 0, true⟩)).put b (.row ⟨[.int .i64 x.1, .int .i64 x.2.1, .slice (some ⟨bx, 0, none⟩) x.2.2.length x.2.2.length], 32, 0, true⟩)) (by ((repeat' (first | exact Keep.refl | assumption | (apply Keep.push) | (refine Keep.put ?_ ?_; rotate_left; (focus (intro hlt; first | assumption | omega | (exfalso; simp only [AHeap.push_next, AHeap.put_next, aadd_block] at hlt; omega)))))); done))
      (first | (refine' ew_callS (hc := cr_call) (hR := ?_) (h := ?_); rotate_left 1) | (refine' ew_call (hc := cr_call) (hR := ?_) (h := ?_); rotate_left 1))
      · exact dropM j t17.b
      have hcutb : cutP M j = M.eraseIdx j := by unfold cutP; rw [hat]; simp
      simp only [hat, hcutb, Option.isSome_some]
      rintro _ H18 ⟨rfl, hk18, Fb18, hN18, hg18⟩
      have t18 := t17.stepB hk18 hN18 hg18
      have hn18 := hk18.1
      simp only [AHeap.push_next, AHeap.put_next] at hn18
      have hrow : H18.get b = some (.row ⟨[.int .i64 x.1, .int .i64 x.2.1, .slice (some ⟨bx, 0, none⟩) x.2.2.length x.2.2.length], 32, 0, true⟩) := hk18.row (i := b) (by ((repeat' (first | assumption | (rw [aadd_block]) | (apply gN; (focus (first | exact rfl | omega | (simp only [AHeap.push_next, AHeap.put_next, aadd_block] <;> omega))); (focus exact rfl)) | (apply gO; (focus (first | omega | (simp only [AHeap.push_next, AHeap.put_next, aadd_block, ne_eq] <;> omega)))) | (apply gS; (focus (first | exact rfl | omega | (simp only [AHeap.push_next, AHeap.put_next, aadd_block] <;> omega))); (focus exact rfl)) | (apply gP; (focus (first | omega | (simp only [AHeap.push_next, AHeap.put_next, aadd_block, ne_eq] <;> omega)))) | exact rfl)); done)) (by simp only [AHeap.push_next, AHeap.put_next]; omega) (fun h => by have := t16.b.bound b h; omega)
      have hrowx : H18.get bx = some (.row ⟨bytesV x.2.2, 5, 0, true⟩) := hk18.row (i := bx) (by ((repeat' (first | assumption | (rw [aadd_block]) | (apply gN; (focus (first | exact rfl | omega | (simp only [AHeap.push_next, AHeap.put_next, aadd_block] <;> omega))); (focus exact rfl)) | (apply gO; (focus (first | omega | (simp only [AHeap.push_next, AHeap.put_next, aadd_block, ne_eq] <;> omega)))) | (apply gS; (focus (first | exact rfl | omega | (simp only [AHeap.push_next, AHeap.put_next, aadd_block] <;> omega))); (focus exact rfl)) | (apply gP; (focus (first | omega | (simp only [AHeap.push_next, AHeap.put_next, aadd_block, ne_eq] <;> omega)))) | exact rfl)); done)) (by simp only [AHeap.push_next, AHeap.put_next]; omega) (fun h => t15.ab bx hbF h)
      obtain ⟨ad18, c18, zz18, cb18, hv18, hlt18, hc318, hc118, hbr18⟩ := t18.w.at3 hx
      simp only [Value.slice.injEq, true_and, Option.some.injEq] at hv18
      obtain ⟨rfl, rfl⟩ := hv18
      repeat' (first
    | (show EW _ _ _ _ _; first
      | refine ew_n (hn := r_move) (h := ?_)
      | refine ew_n (hn := r_assign) (h := ?_)
      | refine ew_n (hn := r_pick_t) (h := ?_)
      | refine ew_n (hn := r_pick_f) (h := ?_)
      | refine ew_n (hn := r_field) (h := ?_)
      | refine ew_n (hn := r_len) (h := ?_)
      | refine ew_n (hn := r_len_str) (h := ?_)
      | refine ew_n (hn := r_not) (h := ?_)
      | refine ew_n (hn := r_extract) (h := ?_)
      | refine ew_n (hn := (r_index (h0 := by omega) (h1 := by first | omega | (simp; done) | (simp; omega)))) (h := ?_)
      | refine ew_n (hn := r_nil_eq) (h := ?_)
      | refine ew_n (hn := r_beq) (h := ?_)
      | refine ew_n (hn := r_nil_ne) (h := ?_)
      | refine ew_n (hn := r_bne) (h := ?_)
      | refine ew_n (hn := (r_slice (h := by assumption))) (h := ?_)
      | refine ew_n (hn := (r_shl (hn := by omega))) (h := ?_)
      | refine ew_n (hn := (r_bin (hr := by first | (apply cmp_t; (focus (first | exact ib_eql | exact ib_geq | exact ib_lss | exact ib_neq)); omega) | (apply cmp_f; (focus (first | exact ib_eql | exact ib_geq | exact ib_lss | exact ib_neq)); omega)))) (h := ?_)
      | refine ew_skip (h := ?_)
      | refine ew_load (hc := by (first | assumption | (apply cells_row; (focus ((repeat' (first | assumption | (rw [aadd_block]) | (apply gN; (focus (first | exact rfl | omega | (simp only [AHeap.push_next, AHeap.put_next, aadd_block] <;> omega))); (focus exact rfl)) | (apply gO; (focus (first | omega | (simp only [AHeap.push_next, AHeap.put_next, aadd_block, ne_eq] <;> omega)))) | (apply gS; (focus (first | exact rfl | omega | (simp only [AHeap.push_next, AHeap.put_next, aadd_block] <;> omega))); (focus exact rfl)) | (apply gP; (focus (first | omega | (simp only [AHeap.push_next, AHeap.put_next, aadd_block, ne_eq] <;> omega)))) | exact rfl)); done)); (focus exact rfl); (focus exact rfl); (focus (first | exact (rfl : _ = some [_]) | exact (rfl : _ = some [_, _, _])))) | (apply cells_k; (focus assumption); (focus (first | assumption | (simp only [aadd_block] <;> first | assumption | omega))); (focus ((repeat' (first | exact Keep.refl | assumption | (apply Keep.push) | (refine Keep.put ?_ ?_; rotate_left; (focus (intro hlt; first | assumption | omega | (exfalso; simp only [AHeap.push_next, AHeap.put_next, aadd_block] at hlt; omega)))))); done))))) (hv := by exact rfl) (h := ?_)
      | refine ew_convI _ (hv := by first | exact conv_u8 _ | exact rfl) (h := ?_)
      | refine ew_conv (hn := r_conv_br (h := by first | assumption | (apply Rd.keep0; (focus assumption); ((repeat' (first | exact Keep.refl | assumption | (apply Keep.push) | (refine Keep.put ?_ ?_; rotate_left; (focus (intro hlt; first | assumption | omega | (exfalso; simp only [AHeap.push_next, AHeap.put_next, aadd_block] at hlt; omega)))))); done)))) (h := ?_)
      | (refine ew_fresh ?_; intro b hb; (first | refine ew_n (hn := (r_alloc hb)) (h := ?_)); (try simp only [AHeap.push_next, AHeap.put_next] at hb))
      | refine ew_e (he := er_store (hc := by (apply setCells_at; (focus ((repeat' (first | assumption | (rw [aadd_block]) | (apply gN; (focus (first | exact rfl | omega | (simp only [AHeap.push_next, AHeap.put_next, aadd_block] <;> omega))); (focus exact rfl)) | (apply gO; (focus (first | omega | (simp only [AHeap.push_next, AHeap.put_next, aadd_block, ne_eq] <;> omega)))) | (apply gS; (focus (first | exact rfl | omega | (simp only [AHeap.push_next, AHeap.put_next, aadd_block] <;> omega))); (focus exact rfl)) | (apply gP; (focus (first | omega | (simp only [AHeap.push_next, AHeap.put_next, aadd_block, ne_eq] <;> omega)))) | exact rfl)); done)); (focus exact rfl); (focus (first | exact Nat.le_of_ble_eq_true rfl | (simp; omega) | (simp; done) | (simp [Value.cells]; omega))); (focus (first | exact rfl | (simp; done))); (focus (first | exact (rfl : _ = [_]) | exact (rfl : _ = [_, _, _]) | exact rfl)); (focus (first | exact aadd_block _ _ | exact rfl))))) (hk := by (first | exact Mode.kept_seq rfl | (dsimp only [Mode.kept, Mode.logged, Mode.at]; (repeat' (first | exact (fun _ h => absurd h List.not_mem_nil) | (refine List.forall_mem_cons.2 ⟨?_, ?_⟩) | (refine .inl ?_; exact rfl) | (refine .inl ?_; dsimp only; decide))); done))) (h := ?_)
      | (refine ew_dec (hn := r_streq) (ht := ?_) (hf := ?_) <;> intro _)
      | (refine ew_dec (hn := (r_bin (hr := by (first | exact ib_eql | exact ib_geq | exact ib_lss | exact ib_neq)))) (ht := ?_) (hf := ?_) <;> intro _)
      | refine ew_n (hn := r_bin (hr := by (first | exact ib_xor8 _ _ | (simp (disch := omega) only [intBin, wrap_in, wrap8_in, tdiv_in, tmod_in, if_false, reduceIte]; exact rfl) | (apply ib_rem; omega)))) (h := ?_)
      | (refine w_nil ?_)
      | (refine w_nilD ?_))
    | (show EC _ _ _ _ _ _ _; first | (refine k_seq ?_) | (refine k_region ?_) | (refine k_draw (h := ?_)) | (refine k_skip ?_) | (refine k_ret ?_) | (refine k_exit ?_) | (refine k_block ?_) | (refine k_true (h := ?_)) | (refine k_false (h := ?_)))
    | (show EX _ (bodyA _ _ _) _ _ _; first | (refine x_end1 (hq := ?_)))
    | (show EX _ _ _ _ _; first | (refine x_normal ?_) | (refine x_ret ?_) | (refine x_exit ?_) | (refine x_same ?_) | (refine x_other (h := ?_)) | (refine x_bnormal ?_) | (refine x_bret ?_)))
      (first | (refine' ew_callS (hc := cr_call) (hR := ?_) (h := ?_); rotate_left 1) | (refine' ew_call (hc := cr_call) (hR := ?_) (h := ?_); rotate_left 1))
      · exact sameFlight_calls (f := x.1) (t := x.2.1) (f' := x.1) (t' := x.2.1) (F := fun y => y = bx) _ (rd_row hrowx rfl (by omega)) hbr18
      rintro _ H19 ⟨rfl, hk19⟩
      refine ⟨by (dsimp only [Mode.kept, Mode.logged, Mode.at]; (repeat' (first | exact (fun _ h => absurd h List.not_mem_nil) | (refine List.forall_mem_cons.2 ⟨?_, ?_⟩) | (refine .inl ?_; exact rfl) | (refine .inl ?_; dsimp only; decide) | (refine .inr ?_; exact hk19.cells (by simp only [aadd_block]; omega) id)))), ?_⟩
      have t19 := t18.keep0 hk19
      rw [decide_eq_true ⟨rfl, rfl, rfl⟩]
      repeat' (first
    | (show EW _ _ _ _ _; first
      | refine ew_n (hn := r_move) (h := ?_)
      | refine ew_n (hn := r_assign) (h := ?_)
      | refine ew_n (hn := r_pick_t) (h := ?_)
      | refine ew_n (hn := r_pick_f) (h := ?_)
      | refine ew_n (hn := r_field) (h := ?_)
      | refine ew_n (hn := r_len) (h := ?_)
      | refine ew_n (hn := r_len_str) (h := ?_)
      | refine ew_n (hn := r_not) (h := ?_)
      | refine ew_n (hn := r_extract) (h := ?_)
      | refine ew_n (hn := (r_index (h0 := by omega) (h1 := by first | omega | (simp; done) | (simp; omega)))) (h := ?_)
      | refine ew_n (hn := r_nil_eq) (h := ?_)
      | refine ew_n (hn := r_beq) (h := ?_)
      | refine ew_n (hn := r_nil_ne) (h := ?_)
      | refine ew_n (hn := r_bne) (h := ?_)
      | refine ew_n (hn := (r_slice (h := by assumption))) (h := ?_)
      | refine ew_n (hn := (r_shl (hn := by omega))) (h := ?_)
      | refine ew_n (hn := (r_bin (hr := by first | (apply cmp_t; (focus (first | exact ib_eql | exact ib_geq | exact ib_lss | exact ib_neq)); omega) | (apply cmp_f; (focus (first | exact ib_eql | exact ib_geq | exact ib_lss | exact ib_neq)); omega)))) (h := ?_)
      | refine ew_skip (h := ?_)
      | refine ew_load (hc := by (first | assumption | (apply cells_row; (focus ((repeat' (first | assumption | (rw [aadd_block]) | (apply gN; (focus (first | exact rfl | omega | (simp only [AHeap.push_next, AHeap.put_next, aadd_block] <;> omega))); (focus exact rfl)) | (apply gO; (focus (first | omega | (simp only [AHeap.push_next, AHeap.put_next, aadd_block, ne_eq] <;> omega)))) | (apply gS; (focus (first | exact rfl | omega | (simp only [AHeap.push_next, AHeap.put_next, aadd_block] <;> omega))); (focus exact rfl)) | (apply gP; (focus (first | omega | (simp only [AHeap.push_next, AHeap.put_next, aadd_block, ne_eq] <;> omega)))) | exact rfl)); done)); (focus exact rfl); (focus exact rfl); (focus (first | exact (rfl : _ = some [_]) | exact (rfl : _ = some [_, _, _])))) | (apply cells_k; (focus assumption); (focus (first | assumption | (simp only [aadd_block] <;> first | assumption | omega))); (focus ((repeat' (first | exact Keep.refl | assumption | (apply Keep.push) | (refine Keep.put ?_ ?_; rotate_left; (focus (intro hlt; first | assumption | omega | (exfalso; simp only [AHeap.push_next, AHeap.put_next, aadd_block] at hlt; omega)))))); done))))) (hv := by exact rfl) (h := ?_)
      | refine ew_convI _ (hv := by first | exact conv_u8 _ | exact rfl) (h := ?_)
      | refine ew_conv (hn := r_conv_br (h := by first | assumption | (apply Rd.keep0; (focus assumption); ((repeat' (first | exact Keep.refl | assumption | (apply Keep.push) | (refine Keep.put ?_ ?_; rotate_left; (focus (intro hlt; first | assumption | omega | (exfalso; simp only [AHeap.push_next, AHeap.put_next, aadd_block] at hlt; omega)))))); done)))) (h := ?_)
      | (refine ew_fresh ?_; intro b hb; (first | refine ew_n (hn := (r_alloc hb)) (h := ?_)); (try simp only [AHeap.push_next, AHeap.put_next] at hb))
      | refine ew_e (he := er_store (hc := by (apply setCells_at; (focus ((repeat' (first | assumption | (rw [aadd_block]) | (apply gN; (focus (first | exact rfl | omega | (simp only [AHeap.push_next, AHeap.put_next, aadd_block] <;> omega))); (focus exact rfl)) | (apply gO; (focus (first | omega | (simp only [AHeap.push_next, AHeap.put_next, aadd_block, ne_eq] <;> omega)))) | (apply gS; (focus (first | exact rfl | omega | (simp only [AHeap.push_next, AHeap.put_next, aadd_block] <;> omega))); (focus exact rfl)) | (apply gP; (focus (first | omega | (simp only [AHeap.push_next, AHeap.put_next, aadd_block, ne_eq] <;> omega)))) | exact rfl)); done)); (focus exact rfl); (focus (first | exact Nat.le_of_ble_eq_true rfl | (simp; omega) | (simp; done) | (simp [Value.cells]; omega))); (focus (first | exact rfl | (simp; done))); (focus (first | exact (rfl : _ = [_]) | exact (rfl : _ = [_, _, _]) | exact rfl)); (focus (first | exact aadd_block _ _ | exact rfl))))) (hk := by (first | exact Mode.kept_seq rfl | (dsimp only [Mode.kept, Mode.logged, Mode.at]; (repeat' (first | exact (fun _ h => absurd h List.not_mem_nil) | (refine List.forall_mem_cons.2 ⟨?_, ?_⟩) | (refine .inl ?_; exact rfl) | (refine .inl ?_; dsimp only; decide))); done))) (h := ?_)
      | (refine ew_dec (hn := r_streq) (ht := ?_) (hf := ?_) <;> intro _)
      | (refine ew_dec (hn := (r_bin (hr := by (first | exact ib_eql | exact ib_geq | exact ib_lss | exact ib_neq)))) (ht := ?_) (hf := ?_) <;> intro _)
      | refine ew_n (hn := r_bin (hr := by (first | exact ib_xor8 _ _ | (simp (disch := omega) only [intBin, wrap_in, wrap8_in, tdiv_in, tmod_in, if_false, reduceIte]; exact rfl) | (apply ib_rem; omega)))) (h := ?_)
      | (refine w_nil ?_)
      | (refine w_nilD ?_))
    | (show EC _ _ _ _ _ _ _; first | (refine k_seq ?_) | (refine k_region ?_) | (refine k_draw (h := ?_)) | (refine k_skip ?_) | (refine k_ret ?_) | (refine k_exit ?_) | (refine k_block ?_) | (refine k_true (h := ?_)) | (refine k_false (h := ?_)))
    | (show EX _ (bodyA _ _ _) _ _ _; first | (refine x_end1 (hq := ?_)))
    | (show EX _ _ _ _ _; first | (refine x_normal ?_) | (refine x_ret ?_) | (refine x_exit ?_) | (refine x_same ?_) | (refine x_other (h := ?_)) | (refine x_bnormal ?_) | (refine x_bret ?_)))
      (first | (refine' ew_callS (hc := cr_call) (hR := ?_) (h := ?_); rotate_left 1) | (refine' ew_call (hc := cr_call) (hR := ?_) (h := ?_); rotate_left 1))
      · exact listM t19.a
      rintro n20 H20 ⟨hk20, L20, hL20, hm20⟩
      refine ⟨by (dsimp only [Mode.kept, Mode.logged, Mode.at]; (repeat' (first | exact (fun _ h => absurd h List.not_mem_nil) | (refine List.forall_mem_cons.2 ⟨?_, ?_⟩) | (refine .inl ?_; exact rfl) | (refine .inl ?_; dsimp only; decide) | (refine .inr ?_; exact (hk19.after hk20).cells (by simp only [aadd_block]; omega) id)))), ?_⟩
      have t20 := t19.keep0 hk20
      have r20 := hL20.reads
      rw [hm20] at r20
      repeat' (first
    | (show EW _ _ _ _ _; first
      | refine ew_n (hn := r_move) (h := ?_)
      | refine ew_n (hn := r_assign) (h := ?_)
      | refine ew_n (hn := r_pick_t) (h := ?_)
      | refine ew_n (hn := r_pick_f) (h := ?_)
      | refine ew_n (hn := r_field) (h := ?_)
      | refine ew_n (hn := r_len) (h := ?_)
      | refine ew_n (hn := r_len_str) (h := ?_)
      | refine ew_n (hn := r_not) (h := ?_)
      | refine ew_n (hn := r_extract) (h := ?_)
      | refine ew_n (hn := (r_index (h0 := by omega) (h1 := by first | omega | (simp; done) | (simp; omega)))) (h := ?_)
      | refine ew_n (hn := r_nil_eq) (h := ?_)
      | refine ew_n (hn := r_beq) (h := ?_)
      | refine ew_n (hn := r_nil_ne) (h := ?_)
      | refine ew_n (hn := r_bne) (h := ?_)
      | refine ew_n (hn := (r_slice (h := by assumption))) (h := ?_)
      | refine ew_n (hn := (r_shl (hn := by omega))) (h := ?_)
      | refine ew_n (hn := (r_bin (hr := by first | (apply cmp_t; (focus (first | exact ib_eql | exact ib_geq | exact ib_lss | exact ib_neq)); omega) | (apply cmp_f; (focus (first | exact ib_eql | exact ib_geq | exact ib_lss | exact ib_neq)); omega)))) (h := ?_)
      | refine ew_skip (h := ?_)
      | refine ew_load (hc := by (first | assumption | (apply cells_row; (focus ((repeat' (first | assumption | (rw [aadd_block]) | (apply gN; (focus (first | exact rfl | omega | (simp only [AHeap.push_next, AHeap.put_next, aadd_block] <;> omega))); (focus exact rfl)) | (apply gO; (focus (first | omega | (simp only [AHeap.push_next, AHeap.put_next, aadd_block, ne_eq] <;> omega)))) | (apply gS; (focus (first | exact rfl | omega | (simp only [AHeap.push_next, AHeap.put_next, aadd_block] <;> omega))); (focus exact rfl)) | (apply gP; (focus (first | omega | (simp only [AHeap.push_next, AHeap.put_next, aadd_block, ne_eq] <;> omega)))) | exact rfl)); done)); (focus exact rfl); (focus exact rfl); (focus (first | exact (rfl : _ = some [_]) | exact (rfl : _ = some [_, _, _])))) | (apply cells_k; (focus assumption); (focus (first | assumption | (simp only [aadd_block] <;> first | assumption | omega))); (focus ((repeat' (first | exact Keep.refl | assumption | (apply Keep.push) | (refine Keep.put ?_ ?_; rotate_left; (focus (intro hlt; first | assumption | omega | (exfalso; simp only [AHeap.push_next, AHeap.put_next, aadd_block] at hlt; omega)))))); done))))) (hv := by exact rfl) (h := ?_)
      | refine ew_convI _ (hv := by first | exact conv_u8 _ | exact rfl) (h := ?_)
      | refine ew_conv (hn := r_conv_br (h := by first | assumption | (apply Rd.keep0; (focus assumption); ((repeat' (first | exact Keep.refl | assumption | (apply Keep.push) | (refine Keep.put ?_ ?_; rotate_left; (focus (intro hlt; first | assumption | omega | (exfalso; simp only [AHeap.push_next, AHeap.put_next, aadd_block] at hlt; omega)))))); done)))) (h := ?_)
      | (refine ew_fresh ?_; intro b hb; (first | refine ew_n (hn := (r_alloc hb)) (h := ?_)); (try simp only [AHeap.push_next, AHeap.put_next] at hb))
      | refine ew_e (he := er_store (hc := by (apply setCells_at; (focus ((repeat' (first | assumption | (rw [aadd_block]) | (apply gN; (focus (first | exact rfl | omega | (simp only [AHeap.push_next, AHeap.put_next, aadd_block] <;> omega))); (focus exact rfl)) | (apply gO; (focus (first | omega | (simp only [AHeap.push_next, AHeap.put_next, aadd_block, ne_eq] <;> omega)))) | (apply gS; (focus (first | exact rfl | omega | (simp only [AHeap.push_next, AHeap.put_next, aadd_block] <;> omega))); (focus exact rfl)) | (apply gP; (focus (first | omega | (simp only [AHeap.push_next, AHeap.put_next, aadd_block, ne_eq] <;> omega)))) | exact rfl)); done)); (focus exact rfl); (focus (first | exact Nat.le_of_ble_eq_true rfl | (simp; omega) | (simp; done) | (simp [Value.cells]; omega))); (focus (first | exact rfl | (simp; done))); (focus (first | exact (rfl : _ = [_]) | exact (rfl : _ = [_, _, _]) | exact rfl)); (focus (first | exact aadd_block _ _ | exact rfl))))) (hk := by (first | exact Mode.kept_seq rfl | (dsimp only [Mode.kept, Mode.logged, Mode.at]; (repeat' (first | exact (fun _ h => absurd h List.not_mem_nil) | (refine List.forall_mem_cons.2 ⟨?_, ?_⟩) | (refine .inl ?_; exact rfl) | (refine .inl ?_; dsimp only; decide))); done))) (h := ?_)
      | (refine ew_dec (hn := r_streq) (ht := ?_) (hf := ?_) <;> intro _)
      | (refine ew_dec (hn := (r_bin (hr := by (first | exact ib_eql | exact ib_geq | exact ib_lss | exact ib_neq)))) (ht := ?_) (hf := ?_) <;> intro _)
      | refine ew_n (hn := r_bin (hr := by (first | exact ib_xor8 _ _ | (simp (disch := omega) only [intBin, wrap_in, wrap8_in, tdiv_in, tmod_in, if_false, reduceIte]; exact rfl) | (apply ib_rem; omega)))) (h := ?_)
      | (refine w_nil ?_)
      | (refine w_nilD ?_))
    | (show EC _ _ _ _ _ _ _; first | (refine k_seq ?_) | (refine k_region ?_) | (refine k_draw (h := ?_)) | (refine k_skip ?_) | (refine k_ret ?_) | (refine k_exit ?_) | (refine k_block ?_) | (refine k_true (h := ?_)) | (refine k_false (h := ?_)))
    | (show EX _ (bodyA _ _ _) _ _ _; first | (refine x_end1 (hq := ?_)))
    | (show EX _ _ _ _ _; first | (refine x_normal ?_) | (refine x_ret ?_) | (refine x_exit ?_) | (refine x_same ?_) | (refine x_other (h := ?_)) | (refine x_bnormal ?_) | (refine x_bret ?_)))
      (first | (refine' ew_callS (hc := cr_call) (hR := ?_) (h := ?_); rotate_left 1) | (refine' ew_call (hc := cr_call) (hR := ?_) (h := ?_); rotate_left 1))
      · exact listM t20.b
      rintro n21 H21 ⟨hk21, L21, hL21, hm21⟩
      refine ⟨by (dsimp only [Mode.kept, Mode.logged, Mode.at]; (repeat' (first | exact (fun _ h => absurd h List.not_mem_nil) | (refine List.forall_mem_cons.2 ⟨?_, ?_⟩) | (refine .inl ?_; exact rfl) | (refine .inl ?_; dsimp only; decide) | (refine .inr ?_; exact ((hk19.after hk20).after hk21).cells (by simp only [aadd_block]; omega) id)))), ?_⟩
      have t21 := t20.keep0 hk21
      have r21 := hL21.reads
      rw [hm21] at r21
      have hel : (M.eraseIdx j).length = M.length - 1 := by rw [List.length_eraseIdx, if_pos hj]
      repeat' (first
    | (show EW _ _ _ _ _; first
      | refine ew_n (hn := r_move) (h := ?_)
      | refine ew_n (hn := r_assign) (h := ?_)
      | refine ew_n (hn := r_pick_t) (h := ?_)
      | refine ew_n (hn := r_pick_f) (h := ?_)
      | refine ew_n (hn := r_field) (h := ?_)
      | refine ew_n (hn := r_len) (h := ?_)
      | refine ew_n (hn := r_len_str) (h := ?_)
      | refine ew_n (hn := r_not) (h := ?_)
      | refine ew_n (hn := r_extract) (h := ?_)
      | refine ew_n (hn := (r_index (h0 := by omega) (h1 := by first | omega | (simp; done) | (simp; omega)))) (h := ?_)
      | refine ew_n (hn := r_nil_eq) (h := ?_)
      | refine ew_n (hn := r_beq) (h := ?_)
      | refine ew_n (hn := r_nil_ne) (h := ?_)
      | refine ew_n (hn := r_bne) (h := ?_)
      | refine ew_n (hn := (r_slice (h := by assumption))) (h := ?_)
      | refine ew_n (hn := (r_shl (hn := by omega))) (h := ?_)
      | refine ew_n (hn := (r_bin (hr := by first | (apply cmp_t; (focus (first | exact ib_eql | exact ib_geq | exact ib_lss | exact ib_neq)); omega) | (apply cmp_f; (focus (first | exact ib_eql | exact ib_geq | exact ib_lss | exact ib_neq)); omega)))) (h := ?_)
      | refine ew_skip (h := ?_)
      | refine ew_load (hc := by (first | assumption | (apply cells_row; (focus ((repeat' (first | assumption | (rw [aadd_block]) | (apply gN; (focus (first | exact rfl | omega | (simp only [AHeap.push_next, AHeap.put_next, aadd_block] <;> omega))); (focus exact rfl)) | (apply gO; (focus (first | omega | (simp only [AHeap.push_next, AHeap.put_next, aadd_block, ne_eq] <;> omega)))) | (apply gS; (focus (first | exact rfl | omega | (simp only [AHeap.push_next, AHeap.put_next, aadd_block] <;> omega))); (focus exact rfl)) | (apply gP; (focus (first | omega | (simp only [AHeap.push_next, AHeap.put_next, aadd_block, ne_eq] <;> omega)))) | exact rfl)); done)); (focus exact rfl); (focus exact rfl); (focus (first | exact (rfl : _ = some [_]) | exact (rfl : _ = some [_, _, _])))) | (apply cells_k; (focus assumption); (focus (first | assumption | (simp only [aadd_block] <;> first | assumption | omega))); (focus ((repeat' (first | exact Keep.refl | assumption | (apply Keep.push) | (refine Keep.put ?_ ?_; rotate_left; (focus (intro hlt; first | assumption | omega | (exfalso; simp only [AHeap.push_next, AHeap.put_next, aadd_block] at hlt; omega)))))); done))))) (hv := by exact rfl) (h := ?_)
      | refine ew_convI _ (hv := by first | exact conv_u8 _ | exact rfl) (h := ?_)
      | refine ew_conv (hn := r_conv_br (h := by first | assumption | (apply Rd.keep0; (focus assumption); ((repeat' (first | exact Keep.refl | assumption | (apply Keep.push) | (refine Keep.put ?_ ?_; rotate_left; (focus (intro hlt; first | assumption | omega | (exfalso; simp only [AHeap.push_next, AHeap.put_next, aadd_block] at hlt; omega)))))); done)))) (h := ?_)
      | (refine ew_fresh ?_; intro b hb; (first | refine ew_n (hn := (r_alloc hb)) (h := ?_)); (try simp only [AHeap.push_next, AHeap.put_next] at hb))
      | refine ew_e (he := er_store (hc := by (apply setCells_at; (focus ((repeat' (first | assumption | (rw [aadd_block]) | (apply gN; (focus (first | exact rfl | omega | (simp only [AHeap.push_next, AHeap.put_next, aadd_block] <;> omega))); (focus exact rfl)) | (apply gO; (focus (first | omega | (simp only [AHeap.push_next, AHeap.put_next, aadd_block, ne_eq] <;> omega)))) | (apply gS; (focus (first | exact rfl | omega | (simp only [AHeap.push_next, AHeap.put_next, aadd_block] <;> omega))); (focus exact rfl)) | (apply gP; (focus (first | omega | (simp only [AHeap.push_next, AHeap.put_next, aadd_block, ne_eq] <;> omega)))) | exact rfl)); done)); (focus exact rfl); (focus (first | exact Nat.le_of_ble_eq_true rfl | (simp; omega) | (simp; done) | (simp [Value.cells]; omega))); (focus (first | exact rfl | (simp; done))); (focus (first | exact (rfl : _ = [_]) | exact (rfl : _ = [_, _, _]) | exact rfl)); (focus (first | exact aadd_block _ _ | exact rfl))))) (hk := by (first | exact Mode.kept_seq rfl | (dsimp only [Mode.kept, Mode.logged, Mode.at]; (repeat' (first | exact (fun _ h => absurd h List.not_mem_nil) | (refine List.forall_mem_cons.2 ⟨?_, ?_⟩) | (refine .inl ?_; exact rfl) | (refine .inl ?_; dsimp only; decide))); done))) (h := ?_)
      | (refine ew_dec (hn := r_streq) (ht := ?_) (hf := ?_) <;> intro _)
      | (refine ew_dec (hn := (r_bin (hr := by (first | exact ib_eql | exact ib_geq | exact ib_lss | exact ib_neq)))) (ht := ?_) (hf := ?_) <;> intro _)
      | refine ew_n (hn := r_bin (hr := by (first | exact ib_xor8 _ _ | (simp (disch := omega) only [intBin, wrap_in, wrap8_in, tdiv_in, tmod_in, if_false, reduceIte]; exact rfl) | (apply ib_rem; omega)))) (h := ?_)
      | (refine w_nil ?_)
      | (refine w_nilD ?_))
    | (show EC _ _ _ _ _ _ _; first | (refine k_seq ?_) | (refine k_region ?_) | (refine k_draw (h := ?_)) | (refine k_skip ?_) | (refine k_ret ?_) | (refine k_exit ?_) | (refine k_block ?_) | (refine k_true (h := ?_)) | (refine k_false (h := ?_)))
    | (show EX _ (bodyA _ _ _) _ _ _; first | (refine x_end1 (hq := ?_)))
    | (show EX _ _ _ _ _; first | (refine x_normal ?_) | (refine x_ret ?_) | (refine x_exit ?_) | (refine x_same ?_) | (refine x_other (h := ?_)) | (refine x_bnormal ?_) | (refine x_bret ?_)))
      (first | (refine' ew_callS (hc := cr_call) (hR := ?_) (h := ?_); rotate_left 1) | (refine' ew_call (hc := cr_call) (hR := ?_) (h := ?_); rotate_left 1))
      · exact same_calls _ (r20.keep0 hk21) r21 (by omega)
      rintro _ H22 ⟨rfl, hk22⟩
      refine ⟨by (dsimp only [Mode.kept, Mode.logged, Mode.at]; (repeat' (first | exact (fun _ h => absurd h List.not_mem_nil) | (refine List.forall_mem_cons.2 ⟨?_, ?_⟩) | (refine .inl ?_; exact rfl) | (refine .inl ?_; dsimp only; decide) | (refine .inr ?_; exact (((hk19.after hk20).after hk21).after hk22).cells (by simp only [aadd_block]; omega) id)))), ?_⟩
      have t22 := t21.keep0 hk22
      rw [decide_eq_true rfl]
      repeat' (first
    | (show EW _ _ _ _ _; first
      | refine ew_n (hn := r_move) (h := ?_)
      | refine ew_n (hn := r_assign) (h := ?_)
      | refine ew_n (hn := r_pick_t) (h := ?_)
      | refine ew_n (hn := r_pick_f) (h := ?_)
      | refine ew_n (hn := r_field) (h := ?_)
      | refine ew_n (hn := r_len) (h := ?_)
      | refine ew_n (hn := r_len_str) (h := ?_)
      | refine ew_n (hn := r_not) (h := ?_)
      | refine ew_n (hn := r_extract) (h := ?_)
      | refine ew_n (hn := (r_index (h0 := by omega) (h1 := by first | omega | (simp; done) | (simp; omega)))) (h := ?_)
      | refine ew_n (hn := r_nil_eq) (h := ?_)
      | refine ew_n (hn := r_beq) (h := ?_)
      | refine ew_n (hn := r_nil_ne) (h := ?_)
      | refine ew_n (hn := r_bne) (h := ?_)
      | refine ew_n (hn := (r_slice (h := by assumption))) (h := ?_)
      | refine ew_n (hn := (r_shl (hn := by omega))) (h := ?_)
      | refine ew_n (hn := (r_bin (hr := by first | (apply cmp_t; (focus (first | exact ib_eql | exact ib_geq | exact ib_lss | exact ib_neq)); omega) | (apply cmp_f; (focus (first | exact ib_eql | exact ib_geq | exact ib_lss | exact ib_neq)); omega)))) (h := ?_)
      | refine ew_skip (h := ?_)
      | refine ew_load (hc := by (first | assumption | (apply cells_row; (focus ((repeat' (first | assumption | (rw [aadd_block]) | (apply gN; (focus (first | exact rfl | omega | (simp only [AHeap.push_next, AHeap.put_next, aadd_block] <;> omega))); (focus exact rfl)) | (apply gO; (focus (first | omega | (simp only [AHeap.push_next, AHeap.put_next, aadd_block, ne_eq] <;> omega)))) | (apply gS; (focus (first | exact rfl | omega | (simp only [AHeap.push_next, AHeap.put_next, aadd_block] <;> omega))); (focus exact rfl)) | (apply gP; (focus (first | omega | (simp only [AHeap.push_next, AHeap.put_next, aadd_block, ne_eq] <;> omega)))) | exact rfl)); done)); (focus exact rfl); (focus exact rfl); (focus (first | exact (rfl : _ = some [_]) | exact (rfl : _ = some [_, _, _])))) | (apply cells_k; (focus assumption); (focus (first | assumption | (simp only [aadd_block] <;> first | assumption | omega))); (focus ((repeat' (first | exact Keep.refl | assumption | (apply Keep.push) | (refine Keep.put ?_ ?_; rotate_left; (focus (intro hlt; first | assumption | omega | (exfalso; simp only [AHeap.push_next, AHeap.put_next, aadd_block] at hlt; omega)))))); done))))) (hv := by exact rfl) (h := ?_)
      | refine ew_convI _ (hv := by first | exact conv_u8 _ | exact rfl) (h := ?_)
      | refine ew_conv (hn := r_conv_br (h := by first | assumption | (apply Rd.keep0; (focus assumption); ((repeat' (first | exact Keep.refl | assumption | (apply Keep.push) | (refine Keep.put ?_ ?_; rotate_left; (focus (intro hlt; first | assumption | omega | (exfalso; simp only [AHeap.push_next, AHeap.put_next, aadd_block] at hlt; omega)))))); done)))) (h := ?_)
      | (refine ew_fresh ?_; intro b hb; (first | refine ew_n (hn := (r_alloc hb)) (h := ?_)); (try simp only [AHeap.push_next, AHeap.put_next] at hb))
      | refine ew_e (he := er_store (hc := by (apply setCells_at; (focus ((repeat' (first | assumption | (rw [aadd_block]) | (apply gN; (focus (first | exact rfl | omega | (simp only [AHeap.push_next, AHeap.put_next, aadd_block] <;> omega))); (focus exact rfl)) | (apply gO; (focus (first | omega | (simp only [AHeap.push_next, AHeap.put_next, aadd_block, ne_eq] <;> omega)))) | (apply gS; (focus (first | exact rfl | omega | (simp only [AHeap.push_next, AHeap.put_next, aadd_block] <;> omega))); (focus exact rfl)) | (apply gP; (focus (first | omega | (simp only [AHeap.push_next, AHeap.put_next, aadd_block, ne_eq] <;> omega)))) | exact rfl)); done)); (focus exact rfl); (focus (first | exact Nat.le_of_ble_eq_true rfl | (simp; omega) | (simp; done) | (simp [Value.cells]; omega))); (focus (first | exact rfl | (simp; done))); (focus (first | exact (rfl : _ = [_]) | exact (rfl : _ = [_, _, _]) | exact rfl)); (focus (first | exact aadd_block _ _ | exact rfl))))) (hk := by (first | exact Mode.kept_seq rfl | (dsimp only [Mode.kept, Mode.logged, Mode.at]; (repeat' (first | exact (fun _ h => absurd h List.not_mem_nil) | (refine List.forall_mem_cons.2 ⟨?_, ?_⟩) | (refine .inl ?_; exact rfl) | (refine .inl ?_; dsimp only; decide))); done))) (h := ?_)
      | (refine ew_dec (hn := r_streq) (ht := ?_) (hf := ?_) <;> intro _)
      | (refine ew_dec (hn := (r_bin (hr := by (first | exact ib_eql | exact ib_geq | exact ib_lss | exact ib_neq)))) (ht := ?_) (hf := ?_) <;> intro _)
      | refine ew_n (hn := r_bin (hr := by (first | exact ib_xor8 _ _ | (simp (disch := omega) only [intBin, wrap_in, wrap8_in, tdiv_in, tmod_in, if_false, reduceIte]; exact rfl) | (apply ib_rem; omega)))) (h := ?_)
      | (refine w_nil ?_)
      | (refine w_nilD ?_))
    | (show EC _ _ _ _ _ _ _; first | (refine k_seq ?_) | (refine k_region ?_) | (refine k_draw (h := ?_)) | (refine k_skip ?_) | (refine k_ret ?_) | (refine k_exit ?_) | (refine k_block ?_) | (refine k_true (h := ?_)) | (refine k_false (h := ?_)))
    | (show EX _ (bodyA _ _ _) _ _ _; first | (refine x_end1 (hq := ?_)))
    | (show EX _ _ _ _ _; first | (refine x_normal ?_) | (refine x_ret ?_) | (refine x_exit ?_) | (refine x_same ?_) | (refine x_other (h := ?_)) | (refine x_bnormal ?_) | (refine x_bret ?_)))
      (first | (refine' ew_callS (hc := cr_call) (hR := ?_) (h := ?_); rotate_left 1) | (refine' ew_call (hc := cr_call) (hR := ?_) (h := ?_); rotate_left 1))
      · exact listM t22.a
      rintro n23 H23 ⟨hk23, L23, hL23, hm23⟩
      have t23 := t22.keep0 hk23
      have r23 := hL23.reads
      rw [hm23] at r23
      have hl23 : L23.length = (M.eraseIdx j).length := by rw [← hm23, List.length_map]
      have s23 := hL23.shp (by rw [hl23, hel]; unfold openCap; omega)
      obtain ⟨z23, c23, rfl⟩ := r23.slice
      obtain ⟨p1, hp1, rp1⟩ := r23.takeS s23 (j := j) (by omega)
      obtain ⟨p2, hp2, rp2⟩ := t23.w.takeS hws (j := j) (by omega)
      obtain ⟨p3, hp3, rp3⟩ := r23.dropS s23 (j := j) (by omega) rfl
      obtain ⟨p4, hp4, rp4⟩ := t23.w.dropS hws (j := j + 1) (ji := (j : Int) + 1) (by omega) (by omega)
      have e1 : (M.eraseIdx j).take j = M.take j := by rw [List.eraseIdx_eq_take_drop_succ, List.take_append_of_le_length (by simp; omega), List.take_take, Nat.min_self]
      have e2 : (M.eraseIdx j).drop j = M.drop (j + 1) := by
        rw [List.eraseIdx_eq_take_drop_succ, List.drop_append, List.drop_of_length_le (by simp; omega)]
        simp; omega
      rw [e1] at rp1
      rw [e2] at rp3
      have hel' : ((M.eraseIdx j).length : Int) = M.length - 1 := by omega
      repeat' (first
    | (show EW _ _ _ _ _; first
      | refine ew_n (hn := r_move) (h := ?_)
      | refine ew_n (hn := r_assign) (h := ?_)
      | refine ew_n (hn := r_pick_t) (h := ?_)
      | refine ew_n (hn := r_pick_f) (h := ?_)
      | refine ew_n (hn := r_field) (h := ?_)
      | refine ew_n (hn := r_len) (h := ?_)
      | refine ew_n (hn := r_len_str) (h := ?_)
      | refine ew_n (hn := r_not) (h := ?_)
      | refine ew_n (hn := r_extract) (h := ?_)
      | refine ew_n (hn := (r_index (h0 := by omega) (h1 := by first | omega | (simp; done) | (simp; omega)))) (h := ?_)
      | refine ew_n (hn := r_nil_eq) (h := ?_)
      | refine ew_n (hn := r_beq) (h := ?_)
      | refine ew_n (hn := r_nil_ne) (h := ?_)
      | refine ew_n (hn := r_bne) (h := ?_)
      | refine ew_n (hn := (r_slice (h := by assumption))) (h := ?_)
      | refine ew_n (hn := (r_shl (hn := by omega))) (h := ?_)
      | refine ew_n (hn := (r_bin (hr := by first | (apply cmp_t; (focus (first | exact ib_eql | exact ib_geq | exact ib_lss | exact ib_neq)); omega) | (apply cmp_f; (focus (first | exact ib_eql | exact ib_geq | exact ib_lss | exact ib_neq)); omega)))) (h := ?_)
      | refine ew_skip (h := ?_)
      | refine ew_load (hc := by (first | assumption | (apply cells_row; (focus ((repeat' (first | assumption | (rw [aadd_block]) | (apply gN; (focus (first | exact rfl | omega | (simp only [AHeap.push_next, AHeap.put_next, aadd_block] <;> omega))); (focus exact rfl)) | (apply gO; (focus (first | omega | (simp only [AHeap.push_next, AHeap.put_next, aadd_block, ne_eq] <;> omega)))) | (apply gS; (focus (first | exact rfl | omega | (simp only [AHeap.push_next, AHeap.put_next, aadd_block] <;> omega))); (focus exact rfl)) | (apply gP; (focus (first | omega | (simp only [AHeap.push_next, AHeap.put_next, aadd_block, ne_eq] <;> omega)))) | exact rfl)); done)); (focus exact rfl); (focus exact rfl); (focus (first | exact (rfl : _ = some [_]) | exact (rfl : _ = some [_, _, _])))) | (apply cells_k; (focus assumption); (focus (first | assumption | (simp only [aadd_block] <;> first | assumption | omega))); (focus ((repeat' (first | exact Keep.refl | assumption | (apply Keep.push) | (refine Keep.put ?_ ?_; rotate_left; (focus (intro hlt; first | assumption | omega | (exfalso; simp only [AHeap.push_next, AHeap.put_next, aadd_block] at hlt; omega)))))); done))))) (hv := by exact rfl) (h := ?_)
      | refine ew_convI _ (hv := by first | exact conv_u8 _ | exact rfl) (h := ?_)
      | refine ew_conv (hn := r_conv_br (h := by first | assumption | (apply Rd.keep0; (focus assumption); ((repeat' (first | exact Keep.refl | assumption | (apply Keep.push) | (refine Keep.put ?_ ?_; rotate_left; (focus (intro hlt; first | assumption | omega | (exfalso; simp only [AHeap.push_next, AHeap.put_next, aadd_block] at hlt; omega)))))); done)))) (h := ?_)
      | (refine ew_fresh ?_; intro b hb; (first | refine ew_n (hn := (r_alloc hb)) (h := ?_)); (try simp only [AHeap.push_next, AHeap.put_next] at hb))
      | refine ew_e (he := er_store (hc := by (apply setCells_at; (focus ((repeat' (first | assumption | (rw [aadd_block]) | (apply gN; (focus (first | exact rfl | omega | (simp only [AHeap.push_next, AHeap.put_next, aadd_block] <;> omega))); (focus exact rfl)) | (apply gO; (focus (first | omega | (simp only [AHeap.push_next, AHeap.put_next, aadd_block, ne_eq] <;> omega)))) | (apply gS; (focus (first | exact rfl | omega | (simp only [AHeap.push_next, AHeap.put_next, aadd_block] <;> omega))); (focus exact rfl)) | (apply gP; (focus (first | omega | (simp only [AHeap.push_next, AHeap.put_next, aadd_block, ne_eq] <;> omega)))) | exact rfl)); done)); (focus exact rfl); (focus (first | exact Nat.le_of_ble_eq_true rfl | (simp; omega) | (simp; done) | (simp [Value.cells]; omega))); (focus (first | exact rfl | (simp; done))); (focus (first | exact (rfl : _ = [_]) | exact (rfl : _ = [_, _, _]) | exact rfl)); (focus (first | exact aadd_block _ _ | exact rfl))))) (hk := by (first | exact Mode.kept_seq rfl | (dsimp only [Mode.kept, Mode.logged, Mode.at]; (repeat' (first | exact (fun _ h => absurd h List.not_mem_nil) | (refine List.forall_mem_cons.2 ⟨?_, ?_⟩) | (refine .inl ?_; exact rfl) | (refine .inl ?_; dsimp only; decide))); done))) (h := ?_)
      | (refine ew_dec (hn := r_streq) (ht := ?_) (hf := ?_) <;> intro _)
      | (refine ew_dec (hn := (r_bin (hr := by (first | exact ib_eql | exact ib_geq | exact ib_lss | exact ib_neq)))) (ht := ?_) (hf := ?_) <;> intro _)
      | refine ew_n (hn := r_bin (hr := by (first | exact ib_xor8 _ _ | (simp (disch := omega) only [intBin, wrap_in, wrap8_in, tdiv_in, tmod_in, if_false, reduceIte]; exact rfl) | (apply ib_rem; omega)))) (h := ?_)
      | (refine w_nil ?_)
      | (refine w_nilD ?_))
    | (show EC _ _ _ _ _ _ _; first | (refine k_seq ?_) | (refine k_region ?_) | (refine k_draw (h := ?_)) | (refine k_skip ?_) | (refine k_ret ?_) | (refine k_exit ?_) | (refine k_block ?_) | (refine k_true (h := ?_)) | (refine k_false (h := ?_)))
    | (show EX _ (bodyA _ _ _) _ _ _; first | (refine x_end1 (hq := ?_)))
    | (show EX _ _ _ _ _; first | (refine x_normal ?_) | (refine x_ret ?_) | (refine x_exit ?_) | (refine x_same ?_) | (refine x_other (h := ?_)) | (refine x_bnormal ?_) | (refine x_bret ?_)))
      (first | (refine' ew_callS (hc := cr_call) (hR := ?_) (h := ?_); rotate_left 1) | (refine' ew_call (hc := cr_call) (hR := ?_) (h := ?_); rotate_left 1))
      · exact same_calls _ rp1 rp2 (by simp; omega)
      rintro _ H24 ⟨rfl, hk24⟩
      refine ⟨by (dsimp only [Mode.kept, Mode.logged, Mode.at]; (repeat' (first | exact (fun _ h => absurd h List.not_mem_nil) | (refine List.forall_mem_cons.2 ⟨?_, ?_⟩) | (refine .inl ?_; exact rfl) | (refine .inl ?_; dsimp only; decide) | (refine .inr ?_; exact hk24.cells (by simp only [aadd_block]; omega) id)))), ?_⟩
      rw [decide_eq_true rfl]
      repeat' (first
    | (show EW _ _ _ _ _; first
      | refine ew_n (hn := r_move) (h := ?_)
      | refine ew_n (hn := r_assign) (h := ?_)
      | refine ew_n (hn := r_pick_t) (h := ?_)
      | refine ew_n (hn := r_pick_f) (h := ?_)
      | refine ew_n (hn := r_field) (h := ?_)
      | refine ew_n (hn := r_len) (h := ?_)
      | refine ew_n (hn := r_len_str) (h := ?_)
      | refine ew_n (hn := r_not) (h := ?_)
      | refine ew_n (hn := r_extract) (h := ?_)
      | refine ew_n (hn := (r_index (h0 := by omega) (h1 := by first | omega | (simp; done) | (simp; omega)))) (h := ?_)
      | refine ew_n (hn := r_nil_eq) (h := ?_)
      | refine ew_n (hn := r_beq) (h := ?_)
      | refine ew_n (hn := r_nil_ne) (h := ?_)
      | refine ew_n (hn := r_bne) (h := ?_)
      | refine ew_n (hn := (r_slice (h := by assumption))) (h := ?_)
      | refine ew_n (hn := (r_shl (hn := by omega))) (h := ?_)
      | refine ew_n (hn := (r_bin (hr := by first | (apply cmp_t; (focus (first | exact ib_eql | exact ib_geq | exact ib_lss | exact ib_neq)); omega) | (apply cmp_f; (focus (first | exact ib_eql | exact ib_geq | exact ib_lss | exact ib_neq)); omega)))) (h := ?_)
      | refine ew_skip (h := ?_)
      | refine ew_load (hc := by (first | assumption | (apply cells_row; (focus ((repeat' (first | assumption | (rw [aadd_block]) | (apply gN; (focus (first | exact rfl | omega | (simp only [AHeap.push_next, AHeap.put_next, aadd_block] <;> omega))); (focus exact rfl)) | (apply gO; (focus (first | omega | (simp only [AHeap.push_next, AHeap.put_next, aadd_block, ne_eq] <;> omega)))) | (apply gS; (focus (first | exact rfl | omega | (simp only [AHeap.push_next, AHeap.put_next, aadd_block] <;> omega))); (focus exact rfl)) | (apply gP; (focus (first | omega | (simp only [AHeap.push_next, AHeap.put_next, aadd_block, ne_eq] <;> omega)))) | exact rfl)); done)); (focus exact rfl); (focus exact rfl); (focus (first | exact (rfl : _ = some [_]) | exact (rfl : _ = some [_, _, _])))) | (apply cells_k; (focus assumption); (focus (first | assumption | (simp only [aadd_block] <;> first | assumption | omega))); (focus ((repeat' (first | exact Keep.refl | assumption | (apply Keep.push) | (refine Keep.put ?_ ?_; rotate_left; (focus (intro hlt; first | assumption | omega | (exfalso; simp only [AHeap.push_next, AHeap.put_next, aadd_block] at hlt; omega)))))); done))))) (hv := by exact rfl) (h := ?_)
      | refine ew_convI _ (hv := by first | exact conv_u8 _ | exact rfl) (h := ?_)
      | refine ew_conv (hn := r_conv_br (h := by first | assumption | (apply Rd.keep0; (focus assumption); ((repeat' (first | exact Keep.refl | assumption | (apply Keep.push) | (refine Keep.put ?_ ?_; rotate_left; (focus (intro hlt; first | assumption | omega | (exfalso; simp only [AHeap.push_next, AHeap.put_next, aadd_block] at hlt; omega)))))); done)))) (h := ?_)
      | (refine ew_fresh ?_; intro b hb; (first | refine ew_n (hn := (r_alloc hb)) (h := ?_)); (try simp only [AHeap.push_next, AHeap.put_next] at hb))
      | refine ew_e (he := er_store (hc := by (apply setCells_at; (focus ((repeat' (first | assumption | (rw [aadd_block]) | (apply gN; (focus (first | exact rfl | omega | (simp only [AHeap.push_next, AHeap.put_next, aadd_block] <;> omega))); (focus exact rfl)) | (apply gO; (focus (first | omega | (simp only [AHeap.push_next, AHeap.put_next, aadd_block, ne_eq] <;> omega)))) | (apply gS; (focus (first | exact rfl | omega | (simp only [AHeap.push_next, AHeap.put_next, aadd_block] <;> omega))); (focus exact rfl)) | (apply gP; (focus (first | omega | (simp only [AHeap.push_next, AHeap.put_next, aadd_block, ne_eq] <;> omega)))) | exact rfl)); done)); (focus exact rfl); (focus (first | exact Nat.le_of_ble_eq_true rfl | (simp; omega) | (simp; done) | (simp [Value.cells]; omega))); (focus (first | exact rfl | (simp; done))); (focus (first | exact (rfl : _ = [_]) | exact (rfl : _ = [_, _, _]) | exact rfl)); (focus (first | exact aadd_block _ _ | exact rfl))))) (hk := by (first | exact Mode.kept_seq rfl | (dsimp only [Mode.kept, Mode.logged, Mode.at]; (repeat' (first | exact (fun _ h => absurd h List.not_mem_nil) | (refine List.forall_mem_cons.2 ⟨?_, ?_⟩) | (refine .inl ?_; exact rfl) | (refine .inl ?_; dsimp only; decide))); done))) (h := ?_)
      | (refine ew_dec (hn := r_streq) (ht := ?_) (hf := ?_) <;> intro _)
      | (refine ew_dec (hn := (r_bin (hr := by (first | exact ib_eql | exact ib_geq | exact ib_lss | exact ib_neq)))) (ht := ?_) (hf := ?_) <;> intro _)
      | refine ew_n (hn := r_bin (hr := by (first | exact ib_xor8 _ _ | (simp (disch := omega) only [intBin, wrap_in, wrap8_in, tdiv_in, tmod_in, if_false, reduceIte]; exact rfl) | (apply ib_rem; omega)))) (h := ?_)
      | (refine w_nil ?_)
      | (refine w_nilD ?_))
    | (show EC _ _ _ _ _ _ _; first | (refine k_seq ?_) | (refine k_region ?_) | (refine k_draw (h := ?_)) | (refine k_skip ?_) | (refine k_ret ?_) | (refine k_exit ?_) | (refine k_block ?_) | (refine k_true (h := ?_)) | (refine k_false (h := ?_)))
    | (show EX _ (bodyA _ _ _) _ _ _; first | (refine x_end1 (hq := ?_)))
    | (show EX _ _ _ _ _; first | (refine x_normal ?_) | (refine x_ret ?_) | (refine x_exit ?_) | (refine x_same ?_) | (refine x_other (h := ?_)) | (refine x_bnormal ?_) | (refine x_bret ?_)))
      (first | (refine' ew_callS (hc := cr_call) (hR := ?_) (h := ?_); rotate_left 1) | (refine' ew_call (hc := cr_call) (hR := ?_) (h := ?_); rotate_left 1))
      · exact same_calls _ (rp3.keep0 hk24) (rp4.keep0 hk24) (by simp; omega)
      rintro _ H25 ⟨rfl, hk25⟩
      refine ⟨by (dsimp only [Mode.kept, Mode.logged, Mode.at]; (repeat' (first | exact (fun _ h => absurd h List.not_mem_nil) | (refine List.forall_mem_cons.2 ⟨?_, ?_⟩) | (refine .inl ?_; exact rfl) | (refine .inl ?_; dsimp only; decide) | (refine .inr ?_; exact (hk24.after hk25).cells (by simp only [aadd_block]; omega) id)))), ?_⟩
      rw [decide_eq_true rfl]
      repeat' (first
    | (show EW _ _ _ _ _; first
      | refine ew_n (hn := r_move) (h := ?_)
      | refine ew_n (hn := r_assign) (h := ?_)
      | refine ew_n (hn := r_pick_t) (h := ?_)
      | refine ew_n (hn := r_pick_f) (h := ?_)
      | refine ew_n (hn := r_field) (h := ?_)
      | refine ew_n (hn := r_len) (h := ?_)
      | refine ew_n (hn := r_len_str) (h := ?_)
      | refine ew_n (hn := r_not) (h := ?_)
      | refine ew_n (hn := r_extract) (h := ?_)
      | refine ew_n (hn := (r_index (h0 := by omega) (h1 := by first | omega | (simp; done) | (simp; omega)))) (h := ?_)
      | refine ew_n (hn := r_nil_eq) (h := ?_)
      | refine ew_n (hn := r_beq) (h := ?_)
      | refine ew_n (hn := r_nil_ne) (h := ?_)
      | refine ew_n (hn := r_bne) (h := ?_)
      | refine ew_n (hn := (r_slice (h := by assumption))) (h := ?_)
      | refine ew_n (hn := (r_shl (hn := by omega))) (h := ?_)
      | refine ew_n (hn := (r_bin (hr := by first | (apply cmp_t; (focus (first | exact ib_eql | exact ib_geq | exact ib_lss | exact ib_neq)); omega) | (apply cmp_f; (focus (first | exact ib_eql | exact ib_geq | exact ib_lss | exact ib_neq)); omega)))) (h := ?_)
      | refine ew_skip (h := ?_)
      | refine ew_load (hc := by (first | assumption | (apply cells_row; (focus ((repeat' (first | assumption | (rw [aadd_block]) | (apply gN; (focus (first | exact rfl | omega | (simp only [AHeap.push_next, AHeap.put_next, aadd_block] <;> omega))); (focus exact rfl)) | (apply gO; (focus (first | omega | (simp only [AHeap.push_next, AHeap.put_next, aadd_block, ne_eq] <;> omega)))) | (apply gS; (focus (first | exact rfl | omega | (simp only [AHeap.push_next, AHeap.put_next, aadd_block] <;> omega))); (focus exact rfl)) | (apply gP; (focus (first | omega | (simp only [AHeap.push_next, AHeap.put_next, aadd_block, ne_eq] <;> omega)))) | exact rfl)); done)); (focus exact rfl); (focus exact rfl); (focus (first | exact (rfl : _ = some [_]) | exact (rfl : _ = some [_, _, _])))) | (apply cells_k; (focus assumption); (focus (first | assumption | (simp only [aadd_block] <;> first | assumption | omega))); (focus ((repeat' (first | exact Keep.refl | assumption | (apply Keep.push) | (refine Keep.put ?_ ?_; rotate_left; (focus (intro hlt; first | assumption | omega | (exfalso; simp only [AHeap.push_next, AHeap.put_next, aadd_block] at hlt; omega)))))); done))))) (hv := by exact rfl) (h := ?_)
      | refine ew_convI _ (hv := by first | exact conv_u8 _ | exact rfl) (h := ?_)
      | refine ew_conv (hn := r_conv_br (h := by first | assumption | (apply Rd.keep0; (focus assumption); ((repeat' (first | exact Keep.refl | assumption | (apply Keep.push) | (refine Keep.put ?_ ?_; rotate_left; (focus (intro hlt; first | assumption | omega | (exfalso; simp only [AHeap.push_next, AHeap.put_next, aadd_block] at hlt; omega)))))); done)))) (h := ?_)
      | (refine ew_fresh ?_; intro b hb; (first | refine ew_n (hn := (r_alloc hb)) (h := ?_)); (try simp only [AHeap.push_next, AHeap.put_next] at hb))
      | refine ew_e (he := er_store (hc := by (apply setCells_at; (focus ((repeat' (first | assumption | (rw [aadd_block]) | (apply gN; (focus (first | exact rfl | omega | (simp only [AHeap.push_next, AHeap.put_next, aadd_block] <;> omega))); (focus exact rfl)) | (apply gO; (focus (first | omega | (simp only [AHeap.push_next, AHeap.put_next, aadd_block, ne_eq] <;> omega)))) | (apply gS; (focus (first | exact rfl | omega | (simp only [AHeap.push_next, AHeap.put_next, aadd_block] <;> omega))); (focus exact rfl)) | (apply gP; (focus (first | omega | (simp only [AHeap.push_next, AHeap.put_next, aadd_block, ne_eq] <;> omega)))) | exact rfl)); done)); (focus exact rfl); (focus (first | exact Nat.le_of_ble_eq_true rfl | (simp; omega) | (simp; done) | (simp [Value.cells]; omega))); (focus (first | exact rfl | (simp; done))); (focus (first | exact (rfl : _ = [_]) | exact (rfl : _ = [_, _, _]) | exact rfl)); (focus (first | exact aadd_block _ _ | exact rfl))))) (hk := by (first | exact Mode.kept_seq rfl | (dsimp only [Mode.kept, Mode.logged, Mode.at]; (repeat' (first | exact (fun _ h => absurd h List.not_mem_nil) | (refine List.forall_mem_cons.2 ⟨?_, ?_⟩) | (refine .inl ?_; exact rfl) | (refine .inl ?_; dsimp only; decide))); done))) (h := ?_)
      | (refine ew_dec (hn := r_streq) (ht := ?_) (hf := ?_) <;> intro _)
      | (refine ew_dec (hn := (r_bin (hr := by (first | exact ib_eql | exact ib_geq | exact ib_lss | exact ib_neq)))) (ht := ?_) (hf := ?_) <;> intro _)
      | refine ew_n (hn := r_bin (hr := by (first | exact ib_xor8 _ _ | (simp (disch := omega) only [intBin, wrap_in, wrap8_in, tdiv_in, tmod_in, if_false, reduceIte]; exact rfl) | (apply ib_rem; omega)))) (h := ?_)
      | (refine w_nil ?_)
      | (refine w_nilD ?_))
    | (show EC _ _ _ _ _ _ _; first | (refine k_seq ?_) | (refine k_region ?_) | (refine k_draw (h := ?_)) | (refine k_skip ?_) | (refine k_ret ?_) | (refine k_exit ?_) | (refine k_block ?_) | (refine k_true (h := ?_)) | (refine k_false (h := ?_)))
    | (show EX _ (bodyA _ _ _) _ _ _; first | (refine x_end1 (hq := ?_)))
    | (show EX _ _ _ _ _; first | (refine x_normal ?_) | (refine x_ret ?_) | (refine x_exit ?_) | (refine x_same ?_) | (refine x_other (h := ?_)) | (refine x_bnormal ?_) | (refine x_bret ?_)))
      rfl))

end Go.Ae

/- The small functions of package ether over the abstract heap. No condition. -/
import Derived.Test.YtfhpgikgjheobaaEtTy
import Derived.Test.YtfhpgikgjheobaaEtB
set_option linter.unusedSimpArgs false
set_option linter.unusedVariables false
set_option maxRecDepth 100000
set_option maxHeartbeats 400000
namespace Go.Ae
open Go.Proofs
attribute [local irreducible] awC wpSeq wpS nRes aw aE acall ACalls szT isAggT zeroT byT elemSz fieldOff Program.underlying appendA copyA thenA inBlockA bodyA AHeap.push AHeap.put AHeap.cellsAt AHeap.setCells resV loadA intBin EW EC EX Nr Nc Er Cr Agree

def tbl34 : Tbl := []
def tbl36 : Tbl := []
def tbl38 : Tbl := []
def tbl35 : Tbl := [(3, [0, 1, 2, 3, 4, 5, 6, 7, 8, 9, 10, 11], [0, 0, 2, 6, 14, 0, 32, 96, 254, 511, 1023, 2047])]

theorem node_calls (p : Addr) (m n : Int) (H : AHeap) (h : H.cellsAt (aadd p 0) 1 = some [.int .i64 m]) :
    ACalls Try.prog 34 #[.pointer (some p), .int .i64 n] H fun v H' => v = .bool (decide (0 ≤ n ∧ n < m)) ∧ H' = H := by
  refine k_open (args := [.pointer (some p), .int .i64 n]) (E0 := [(0, .pointer (some p)), (1, .int .i64 n)]) tbl34 Try.func34 rfl follows (by kernel_rfl) Try.ntmps34 rfl rfl ?_
  repeat' (first
    | (show EW _ _ _ _ _; first | refine ew_p (h := ?_) | refine ew_skip (h := ?_) | refine ew_ld (h := ?_) | (refine ew_df (ht := ?_) (hf := ?_) <;> intro _) | refine w_nil ?_)
    | (show EC _ _ _ _ _ _ _; first | refine k_seq ?_ | refine k_region ?_ | refine k_skip ?_ | refine k_ret ?_ | refine k_exit ?_ | refine k_block ?_ | refine k_true (h := ?_) | refine k_false (h := ?_))
    | (show EX _ (bodyA _ _ _) _ _ _; first | refine x_end1 (hq := ?_))
    | (show EX _ _ _ _ _; first | refine x_normal ?_ | refine x_ret ?_ | refine x_exit ?_ | refine x_same ?_ | refine x_other (h := ?_) | refine x_bnormal ?_ | refine x_bret ?_))
  all_goals refine ⟨?_, rfl⟩
  all_goals simp only [Value.bool.injEq]
  all_goals simp [*]
  all_goals omega

theorem there_calls (p : Addr) (z : Option Addr) (len cap : Nat) (i : Int) (H : AHeap) (h : H.cellsAt (aadd p 1) 1 = some [.slice z len cap]) :
    ACalls Try.prog 36 #[.pointer (some p), .int .i64 i] H fun v H' => v = .bool (decide (0 ≤ i ∧ i < len)) ∧ H' = H := by
  refine k_open (args := [.pointer (some p), .int .i64 i]) (E0 := [(0, .pointer (some p)), (1, .int .i64 i)]) tbl36 Try.func36 rfl follows (by kernel_rfl) Try.ntmps36 rfl rfl ?_
  repeat' (first
    | (show EW _ _ _ _ _; first | refine ew_p (h := ?_) | refine ew_skip (h := ?_) | refine ew_ld (h := ?_) | (refine ew_df (ht := ?_) (hf := ?_) <;> intro _) | refine w_nil ?_)
    | (show EC _ _ _ _ _ _ _; first | refine k_seq ?_ | refine k_region ?_ | refine k_skip ?_ | refine k_ret ?_ | refine k_exit ?_ | refine k_block ?_ | refine k_true (h := ?_) | refine k_false (h := ?_))
    | (show EX _ (bodyA _ _ _) _ _ _; first | refine x_end1 (hq := ?_))
    | (show EX _ _ _ _ _; first | refine x_normal ?_ | refine x_ret ?_ | refine x_exit ?_ | refine x_same ?_ | refine x_other (h := ?_) | refine x_bnormal ?_ | refine x_bret ?_))
  all_goals refine ⟨?_, rfl⟩
  all_goals simp only [Value.bool.injEq]
  all_goals simp [*]
  all_goals omega

theorem own_calls {F : Blks} (f t : Int) (dv : Value) (bs : List UInt8) (H : AHeap) (hd : BR H F dv bs) (hl : bs.length ≤ 140737488355328) :
    ACalls Try.prog 38 #[.agg #[.int .i64 f, .int .i64 t, dv]] H fun v H' => ∃ b, v = (Pk.mk f t bs b).val ∧ H.next ≤ b ∧ b < H'.next ∧ H'.get b = some (.row ⟨bytesV bs, 5, 0, true⟩) ∧ Keep No H H' := by
  obtain ⟨z, c, rfl⟩ := hd.slice
  refine k_open (args := [.agg #[.int .i64 f, .int .i64 t, .slice z bs.length c]]) (E0 := [(0, .agg #[.int .i64 f, .int .i64 t, .slice z bs.length c])]) tbl38 Try.func38 rfl follows (by kernel_rfl) Try.ntmps38 rfl rfl ?_
  unfold BR at hd
  repeat' (first
    | (show EW _ _ _ _ _; first | refine ew_p (h := ?_) | refine ew_ld (h := ?_) | (refine ew_fresh ?_; intro b hb; refine ew_nw hb (h := ?_); (try simp only [AHeap.push_next, AHeap.put_next] at hb)) | refine ew_st (h := ?_) | refine ew_e (he := er_copy (h := by (apply copy_at; (focus exact UnT.h); (focus exact SzT.h); (focus (first | assumption | (apply Rd.keep0; (focus assumption); exact kp))); (focus exact rdx); (focus exact rfl); (focus exact rfl); (focus (first | exact rfl | (simp [zrep_length]; done))); (focus (first | exact rfl | (simp; done))); (focus exact rfl)))) (hk := by (first | exact Mode.kept_seq rfl | (dsimp only [Mode.kept, Mode.logged, Mode.at]; (repeat' (first | exact (fun _ h => absurd h List.not_mem_nil) | (refine List.forall_mem_cons.2 ⟨?_, ?_⟩) | (refine .inl ?_; exact rfl) | (refine .inl ?_; dsimp only; decide))); done))) (h := ?_) | refine w_nil ?_)
    | (show EC _ _ _ _ _ _ _; first | refine k_seq ?_ | refine k_region ?_ | refine k_skip ?_ | refine k_ret ?_ | refine k_exit ?_ | refine k_block ?_ | refine k_true (h := ?_) | refine k_false (h := ?_))
    | (show EX _ (bodyA _ _ _) _ _ _; first | refine x_end1 (hq := ?_) | refine x_endc (hc := by (first | assumption | (apply cells_row; (focus ((repeat' (first | assumption | (rw [aadd_block]) | (apply gN; (focus (first | exact rfl | omega | (simp only [AHeap.push_next, AHeap.put_next, aadd_block] <;> omega))); (focus exact rfl)) | (apply gO; (focus (first | omega | (simp only [AHeap.push_next, AHeap.put_next, aadd_block, ne_eq] <;> omega)))) | (apply gS; (focus (first | exact rfl | omega | (simp only [AHeap.push_next, AHeap.put_next, aadd_block] <;> omega))); (focus exact rfl)) | (apply gP; (focus (first | omega | (simp only [AHeap.push_next, AHeap.put_next, aadd_block, ne_eq] <;> omega)))) | exact rfl)); done)); (focus exact rfl); (focus exact rfl); (focus (first | exact (rfl : _ = some [_]) | exact (rfl : _ = some [_, _, _])))) | (apply cells_k; (focus assumption); (focus (first | assumption | (simp only [aadd_block] <;> first | assumption | omega))); (focus ((repeat' (first | exact Keep.refl | assumption | (apply Keep.push) | (refine Keep.put ?_ ?_; rotate_left; (focus (intro hlt; first | assumption | omega | (exfalso; simp only [AHeap.push_next, AHeap.put_next, aadd_block] at hlt; omega)))))); done))))) (hv := by exact rfl) (hq := ?_))
    | (show EX _ _ _ _ _; first | refine x_normal ?_ | refine x_ret ?_ | refine x_exit ?_ | refine x_same ?_ | refine x_other (h := ?_) | refine x_bnormal ?_ | refine x_bret ?_))
  refine ⟨b, rfl, by omega, by simp only [AHeap.push_next, AHeap.put_next]; omega, by exact rdx, by exact kp⟩

theorem T36 : AppT Try.prog 36 36 32 2 39 := ⟨Try.underlying36, ⟨_, Try.underlying36, rfl⟩, sz32, by32, ⟨_, ze32⟩⟩

theorem lay_calls {F G : Blks} {e : Nat} {m : Int} {L : List Pk} (f t : Int) (dv : Value) (bs : List UInt8) (H : AHeap) (hN : Net H F e m L) (hL : L.length ≤ 256) (hd : BR H G dv bs) (hl : bs.length ≤ 140737488355328) :
    ACalls Try.prog 35 #[.pointer (some ⟨e, 0, none⟩), .agg #[.int .i64 f, .int .i64 t, dv]] H fun v H' =>
      (L.length = 256 ∧ v = .int .i64 223 ∧ Net H' F e m L ∧ Keep No H H') ∨
      (L.length < 256 ∧ v = .int .i64 0 ∧ Keep F H H' ∧ ∃ b, H.next ≤ b ∧ Net H' (Or F (New H H')) e m (L ++ [⟨f, t, bs, b⟩])) := by
  obtain ⟨sv, hge, hfl⟩ := hN.node
  obtain ⟨z, c, rfl⟩ := hfl.rd.slice
  have he := hN.bound e hN.fe
  refine k_open (args := [.pointer (some ⟨e, 0, none⟩), .agg #[.int .i64 f, .int .i64 t, dv]]) (E0 := [(0, .pointer (some ⟨e, 0, none⟩)), (1, .agg #[.int .i64 f, .int .i64 t, dv])]) tbl35 Try.func35 rfl follows (by kernel_rfl) Try.ntmps35 rfl rfl ?_
  repeat' (first
    | (show EW _ _ _ _ _; first | refine ew_p (h := ?_) | refine ew_ld (h := ?_) | (refine ew_fresh ?_; intro b hb; refine ew_nw hb (h := ?_); (try simp only [AHeap.push_next, AHeap.put_next] at hb)) | refine ew_st (h := ?_) | (refine ew_df (ht := ?_) (hf := ?_) <;> intro _) | refine w_nil ?_ | refine w_nilD ?_)
    | (show EC _ _ _ _ _ _ _; first | refine k_seq ?_ | refine k_region ?_ | refine k_draw (h := ?_) | refine k_skip ?_ | refine k_ret ?_ | refine k_exit ?_ | refine k_block ?_ | refine k_true (h := ?_) | refine k_false (h := ?_))
    | (show EX _ (bodyA _ _ _) _ _ _; first | refine x_end1 (hq := ?_))
    | (show EX _ _ _ _ _; first | refine x_normal ?_ | refine x_ret ?_ | refine x_exit ?_ | refine x_same ?_ | refine x_other (h := ?_) | refine x_bnormal ?_ | refine x_bret ?_))
  · exact .inl ⟨by omega, rfl, hN.keep0 (by exact kp), by exact kp⟩
  · (first | (refine' ew_callS (hc := cr_call) (hR := ?_) (h := ?_); rotate_left 1) | (refine' ew_call (hc := cr_call) (hR := ?_) (h := ?_); rotate_left 1))
    · exact own_calls (F := G) f t dv bs _ (hd.keep0 (by exact kp)) hl
    · rintro _ H1 ⟨bd, rfl, hb1, hb2, hb3, hk1⟩
      have hk0 : Keep No H H1 := Keep.after (by exact kp) hk1
      have hge1 := hk0.get0 hge he
      have hfl1 := hfl.keep hk0 (fun _ _ _ _ h => h)
      have hle := hk0.1
      refine ⟨?_, ?_⟩
      · (dsimp only [Mode.kept, Mode.logged, Mode.at]; (repeat' (first | exact (fun _ h => absurd h List.not_mem_nil) | (refine List.forall_mem_cons.2 ⟨?_, ?_⟩) | (refine .inl ?_; exact rfl) | (refine .inl ?_; dsimp only; decide) | (refine .inr ?_; exact hk1.cells (by simp only [aadd_block, AHeap.push_next]; omega) id))))
      · repeat' (first
    | (show EW _ _ _ _ _; first | refine ew_p (h := ?_) | refine ew_ld (h := ?_) | (refine ew_fresh ?_; intro b hb; refine ew_nw hb (h := ?_); (try simp only [AHeap.push_next, AHeap.put_next] at hb)) | refine ew_st (h := ?_) | (refine ew_df (ht := ?_) (hf := ?_) <;> intro _) | refine w_nil ?_ | refine w_nilD ?_)
    | (show EC _ _ _ _ _ _ _; first | refine k_seq ?_ | refine k_region ?_ | refine k_draw (h := ?_) | refine k_skip ?_ | refine k_ret ?_ | refine k_exit ?_ | refine k_block ?_ | refine k_true (h := ?_) | refine k_false (h := ?_))
    | (show EX _ (bodyA _ _ _) _ _ _; first | refine x_end1 (hq := ?_))
    | (show EX _ _ _ _ _; first | refine x_normal ?_ | refine x_ret ?_ | refine x_exit ?_ | refine x_same ?_ | refine x_other (h := ?_) | refine x_bnormal ?_ | refine x_bret ?_))
        (first | (refine' ew_appS (hR := ?_) (h := ?_); rotate_left 1) | (refine' ew_app (hR := ?_) (h := ?_); rotate_left 1))
        · exact Fli.snoc T36 (hfl1.keep (G := No) (by exact kp) (fun _ _ _ _ h => h)) (p := ⟨f, t, bs, bd⟩) (by refine src_of (by decide) (m := 3) rfl ?_; (first | assumption | (apply cells_row; (focus ((repeat' (first | assumption | (rw [aadd_block]) | (apply gN; (focus (first | exact rfl | omega | (simp only [AHeap.push_next, AHeap.put_next, aadd_block] <;> omega))); (focus exact rfl)) | (apply gO; (focus (first | omega | (simp only [AHeap.push_next, AHeap.put_next, aadd_block, ne_eq] <;> omega)))) | (apply gS; (focus (first | exact rfl | omega | (simp only [AHeap.push_next, AHeap.put_next, aadd_block] <;> omega))); (focus exact rfl)) | (apply gP; (focus (first | omega | (simp only [AHeap.push_next, AHeap.put_next, aadd_block, ne_eq] <;> omega)))) | exact rfl)); done)); (focus exact rfl); (focus exact rfl); (focus (first | exact (rfl : _ = some [_]) | exact (rfl : _ = some [_, _]) | exact (rfl : _ = some [_, _, _]) | exact (rfl : _ = some [_, _, _, _]) | exact (rfl : _ = some [_, _, _, _, _]) | exact (rfl : _ = some [_, _, _, _, _, _])))) | (apply cells_k; (focus assumption); (focus (first | assumption | (simp only [aadd_block] <;> first | assumption | omega))); (focus ((repeat' (first | exact Keep.refl | assumption | (apply Keep.push) | (refine Keep.put ?_ ?_; rotate_left; (focus (intro hlt; first | assumption | omega | (exfalso; simp only [AHeap.push_next, AHeap.put_next, aadd_block] at hlt; omega)))))); done))))) (by omega)
        · rintro sv' H2 ⟨hfl2, hk2, hn2, hd2⟩
          refine ⟨by (dsimp only [Mode.kept, Mode.logged, Mode.at]; (repeat' (first | exact (fun _ h => absurd h List.not_mem_nil) | (refine List.forall_mem_cons.2 ⟨?_, ?_⟩) | (refine .inl ?_; exact rfl) | (refine .inl ?_; dsimp only; decide)))), ?_⟩
          have hge2 := (hd2 e _ (by exact rdx) (by simp only [AHeap.push_next]; omega) (show (84 : Nat) ≠ 32 by decide)).trans (by exact rdx)
          obtain ⟨z2, c2, rfl⟩ := hfl2.rd.slice
          repeat' (first
    | (show EW _ _ _ _ _; first | refine ew_p (h := ?_) | refine ew_ld (h := ?_) | (refine ew_fresh ?_; intro b hb; refine ew_nw hb (h := ?_); (try simp only [AHeap.push_next, AHeap.put_next] at hb)) | refine ew_st (h := ?_) | (refine ew_df (ht := ?_) (hf := ?_) <;> intro _) | refine w_nil ?_ | refine w_nilD ?_)
    | (show EC _ _ _ _ _ _ _; first | refine k_seq ?_ | refine k_region ?_ | refine k_draw (h := ?_) | refine k_skip ?_ | refine k_ret ?_ | refine k_exit ?_ | refine k_block ?_ | refine k_true (h := ?_) | refine k_false (h := ?_))
    | (show EX _ (bodyA _ _ _) _ _ _; first | refine x_end1 (hq := ?_))
    | (show EX _ _ _ _ _; first | refine x_normal ?_ | refine x_ret ?_ | refine x_exit ?_ | refine x_same ?_ | refine x_other (h := ?_) | refine x_bnormal ?_ | refine x_bret ?_))
          simp only [AHeap.push_next] at hb1
          have hfin := hN.laid' (hk0.push) hk2 hfl2 hd2 (by exact rdx) (Nat.le_trans (Nat.le_succ _) hb1) (by simp only [AHeap.push_next]; omega)
          refine .inr ⟨by omega, rfl, hfin.1, bd, by omega, hfin.2⟩

end Go.Ae

/- Sending: package ether over the abstract heap. No condition. -/
import Derived.Test.YtfhpgikgjheobaaEtC
set_option linter.unusedSimpArgs false
set_option linter.unusedVariables false
set_option maxRecDepth 100000
set_option maxHeartbeats 400000
namespace Go.Ae
open Go.Proofs
attribute [local irreducible] awC wpSeq wpS nRes aw aE acall ACalls szT isAggT zeroT byT elemSz fieldOff Program.underlying appendA copyA thenA inBlockA bodyA AHeap.push AHeap.put AHeap.cellsAt AHeap.setCells resV loadA intBin EW EC EX Nr Nc Er Cr Agree

def tbl15 : Tbl := []
theorem Net.node0 {F : Blks} {H : AHeap} {e : Nat} {m : Int} {L : List Pk} (hN : Net H F e m L) : H.cellsAt (aadd ⟨e, 0, none⟩ 0) 1 = some [.int .i64 m] := by
  obtain ⟨sv, hge, hfl⟩ := hN.node
  exact cellsAt_of hge rfl (Nat.le_of_ble_eq_true rfl) rfl
theorem send_calls {F G : Blks} {e : Nat} {m : Int} {L : List Pk} (f t : Int) (dv : Value) (bs : List UInt8) (H : AHeap) (hN : Net H F e m L) (hL : L.length ≤ 256) (hd : BR H G dv bs) (hl : bs.length ≤ 140737488355328) :
    ACalls Try.prog 15 #[.pointer (some ⟨e, 0, none⟩), .int .i64 f, .int .i64 t, dv] H fun v H' =>
      (¬ (0 ≤ f ∧ f < m ∧ 0 ≤ t ∧ t < m ∧ f ≠ t) ∧ v = .int .i64 221 ∧ H' = H) ∨
      (0 ≤ f ∧ f < m ∧ 0 ≤ t ∧ t < m ∧ f ≠ t) ∧ ((32776 < bs.length ∧ v = .int .i64 222 ∧ H' = H) ∨
        bs.length ≤ 32776 ∧
      ((L.length = 256 ∧ v = .int .i64 223 ∧ Net H' F e m L ∧ Keep No H H') ∨
       (L.length < 256 ∧ v = .int .i64 0 ∧ Keep F H H' ∧ ∃ b, H.next ≤ b ∧ Net H' (Or F (New H H')) e m (L ++ [⟨f, t, bs, b⟩])))) := by
  obtain ⟨z, c, rfl⟩ := hd.slice
  refine k_open (args := [.pointer (some ⟨e, 0, none⟩), .int .i64 f, .int .i64 t, .slice z bs.length c]) (E0 := [(0, .pointer (some ⟨e, 0, none⟩)), (1, .int .i64 f), (2, .int .i64 t), (3, .slice z bs.length c)]) tbl15 Try.func15 rfl follows (by kernel_rfl) Try.ntmps15 rfl rfl ?_
  repeat' (first
    | (show EW _ _ _ _ _; first | refine ew_p (h := ?_) | refine ew_bu (h := ?_) | (refine ew_df (ht := ?_) (hf := ?_) <;> intro _) | refine w_nil ?_)
    | (show EC _ _ _ _ _ _ _; first | refine k_seq ?_ | refine k_region ?_ | refine k_skip ?_ | refine k_ret ?_ | refine k_exit ?_ | refine k_block ?_ | refine k_true (h := ?_) | refine k_false (h := ?_))
    | (show EX _ (bodyA _ _ _) _ _ _; first | refine x_end1 (hq := ?_))
    | (show EX _ _ _ _ _; first | refine x_normal ?_ | refine x_ret ?_ | refine x_exit ?_ | refine x_same ?_ | refine x_other (h := ?_) | refine x_bnormal ?_ | refine x_bret ?_))
  (first | (refine' ew_callS (hc := cr_call) (hR := ?_) (h := ?_); rotate_left 1) | (refine' ew_call (hc := cr_call) (hR := ?_) (h := ?_); rotate_left 1))
  · exact node_calls ⟨e, 0, none⟩ m f _ hN.node0
  rintro _ H ⟨rfl, rfl⟩
  by_cases hf : 0 ≤ f ∧ f < m
  case neg =>
    rw [decide_eq_false hf]
    repeat' (first
    | (show EW _ _ _ _ _; first | refine ew_p (h := ?_) | refine ew_bu (h := ?_) | (refine ew_df (ht := ?_) (hf := ?_) <;> intro _) | refine w_nil ?_)
    | (show EC _ _ _ _ _ _ _; first | refine k_seq ?_ | refine k_region ?_ | refine k_skip ?_ | refine k_ret ?_ | refine k_exit ?_ | refine k_block ?_ | refine k_true (h := ?_) | refine k_false (h := ?_))
    | (show EX _ (bodyA _ _ _) _ _ _; first | refine x_end1 (hq := ?_))
    | (show EX _ _ _ _ _; first | refine x_normal ?_ | refine x_ret ?_ | refine x_exit ?_ | refine x_same ?_ | refine x_other (h := ?_) | refine x_bnormal ?_ | refine x_bret ?_))
    exact .inl ⟨by omega, rfl, rfl⟩
  rw [decide_eq_true hf]
  repeat' (first
    | (show EW _ _ _ _ _; first | refine ew_p (h := ?_) | refine ew_bu (h := ?_) | (refine ew_df (ht := ?_) (hf := ?_) <;> intro _) | refine w_nil ?_)
    | (show EC _ _ _ _ _ _ _; first | refine k_seq ?_ | refine k_region ?_ | refine k_skip ?_ | refine k_ret ?_ | refine k_exit ?_ | refine k_block ?_ | refine k_true (h := ?_) | refine k_false (h := ?_))
    | (show EX _ (bodyA _ _ _) _ _ _; first | refine x_end1 (hq := ?_))
    | (show EX _ _ _ _ _; first | refine x_normal ?_ | refine x_ret ?_ | refine x_exit ?_ | refine x_same ?_ | refine x_other (h := ?_) | refine x_bnormal ?_ | refine x_bret ?_))
  (first | (refine' ew_callS (hc := cr_call) (hR := ?_) (h := ?_); rotate_left 1) | (refine' ew_call (hc := cr_call) (hR := ?_) (h := ?_); rotate_left 1))
  · exact node_calls ⟨e, 0, none⟩ m t _ hN.node0
  rintro _ H ⟨rfl, rfl⟩
  by_cases ht : 0 ≤ t ∧ t < m
  case neg =>
    rw [decide_eq_false ht]
    repeat' (first
    | (show EW _ _ _ _ _; first | refine ew_p (h := ?_) | refine ew_bu (h := ?_) | (refine ew_df (ht := ?_) (hf := ?_) <;> intro _) | refine w_nil ?_)
    | (show EC _ _ _ _ _ _ _; first | refine k_seq ?_ | refine k_region ?_ | refine k_skip ?_ | refine k_ret ?_ | refine k_exit ?_ | refine k_block ?_ | refine k_true (h := ?_) | refine k_false (h := ?_))
    | (show EX _ (bodyA _ _ _) _ _ _; first | refine x_end1 (hq := ?_))
    | (show EX _ _ _ _ _; first | refine x_normal ?_ | refine x_ret ?_ | refine x_exit ?_ | refine x_same ?_ | refine x_other (h := ?_) | refine x_bnormal ?_ | refine x_bret ?_))
    exact .inl ⟨by omega, rfl, rfl⟩
  rw [decide_eq_true ht]
  repeat' (first
    | (show EW _ _ _ _ _; first | refine ew_p (h := ?_) | refine ew_bu (h := ?_) | (refine ew_df (ht := ?_) (hf := ?_) <;> intro _) | refine w_nil ?_)
    | (show EC _ _ _ _ _ _ _; first | refine k_seq ?_ | refine k_region ?_ | refine k_skip ?_ | refine k_ret ?_ | refine k_exit ?_ | refine k_block ?_ | refine k_true (h := ?_) | refine k_false (h := ?_))
    | (show EX _ (bodyA _ _ _) _ _ _; first | refine x_end1 (hq := ?_))
    | (show EX _ _ _ _ _; first | refine x_normal ?_ | refine x_ret ?_ | refine x_exit ?_ | refine x_same ?_ | refine x_other (h := ?_) | refine x_bnormal ?_ | refine x_bret ?_))
  · exact .inl ⟨by omega, rfl, rfl⟩
  · exact .inr ⟨⟨hf.1, hf.2, ht.1, ht.2, by assumption⟩, .inl ⟨by omega, rfl, rfl⟩⟩
  (first | (refine' ew_callS (hc := cr_call) (hR := ?_) (h := ?_); rotate_left 1) | (refine' ew_call (hc := cr_call) (hR := ?_) (h := ?_); rotate_left 1))
  · exact lay_calls (G := G) _ _ _ bs _ hN hL hd hl
  rintro v H1 hpost
  rcases hpost with ⟨h256, rfl, hN1, hk1⟩ | ⟨h256, rfl, hk1, b, hb, hN1⟩
  · repeat' (first
    | (show EW _ _ _ _ _; first | refine ew_p (h := ?_) | refine ew_bu (h := ?_) | (refine ew_df (ht := ?_) (hf := ?_) <;> intro _) | refine w_nil ?_)
    | (show EC _ _ _ _ _ _ _; first | refine k_seq ?_ | refine k_region ?_ | refine k_skip ?_ | refine k_ret ?_ | refine k_exit ?_ | refine k_block ?_ | refine k_true (h := ?_) | refine k_false (h := ?_))
    | (show EX _ (bodyA _ _ _) _ _ _; first | refine x_end1 (hq := ?_))
    | (show EX _ _ _ _ _; first | refine x_normal ?_ | refine x_ret ?_ | refine x_exit ?_ | refine x_same ?_ | refine x_other (h := ?_) | refine x_bnormal ?_ | refine x_bret ?_))
    exact .inr ⟨⟨hf.1, hf.2, ht.1, ht.2, by assumption⟩, .inr ⟨by omega, .inl ⟨h256, rfl, hN1, hk1⟩⟩⟩
  · repeat' (first
    | (show EW _ _ _ _ _; first | refine ew_p (h := ?_) | refine ew_bu (h := ?_) | (refine ew_df (ht := ?_) (hf := ?_) <;> intro _) | refine w_nil ?_)
    | (show EC _ _ _ _ _ _ _; first | refine k_seq ?_ | refine k_region ?_ | refine k_skip ?_ | refine k_ret ?_ | refine k_exit ?_ | refine k_block ?_ | refine k_true (h := ?_) | refine k_false (h := ?_))
    | (show EX _ (bodyA _ _ _) _ _ _; first | refine x_end1 (hq := ?_))
    | (show EX _ _ _ _ _; first | refine x_normal ?_ | refine x_ret ?_ | refine x_exit ?_ | refine x_same ?_ | refine x_other (h := ?_) | refine x_bnormal ?_ | refine x_bret ?_))
    exact .inr ⟨⟨hf.1, hf.2, ht.1, ht.2, by assumption⟩, .inr ⟨by omega, .inr ⟨h256, rfl, hk1, b, hb, hN1⟩⟩⟩

end Go.Ae

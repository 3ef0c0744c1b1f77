/- Taking packets out, doubling them: package ether over the abstract heap. No condition. -/
import Derived.Test.YtfhpgikgjheobaaEtA
set_option linter.unusedSimpArgs false
set_option linter.unusedVariables false
set_option maxRecDepth 100000
set_option maxHeartbeats 400000
namespace Go.Ae
open Go.Proofs
attribute [local irreducible] awC wpSeq wpS nRes aw aE acall ACalls szT isAggT zeroT byT elemSz fieldOff Program.underlying appendA copyA thenA inBlockA bodyA AHeap.push AHeap.put AHeap.cellsAt AHeap.setCells resV loadA intBin EW EC EX Nr Nc Er Cr Agree

def tbl37 : Tbl := [(2, [0, 1, 2, 3, 4, 5, 6, 7, 8, 9, 10, 11, 12, 13, 14, 15, 16, 17, 18], [0, 0, 2, 6, 14, 0, 0, 126, 0, 256, 768, 1792, 0, 4096, 16128, 32766, 65535, 131071, 262143])]
def tbl16 : Tbl := []
def tbl33 : Tbl := []
def tbl20 : Tbl := []

theorem cut_calls {F : Blks} {e i : Nat} {m : Int} {L : List Pk} {p : Pk} (H : AHeap) (hN : Net H F e m L) (hL : L.length ≤ 256) (hi : L[i]? = some p) :
    ACalls Try.prog 37 #[.pointer (some ⟨e, 0, none⟩), .int .i64 i] H fun v H' =>
      v = p.val ∧ Keep F H H' ∧ Net H' (Or (fun b => F b ∧ b ≠ p.blk) (New H H')) e m (L.eraseIdx i) ∧ H'.get p.blk = some (.row ⟨bytesV p.data, 5, 0, true⟩) := by
  obtain ⟨hi', hp⟩ := List.getElem?_eq_some_iff.1 hi
  have hpm : p ∈ L := hp ▸ List.getElem_mem hi'
  obtain ⟨sv, hge, hfl⟩ := hN.node
  obtain ⟨ad, c, rfl, hF, hlt, hat⟩ := hfl.rd.at hi'
  rw [flCells_at hi] at hat
  have he := hN.bound e hN.fe
  obtain ⟨s1, s2, hs1, hs2, happ⟩ := hfl.cut' T36 hi' (by omega)
  have hat' : H.cellsAt (aadd ad ((i : Int).toNat * 3)) 3 = some [.int .i64 p.fr, .int .i64 p.to, p.dv] := hat
  refine k_open (args := [.pointer (some ⟨e, 0, none⟩), .int .i64 i]) (E0 := [(0, .pointer (some ⟨e, 0, none⟩)), (1, .int .i64 i)]) tbl37 Try.func37 rfl follows (by kernel_rfl) Try.ntmps37 rfl rfl ?_
  repeat' (first
    | (show EW _ _ _ _ _; first | refine ew_p (h := ?_) | refine ew_ld (h := ?_) | (refine ew_fresh ?_; intro b hb; refine ew_nw hb (h := ?_); (try simp only [AHeap.push_next, AHeap.put_next] at hb)) | refine ew_st (h := ?_) | refine ew_ar (h := ?_) | refine w_nil ?_ | refine w_nilD ?_)
    | (show EC _ _ _ _ _ _ _; first | refine k_seq ?_ | refine k_region ?_ | refine k_draw (h := ?_) | refine k_skip ?_ | refine k_ret ?_ | refine k_exit ?_ | refine k_block ?_ | refine k_true (h := ?_) | refine k_false (h := ?_))
    | (show EX _ (bodyA _ _ _) _ _ _; first | refine x_end1 (hq := ?_) | refine x_endc (hc := by (first | assumption | (apply cells_row; (focus ((repeat' (first | assumption | (rw [aadd_block]) | (apply gN; (focus (first | exact rfl | omega | (simp only [AHeap.push_next, AHeap.put_next, aadd_block] <;> omega))); (focus exact rfl)) | (apply gO; (focus (first | omega | (simp only [AHeap.push_next, AHeap.put_next, aadd_block, ne_eq] <;> omega)))) | (apply gS; (focus (first | exact rfl | omega | (simp only [AHeap.push_next, AHeap.put_next, aadd_block] <;> omega))); (focus exact rfl)) | (apply gP; (focus (first | omega | (simp only [AHeap.push_next, AHeap.put_next, aadd_block, ne_eq] <;> omega)))) | exact rfl)); done)); (focus exact rfl); (focus exact rfl); (focus (first | exact (rfl : _ = some [_]) | exact (rfl : _ = some [_, _]) | exact (rfl : _ = some [_, _, _])))) | (apply cells_k; (focus assumption); (focus (first | assumption | (simp only [aadd_block] <;> first | assumption | omega))); (focus ((repeat' (first | exact Keep.refl | assumption | (apply Keep.push) | (refine Keep.put ?_ ?_; rotate_left; (focus (intro hlt; first | assumption | omega | (exfalso; simp only [AHeap.push_next, AHeap.put_next, aadd_block] at hlt; omega)))))); done))))) (hv := by exact rfl) (hq := ?_))
    | (show EX _ _ _ _ _; first | refine x_normal ?_ | refine x_ret ?_ | refine x_exit ?_ | refine x_same ?_ | refine x_other (h := ?_) | refine x_bnormal ?_ | refine x_bret ?_))
  rename_i b4 hb4
  (first | (refine' ew_appS (hR := ?_) (h := ?_); rotate_left 1) | (refine' ew_app (hR := ?_) (h := ?_); rotate_left 1))
  · exact happ _ (by exact kp)
  · rintro sv' H2 ⟨hf2, hk2⟩
    refine ⟨by (dsimp only [Mode.kept, Mode.logged, Mode.at]; (repeat' (first | exact (fun _ h => absurd h List.not_mem_nil) | (refine List.forall_mem_cons.2 ⟨?_, ?_⟩) | (refine .inl ?_; exact rfl) | (refine .inl ?_; dsimp only; decide)))), ?_⟩
    have hge2 := hk2.row0 (i := e) (by exact rdx) (by simp only [AHeap.push_next, AHeap.put_next]; omega)
    have hg4 := hk2.row0 (i := b4) (by exact rdx) (by simp only [AHeap.push_next, AHeap.put_next]; omega)
    have hg5 := hk2.row0 (i := b) (by exact rdx) (by simp only [AHeap.push_next, AHeap.put_next]; omega)
    obtain ⟨z2, c2, rfl⟩ := hf2.rd.slice
    repeat' (first
    | (show EW _ _ _ _ _; first | refine ew_p (h := ?_) | refine ew_ld (h := ?_) | (refine ew_fresh ?_; intro b hb; refine ew_nw hb (h := ?_); (try simp only [AHeap.push_next, AHeap.put_next] at hb)) | refine ew_st (h := ?_) | refine ew_ar (h := ?_) | refine w_nil ?_ | refine w_nilD ?_)
    | (show EC _ _ _ _ _ _ _; first | refine k_seq ?_ | refine k_region ?_ | refine k_draw (h := ?_) | refine k_skip ?_ | refine k_ret ?_ | refine k_exit ?_ | refine k_block ?_ | refine k_true (h := ?_) | refine k_false (h := ?_))
    | (show EX _ (bodyA _ _ _) _ _ _; first | refine x_end1 (hq := ?_) | refine x_endc (hc := by (first | assumption | (apply cells_row; (focus ((repeat' (first | assumption | (rw [aadd_block]) | (apply gN; (focus (first | exact rfl | omega | (simp only [AHeap.push_next, AHeap.put_next, aadd_block] <;> omega))); (focus exact rfl)) | (apply gO; (focus (first | omega | (simp only [AHeap.push_next, AHeap.put_next, aadd_block, ne_eq] <;> omega)))) | (apply gS; (focus (first | exact rfl | omega | (simp only [AHeap.push_next, AHeap.put_next, aadd_block] <;> omega))); (focus exact rfl)) | (apply gP; (focus (first | omega | (simp only [AHeap.push_next, AHeap.put_next, aadd_block, ne_eq] <;> omega)))) | exact rfl)); done)); (focus exact rfl); (focus exact rfl); (focus (first | exact (rfl : _ = some [_]) | exact (rfl : _ = some [_, _]) | exact (rfl : _ = some [_, _, _])))) | (apply cells_k; (focus assumption); (focus (first | assumption | (simp only [aadd_block] <;> first | assumption | omega))); (focus ((repeat' (first | exact Keep.refl | assumption | (apply Keep.push) | (refine Keep.put ?_ ?_; rotate_left; (focus (intro hlt; first | assumption | omega | (exfalso; simp only [AHeap.push_next, AHeap.put_next, aadd_block] at hlt; omega)))))); done))))) (hv := by exact rfl) (hq := ?_))
    | (show EX _ _ _ _ _; first | refine x_normal ?_ | refine x_ret ?_ | refine x_exit ?_ | refine x_same ?_ | refine x_other (h := ?_) | refine x_bnormal ?_ | refine x_bret ?_))
    have hn := hk2.1
    simp only [AHeap.push_next, AHeap.put_next] at hn
    have hk3 : Keep No H H2 := Keep.after (by exact kp) hk2
    have hFe := hN.fe
    refine ⟨rfl, ?_, ?_, ?_⟩
    · refine Keep.put (Keep.put hk3.no fun _ => hFe) (fun h => ?_)
      exfalso; simp only at h; omega
    · refine hN.out hi (by simp only [AHeap.put_next]; omega) (by exact rdx) ?_ ?_
      · refine (hf2.keep (G := fun b => b = e ∨ b = b4) ((Keep.refl.put fun _ => .inl rfl).put fun _ => .inr rfl) ?_).weak ?_
        · rintro b hb' (hb0 | ⟨hb0, hb1⟩) h32 (rfl | rfl)
          · have := h32 _ hge2
            simp at this
          · have := hN.bound _ hb0
            omega
          · have := h32 _ hge2
            simp at this
          · simp only [AHeap.push_next, AHeap.put_next] at hb0; omega
        · rintro b (hb0 | ⟨hb0, hb1⟩)
          · exact .inl hb0
          · simp only [AHeap.push_next, AHeap.put_next] at hb0 hb1
            exact .inr ⟨by omega, by simp only [AHeap.push_next, AHeap.put_next]; omega⟩
      · intro q hq
        have hlt' := hN.bound _ (hN.data q hq).2
        have hne := Pk.data_ne hN q hq
        rw [AHeap.put_get, if_neg (show q.blk ≠ b4 by omega), AHeap.put_get, if_neg hne, hk3.2 _ hlt' id]
    · have hlt' := hN.bound _ (hN.data p hpm).2
      have hne := Pk.data_ne hN p hpm
      rw [AHeap.put_get, if_neg (show p.blk ≠ b4 by omega), AHeap.put_get, if_neg hne, hk3.2 _ hlt' id]
      exact (hN.data p hpm).1


theorem Net.there {F : Blks} {H : AHeap} {e : Nat} {m : Int} {L : List Pk} (hN : Net H F e m L) : ∃ z c, H.cellsAt (aadd ⟨e, 0, none⟩ 1) 1 = some [.slice z L.length c] := by
  obtain ⟨sv, hge, hfl⟩ := hN.node
  obtain ⟨z, c, rfl⟩ := hfl.rd.slice
  exact ⟨z, c, cellsAt_of hge rfl (Nat.le_of_ble_eq_true rfl) rfl⟩

theorem deliver_calls {F : Blks} {e : Nat} {i m : Int} {L : List Pk} (H : AHeap) (hN : Net H F e m L) (hL : L.length ≤ 256) :
    ACalls Try.prog 16 #[.pointer (some ⟨e, 0, none⟩), .int .i64 i] H fun v H' =>
      (¬ (0 ≤ i ∧ i < L.length) ∧ v = .tuple #[.agg #[.int .i64 0, .int .i64 0, .slice none 0 0], .bool false] ∧ Keep No H H') ∨
      ∃ j p, i = (j : Nat) ∧ L[j]? = some p ∧ v = .tuple #[p.val, .bool true] ∧ Keep F H H' ∧ Net H' (Or (fun b => F b ∧ b ≠ p.blk) (New H H')) e m (L.eraseIdx j) ∧ H'.get p.blk = some (.row ⟨bytesV p.data, 5, 0, true⟩) := by
  refine k_open (args := [.pointer (some ⟨e, 0, none⟩), .int .i64 i]) (E0 := [(0, .pointer (some ⟨e, 0, none⟩)), (1, .int .i64 i)]) tbl16 Try.func16 rfl follows (by kernel_rfl) Try.ntmps16 rfl rfl ?_
  repeat' (first
    | (show EW _ _ _ _ _; first | refine ew_p (h := ?_) | refine ew_bu (h := ?_) | (refine ew_fresh ?_; intro b hb; refine ew_nw hb (h := ?_); (try simp only [AHeap.push_next, AHeap.put_next] at hb)) | refine ew_st (h := ?_) | refine w_nil ?_)
    | (show EC _ _ _ _ _ _ _; first | refine k_seq ?_ | refine k_region ?_ | refine k_skip ?_ | refine k_ret ?_ | refine k_exit ?_ | refine k_block ?_ | refine k_true (h := ?_) | refine k_false (h := ?_))
    | (show EX _ (bodyA _ _ _) _ _ _; first | refine x_end2 (hq := ?_) | refine x_end2g (h1 := rv_cell (hc := by (first | assumption | (apply cells_row; (focus ((repeat' (first | assumption | (rw [aadd_block]) | (apply gN; (focus (first | exact rfl | omega | (simp only [AHeap.push_next, AHeap.put_next, aadd_block] <;> omega))); (focus exact rfl)) | (apply gO; (focus (first | omega | (simp only [AHeap.push_next, AHeap.put_next, aadd_block, ne_eq] <;> omega)))) | (apply gS; (focus (first | exact rfl | omega | (simp only [AHeap.push_next, AHeap.put_next, aadd_block] <;> omega))); (focus exact rfl)) | (apply gP; (focus (first | omega | (simp only [AHeap.push_next, AHeap.put_next, aadd_block, ne_eq] <;> omega)))) | exact rfl)); done)); (focus exact rfl); (focus exact rfl); (focus (first | exact (rfl : _ = some [_, _, _])))) | (apply cells_k; (focus assumption); (focus (first | assumption | (simp only [aadd_block] <;> first | assumption | omega))); (focus ((repeat' (first | exact Keep.refl | assumption | (apply Keep.push) | (refine Keep.put ?_ ?_; rotate_left; (focus (intro hlt; first | assumption | omega | (exfalso; simp only [AHeap.push_next, AHeap.put_next, aadd_block] at hlt; omega)))))); done))))) (hv := by exact rfl)) (h2 := rv_tmp) (hq := ?_) | refine x_end2g (h1 := rv_tmp) (h2 := rv_cell (hc := by (first | assumption | (apply cells_row; (focus ((repeat' (first | assumption | (rw [aadd_block]) | (apply gN; (focus (first | exact rfl | omega | (simp only [AHeap.push_next, AHeap.put_next, aadd_block] <;> omega))); (focus exact rfl)) | (apply gO; (focus (first | omega | (simp only [AHeap.push_next, AHeap.put_next, aadd_block, ne_eq] <;> omega)))) | (apply gS; (focus (first | exact rfl | omega | (simp only [AHeap.push_next, AHeap.put_next, aadd_block] <;> omega))); (focus exact rfl)) | (apply gP; (focus (first | omega | (simp only [AHeap.push_next, AHeap.put_next, aadd_block, ne_eq] <;> omega)))) | exact rfl)); done)); (focus exact rfl); (focus exact rfl); (focus (first | exact (rfl : _ = some [_, _, _])))) | (apply cells_k; (focus assumption); (focus (first | assumption | (simp only [aadd_block] <;> first | assumption | omega))); (focus ((repeat' (first | exact Keep.refl | assumption | (apply Keep.push) | (refine Keep.put ?_ ?_; rotate_left; (focus (intro hlt; first | assumption | omega | (exfalso; simp only [AHeap.push_next, AHeap.put_next, aadd_block] at hlt; omega)))))); done))))) (hv := by exact rfl)) (hq := ?_))
    | (show EX _ _ _ _ _; first | refine x_normal ?_ | refine x_ret ?_ | refine x_exit ?_ | refine x_same ?_ | refine x_other (h := ?_) | refine x_bnormal ?_ | refine x_bret ?_))
  (first | (refine' ew_callS (hc := cr_call) (hR := ?_) (h := ?_); rotate_left 1) | (refine' ew_call (hc := cr_call) (hR := ?_) (h := ?_); rotate_left 1))
  · obtain ⟨z, c, hz⟩ := hN.there
    exact there_calls ⟨e, 0, none⟩ z L.length c i _ (cells_k hz (hN.bound e hN.fe) (by exact kp))
  rintro _ H ⟨rfl, rfl⟩
  by_cases hin : 0 ≤ i ∧ i < L.length
  · obtain ⟨j, rfl⟩ : ∃ j : Nat, i = j := ⟨i.toNat, by omega⟩
    have hj : j < L.length := by omega
    have hp : L[j]? = some L[j] := List.getElem?_eq_getElem hj
    rw [decide_eq_true hin]
    repeat' (first
    | (show EW _ _ _ _ _; first | refine ew_p (h := ?_) | refine ew_bu (h := ?_) | (refine ew_fresh ?_; intro b hb; refine ew_nw hb (h := ?_); (try simp only [AHeap.push_next, AHeap.put_next] at hb)) | refine ew_st (h := ?_) | refine w_nil ?_)
    | (show EC _ _ _ _ _ _ _; first | refine k_seq ?_ | refine k_region ?_ | refine k_skip ?_ | refine k_ret ?_ | refine k_exit ?_ | refine k_block ?_ | refine k_true (h := ?_) | refine k_false (h := ?_))
    | (show EX _ (bodyA _ _ _) _ _ _; first | refine x_end2 (hq := ?_) | refine x_end2g (h1 := rv_cell (hc := by (first | assumption | (apply cells_row; (focus ((repeat' (first | assumption | (rw [aadd_block]) | (apply gN; (focus (first | exact rfl | omega | (simp only [AHeap.push_next, AHeap.put_next, aadd_block] <;> omega))); (focus exact rfl)) | (apply gO; (focus (first | omega | (simp only [AHeap.push_next, AHeap.put_next, aadd_block, ne_eq] <;> omega)))) | (apply gS; (focus (first | exact rfl | omega | (simp only [AHeap.push_next, AHeap.put_next, aadd_block] <;> omega))); (focus exact rfl)) | (apply gP; (focus (first | omega | (simp only [AHeap.push_next, AHeap.put_next, aadd_block, ne_eq] <;> omega)))) | exact rfl)); done)); (focus exact rfl); (focus exact rfl); (focus (first | exact (rfl : _ = some [_, _, _])))) | (apply cells_k; (focus assumption); (focus (first | assumption | (simp only [aadd_block] <;> first | assumption | omega))); (focus ((repeat' (first | exact Keep.refl | assumption | (apply Keep.push) | (refine Keep.put ?_ ?_; rotate_left; (focus (intro hlt; first | assumption | omega | (exfalso; simp only [AHeap.push_next, AHeap.put_next, aadd_block] at hlt; omega)))))); done))))) (hv := by exact rfl)) (h2 := rv_tmp) (hq := ?_) | refine x_end2g (h1 := rv_tmp) (h2 := rv_cell (hc := by (first | assumption | (apply cells_row; (focus ((repeat' (first | assumption | (rw [aadd_block]) | (apply gN; (focus (first | exact rfl | omega | (simp only [AHeap.push_next, AHeap.put_next, aadd_block] <;> omega))); (focus exact rfl)) | (apply gO; (focus (first | omega | (simp only [AHeap.push_next, AHeap.put_next, aadd_block, ne_eq] <;> omega)))) | (apply gS; (focus (first | exact rfl | omega | (simp only [AHeap.push_next, AHeap.put_next, aadd_block] <;> omega))); (focus exact rfl)) | (apply gP; (focus (first | omega | (simp only [AHeap.push_next, AHeap.put_next, aadd_block, ne_eq] <;> omega)))) | exact rfl)); done)); (focus exact rfl); (focus exact rfl); (focus (first | exact (rfl : _ = some [_, _, _])))) | (apply cells_k; (focus assumption); (focus (first | assumption | (simp only [aadd_block] <;> first | assumption | omega))); (focus ((repeat' (first | exact Keep.refl | assumption | (apply Keep.push) | (refine Keep.put ?_ ?_; rotate_left; (focus (intro hlt; first | assumption | omega | (exfalso; simp only [AHeap.push_next, AHeap.put_next, aadd_block] at hlt; omega)))))); done))))) (hv := by exact rfl)) (hq := ?_))
    | (show EX _ _ _ _ _; first | refine x_normal ?_ | refine x_ret ?_ | refine x_exit ?_ | refine x_same ?_ | refine x_other (h := ?_) | refine x_bnormal ?_ | refine x_bret ?_))
    (first | (refine' ew_callS (hc := cr_call) (hR := ?_) (h := ?_); rotate_left 1) | (refine' ew_call (hc := cr_call) (hR := ?_) (h := ?_); rotate_left 1))
    · exact cut_calls _ (hN.keep0 (by exact kp)) hL hp
    rintro _ H1 ⟨rfl, hk1, hN1, hd1⟩
    have hle := hk1.1
    simp only [AHeap.push_next, AHeap.put_next] at hle
    have hgb := hk1.row (i := b) (by exact rdx) (by simp only [AHeap.push_next, AHeap.put_next]; omega) (fun h => by have := hN.bound _ h; omega)
    repeat' (first
    | (show EW _ _ _ _ _; first | refine ew_p (h := ?_) | refine ew_bu (h := ?_) | (refine ew_fresh ?_; intro b hb; refine ew_nw hb (h := ?_); (try simp only [AHeap.push_next, AHeap.put_next] at hb)) | refine ew_st (h := ?_) | refine w_nil ?_)
    | (show EC _ _ _ _ _ _ _; first | refine k_seq ?_ | refine k_region ?_ | refine k_skip ?_ | refine k_ret ?_ | refine k_exit ?_ | refine k_block ?_ | refine k_true (h := ?_) | refine k_false (h := ?_))
    | (show EX _ (bodyA _ _ _) _ _ _; first | refine x_end2 (hq := ?_) | refine x_end2g (h1 := rv_cell (hc := by (first | assumption | (apply cells_row; (focus ((repeat' (first | assumption | (rw [aadd_block]) | (apply gN; (focus (first | exact rfl | omega | (simp only [AHeap.push_next, AHeap.put_next, aadd_block] <;> omega))); (focus exact rfl)) | (apply gO; (focus (first | omega | (simp only [AHeap.push_next, AHeap.put_next, aadd_block, ne_eq] <;> omega)))) | (apply gS; (focus (first | exact rfl | omega | (simp only [AHeap.push_next, AHeap.put_next, aadd_block] <;> omega))); (focus exact rfl)) | (apply gP; (focus (first | omega | (simp only [AHeap.push_next, AHeap.put_next, aadd_block, ne_eq] <;> omega)))) | exact rfl)); done)); (focus exact rfl); (focus exact rfl); (focus (first | exact (rfl : _ = some [_, _, _])))) | (apply cells_k; (focus assumption); (focus (first | assumption | (simp only [aadd_block] <;> first | assumption | omega))); (focus ((repeat' (first | exact Keep.refl | assumption | (apply Keep.push) | (refine Keep.put ?_ ?_; rotate_left; (focus (intro hlt; first | assumption | omega | (exfalso; simp only [AHeap.push_next, AHeap.put_next, aadd_block] at hlt; omega)))))); done))))) (hv := by exact rfl)) (h2 := rv_tmp) (hq := ?_) | refine x_end2g (h1 := rv_tmp) (h2 := rv_cell (hc := by (first | assumption | (apply cells_row; (focus ((repeat' (first | assumption | (rw [aadd_block]) | (apply gN; (focus (first | exact rfl | omega | (simp only [AHeap.push_next, AHeap.put_next, aadd_block] <;> omega))); (focus exact rfl)) | (apply gO; (focus (first | omega | (simp only [AHeap.push_next, AHeap.put_next, aadd_block, ne_eq] <;> omega)))) | (apply gS; (focus (first | exact rfl | omega | (simp only [AHeap.push_next, AHeap.put_next, aadd_block] <;> omega))); (focus exact rfl)) | (apply gP; (focus (first | omega | (simp only [AHeap.push_next, AHeap.put_next, aadd_block, ne_eq] <;> omega)))) | exact rfl)); done)); (focus exact rfl); (focus exact rfl); (focus (first | exact (rfl : _ = some [_, _, _])))) | (apply cells_k; (focus assumption); (focus (first | assumption | (simp only [aadd_block] <;> first | assumption | omega))); (focus ((repeat' (first | exact Keep.refl | assumption | (apply Keep.push) | (refine Keep.put ?_ ?_; rotate_left; (focus (intro hlt; first | assumption | omega | (exfalso; simp only [AHeap.push_next, AHeap.put_next, aadd_block] at hlt; omega)))))); done))))) (hv := by exact rfl)) (hq := ?_))
    | (show EX _ _ _ _ _; first | refine x_normal ?_ | refine x_ret ?_ | refine x_exit ?_ | refine x_same ?_ | refine x_other (h := ?_) | refine x_bnormal ?_ | refine x_bret ?_))
    have hpb := hN.bound _ (hN.data _ (List.getElem_mem hj)).2
    refine .inr ⟨j, L[j], rfl, hp, rfl, ?_, ?_, ?_⟩
    · refine ((by exact kp : Keep F H (H.push _)).trans hk1 fun _ _ h => h).put fun h => ?_
      exfalso; simp only at h; omega
    · refine hN1.grown (G := fun x => x = b) (by simp only [AHeap.push_next]; omega) (Keep.refl.put fun _ => rfl) ?_
      rintro _ rfl
      exact ⟨fun h => by have := hN.bound _ h.1; omega, by simp only [AHeap.push_next]; omega⟩
    · rw [AHeap.put_get, if_neg (show L[j].blk ≠ b by omega)]
      exact hd1
  · rw [decide_eq_false hin]
    repeat' (first
    | (show EW _ _ _ _ _; first | refine ew_p (h := ?_) | refine ew_bu (h := ?_) | (refine ew_fresh ?_; intro b hb; refine ew_nw hb (h := ?_); (try simp only [AHeap.push_next, AHeap.put_next] at hb)) | refine ew_st (h := ?_) | refine w_nil ?_)
    | (show EC _ _ _ _ _ _ _; first | refine k_seq ?_ | refine k_region ?_ | refine k_skip ?_ | refine k_ret ?_ | refine k_exit ?_ | refine k_block ?_ | refine k_true (h := ?_) | refine k_false (h := ?_))
    | (show EX _ (bodyA _ _ _) _ _ _; first | refine x_end2 (hq := ?_) | refine x_end2g (h1 := rv_cell (hc := by (first | assumption | (apply cells_row; (focus ((repeat' (first | assumption | (rw [aadd_block]) | (apply gN; (focus (first | exact rfl | omega | (simp only [AHeap.push_next, AHeap.put_next, aadd_block] <;> omega))); (focus exact rfl)) | (apply gO; (focus (first | omega | (simp only [AHeap.push_next, AHeap.put_next, aadd_block, ne_eq] <;> omega)))) | (apply gS; (focus (first | exact rfl | omega | (simp only [AHeap.push_next, AHeap.put_next, aadd_block] <;> omega))); (focus exact rfl)) | (apply gP; (focus (first | omega | (simp only [AHeap.push_next, AHeap.put_next, aadd_block, ne_eq] <;> omega)))) | exact rfl)); done)); (focus exact rfl); (focus exact rfl); (focus (first | exact (rfl : _ = some [_, _, _])))) | (apply cells_k; (focus assumption); (focus (first | assumption | (simp only [aadd_block] <;> first | assumption | omega))); (focus ((repeat' (first | exact Keep.refl | assumption | (apply Keep.push) | (refine Keep.put ?_ ?_; rotate_left; (focus (intro hlt; first | assumption | omega | (exfalso; simp only [AHeap.push_next, AHeap.put_next, aadd_block] at hlt; omega)))))); done))))) (hv := by exact rfl)) (h2 := rv_tmp) (hq := ?_) | refine x_end2g (h1 := rv_tmp) (h2 := rv_cell (hc := by (first | assumption | (apply cells_row; (focus ((repeat' (first | assumption | (rw [aadd_block]) | (apply gN; (focus (first | exact rfl | omega | (simp only [AHeap.push_next, AHeap.put_next, aadd_block] <;> omega))); (focus exact rfl)) | (apply gO; (focus (first | omega | (simp only [AHeap.push_next, AHeap.put_next, aadd_block, ne_eq] <;> omega)))) | (apply gS; (focus (first | exact rfl | omega | (simp only [AHeap.push_next, AHeap.put_next, aadd_block] <;> omega))); (focus exact rfl)) | (apply gP; (focus (first | omega | (simp only [AHeap.push_next, AHeap.put_next, aadd_block, ne_eq] <;> omega)))) | exact rfl)); done)); (focus exact rfl); (focus exact rfl); (focus (first | exact (rfl : _ = some [_, _, _])))) | (apply cells_k; (focus assumption); (focus (first | assumption | (simp only [aadd_block] <;> first | assumption | omega))); (focus ((repeat' (first | exact Keep.refl | assumption | (apply Keep.push) | (refine Keep.put ?_ ?_; rotate_left; (focus (intro hlt; first | assumption | omega | (exfalso; simp only [AHeap.push_next, AHeap.put_next, aadd_block] at hlt; omega)))))); done))))) (hv := by exact rfl)) (hq := ?_))
    | (show EX _ _ _ _ _; first | refine x_normal ?_ | refine x_ret ?_ | refine x_exit ?_ | refine x_same ?_ | refine x_other (h := ?_) | refine x_bnormal ?_ | refine x_bret ?_))
    exact .inl ⟨hin, rfl, by exact kp⟩


theorem drop_calls {F : Blks} {e : Nat} {i m : Int} {L : List Pk} (H : AHeap) (hN : Net H F e m L) (hL : L.length ≤ 256) :
    ACalls Try.prog 33 #[.pointer (some ⟨e, 0, none⟩), .int .i64 i] H fun v H' =>
      (¬ (0 ≤ i ∧ i < L.length) ∧ v = .bool false ∧ H' = H) ∨
      ∃ j p, i = (j : Nat) ∧ L[j]? = some p ∧ v = .bool true ∧ Keep F H H' ∧ Net H' (Or (fun b => F b ∧ b ≠ p.blk) (New H H')) e m (L.eraseIdx j) := by
  refine k_open (args := [.pointer (some ⟨e, 0, none⟩), .int .i64 i]) (E0 := [(0, .pointer (some ⟨e, 0, none⟩)), (1, .int .i64 i)]) tbl33 Try.func33 rfl follows (by kernel_rfl) Try.ntmps33 rfl rfl ?_
  repeat' (first
    | (show EW _ _ _ _ _; first | refine ew_p (h := ?_) | refine w_nil ?_)
    | (show EC _ _ _ _ _ _ _; first | refine k_seq ?_ | refine k_region ?_ | refine k_skip ?_ | refine k_ret ?_ | refine k_exit ?_ | refine k_block ?_ | refine k_true (h := ?_) | refine k_false (h := ?_))
    | (show EX _ (bodyA _ _ _) _ _ _; first | refine x_end1 (hq := ?_))
    | (show EX _ _ _ _ _; first | refine x_normal ?_ | refine x_ret ?_ | refine x_exit ?_ | refine x_same ?_ | refine x_other (h := ?_) | refine x_bnormal ?_ | refine x_bret ?_))
  (first | (refine' ew_callS (hc := cr_call) (hR := ?_) (h := ?_); rotate_left 1) | (refine' ew_call (hc := cr_call) (hR := ?_) (h := ?_); rotate_left 1))
  · obtain ⟨z, c, hz⟩ := hN.there
    exact there_calls ⟨e, 0, none⟩ z L.length c i _ hz
  rintro _ H ⟨rfl, rfl⟩
  by_cases hin : 0 ≤ i ∧ i < L.length
  · obtain ⟨j, rfl⟩ : ∃ j : Nat, i = j := ⟨i.toNat, by omega⟩
    have hj : j < L.length := by omega
    have hp : L[j]? = some L[j] := List.getElem?_eq_getElem hj
    rw [decide_eq_true hin]
    repeat' (first
    | (show EW _ _ _ _ _; first | refine ew_p (h := ?_) | refine w_nil ?_)
    | (show EC _ _ _ _ _ _ _; first | refine k_seq ?_ | refine k_region ?_ | refine k_skip ?_ | refine k_ret ?_ | refine k_exit ?_ | refine k_block ?_ | refine k_true (h := ?_) | refine k_false (h := ?_))
    | (show EX _ (bodyA _ _ _) _ _ _; first | refine x_end1 (hq := ?_))
    | (show EX _ _ _ _ _; first | refine x_normal ?_ | refine x_ret ?_ | refine x_exit ?_ | refine x_same ?_ | refine x_other (h := ?_) | refine x_bnormal ?_ | refine x_bret ?_))
    (first | (refine' ew_callS (hc := cr_call) (hR := ?_) (h := ?_); rotate_left 1) | (refine' ew_call (hc := cr_call) (hR := ?_) (h := ?_); rotate_left 1))
    · exact cut_calls _ hN hL hp
    rintro _ H1 ⟨rfl, hk1, hN1, hd1⟩
    repeat' (first
    | (show EW _ _ _ _ _; first | refine ew_p (h := ?_) | refine w_nil ?_)
    | (show EC _ _ _ _ _ _ _; first | refine k_seq ?_ | refine k_region ?_ | refine k_skip ?_ | refine k_ret ?_ | refine k_exit ?_ | refine k_block ?_ | refine k_true (h := ?_) | refine k_false (h := ?_))
    | (show EX _ (bodyA _ _ _) _ _ _; first | refine x_end1 (hq := ?_))
    | (show EX _ _ _ _ _; first | refine x_normal ?_ | refine x_ret ?_ | refine x_exit ?_ | refine x_same ?_ | refine x_other (h := ?_) | refine x_bnormal ?_ | refine x_bret ?_))
    exact .inr ⟨j, L[j], rfl, hp, rfl, hk1, hN1⟩
  · rw [decide_eq_false hin]
    repeat' (first
    | (show EW _ _ _ _ _; first | refine ew_p (h := ?_) | refine w_nil ?_)
    | (show EC _ _ _ _ _ _ _; first | refine k_seq ?_ | refine k_region ?_ | refine k_skip ?_ | refine k_ret ?_ | refine k_exit ?_ | refine k_block ?_ | refine k_true (h := ?_) | refine k_false (h := ?_))
    | (show EX _ (bodyA _ _ _) _ _ _; first | refine x_end1 (hq := ?_))
    | (show EX _ _ _ _ _; first | refine x_normal ?_ | refine x_ret ?_ | refine x_exit ?_ | refine x_same ?_ | refine x_other (h := ?_) | refine x_bnormal ?_ | refine x_bret ?_))
    exact .inl ⟨hin, rfl, rfl⟩

theorem copy_calls {F : Blks} {e : Nat} {i m : Int} {L : List Pk} (H : AHeap) (hN : Net H F e m L) (hL : L.length ≤ 256) (hl : ∀ p ∈ L, p.data.length ≤ 140737488355328) :
    ACalls Try.prog 20 #[.pointer (some ⟨e, 0, none⟩), .int .i64 i] H fun v H' =>
      (¬ (0 ≤ i ∧ i < L.length) ∧ v = .int .i64 224 ∧ H' = H) ∨
      ∃ j p, i = (j : Nat) ∧ L[j]? = some p ∧
      ((L.length = 256 ∧ v = .int .i64 223 ∧ Net H' F e m L ∧ Keep No H H') ∨
       (L.length < 256 ∧ v = .int .i64 0 ∧ Keep F H H' ∧ ∃ b, H.next ≤ b ∧ Net H' (Or F (New H H')) e m (L ++ [⟨p.fr, p.to, p.data, b⟩]))) := by
  obtain ⟨sv, hge, hfl⟩ := hN.node
  obtain ⟨z, c, rfl⟩ := hfl.rd.slice
  refine k_open (args := [.pointer (some ⟨e, 0, none⟩), .int .i64 i]) (E0 := [(0, .pointer (some ⟨e, 0, none⟩)), (1, .int .i64 i)]) tbl20 Try.func20 rfl follows (by kernel_rfl) Try.ntmps20 rfl rfl ?_
  repeat' (first
    | (show EW _ _ _ _ _; first | refine ew_p (h := ?_) | refine ew_ld (h := ?_) | refine w_nil ?_)
    | (show EC _ _ _ _ _ _ _; first | refine k_seq ?_ | refine k_region ?_ | refine k_skip ?_ | refine k_ret ?_ | refine k_exit ?_ | refine k_block ?_ | refine k_true (h := ?_) | refine k_false (h := ?_))
    | (show EX _ (bodyA _ _ _) _ _ _; first | refine x_end1 (hq := ?_))
    | (show EX _ _ _ _ _; first | refine x_normal ?_ | refine x_ret ?_ | refine x_exit ?_ | refine x_same ?_ | refine x_other (h := ?_) | refine x_bnormal ?_ | refine x_bret ?_))
  (first | (refine' ew_callS (hc := cr_call) (hR := ?_) (h := ?_); rotate_left 1) | (refine' ew_call (hc := cr_call) (hR := ?_) (h := ?_); rotate_left 1))
  · obtain ⟨z, c, hz⟩ := hN.there
    exact there_calls ⟨e, 0, none⟩ z L.length c i _ hz
  rintro _ H ⟨rfl, rfl⟩
  by_cases hin : 0 ≤ i ∧ i < L.length
  · obtain ⟨j, rfl⟩ : ∃ j : Nat, i = j := ⟨i.toNat, by omega⟩
    have hj : j < L.length := by omega
    have hp : L[j]? = some L[j] := List.getElem?_eq_getElem hj
    obtain ⟨ad, c', hsv, hF, hlt, hat⟩ := hfl.rd.at hj
    simp only [Value.slice.injEq, true_and] at hsv
    obtain ⟨rfl, rfl⟩ := hsv
    rw [flCells_at hp] at hat
    have hat' : H.cellsAt (aadd ad ((j : Int).toNat * 3)) 3 = some [.int .i64 L[j].fr, .int .i64 L[j].to, L[j].dv] := hat
    rw [decide_eq_true hin]
    repeat' (first
    | (show EW _ _ _ _ _; first | refine ew_p (h := ?_) | refine ew_ld (h := ?_) | refine w_nil ?_)
    | (show EC _ _ _ _ _ _ _; first | refine k_seq ?_ | refine k_region ?_ | refine k_skip ?_ | refine k_ret ?_ | refine k_exit ?_ | refine k_block ?_ | refine k_true (h := ?_) | refine k_false (h := ?_))
    | (show EX _ (bodyA _ _ _) _ _ _; first | refine x_end1 (hq := ?_))
    | (show EX _ _ _ _ _; first | refine x_normal ?_ | refine x_ret ?_ | refine x_exit ?_ | refine x_same ?_ | refine x_other (h := ?_) | refine x_bnormal ?_ | refine x_bret ?_))
    (first | (refine' ew_callS (hc := cr_call) (hR := ?_) (h := ?_); rotate_left 1) | (refine' ew_call (hc := cr_call) (hR := ?_) (h := ?_); rotate_left 1))
    · have hd := hN.data _ (List.getElem_mem hj)
      exact lay_calls (G := F) _ _ _ L[j].data _ hN hL (rd_row hd.1 hd.2 (hN.bound _ hd.2)) (hl _ (List.getElem_mem hj))
    rintro v H1 hpost
    rcases hpost with ⟨h256, rfl, hN1, hk1⟩ | ⟨h256, rfl, hk1, b, hb, hN1⟩
    · repeat' (first
    | (show EW _ _ _ _ _; first | refine ew_p (h := ?_) | refine ew_ld (h := ?_) | refine w_nil ?_)
    | (show EC _ _ _ _ _ _ _; first | refine k_seq ?_ | refine k_region ?_ | refine k_skip ?_ | refine k_ret ?_ | refine k_exit ?_ | refine k_block ?_ | refine k_true (h := ?_) | refine k_false (h := ?_))
    | (show EX _ (bodyA _ _ _) _ _ _; first | refine x_end1 (hq := ?_))
    | (show EX _ _ _ _ _; first | refine x_normal ?_ | refine x_ret ?_ | refine x_exit ?_ | refine x_same ?_ | refine x_other (h := ?_) | refine x_bnormal ?_ | refine x_bret ?_))
      exact .inr ⟨j, L[j], rfl, hp, .inl ⟨h256, rfl, hN1, hk1⟩⟩
    · repeat' (first
    | (show EW _ _ _ _ _; first | refine ew_p (h := ?_) | refine ew_ld (h := ?_) | refine w_nil ?_)
    | (show EC _ _ _ _ _ _ _; first | refine k_seq ?_ | refine k_region ?_ | refine k_skip ?_ | refine k_ret ?_ | refine k_exit ?_ | refine k_block ?_ | refine k_true (h := ?_) | refine k_false (h := ?_))
    | (show EX _ (bodyA _ _ _) _ _ _; first | refine x_end1 (hq := ?_))
    | (show EX _ _ _ _ _; first | refine x_normal ?_ | refine x_ret ?_ | refine x_exit ?_ | refine x_same ?_ | refine x_other (h := ?_) | refine x_bnormal ?_ | refine x_bret ?_))
      exact .inr ⟨j, L[j], rfl, hp, .inr ⟨h256, rfl, hk1, b, hb, hN1⟩⟩
  · rw [decide_eq_false hin]
    repeat' (first
    | (show EW _ _ _ _ _; first | refine ew_p (h := ?_) | refine ew_ld (h := ?_) | refine w_nil ?_)
    | (show EC _ _ _ _ _ _ _; first | refine k_seq ?_ | refine k_region ?_ | refine k_skip ?_ | refine k_ret ?_ | refine k_exit ?_ | refine k_block ?_ | refine k_true (h := ?_) | refine k_false (h := ?_))
    | (show EX _ (bodyA _ _ _) _ _ _; first | refine x_end1 (hq := ?_))
    | (show EX _ _ _ _ _; first | refine x_normal ?_ | refine x_ret ?_ | refine x_exit ?_ | refine x_same ?_ | refine x_other (h := ?_) | refine x_bnormal ?_ | refine x_bret ?_))
    exact .inl ⟨hin, rfl, rfl⟩

end Go.Ae

/- Sending: package ether over the abstract heap. No condition. -/
set_option linter.unusedSimpArgs false
set_option linter.unusedVariables false
set_option maxRecDepth 100000
set_option maxHeartbeats 400000
namespace Go.Ae
open Go.Proofs
attribute [local irreducible] awC wpSeq wpS nRes aw aE acall ACalls szT isAggT zeroT byT elemSz fieldOff Program.underlying appendA copyA thenA inBlockA bodyA AHeap.push AHeap.put AHeap.cellsAt AHeap.setCells resV loadA intBin EW EC EX Nr Nc Er Cr Agree

def tbl15 : Tbl := []
theorem Net.node0 {F : Blks} {H : AHeap} {e : Nat} {m : Int} {L : List Pk} (hN : Net H F e m L) : H.cellsAt (aadd ⟨e, 0, none⟩ 0) 1 = some [.int .i64 m] := by
  obtain ⟨sv, hge, hfl⟩ := hN.node
  exact cellsAt_of hge rfl (Nat.le_of_ble_eq_true rfl) rfl
theorem send_calls {F G : Blks} {e : Nat} {m : Int} {L : List Pk} (f t : Int) (dv : Value) (bs : List UInt8) (H : AHeap) (hN : Net H F e m L) (hL : L.length ≤ 256) (hd : BR H G dv bs) (hl : bs.length ≤ 140737488355328) :
    ACalls Try.prog 15 #[.pointer (some ⟨e, 0, none⟩), .int .i64 f, .int .i64 t, dv] H fun v H' =>
      (¬ (0 ≤ f ∧ f < m ∧ 0 ≤ t ∧ t < m ∧ f ≠ t) ∧ v = .int .i64 221 ∧ H' = H) ∨
      (0 ≤ f ∧ f < m ∧ 0 ≤ t ∧ t < m ∧ f ≠ t) ∧ ((32776 < bs.length ∧ v = .int .i64 222 ∧ H' = H) ∨
        bs.length ≤ 32776 ∧
      ((L.length = 256 ∧ v = .int .i64 223 ∧ Net H' F e m L ∧ Keep No H H') ∨
       (L.length < 256 ∧ v = .int .i64 0 ∧ Keep F H H' ∧ ∃ b, H.next ≤ b ∧ Net H' (Or F (New H H')) e m (L ++ [⟨f, t, bs, b⟩])))) := by
  obtain ⟨z, c, rfl⟩ := hd.slice
  refine k_open (args := [.pointer (some ⟨e, 0, none⟩), .int .i64 f, .int .i64 t, .slice z bs.length c]) (E0 := [(0, .pointer (some ⟨e, 0, none⟩)), (1, .int .i64 f), (2, .int .i64 t), (3, .slice z bs.length c)]) tbl15 Try.func15 rfl follows (by kernel_rfl) Try.ntmps15 rfl rfl ?_
  repeat' (first
    | (show EW _ _ _ _ _; first | refine ew_p (h := ?_) | refine ew_bu (h := ?_) | (refine ew_df (ht := ?_) (hf := ?_) <;> intro _) | refine w_nil ?_)
    | (show EC _ _ _ _ _ _ _; first | refine k_seq ?_ | refine k_region ?_ | refine k_skip ?_ | refine k_ret ?_ | refine k_exit ?_ | refine k_block ?_ | refine k_true (h := ?_) | refine k_false (h := ?_))
    | (show EX _ (bodyA _ _ _) _ _ _; first | refine x_end1 (hq := ?_))
    | (show EX _ _ _ _ _; first | refine x_normal ?_ | refine x_ret ?_ | refine x_exit ?_ | refine x_same ?_ | refine x_other (h := ?_) | refine x_bnormal ?_ | refine x_bret ?_))
  (first | (refine' ew_callS (hc := cr_call) (hR := ?_) (h := ?_); rotate_left 1) | (refine' ew_call (hc := cr_call) (hR := ?_) (h := ?_); rotate_left 1))
  · exact node_calls ⟨e, 0, none⟩ m f _ hN.node0
  rintro _ H ⟨rfl, rfl⟩
  by_cases hf : 0 ≤ f ∧ f < m
  case neg =>
    rw [decide_eq_false hf]
    repeat' (first
    | (show EW _ _ _ _ _; first | refine ew_p (h := ?_) | refine ew_bu (h := ?_) | (refine ew_df (ht := ?_) (hf := ?_) <;> intro _) | refine w_nil ?_)
    | (show EC _ _ _ _ _ _ _; first | refine k_seq ?_ | refine k_region ?_ | refine k_skip ?_ | refine k_ret ?_ | refine k_exit ?_ | refine k_block ?_ | refine k_true (h := ?_) | refine k_false (h := ?_))
    | (show EX _ (bodyA _ _ _) _ _ _; first | refine x_end1 (hq := ?_))
    | (show EX _ _ _ _ _; first | refine x_normal ?_ | refine x_ret ?_ | refine x_exit ?_ | refine x_same ?_ | refine x_other (h := ?_) | refine x_bnormal ?_ | refine x_bret ?_))
    exact .inl ⟨by omega, rfl, rfl⟩
  rw [decide_eq_true hf]
  repeat' (first
    | (show EW _ _ _ _ _; first | refine ew_p (h := ?_) | refine ew_bu (h := ?_) | (refine ew_df (ht := ?_) (hf := ?_) <;> intro _) | refine w_nil ?_)
    | (show EC _ _ _ _ _ _ _; first | refine k_seq ?_ | refine k_region ?_ | refine k_skip ?_ | refine k_ret ?_ | refine k_exit ?_ | refine k_block ?_ | refine k_true (h := ?_) | refine k_false (h := ?_))
    | (show EX _ (bodyA _ _ _) _ _ _; first | refine x_end1 (hq := ?_))
    | (show EX _ _ _ _ _; first | refine x_normal ?_ | refine x_ret ?_ | refine x_exit ?_ | refine x_same ?_ | refine x_other (h := ?_) | refine x_bnormal ?_ | refine x_bret ?_))
  (first | (refine' ew_callS (hc := cr_call) (hR := ?_) (h := ?_); rotate_left 1) | (refine' ew_call (hc := cr_call) (hR := ?_) (h := ?_); rotate_left 1))
  · exact node_calls ⟨e, 0, none⟩ m t _ hN.node0
  rintro _ H ⟨rfl, rfl⟩
  by_cases ht : 0 ≤ t ∧ t < m
  case neg =>
    rw [decide_eq_false ht]
    repeat' (first
    | (show EW _ _ _ _ _; first | refine ew_p (h := ?_) | refine ew_bu (h := ?_) | (refine ew_df (ht := ?_) (hf := ?_) <;> intro _) | refine w_nil ?_)
    | (show EC _ _ _ _ _ _ _; first | refine k_seq ?_ | refine k_region ?_ | refine k_skip ?_ | refine k_ret ?_ | refine k_exit ?_ | refine k_block ?_ | refine k_true (h := ?_) | refine k_false (h := ?_))
    | (show EX _ (bodyA _ _ _) _ _ _; first | refine x_end1 (hq := ?_))
    | (show EX _ _ _ _ _; first | refine x_normal ?_ | refine x_ret ?_ | refine x_exit ?_ | refine x_same ?_ | refine x_other (h := ?_) | refine x_bnormal ?_ | refine x_bret ?_))
    exact .inl ⟨by omega, rfl, rfl⟩
  rw [decide_eq_true ht]
  repeat' (first
    | (show EW _ _ _ _ _; first | refine ew_p (h := ?_) | refine ew_bu (h := ?_) | (refine ew_df (ht := ?_) (hf := ?_) <;> intro _) | refine w_nil ?_)
    | (show EC _ _ _ _ _ _ _; first | refine k_seq ?_ | refine k_region ?_ | refine k_skip ?_ | refine k_ret ?_ | refine k_exit ?_ | refine k_block ?_ | refine k_true (h := ?_) | refine k_false (h := ?_))
    | (show EX _ (bodyA _ _ _) _ _ _; first | refine x_end1 (hq := ?_))
    | (show EX _ _ _ _ _; first | refine x_normal ?_ | refine x_ret ?_ | refine x_exit ?_ | refine x_same ?_ | refine x_other (h := ?_) | refine x_bnormal ?_ | refine x_bret ?_))
  · exact .inl ⟨by omega, rfl, rfl⟩
  · exact .inr ⟨⟨hf.1, hf.2, ht.1, ht.2, by assumption⟩, .inl ⟨by omega, rfl, rfl⟩⟩
  (first | (refine' ew_callS (hc := cr_call) (hR := ?_) (h := ?_); rotate_left 1) | (refine' ew_call (hc := cr_call) (hR := ?_) (h := ?_); rotate_left 1))
  · exact lay_calls (G := G) _ _ _ bs _ hN hL hd hl
  rintro v H1 hpost
  rcases hpost with ⟨h256, rfl, hN1, hk1⟩ | ⟨h256, rfl, hk1, b, hb, hN1⟩
  · repeat' (first
    | (show EW _ _ _ _ _; first | refine ew_p (h := ?_) | refine ew_bu (h := ?_) | (refine ew_df (ht := ?_) (hf := ?_) <;> intro _) | refine w_nil ?_)
    | (show EC _ _ _ _ _ _ _; first | refine k_seq ?_ | refine k_region ?_ | refine k_skip ?_ | refine k_ret ?_ | refine k_exit ?_ | refine k_block ?_ | refine k_true (h := ?_) | refine k_false (h := ?_))
    | (show EX _ (bodyA _ _ _) _ _ _; first | refine x_end1 (hq := ?_))
    | (show EX _ _ _ _ _; first | refine x_normal ?_ | refine x_ret ?_ | refine x_exit ?_ | refine x_same ?_ | refine x_other (h := ?_) | refine x_bnormal ?_ | refine x_bret ?_))
    exact .inr ⟨⟨hf.1, hf.2, ht.1, ht.2, by assumption⟩, .inr ⟨by omega, .inl ⟨h256, rfl, hN1, hk1⟩⟩⟩
  · repeat' (first
    | (show EW _ _ _ _ _; first | refine ew_p (h := ?_) | refine ew_bu (h := ?_) | (refine ew_df (ht := ?_) (hf := ?_) <;> intro _) | refine w_nil ?_)
    | (show EC _ _ _ _ _ _ _; first | refine k_seq ?_ | refine k_region ?_ | refine k_skip ?_ | refine k_ret ?_ | refine k_exit ?_ | refine k_block ?_ | refine k_true (h := ?_) | refine k_false (h := ?_))
    | (show EX _ (bodyA _ _ _) _ _ _; first | refine x_end1 (hq := ?_))
    | (show EX _ _ _ _ _; first | refine x_normal ?_ | refine x_ret ?_ | refine x_exit ?_ | refine x_same ?_ | refine x_other (h := ?_) | refine x_bnormal ?_ | refine x_bret ?_))
    exact .inr ⟨⟨hf.1, hf.2, ht.1, ht.2, by assumption⟩, .inr ⟨by omega, .inr ⟨h256, rfl, hk1, b, hb, hN1⟩⟩⟩

end Go.Ae

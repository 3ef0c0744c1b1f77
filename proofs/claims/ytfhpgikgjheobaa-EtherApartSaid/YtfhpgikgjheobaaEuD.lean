/- eddykept's book over the abstract heap: a list is written full and laid on. No condition. -/
import Derived.Test.YtfhpgikgjheobaaEuC
set_option linter.unusedSimpArgs false
set_option linter.unusedVariables false
set_option linter.unnecessarySimpa false
set_option maxRecDepth 100000
set_option maxHeartbeats 1600000
namespace Go.Ae
open Go.Proofs
attribute [local irreducible] awC wpSeq wpS nRes aw aE acall ACalls szT isAggT zeroT byT elemSz fieldOff Program.underlying appendA copyA thenA inBlockA bodyA AHeap.push AHeap.put AHeap.cellsAt AHeap.setCells resV loadA intBin EW EC EX Nr Nc Er Cr Agree

def tbl79 : Tbl := [(10, [0, 1, 2, 3, 4, 5, 6, 8, 9, 7, 10, 11, 12, 13, 14, 15], [0, 0, 2, 6, 14, 0, 0, 96, 0, 0, 992, 2016, 4094, 8191, 16383, 32767])]
theorem T23c : AppT Try.prog 23 23 (el 1) 0 23 := T23
theorem T23d : AppT Try.prog 23 23 (el 2) 0 23 := T23
def WrI (H0 : AHeap) (blk : Nat) (len : Nat) (rest : Env) (n : Nat) (E : Env) (H : AHeap) : Prop :=
  Keep (fun b => b = blk) H0 H ∧ ∃ (i : Nat) (cs : List UInt8), n + i = len ∧ E = (6, .int .i64 i) :: rest ∧ cs.length = len ∧ H.get blk = some (.row ⟨bytesV cs, 5, 0, true⟩)
def LyI (H0 : AHeap) (blk : Nat) (len : Nat) (rest : Env) (n : Nat) (E : Env) (H : AHeap) : Prop :=
  Keep No H0 H ∧ ∃ (j : Nat) (gv : Value), n + j = 150 ∧ E = (8, .int .i64 j) :: (7, gv) :: rest ∧
    ((j = 0 ∧ gv = .slice (some ⟨blk, 0, none⟩) len len ∧ H = H0) ∨ ∃ gs : List UInt8, gs.length = len + j ∧ Opn H (fun b => H0.next ≤ b) 5 1 gv (len + j) (bytesV gs))
/-- What writing a list comes to. -/
def WrP (H : AHeap) (c : Col) (k blk : Nat) (bad : Bool) (w n m l : Value) (s : Int) (ps : List (Value × Value)) (es : List We) (cl : Nat → List Value) (v : Value) (H' : AHeap) : Prop :=
  v = .tuple #[] ∧ ∃ c' o' t' p1 p2, H'.get k = some (.row ⟨bkC bad o' t' w n m l s, 61, 0, true⟩) ∧
    Bp H' c' k (six o' t' w n m l) (upd (upd cl 1 ((ps ++ [p1, p2]).map (·.1))) 2 ((ps ++ [p1, p2]).map (·.2))) ∧ Dt H' c' (ps ++ [p1, p2]) es ∧ Keep (fun b => c b = 1 ∨ c b = 2 ∨ b = blk ∨ b = k) H H' ∧
    (∀ b, b < H.next → b ≠ blk → c' b = c b) ∧ c' blk = 7
section
variable {H : AHeap} {c : Col} {k : Nat} {bad : Bool} {o t w n m l : Value} {s : Int} {ps : List (Value × Value)} {es1 es2 : List We} {e : We} {cl : Nat → List Value}
theorem write_calls (hrow : H.get k = some (.row ⟨bkC bad o t w n m l s, 61, 0, true⟩)) (hp : Bp H c k (six o t w n m l) cl) (h1 : cl 1 = ps.map (·.1)) (h2 : cl 2 = ps.map (·.2)) (hd : Dt H c ps (es1 ++ e :: es2)) (hl : ps.length ≤ 1000000) :
    ACalls Try.prog 79 #[.pointer (some ⟨k, 0, none⟩), e.sl, .int .i64 e.mark] H (WrP H c k e.blk bad w n m l s ps (es1 ++ es2) cl) := by
  have hwe := hd.en e (by simp)
  have hlen := hwe.len
  have hm0 := hwe.mk0
  have hm1 := hwe.mk1
  have hel := hwe.lt
  have hkn := hp.kn
  have hke : k ≠ e.blk := fun h => by have := hp.ck; have := hwe.col; rw [← h] at this; omega
  obtain ⟨len, hlen'⟩ : ∃ len, len = e.bs.length := ⟨_, rfl⟩
  have hsl : e.sl = .slice (some ⟨e.blk, 0, none⟩) len len := by rw [hlen']; rfl
  rw [hsl]
  refine k_open (args := [.pointer (some ⟨k, 0, none⟩), .slice (some ⟨e.blk, 0, none⟩) len len, .int .i64 e.mark]) (E0 := [(0, .pointer (some ⟨k, 0, none⟩)), (1, .slice (some ⟨e.blk, 0, none⟩) len len), (2, .int .i64 e.mark)]) tbl79 Try.func79 rfl follows (by kernel_rfl) Try.ntmps79 rfl rfl ?_
  repeat' (first
    | (show EW _ _ _ _ _; first | refine ew_p (h := ?_) | refine ew_ld (h := ?_) | refine ew_ci (h := ?_) | refine ew_conv (hn := r_conv_br (h := by first | assumption | (apply Rd.keep0; (focus assumption); exact kp))) (h := ?_) | (refine ew_fresh ?_; intro b hb; refine ew_nw hb (h := ?_); (try simp only [AHeap.push_next, AHeap.put_next] at hb)) | refine ew_st (h := ?_) | (refine ew_df (ht := ?_) (hf := ?_) <;> intro _) | refine ew_ar (h := ?_) | refine w_nil ?_ | refine w_nilD ?_)
    | (show EC _ _ _ _ _ _ _; first | refine k_seq ?_ | refine k_region ?_ | refine k_draw (h := ?_) | refine k_skip ?_ | refine k_ret ?_ | refine k_exit ?_ | refine k_block ?_ | refine k_true (h := ?_) | refine k_false (h := ?_))
    | (show EX _ (bodyA _ _ _) _ _ _; first | refine x_end0 (hq := ?_))
    | (show EX _ _ _ _ _; first | refine x_normal ?_ | refine x_ret ?_ | refine x_exit ?_ | refine x_same ?_ | refine x_other (h := ?_) | refine x_bnormal ?_ | refine x_bret ?_))
  refine k_loop follows (WrI H e.blk len [(0, .pointer (some ⟨k, 0, none⟩)), (1, .slice (some ⟨e.blk, 0, none⟩) len len), (2, .int .i64 e.mark)]) len [(6, _), (0, _), (1, _), (2, _)] (by kernel_rfl) ⟨rfl, rfl, rfl, rfl, trivial⟩ ⟨Keep.refl, 0, e.bs, by omega, rfl, hlen'.symm, hwe.row⟩ ?_
  rintro n' E H1 ⟨hk1, i, cs, hi, rfl, hcs, hg⟩
  by_cases hlt : i < len
  · repeat' (first
    | (show EW _ _ _ _ _; first | refine ew_p (h := ?_) | refine ew_ld (h := ?_) | refine ew_ci (h := ?_) | refine ew_conv (hn := r_conv_br (h := by first | assumption | (apply Rd.keep0; (focus assumption); exact kp))) (h := ?_) | (refine ew_fresh ?_; intro b hb; refine ew_nw hb (h := ?_); (try simp only [AHeap.push_next, AHeap.put_next] at hb)) | refine ew_st (h := ?_) | (refine ew_df (ht := ?_) (hf := ?_) <;> intro _) | refine ew_ar (h := ?_) | refine w_nil ?_ | refine w_nilD ?_)
    | (show EC _ _ _ _ _ _ _; first | refine k_seq ?_ | refine k_region ?_ | refine k_draw (h := ?_) | refine k_skip ?_ | refine k_ret ?_ | refine k_exit ?_ | refine k_block ?_ | refine k_true (h := ?_) | refine k_false (h := ?_))
    | (show EX _ (bodyA _ _ _) _ _ _; first | refine x_end0 (hq := ?_))
    | (show EX _ _ _ _ _; first | refine x_normal ?_ | refine x_ret ?_ | refine x_exit ?_ | refine x_same ?_ | refine x_other (h := ?_) | refine x_bnormal ?_ | refine x_bret ?_))
    refine x_again (n' - 1) [(6, _), (0, _), (1, _), (2, _)] ⟨rfl, rfl, rfl, rfl, trivial⟩ (by omega) ⟨Keep.put (F := fun b => b = e.blk) hk1 fun _ => rfl, i + 1, cs.set i (u8I (e.mark + 3 * i)), by omega, rfl, by simpa using hcs, ?_⟩
    rw [AHeap.put_get, if_pos rfl, ← set_bytes (by omega), u8I_wrap]
    congr 4
    simp
  · repeat' (first
    | (show EW _ _ _ _ _; first | refine ew_p (h := ?_) | refine ew_ld (h := ?_) | refine ew_ci (h := ?_) | refine ew_conv (hn := r_conv_br (h := by first | assumption | (apply Rd.keep0; (focus assumption); exact kp))) (h := ?_) | (refine ew_fresh ?_; intro b hb; refine ew_nw hb (h := ?_); (try simp only [AHeap.push_next, AHeap.put_next] at hb)) | refine ew_st (h := ?_) | (refine ew_df (ht := ?_) (hf := ?_) <;> intro _) | refine ew_ar (h := ?_) | refine w_nil ?_ | refine w_nilD ?_)
    | (show EC _ _ _ _ _ _ _; first | refine k_seq ?_ | refine k_region ?_ | refine k_draw (h := ?_) | refine k_skip ?_ | refine k_ret ?_ | refine k_exit ?_ | refine k_block ?_ | refine k_true (h := ?_) | refine k_false (h := ?_))
    | (show EX _ (bodyA _ _ _) _ _ _; first | refine x_end0 (hq := ?_))
    | (show EX _ _ _ _ _; first | refine x_normal ?_ | refine x_ret ?_ | refine x_exit ?_ | refine x_same ?_ | refine x_other (h := ?_) | refine x_bnormal ?_ | refine x_bret ?_))
    have hn1 := hk1.1
    refine k_loop follows (LyI H1 e.blk len [(0, .pointer (some ⟨k, 0, none⟩)), (1, .slice (some ⟨e.blk, 0, none⟩) len len), (2, .int .i64 e.mark)]) 150 [(8, _), (7, _), (0, _), (1, _), (2, _)] (by kernel_rfl) ⟨rfl, rfl, rfl, rfl, rfl, trivial⟩ ⟨Keep.refl, 0, _, by omega, rfl, .inl ⟨rfl, rfl, rfl⟩⟩ ?_
    rintro n2 E H2 ⟨hk2, j, gv, hj, rfl, hgv⟩
    have hn2 := hk2.1
    obtain ⟨zg, cg, hgs⟩ : ∃ z c, gv = .slice z (len + j) c := by
      rcases hgv with ⟨rfl, rfl, _⟩ | ⟨gs, _, ho⟩
      · exact ⟨_, _, rfl⟩
      · exact ho.rd.slice
    by_cases hlt2 : j < 150
    · subst hgs
      repeat' (first
    | (show EW _ _ _ _ _; first | refine ew_p (h := ?_) | refine ew_ld (h := ?_) | refine ew_ci (h := ?_) | refine ew_conv (hn := r_conv_br (h := by first | assumption | (apply Rd.keep0; (focus assumption); exact kp))) (h := ?_) | (refine ew_fresh ?_; intro b hb; refine ew_nw hb (h := ?_); (try simp only [AHeap.push_next, AHeap.put_next] at hb)) | refine ew_st (h := ?_) | (refine ew_df (ht := ?_) (hf := ?_) <;> intro _) | refine ew_ar (h := ?_) | refine w_nil ?_ | refine w_nilD ?_)
    | (show EC _ _ _ _ _ _ _; first | refine k_seq ?_ | refine k_region ?_ | refine k_draw (h := ?_) | refine k_skip ?_ | refine k_ret ?_ | refine k_exit ?_ | refine k_block ?_ | refine k_true (h := ?_) | refine k_false (h := ?_))
    | (show EX _ (bodyA _ _ _) _ _ _; first | refine x_end0 (hq := ?_))
    | (show EX _ _ _ _ _; first | refine x_normal ?_ | refine x_ret ?_ | refine x_exit ?_ | refine x_same ?_ | refine x_other (h := ?_) | refine x_bnormal ?_ | refine x_bret ?_))
      have hkx : Keep No H2 (H2.push (.row ⟨[.int .u8 (IntKind.u8.wrap (e.mark + 6 + 5 * j))], 5, 0, true⟩)) := by exact kp
      have hkey : ∃ sv' H3, appendA Try.prog (H2.push (.row ⟨[.int .u8 (IntKind.u8.wrap (e.mark + 6 + 5 * j))], 5, 0, true⟩)) 29 29 (.slice zg (len + j) cg) (.slice (some ⟨b, 0, none⟩) 1 1) = some (sv', H3) ∧
          Keep No H1 H3 ∧ ∃ gs : List UInt8, gs.length = len + (j + 1) ∧ Opn H3 (fun b => H1.next ≤ b) 5 1 sv' (len + (j + 1)) (bytesV gs) := by
        have hsrc : srcA (H2.push (.row ⟨[.int .u8 (IntKind.u8.wrap (e.mark + 6 + 5 * j))], 5, 0, true⟩)) 1 (.slice (some ⟨b, 0, none⟩) 1 1) = some (1, bytesV [u8I (e.mark + 6 + 5 * j)]) := by
          refine src_of (by decide) (m := 1) rfl (cellsAt_of (ad := ⟨b, 0, none⟩) (by rw [AHeap.push_get, if_pos hb]) rfl (by simp) ?_)
          rw [u8I_wrap]; rfl
        rcases hgv with ⟨rfl, hsl2, rfl⟩ | ⟨gs, hgl, ho⟩
        · simp only [Value.slice.injEq] at hsl2
          obtain ⟨rfl, _, rfl⟩ := hsl2
          obtain ⟨sv', H3, g1, g2, g3, g4⟩ := Opn.grow T29 (by unfold openCap; omega) (old_row (hkx.row0 hg (by omega)) hcs.symm) (by simp; omega) hsrc (by decide) (by simp) (by omega)
          refine ⟨sv', H3, by simpa using g1, hkx.after g3, cs ++ [u8I (e.mark + 6 + 5 * (0 : Nat))], by simp; omega, ?_⟩
          rw [bytesV_append]
          exact g2.weak fun b hb => by have := hb.1; simp only [AHeap.push_next] at this; omega
        · obtain ⟨sv', H3, g1, g2, g3, g4⟩ := Opn.snoc T29 (ho.keep0 hkx) hsrc (by decide) (by simp) (by simp) (by omega)
          refine ⟨sv', H3, g1, (hk2.after hkx).own g3 fun b hb => hb, gs ++ [u8I (e.mark + 6 + 5 * j)], by simp; omega, ?_⟩
          rw [bytesV_append]
          refine g2.weak fun b hb => hb.elim id fun hb => ?_
          have := hb.1
          simp only [AHeap.push_next] at this
          omega
      (first | (refine' ew_appS (hR := ?_) (h := ?_); rotate_left 1) | (refine' ew_app (hR := ?_) (h := ?_); rotate_left 1))
      · exact hkey
      rintro sv' H3 ⟨hk3, gs', hgl', ho'⟩
      repeat' (first
    | (show EW _ _ _ _ _; first | refine ew_p (h := ?_) | refine ew_ld (h := ?_) | refine ew_ci (h := ?_) | refine ew_conv (hn := r_conv_br (h := by first | assumption | (apply Rd.keep0; (focus assumption); exact kp))) (h := ?_) | (refine ew_fresh ?_; intro b hb; refine ew_nw hb (h := ?_); (try simp only [AHeap.push_next, AHeap.put_next] at hb)) | refine ew_st (h := ?_) | (refine ew_df (ht := ?_) (hf := ?_) <;> intro _) | refine ew_ar (h := ?_) | refine w_nil ?_ | refine w_nilD ?_)
    | (show EC _ _ _ _ _ _ _; first | refine k_seq ?_ | refine k_region ?_ | refine k_draw (h := ?_) | refine k_skip ?_ | refine k_ret ?_ | refine k_exit ?_ | refine k_block ?_ | refine k_true (h := ?_) | refine k_false (h := ?_))
    | (show EX _ (bodyA _ _ _) _ _ _; first | refine x_end0 (hq := ?_))
    | (show EX _ _ _ _ _; first | refine x_normal ?_ | refine x_ret ?_ | refine x_exit ?_ | refine x_same ?_ | refine x_other (h := ?_) | refine x_bnormal ?_ | refine x_bret ?_))
      exact x_again (n2 - 1) [(8, _), (7, _), (0, _), (1, _), (2, _)] ⟨rfl, rfl, rfl, rfl, rfl, trivial⟩ (by omega) ⟨hk3, j + 1, sv', by omega, rfl, .inr ⟨gs', hgl', ho'⟩⟩
    · obtain ⟨gs, hgl, ho⟩ : ∃ gs : List UInt8, gs.length = len + j ∧ Opn H2 (fun b => H1.next ≤ b) 5 1 gv (len + j) (bytesV gs) := by
        rcases hgv with ⟨rfl, _, _⟩ | h
        · omega
        · exact h
      subst hgs
      obtain ⟨c1, hc1⟩ : ∃ c1, c1 = recol (fun b => if b = e.blk then 7 else c b) H H2 7 := ⟨_, rfl⟩
      have hk02 : Keep (fun b => b = e.blk) H H2 := hk1.after hk2
      have c1e : c1 e.blk = 7 := by rw [hc1, recol_old hel, if_pos rfl]
      have c1o : ∀ b, b < H.next → b ≠ e.blk → c1 b = c b := fun b hb hne => by rw [hc1, recol_old hb, if_neg hne]
      have c1n : ∀ b, H.next ≤ b → b < H2.next → c1 b = 7 := fun b h1 h2 => by rw [hc1]; exact if_pos ⟨h1, h2⟩
      have c1b : ∀ b, c1 b ≠ 0 → b < H2.next := fun b hb => by
        rw [hc1] at hb
        refine recol_cb (fun b hb => ?_) hk02.1 b hb
        by_cases he : b = e.blk
        · omega
        · rw [if_neg he] at hb; exact hp.cb b hb
      have p1 : Bp H2 c1 k (six o t w n m l) cl := hp.move hk02 (fun b h1 h6 he => by have he' : b = e.blk := he; have := hwe.col; rw [← he'] at this; omega)
        (fun b h1 h6 => c1o b (hp.cb b (by omega)) (fun he => by have := hwe.col; rw [← he] at this; omega)) (by rw [c1o k hkn hke]; exact hp.ck) c1b
      have h7e : ∀ b, c b = 7 → b ≠ e.blk := fun b hb he => by have := hwe.col; rw [← he] at this; omega
      have h7 : ∀ b, c b = 7 → c1 b = 7 := fun b hb => by rw [c1o b (hp.cb b (by omega)) (h7e b hb)]; exact hb
      have d1 : Dt H2 c1 ps (es1 ++ es2) := by
        have hnd := hd.nd
        simp only [List.map_append, List.map_cons] at hnd
        refine ⟨fun p hp' => ?_, fun e' he' => ?_, ?_⟩
        · obtain ⟨bs, g1, g2, g3⟩ := hd.pr p hp'
          exact ⟨bs, br_move g1 hk02 h7e h7, br_move g2 hk02 h7e h7, g3⟩
        · have hm' : e' ∈ es1 ++ e :: es2 := by
            rcases List.mem_append.1 he' with h | h
            · exact List.mem_append.2 (.inl h)
            · exact List.mem_append.2 (.inr (List.mem_cons_of_mem _ h))
          have hw' := hd.en e' hm'
          have hne : e'.blk ≠ e.blk := by
            intro heq
            rw [List.nodup_append] at hnd
            rcases List.mem_append.1 he' with h | h
            · exact hnd.2.2 _ (List.mem_map_of_mem h) _ (List.mem_cons_self) heq
            · have := (List.nodup_cons.1 hnd.2.1).1
              exact this (heq ▸ List.mem_map_of_mem h)
          exact hw'.move hk02 h7e h7 hne (by rw [c1o _ hw'.lt hne]; exact hw'.col)
        · simp only [List.map_append]
          rw [List.nodup_append] at hnd ⊢
          exact ⟨hnd.1, (List.nodup_cons.1 hnd.2.1).2, fun a ha b hb => hnd.2.2 a ha b (List.mem_cons_of_mem _ hb)⟩
      have bl : BR H2 (fun b => c1 b = 7) (.slice (some ⟨e.blk, 0, none⟩) len len) cs := rd_row (hk2.row0 hg (by omega)) c1e (by omega) hcs.symm
      have bg : BR H2 (fun b => c1 b = 7) (.slice zg (len + j) cg) gs := by
        have := ho.rd
        unfold BR
        rw [hgl]
        exact this.weak fun b hb h => c1n b (Nat.le_trans hn1 h) hb
      have hrow2 := hk02.row hrow hkn hke
      have hkn2 := p1.kn
      clear hgv ho
      repeat' (first
    | (show EW _ _ _ _ _; first | refine ew_p (h := ?_) | refine ew_ld (h := ?_) | refine ew_ci (h := ?_) | refine ew_conv (hn := r_conv_br (h := by first | assumption | (apply Rd.keep0; (focus assumption); exact kp))) (h := ?_) | (refine ew_fresh ?_; intro b hb; refine ew_nw hb (h := ?_); (try simp only [AHeap.push_next, AHeap.put_next] at hb)) | refine ew_st (h := ?_) | (refine ew_df (ht := ?_) (hf := ?_) <;> intro _) | refine ew_ar (h := ?_) | refine w_nil ?_ | refine w_nilD ?_)
    | (show EC _ _ _ _ _ _ _; first | refine k_seq ?_ | refine k_region ?_ | refine k_draw (h := ?_) | refine k_skip ?_ | refine k_ret ?_ | refine k_exit ?_ | refine k_block ?_ | refine k_true (h := ?_) | refine k_false (h := ?_))
    | (show EX _ (bodyA _ _ _) _ _ _; first | refine x_end0 (hq := ?_))
    | (show EX _ _ _ _ _; first | refine x_normal ?_ | refine x_ret ?_ | refine x_exit ?_ | refine x_same ?_ | refine x_other (h := ?_) | refine x_bnormal ?_ | refine x_bret ?_))
      obtain ⟨H3, hH3⟩ : ∃ H3, H3 = H2.push (.row ⟨[.slice (some ⟨e.blk, 0, none⟩) len len, .slice zg (len + j) cg], 29, 0, true⟩) := ⟨_, rfl⟩
      have hk3 : Keep No H2 H3 := by rw [hH3]; exact kp
      have hn3 : H3.next = H2.next + 1 := by rw [hH3]; simp
      have hg3 : H3.get b = some (.row ⟨[.slice (some ⟨e.blk, 0, none⟩) len len, .slice zg (len + j) cg], 29, 0, true⟩) := by rw [hH3]; exact rdx
      rw [← hH3]
      have p3 : Bp H3 c1 k (six o t w n m l) cl := p1.keep hk3 fun _ h => h.elim
      have hrow3 := hk3.row0 hrow2 (by omega)
      have hcl1 : (cl 1).length = ps.length := by rw [h1]; simp
      have hcl2 : (cl 2).length = ps.length := by rw [h2]; simp
      obtain ⟨so, H4, a4, p4, k4, n4, zo, qo, rfl⟩ := p3.app (a := 1) (by decide) (by decide) T23c (x := .slice (some ⟨b, 0, none⟩) 2 2) (m := 2) (news := [.slice (some ⟨e.blk, 0, none⟩) len len, .slice zg (len + j) cg])
        (src_of (by decide) (m := 2) rfl (cellsAt_of (ad := ⟨b, 0, none⟩) hg3 rfl (by simp) rfl)) (by decide) rfl rfl (by omega)
      rw [six1] at p4
      refine ew_appX (hR := a4) (h := ?_)
      have hn4 := k4.1
      have hc1k : c1 k = 9 := p1.ck
      have hrow4 := k4.row hrow3 (by omega) (by show ¬ c1 k = 1; omega)
      repeat' (first
    | (show EW _ _ _ _ _; first | refine ew_bk (h := ?_) | refine ew_p (h := ?_) | refine ew_ld (h := ?_) | refine ew_ci (h := ?_) | refine ew_conv (hn := r_conv_br (h := by first | assumption | (apply Rd.keep0; (focus assumption); exact kp))) (h := ?_) | (refine ew_fresh ?_; intro b hb; refine ew_nw hb (h := ?_); (try simp only [AHeap.push_next, AHeap.put_next] at hb)) | refine ew_st (h := ?_) | (refine ew_df (ht := ?_) (hf := ?_) <;> intro _) | refine ew_ar (h := ?_) | refine w_nil ?_ | refine w_nilD ?_)
    | (show EC _ _ _ _ _ _ _; first | refine k_seq ?_ | refine k_region ?_ | refine k_draw (h := ?_) | refine k_skip ?_ | refine k_ret ?_ | refine k_exit ?_ | refine k_block ?_ | refine k_true (h := ?_) | refine k_false (h := ?_))
    | (show EX _ (bodyA _ _ _) _ _ _; first | refine x_end0 (hq := ?_))
    | (show EX _ _ _ _ _; first | refine x_normal ?_ | refine x_ret ?_ | refine x_exit ?_ | refine x_same ?_ | refine x_other (h := ?_) | refine x_bnormal ?_ | refine x_bret ?_))
      rename_i b2 hb2 b6 hb6
      obtain ⟨H5, hH5⟩ : ∃ H5, H5 = H4.put k (.row ⟨bkC bad (.slice zo ((cl 1).length + 2) qo) t w n m l s, 61, 0, true⟩) := ⟨_, rfl⟩
      have hk5 : Keep (fun b => b = k) H4 H5 := by rw [hH5]; exact Keep.put (F := fun b => b = k) Keep.refl fun _ => rfl
      have hrow5 : H5.get k = some (.row ⟨bkC bad (.slice zo ((cl 1).length + 2) qo) t w n m l s, 61, 0, true⟩) := by rw [hH5]; exact rdx
      have hn5 : H5.next = H4.next := by rw [hH5]; simp
      obtain ⟨c2, hc2⟩ : ∃ c2, c2 = recol c1 H3 H4 1 := ⟨_, rfl⟩
      rw [← hc2] at p4
      have c2b := p4.cb
      have p5 := p4.keep hk5 fun b hb => .inr (by have hb' : b = k := hb; rw [hb', p4.ck]; omega)
      have d5 : Dt H5 c2 ps (es1 ++ es2) := by
        have d3 : Dt H3 c1 ps (es1 ++ es2) := d1.move hk3 (fun _ _ h => h) fun _ _ => rfl
        have d4 := d3.recol k4 (fun b hb hg => by have hg' : c1 b = 1 := hg; omega) p3.cb 1
        rw [← hc2] at d4
        exact d4.move hk5 (fun b hb hg => by have hg' : b = k := hg; rw [hg', p4.ck] at hb; omega) fun _ _ => rfl
      have br5 : ∀ {v : Value} {bs : List UInt8}, BR H2 (fun b => c1 b = 7) v bs → BR H5 (fun b => c2 b = 7) v bs := fun {v bs} h => by
        have h4 := br_recol (Rd.keep0 h hk3) k4 (fun b hb hg => by have hg' : c1 b = 1 := hg; omega) p3.cb 1
        rw [← hc2] at h4
        exact br_move h4 hk5 (fun b hb hg => by have hg' : b = k := hg; rw [hg', p4.ck] at hb; omega) fun _ h => h
      rw [← hH5]
      rw [hn5.symm] at hb6 hb
      obtain ⟨H6, hH6⟩ : ∃ H6, H6 = (H5.push (.row ⟨[], 5, 0, true⟩)).push (.row ⟨[], 5, 0, true⟩) := ⟨_, rfl⟩
      have hk6 : Keep No H5 H6 := by rw [hH6]; exact kp
      have hn6 : H6.next = H5.next + 2 := by rw [hH6]; simp
      have hg6 : H6.get b6 = some (.row ⟨[], 5, 0, true⟩) := by rw [hH6]; exact rdx
      have hg7 : H6.get b = some (.row ⟨[], 5, 0, true⟩) := by rw [hH6]; exact rdx
      rw [← hH6]
      have empt : ∀ {Hx : AHeap} {y : Nat}, Hx.get y = some (.row ⟨[], 5, 0, true⟩) → y < Hx.next → Opn Hx (fun b => b = y) 5 1 (.slice (some ⟨y, 0, none⟩) 0 0) 0 (bytesV []) := fun {Hx y} hg hy =>
        .inr ⟨⟨y, 0, none⟩, 0, ⟨[], 5, 0, true⟩, rfl, rfl, hy, hg, rfl, rfl, by simp, rfl, rfl, .inl rfl⟩
      obtain ⟨lv, H7, a7, o7, k7⟩ := app_own (empt hg6 (by omega)) (Rd.keep0 (br5 bl) hk6) (by omega)
      simp only [Nat.zero_add, List.nil_append, hcs] at a7 o7
      obtain ⟨zl, ql, rfl⟩ := o7.rd.slice
      have hn7 := k7.1
      have hk57 : Keep No H5 H7 := hk6.own k7 fun y hy => by have hy' : y = b6 := hy; omega
      have hrow7 := hk57.row0 hrow5 (by omega)
      refine ew_appX (hR := a7) (hk := ?_) (h := ?_)
      · (dsimp only [Mode.kept, Mode.logged, Mode.at]; (repeat' (first | exact (fun _ h => absurd h List.not_mem_nil) | (refine List.forall_mem_cons.2 ⟨?_, ?_⟩) | (refine .inl ?_; exact rfl) | (refine .inl ?_; dsimp only; decide) | (refine .inr ?_; exact hk57.cells (by simp only [aadd_block]; omega) id))))
      have hg7' : H7.get b = some (.row ⟨[], 5, 0, true⟩) := k7.row hg7 (by omega) (by omega)
      obtain ⟨gv', H8, a8, o8, k8⟩ := app_own (empt hg7' (by omega)) (Rd.keep0 (br5 bg) hk57) (by omega)
      simp only [Nat.zero_add, List.nil_append, hgl] at a8 o8
      obtain ⟨zh, qh, rfl⟩ := o8.rd.slice
      have hn8 := k8.1
      have hk58 : Keep No H5 H8 := hk57.own k8 fun y hy => by have hy' : y = b := hy; omega
      have hrow8 := hk58.row0 hrow5 (by omega)
      refine ew_appX (hR := a8) (hk := ?_) (h := ?_)
      · (dsimp only [Mode.kept, Mode.logged, Mode.at]; (repeat' (first | exact (fun _ h => absurd h List.not_mem_nil) | (refine List.forall_mem_cons.2 ⟨?_, ?_⟩) | (refine .inl ?_; exact rfl) | (refine .inl ?_; dsimp only; decide) | (refine .inr ?_; exact hk58.cells (by simp only [aadd_block]; omega) id))))
      obtain ⟨c3, hc3⟩ : ∃ c3, c3 = recol c2 H5 H8 7 := ⟨_, rfl⟩
      have p8 := p5.recol hk58 (fun _ h => h.elim) 7
      have d8 := d5.recol hk58 (fun _ _ h => h) p5.cb 7
      rw [← hc3] at p8 d8
      have br8 : ∀ {v : Value} {bs : List UInt8}, BR H2 (fun b => c1 b = 7) v bs → BR H8 (fun b => c3 b = 7) v bs := fun {v bs} h => by
        have := br_recol (br5 h) hk58 (fun _ _ h => h) p5.cb 7
        rwa [← hc3] at this
      have c3n : ∀ y, H5.next ≤ y → y < H8.next → c3 y = 7 := fun y h1 h2 => by rw [hc3]; exact if_pos ⟨h1, h2⟩
      have bl8 : BR H8 (fun b => c3 b = 7) (.slice zl len ql) cs := by
        have h1 := (o7.keep k8 fun y _ hy _ hy' => by
          have hy2 : y = b := hy'
          rcases hy with hy | hy
          · have hy1 : y = b6 := hy
            omega
          · have := hy.1; omega).rd
        unfold BR
        rw [hcs]
        refine h1.weak fun y hy hf => c3n y ?_ hy
        rcases hf with hf | hf
        · have hy1 : y = b6 := hf
          omega
        · have := hf.1; omega
      have bg8 : BR H8 (fun b => c3 b = 7) (.slice zh (len + j) qh) gs := by
        have h1 := o8.rd
        unfold BR
        rw [hgl]
        refine h1.weak fun y hy hf => c3n y ?_ hy
        rcases hf with hf | hf
        · have hy1 : y = b := hf
          omega
        · have := hf.1; omega
      have d8' := d8.two (br8 bl) bl8 (by omega) (br8 bg) bg8 (by omega)
      repeat' (first
    | (show EW _ _ _ _ _; first | refine ew_p (h := ?_) | refine ew_ld (h := ?_) | refine ew_ci (h := ?_) | refine ew_conv (hn := r_conv_br (h := by first | assumption | (apply Rd.keep0; (focus assumption); exact kp))) (h := ?_) | (refine ew_fresh ?_; intro b hb; refine ew_nw hb (h := ?_); (try simp only [AHeap.push_next, AHeap.put_next] at hb)) | refine ew_st (h := ?_) | (refine ew_df (ht := ?_) (hf := ?_) <;> intro _) | refine ew_ar (h := ?_) | refine w_nil ?_ | refine w_nilD ?_)
    | (show EC _ _ _ _ _ _ _; first | refine k_seq ?_ | refine k_region ?_ | refine k_draw (h := ?_) | refine k_skip ?_ | refine k_ret ?_ | refine k_exit ?_ | refine k_block ?_ | refine k_true (h := ?_) | refine k_false (h := ?_))
    | (show EX _ (bodyA _ _ _) _ _ _; first | refine x_end0 (hq := ?_))
    | (show EX _ _ _ _ _; first | refine x_normal ?_ | refine x_ret ?_ | refine x_exit ?_ | refine x_same ?_ | refine x_other (h := ?_) | refine x_bnormal ?_ | refine x_bret ?_))
      rename_i b7 hb7
      obtain ⟨H9, hH9⟩ : ∃ H9, H9 = H8.push (.row ⟨[.slice zl len ql, .slice zh (len + j) qh], 29, 0, true⟩) := ⟨_, rfl⟩
      have hk9 : Keep No H8 H9 := by rw [hH9]; exact kp
      have hn9 : H9.next = H8.next + 1 := by rw [hH9]; simp
      have hg9 : H9.get b = some (.row ⟨[.slice zl len ql, .slice zh (len + j) qh], 29, 0, true⟩) := by rw [hH9]; exact rdx
      rw [← hH9]
      have p9 := p8.keep hk9 fun _ h => h.elim
      have hrow9 := hk9.row0 hrow8 (by omega)
      have e1 : upd cl 1 (cl 1 ++ [.slice (some ⟨e.blk, 0, none⟩) len len, .slice zg (len + j) cg]) 2 = cl 2 := rfl
      obtain ⟨st, H10, a10, p10, k10, n10, zt, qt, rfl⟩ := p9.app (a := 2) (by decide) (by decide) T23d (x := .slice (some ⟨b, 0, none⟩) 2 2) (m := 2) (news := [.slice zl len ql, .slice zh (len + j) qh])
        (src_of (by decide) (m := 2) rfl (cellsAt_of (ad := ⟨b, 0, none⟩) hg9 rfl (by simp) rfl)) (by decide) rfl rfl (by rw [e1]; omega)
      rw [six2] at p10
      have hn10 := k10.1
      have hc3k : c3 k = 9 := p9.ck
      have hk510 : Keep (fun b => c3 b = 2) H5 H10 := (hk58.after hk9).no.trans k10 fun _ _ h => h
      have hrow10 := k10.row hrow9 (by omega) (by show ¬ c3 k = 2; omega)
      refine ew_appX (hR := a10) (hk := ?_) (h := ?_)
      · (dsimp only [Mode.kept, Mode.logged, Mode.at]; (repeat' (first | exact (fun _ h => absurd h List.not_mem_nil) | (refine List.forall_mem_cons.2 ⟨?_, ?_⟩) | (refine .inl ?_; exact rfl) | (refine .inl ?_; dsimp only; decide) | (refine .inr ?_; exact hk510.cells (by simp only [aadd_block]; omega) (by simp only [aadd_block]; omega)))))
      repeat' (first
    | (show EW _ _ _ _ _; first | refine ew_bk (h := ?_) | refine ew_p (h := ?_) | refine ew_ld (h := ?_) | refine ew_ci (h := ?_) | refine ew_conv (hn := r_conv_br (h := by first | assumption | (apply Rd.keep0; (focus assumption); exact kp))) (h := ?_) | (refine ew_fresh ?_; intro b hb; refine ew_nw hb (h := ?_); (try simp only [AHeap.push_next, AHeap.put_next] at hb)) | refine ew_st (h := ?_) | (refine ew_df (ht := ?_) (hf := ?_) <;> intro _) | refine ew_ar (h := ?_) | refine w_nil ?_ | refine w_nilD ?_)
    | (show EC _ _ _ _ _ _ _; first | refine k_seq ?_ | refine k_region ?_ | refine k_draw (h := ?_) | refine k_skip ?_ | refine k_ret ?_ | refine k_exit ?_ | refine k_block ?_ | refine k_true (h := ?_) | refine k_false (h := ?_))
    | (show EX _ (bodyA _ _ _) _ _ _; first | refine x_end0 (hq := ?_))
    | (show EX _ _ _ _ _; first | refine x_normal ?_ | refine x_ret ?_ | refine x_exit ?_ | refine x_same ?_ | refine x_other (h := ?_) | refine x_bnormal ?_ | refine x_bret ?_))
      obtain ⟨H11, hH11⟩ : ∃ H11, H11 = H10.put k (.row ⟨bkC bad (.slice zo ((cl 1).length + 2) qo) (.slice zt ((upd cl 1 (cl 1 ++ [.slice (some ⟨e.blk, 0, none⟩) len len, .slice zg (len + j) cg]) 2).length + 2) qt) w n m l s, 61, 0, true⟩) := ⟨_, rfl⟩
      have hk11 : Keep (fun b => b = k) H10 H11 := by rw [hH11]; exact Keep.put (F := fun b => b = k) Keep.refl fun _ => rfl
      rw [← hH11]
      obtain ⟨c4, hc4⟩ : ∃ c4, c4 = recol c3 H9 H10 2 := ⟨_, rfl⟩
      rw [← hc4] at p10
      have d9 : Dt H9 c3 _ (es1 ++ es2) := d8'.move hk9 (fun _ _ h => h) fun _ _ => rfl
      have d10 := d9.recol k10 (fun b hb hg => by have hg' : c3 b = 2 := hg; omega) p9.cb 2
      rw [← hc4] at d10
      have hc4k := p10.ck
      have hn3' := k4.1
      have c4o : ∀ y, y < H.next → y ≠ e.blk → c4 y = c y := fun y hy hne => by
        rw [hc4, recol_old (by omega), hc3, recol_old (by omega), hc2, recol_old (by omega), c1o y hy hne]
      have hel2 : e.blk < H2.next := by omega
      refine ⟨rfl, c4, _, _, _, _, by rw [hH11]; exact rdx, ?_, d10.move hk11 (fun y hy hg => by have hg' : y = k := hg; rw [hg', hc4k] at hy; omega) fun _ _ => rfl, ?_, c4o, ?_⟩
      · have hfin := p10.keep hk11 fun y hy => .inr (by have hy' : y = k := hy; rw [hy', hc4k]; omega)
        simp only [List.map_append, List.map_cons, List.map_nil, ← h1, ← h2]
        exact hfin
      · have w1 : Keep (fun b => c b = 1 ∨ c b = 2 ∨ b = e.blk ∨ b = k) H H2 := hk02.weak fun y _ hy => .inr (.inr (.inl hy))
        have w2 : Keep (fun b => c b = 1 ∨ c b = 2 ∨ b = e.blk ∨ b = k) H H4 := (w1.after hk3).trans k4 fun y hy h => by
          by_cases he : y = e.blk
          · exact .inr (.inr (.inl he))
          · have h' : c1 y = 1 := h
            rw [c1o y hy he] at h'
            exact .inl h'
        have w3 := (w2.trans hk5 fun y _ h => .inr (.inr (.inr h))).after (hk58.after hk9)
        refine (w3.trans k10 fun y hy h => ?_).trans hk11 fun y _ h => .inr (.inr (.inr h))
        by_cases he : y = e.blk
        · exact .inr (.inr (.inl he))
        · have h' : c3 y = 2 := h
          rw [hc3, recol_old (by omega), hc2, recol_old (by omega), c1o y hy he] at h'
          exact .inr (.inl h')
      · rw [hc4, recol_old (by omega), hc3, recol_old (by omega), hc2, recol_old (by omega), c1e]
end

end Go.Ae

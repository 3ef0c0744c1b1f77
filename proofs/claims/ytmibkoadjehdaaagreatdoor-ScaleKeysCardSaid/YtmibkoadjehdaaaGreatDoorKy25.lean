/- The expressions' lexer: one token. No condition. -/
import Derived.Test.YtmibkoadjehdaaaGreatDoorKy24
set_option linter.unusedVariables false
set_option linter.unusedSimpArgs false
set_option linter.unusedSimpArgs false
set_option linter.unusedVariables false
set_option linter.unnecessarySimpa false
set_option maxRecDepth 100000
set_option maxHeartbeats 400000
namespace Go.Ae
open Go.Proofs
attribute [local irreducible] awC wpSeq wpS nRes aw aE acall ACalls szT isAggT zeroT byT elemSz fieldOff Program.underlying appendA copyA thenA inBlockA bodyA AHeap.push AHeap.put AHeap.cellsAt AHeap.setCells resV loadA intBin EW EC EX Nr Nc Er Cr Agree
theorem hasPre_calls {H : AHeap} (s q : List UInt8) : ACalls Tryz.prog 171 #[.string (strB s), .string (strB q)] H fun v H' => v = .bool (decide (s.take q.length = q)) ∧ H' = H := by
  have h209 : ACalls Tryz.prog 209 #[.string (strB s), .string (strB q)] H fun v H' => v = .bool (decide (s.take q.length = q)) ∧ H' = H := by
    have h1 := strB_size s
    have h2 := strB_size q
    have hlen : ∀ {P : Program} {N : Nat} {E : Env} {H : AHeap} {d : Nat} {ty t : TypeId} {p : String} {af : Array Edge} {g : Option (Nat × Bool)} {c : Call} {x : Operand} [UnT P t .string], c.callee = .builtin .len → c.args.toList = [x] → c.argTypes.toList = [t] → evE E x = some (.string (strB q)) → Nr P N E H ⟨some d, .call c, ty, p, af, g⟩ (.int .i64 (q.length : Int)) H := by
      intro P N E H d ty t p af g c x _ a1 a2 a3 a4
      have := r_len_str (P := P) (N := N) (H := H) (d := d) (ty := ty) (p := p) (af := af) (g := g) a1 a2 a3 a4
      rwa [strB_size] at this
    refine k_open (args := [.string (strB s), .string (strB q)]) (E0 := [(0, .string (strB s)), (1, .string (strB q))]) tbl209 Tryz.func209 rfl follows (by kernel_rfl) Tryz.ntmps209 rfl rfl ?_
    by_cases hl : q.length ≤ s.length
    · repeat' (first
    | (show EW _ _ _ _ _; first | refine ew_n (hn := hlen rfl rfl rfl rfl) (h := ?_) | refine ew_n (hn := r_strsl' (l := 0) (h := q.length) (r := s.take q.length) (show (s.drop 0).take (q.length - 0) = s.take q.length by simp) (.inl ⟨rfl, rfl⟩) (.inr ⟨_, rfl⟩) (by omega) (by omega)) (h := ?_) | refine ew_p (h := ?_) | refine ew_skip (h := ?_) | (refine ew_df (ht := ?_) (hf := ?_) <;> intro _) | refine w_nil ?_)
    | (show EC _ _ _ _ _ _ _; first | refine k_seq ?_ | refine k_region ?_ | refine k_skip ?_ | refine k_ret ?_ | refine k_exit ?_ | refine k_block ?_ | refine k_true (h := ?_) | refine k_false (h := ?_))
    | (show EX _ (bodyA _ _ _) _ _ _; first | refine x_end1 (hq := ?_))
    | (show EX _ _ _ _ _; first | refine x_normal ?_ | refine x_ret ?_ | refine x_exit ?_ | refine x_same ?_ | refine x_other (h := ?_) | refine x_bnormal ?_ | refine x_bret ?_))
      · exact ⟨by rw [decide_eq_true ‹_›], rfl⟩
      · exact ⟨by rw [decide_eq_false ‹_›], rfl⟩
    · have hne : ¬ s.take q.length = q := by
        intro h
        have := congrArg List.length h
        simp only [List.length_take] at this
        omega
      repeat' (first
    | (show EW _ _ _ _ _; first | refine ew_p (h := ?_) | refine ew_skip (h := ?_) | (refine ew_df (ht := ?_) (hf := ?_) <;> intro _) | refine w_nil ?_)
    | (show EC _ _ _ _ _ _ _; first | refine k_seq ?_ | refine k_region ?_ | refine k_skip ?_ | refine k_ret ?_ | refine k_exit ?_ | refine k_block ?_ | refine k_true (h := ?_) | refine k_false (h := ?_))
    | (show EX _ (bodyA _ _ _) _ _ _; first | refine x_end1 (hq := ?_))
    | (show EX _ _ _ _ _; first | refine x_normal ?_ | refine x_ret ?_ | refine x_exit ?_ | refine x_same ?_ | refine x_other (h := ?_) | refine x_bnormal ?_ | refine x_bret ?_))
      exact ⟨by rw [decide_eq_false hne], rfl⟩
  refine k_open (args := [.string (strB s), .string (strB q)]) (E0 := [(0, .string (strB s)), (1, .string (strB q))]) tbl171 Tryz.func171 rfl follows (by kernel_rfl) Tryz.ntmps171 rfl rfl ?_
  repeat' (first
    | (show EW _ _ _ _ _; first | refine ew_p (h := ?_) | (refine ew_callS (hc := cr_call) (hR := h209) (h := ?_); rintro _ H ⟨rfl, rfl⟩) | refine w_nil ?_)
    | (show EC _ _ _ _ _ _ _; first | refine k_seq ?_ | refine k_region ?_ | refine k_skip ?_ | refine k_ret ?_ | refine k_exit ?_ | refine k_block ?_ | refine k_true (h := ?_) | refine k_false (h := ?_))
    | (show EX _ (bodyA _ _ _) _ _ _; first | refine x_end1 (hq := ?_))
    | (show EX _ _ _ _ _; first | refine x_normal ?_ | refine x_ret ?_ | refine x_exit ?_ | refine x_same ?_ | refine x_other (h := ?_) | refine x_bnormal ?_ | refine x_bret ?_))
  exact ⟨rfl, rfl⟩
def signsL : List (List UInt8) := [[60, 61], [62, 61], [61, 61], [33, 61], [43], [45], [42], [47], [37], [40], [41], [91], [93], [44], [60], [62]]
theorem signs_ix {i : Nat} (hi : i < 16) : indexA Tryz.prog 330 (.agg (strV signsL).toArray) (.int .i64 (i : Int)) = some (.string (strB signsL[i])) := by
  have hl : (strV signsL).length = 16 := rfl
  have h0 : (0 : Int) ≤ (i : Int) ∧ (i : Int) < ((16 : Nat) : Int) := ⟨by omega, by omega⟩
  simp only [indexA, Tryz.underlying330, sz9, if_pos h0, apart, ag9, Int.toNat_natCast, Nat.mul_one]
  simp [strV, List.getElem?_eq_getElem (show i < signsL.length from hi)]
  rfl
def BkI (H0 : AHeap) (p : Nat) (s : List UInt8) (a m : Nat) (k ta : Int) (tx : List UInt8) (nm : Int) (hv : Bool) (op : Int) (b : Nat) (n : Nat) (E : Env) (H : AHeap) : Prop :=
  Keep (fun i => i = p) H0 H ∧ ∃ i : Nat, n = m - i ∧ i ≤ m ∧ H.get p = some (.row (rowP s (a + i) k ta tx nm hv op)) ∧ H.get b = some (.row ⟨[.int .i64 0, .int .i64 0, .string .empty, .int .i64 0], 186, 0, true⟩) ∧ b < H.next ∧ H0.next ≤ b ∧ E = [(0, .pointer (some ⟨p, 0, none⟩)), (2, .pointer (some ⟨b, 0, none⟩))]
/-- What is asked of the parser's row. -/
def PRow (H : AHeap) (p : Nat) (s : List UInt8) (a : Nat) (k ta : Int) (tx : List UInt8) (nm : Int) (hv : Bool) (op : Int) : Prop := H.get p = some (.row (rowP s a k ta tx nm hv op)) ∧ p < H.next ∧ 14 ≤ p
theorem SI (s : List UInt8) (a : Nat) (k ta : Int) (tx : List UInt8) (nm : Int) (hv : Bool) (op : Int) : (rowP s a k ta tx nm hv op).cells.all simpleV = true := rfl
theorem read_num {H : AHeap} {p : Nat} {s pre bl rest : List UInt8} {k ta : Int} {tx : List UInt8} {nm : Int} {hv : Bool} {op : Int} {ds : List UInt8} (hd0 : ds ≠ []) (hd : ∀ c ∈ ds, isDig c) (hr : Ends isDig rest) (hv2 : digV ds < 9223372036854775807) (hs : s = pre ++ (bl ++ (ds ++ rest))) (hbl : ∀ c ∈ bl, c = 32) (hls : s.length < 1000000) (hp : PRow H p s pre.length k ta tx nm hv op) :
    ACalls Tryz.prog 132 #[.pointer (some ⟨p, 0, none⟩)] H fun v H' => ∃ r', (v = .agg #[.int .i64 1, .int .i64 ((pre.length + bl.length : Nat) : Int), .string (strB []), .int .i64 (digV ds : Int)] ∧ r' = rowP s (pre.length + bl.length + ds.length) k ta tx nm hv op) ∧ H' = H.put p (.row r') := by
  obtain ⟨hp, hpn, hp14⟩ := hp
  refine ACalls.forget1 hpn hp rfl ?_
  have hsz := strB_size s
  have hs2 : s = (pre ++ bl) ++ (ds ++ rest) := by rw [hs]; simp
  have hpl : (pre ++ bl).length = pre.length + bl.length := List.length_append
  obtain ⟨c, hc0, hcc⟩ : ∃ c, s[pre.length + bl.length]? = some c ∧ 48 ≤ c.toNat ∧ c.toNat ≤ 57 := by
    rw [hs2, ← hpl]
    cases ds with
    | nil => exact absurd rfl hd0
    | cons c ds => exact ⟨c, mid_get (i := 0) (ds := c :: ds) (by simp), hd c (by simp)⟩
  have hlc := (List.getElem?_eq_some_iff.1 hc0).1
  refine k_open (args := [.pointer (some ⟨p, 0, none⟩)]) (E0 := [(0, .pointer (some ⟨p, 0, none⟩))]) tbl132 Tryz.func132 rfl follows (by kernel_rfl) Tryz.ntmps132 rfl rfl ?_
  repeat' (first
    | (show EW _ _ _ _ _; first | refine ew_p (h := ?_) | refine ew_bu (h := ?_) | refine ew_skip (h := ?_) | refine ew_ld (h := ?_) | (refine ew_fresh ?_; intro b hb; refine ew_nw hb (h := ?_); (try simp only [AHeap.push_next, AHeap.put_next] at hb)) | refine ew_st (h := ?_) | (refine ew_df (ht := ?_) (hf := ?_) <;> intro _) | refine ew_ar (h := ?_) | refine w_nil ?_ | refine w_nilD ?_)
    | (show EC _ _ _ _ _ _ _; first | refine k_seq ?_ | refine k_region ?_ | refine k_draw (h := ?_) | refine k_skip ?_ | refine k_ret ?_ | refine k_exit ?_ | refine k_block ?_ | refine k_true (h := ?_) | refine k_false (h := ?_))
    | (show EX _ (bodyA _ _ _) _ _ _; first | refine x_end1 (hq := ?_) | refine x_endc (hc := by (first | assumption | (apply cells_row; (focus ((repeat' (first | assumption | (rw [aadd_block]) | (apply gN; (focus (first | exact rfl | omega | (simp only [AHeap.push_next, AHeap.put_next, aadd_block] <;> omega))); (focus exact rfl)) | (apply gO; (focus (first | omega | (simp only [AHeap.push_next, AHeap.put_next, aadd_block, ne_eq] <;> omega)))) | (apply gS; (focus (first | exact rfl | omega | (simp only [AHeap.push_next, AHeap.put_next, aadd_block] <;> omega))); (focus exact rfl)) | (apply gP; (focus (first | omega | (simp only [AHeap.push_next, AHeap.put_next, aadd_block, ne_eq] <;> omega)))) | exact rfl)); done)); (focus exact rfl); (focus exact rfl); (focus (first | exact (rfl : _ = some [_]) | exact (rfl : _ = some [_, _, _, _]) | exact (rfl : _ = some [_, _, _, _, _, _, _, _]) | exact (rfl : _ = some [_, _, _, _, _, _, _, _, _, _, _, _, _, _, _, _])))) | (apply cells_k; (focus assumption); (focus (first | assumption | (simp only [aadd_block] <;> first | assumption | omega))); (focus ((repeat' (first | exact Keep.refl | assumption | (apply Keep.push) | (refine Keep.put ?_ ?_; rotate_left; (focus (intro hlt; first | assumption | exact rfl | exact .inl rfl | exact .inr rfl | omega | (exfalso; simp only [AHeap.push_next, AHeap.put_next, aadd_block] at hlt; omega)))))); done))))) (hv := by exact rfl) (hq := ?_))
    | (show EX _ _ _ _ _; first | refine x_normal ?_ | refine x_ret ?_ | refine x_exit ?_ | refine x_same ?_ | refine x_other (h := ?_) | refine x_bnormal ?_ | refine x_bret ?_))
  obtain ⟨q, rfl⟩ : ∃ q, q = b := ⟨b, rfl⟩
  refine k_loop follows (BkI H p s pre.length bl.length k ta tx nm hv op q) (bl.length - 0) [(0, _), (2, _)] (by kernel_rfl) ⟨rfl, rfl, trivial⟩ ⟨by exact kp, 0, rfl, by omega, by exact rdx, by exact rdx, by simp; omega, by omega, rfl⟩ ?_
  rintro n E H1 ⟨hk, i, rfl, hi, hp1, hb1, hbn, hHb, rfl⟩
  have hn1 := hk.1
  by_cases hlt : i < bl.length
  · have hc : s[pre.length + i]? = some bl[i] := by rw [hs]; exact mid_get hlt
    have h32 : bl[i].toNat = 32 := by rw [hbl _ (List.getElem_mem hlt)]; rfl
    generalize bl[i] = c at hc h32
    have hlt2 := (List.getElem?_eq_some_iff.1 hc).1
    have e1 : ((pre.length + (i + 1) : Nat) : Int) = ((pre.length + i : Nat) : Int) + 1 := by omega
    repeat' (first
    | (show EW _ _ _ _ _; first | refine ew_p (h := ?_) | refine ew_bu (h := ?_) | refine ew_skip (h := ?_) | refine ew_ld (h := ?_) | (refine ew_fresh ?_; intro b hb; refine ew_nw hb (h := ?_); (try simp only [AHeap.push_next, AHeap.put_next] at hb)) | refine ew_st (h := ?_) | (refine ew_df (ht := ?_) (hf := ?_) <;> intro _) | refine ew_ar (h := ?_) | refine ew_p2 (h := ?_) | (refine ew_df2 (ht := ?_) (hf := ?_) <;> intro _) | refine w_nil ?_ | refine w_nilD ?_)
    | (show EC _ _ _ _ _ _ _; first | refine k_seq ?_ | refine k_region ?_ | refine k_draw (h := ?_) | refine k_skip ?_ | refine k_ret ?_ | refine k_exit ?_ | refine k_block ?_ | refine k_true (h := ?_) | refine k_false (h := ?_))
    | (show EX _ (bodyA _ _ _) _ _ _; first | refine x_end1 (hq := ?_) | refine x_endc (hc := by (first | assumption | (apply cells_row; (focus ((repeat' (first | assumption | (rw [aadd_block]) | (apply gN; (focus (first | exact rfl | omega | (simp only [AHeap.push_next, AHeap.put_next, aadd_block] <;> omega))); (focus exact rfl)) | (apply gO; (focus (first | omega | (simp only [AHeap.push_next, AHeap.put_next, aadd_block, ne_eq] <;> omega)))) | (apply gS; (focus (first | exact rfl | omega | (simp only [AHeap.push_next, AHeap.put_next, aadd_block] <;> omega))); (focus exact rfl)) | (apply gP; (focus (first | omega | (simp only [AHeap.push_next, AHeap.put_next, aadd_block, ne_eq] <;> omega)))) | exact rfl)); done)); (focus exact rfl); (focus exact rfl); (focus (first | exact (rfl : _ = some [_]) | exact (rfl : _ = some [_, _, _, _]) | exact (rfl : _ = some [_, _, _, _, _, _, _, _]) | exact (rfl : _ = some [_, _, _, _, _, _, _, _, _, _, _, _, _, _, _, _])))) | (apply cells_k; (focus assumption); (focus (first | assumption | (simp only [aadd_block] <;> first | assumption | omega))); (focus ((repeat' (first | exact Keep.refl | assumption | (apply Keep.push) | (refine Keep.put ?_ ?_; rotate_left; (focus (intro hlt; first | assumption | exact rfl | exact .inl rfl | exact .inr rfl | omega | (exfalso; simp only [AHeap.push_next, AHeap.put_next, aadd_block] at hlt; omega)))))); done))))) (hv := by exact rfl) (hq := ?_))
    | (show EX _ _ _ _ _; first | refine x_normal ?_ | refine x_ret ?_ | refine x_exit ?_ | refine x_same ?_ | refine x_other (h := ?_) | refine x_bnormal ?_ | refine x_bret ?_))
    exact x_again (bl.length - (i + 1)) [(0, _), (2, _)] ⟨rfl, rfl, trivial⟩ (by omega) ⟨hk.trans (by exact kp) fun _ _ h => h, i + 1, rfl, by omega, by unfold rowP; rw [e1]; exact rdx, by exact rdx, by simpa using hbn, hHb, rfl⟩
  · obtain rfl : i = bl.length := by omega
    repeat' (first
    | (show EW _ _ _ _ _; first | refine ew_p (h := ?_) | refine ew_bu (h := ?_) | refine ew_skip (h := ?_) | refine ew_ld (h := ?_) | (refine ew_fresh ?_; intro b hb; refine ew_nw hb (h := ?_); (try simp only [AHeap.push_next, AHeap.put_next] at hb)) | refine ew_st (h := ?_) | (refine ew_df (ht := ?_) (hf := ?_) <;> intro _) | refine ew_ar (h := ?_) | refine ew_p2 (h := ?_) | (refine ew_df2 (ht := ?_) (hf := ?_) <;> intro _) | refine w_nil ?_ | refine w_nilD ?_)
    | (show EC _ _ _ _ _ _ _; first | refine k_seq ?_ | refine k_region ?_ | refine k_draw (h := ?_) | refine k_skip ?_ | refine k_ret ?_ | refine k_exit ?_ | refine k_block ?_ | refine k_true (h := ?_) | refine k_false (h := ?_))
    | (show EX _ (bodyA _ _ _) _ _ _; first | refine x_end1 (hq := ?_) | refine x_endc (hc := by (first | assumption | (apply cells_row; (focus ((repeat' (first | assumption | (rw [aadd_block]) | (apply gN; (focus (first | exact rfl | omega | (simp only [AHeap.push_next, AHeap.put_next, aadd_block] <;> omega))); (focus exact rfl)) | (apply gO; (focus (first | omega | (simp only [AHeap.push_next, AHeap.put_next, aadd_block, ne_eq] <;> omega)))) | (apply gS; (focus (first | exact rfl | omega | (simp only [AHeap.push_next, AHeap.put_next, aadd_block] <;> omega))); (focus exact rfl)) | (apply gP; (focus (first | omega | (simp only [AHeap.push_next, AHeap.put_next, aadd_block, ne_eq] <;> omega)))) | exact rfl)); done)); (focus exact rfl); (focus exact rfl); (focus (first | exact (rfl : _ = some [_]) | exact (rfl : _ = some [_, _, _, _]) | exact (rfl : _ = some [_, _, _, _, _, _, _, _]) | exact (rfl : _ = some [_, _, _, _, _, _, _, _, _, _, _, _, _, _, _, _])))) | (apply cells_k; (focus assumption); (focus (first | assumption | (simp only [aadd_block] <;> first | assumption | omega))); (focus ((repeat' (first | exact Keep.refl | assumption | (apply Keep.push) | (refine Keep.put ?_ ?_; rotate_left; (focus (intro hlt; first | assumption | exact rfl | exact .inl rfl | exact .inr rfl | omega | (exfalso; simp only [AHeap.push_next, AHeap.put_next, aadd_block] at hlt; omega)))))); done))))) (hv := by exact rfl) (hq := ?_))
    | (show EX _ _ _ _ _; first | refine x_normal ?_ | refine x_ret ?_ | refine x_exit ?_ | refine x_same ?_ | refine x_other (h := ?_) | refine x_bnormal ?_ | refine x_bret ?_))
    refine ew_callS (hc := cr_call) (hR := number_calls (pre := pre ++ bl) (ds := ds) (ta' := ((pre ++ bl).length : Int)) hs2 hd hr hv2 hls (by rw [hpl]; exact rdx) (by rw [hpl]; exact rdx) (by simp only [AHeap.put_next, AHeap.push_next]; omega) (by simp only [AHeap.put_next, AHeap.push_next]; omega) (by omega)) (h := ?_)
    rintro _ H2 ⟨rfl, k2, g2, t2⟩
    have gq := k2.get (x := some (.row ⟨[.int .i64 0, .int .i64 0, .string .empty, .int .i64 0], 186, 0, true⟩)) (i := q) (by exact rdx) (by simp only [AHeap.put_next, AHeap.push_next]; omega) (by rintro (h | h) <;> omega)
    have n2 := k2.1
    simp only [AHeap.put_next, AHeap.push_next] at n2
    repeat' (first
    | (show EW _ _ _ _ _; first | refine ew_p (h := ?_) | refine ew_bu (h := ?_) | refine ew_skip (h := ?_) | refine ew_ld (h := ?_) | (refine ew_fresh ?_; intro b hb; refine ew_nw hb (h := ?_); (try simp only [AHeap.push_next, AHeap.put_next] at hb)) | refine ew_st (h := ?_) | (refine ew_df (ht := ?_) (hf := ?_) <;> intro _) | refine ew_ar (h := ?_) | refine w_nil ?_ | refine w_nilD ?_)
    | (show EC _ _ _ _ _ _ _; first | refine k_seq ?_ | refine k_region ?_ | refine k_draw (h := ?_) | refine k_skip ?_ | refine k_ret ?_ | refine k_exit ?_ | refine k_block ?_ | refine k_true (h := ?_) | refine k_false (h := ?_))
    | (show EX _ (bodyA _ _ _) _ _ _; first | refine x_end1 (hq := ?_) | refine x_endc (hc := by (first | assumption | (apply cells_row; (focus ((repeat' (first | assumption | (rw [aadd_block]) | (apply gN; (focus (first | exact rfl | omega | (simp only [AHeap.push_next, AHeap.put_next, aadd_block] <;> omega))); (focus exact rfl)) | (apply gO; (focus (first | omega | (simp only [AHeap.push_next, AHeap.put_next, aadd_block, ne_eq] <;> omega)))) | (apply gS; (focus (first | exact rfl | omega | (simp only [AHeap.push_next, AHeap.put_next, aadd_block] <;> omega))); (focus exact rfl)) | (apply gP; (focus (first | omega | (simp only [AHeap.push_next, AHeap.put_next, aadd_block, ne_eq] <;> omega)))) | exact rfl)); done)); (focus exact rfl); (focus exact rfl); (focus (first | exact (rfl : _ = some [_]) | exact (rfl : _ = some [_, _, _, _]) | exact (rfl : _ = some [_, _, _, _, _, _, _, _]) | exact (rfl : _ = some [_, _, _, _, _, _, _, _, _, _, _, _, _, _, _, _])))) | (apply cells_k; (focus assumption); (focus (first | assumption | (simp only [aadd_block] <;> first | assumption | omega))); (focus ((repeat' (first | exact Keep.refl | assumption | (apply Keep.push) | (refine Keep.put ?_ ?_; rotate_left; (focus (intro hlt; first | assumption | exact rfl | exact .inl rfl | exact .inr rfl | omega | (exfalso; simp only [AHeap.push_next, AHeap.put_next, aadd_block] at hlt; omega)))))); done))))) (hv := by exact rfl) (hq := ?_))
    | (show EX _ _ _ _ _; first | refine x_normal ?_ | refine x_ret ?_ | refine x_exit ?_ | refine x_same ?_ | refine x_other (h := ?_) | refine x_bnormal ?_ | refine x_bret ?_))
    refine ⟨by simp [flatV, simpleV], ?_, rowP s (pre.length + bl.length + ds.length) k ta tx nm hv op, ⟨by rw [hpl], rfl⟩, ?_, rfl, rfl, SI ..⟩
    · refine Keep.put (hk.trans (Keep.trans (by exact kp) k2 fun i hi h => ?_) fun _ _ h => h) (fun h => ?_)
      · rcases h with h | h
        · exact h
        · omega
      · exfalso
        have hh : q < H.next := h
        omega
    · rw [AHeap.put_get, if_neg (by simp only; omega)]
      exact (by rw [← hpl]; exact g2)
theorem read_word {H : AHeap} {p : Nat} {s pre bl rest : List UInt8} {k ta : Int} {tx : List UInt8} {nm : Int} {hv : Bool} {op : Int} {j : Nat} (hj : j < 11) (hr : Ends isLet rest) (hw : H.get 5 = some (.row ⟨strV wordsL, 382, 0, false⟩)) (hs : s = pre ++ (bl ++ (wordsL[j] ++ rest))) (hbl : ∀ c ∈ bl, c = 32) (hls : s.length < 1000000) (hp : PRow H p s pre.length k ta tx nm hv op) :
    ACalls Tryz.prog 132 #[.pointer (some ⟨p, 0, none⟩)] H fun v H' => ∃ r', (v = .agg #[.int .i64 2, .int .i64 ((pre.length + bl.length : Nat) : Int), .string (strB wordsL[j]), .int .i64 0] ∧ r' = rowP s (pre.length + bl.length + wordsL[j].length) k ta tx nm hv op) ∧ H' = H.put p (.row r') := by
  obtain ⟨hp, hpn, hp14⟩ := hp
  refine ACalls.forget1 hpn hp rfl ?_
  have hsz := strB_size s
  have hs2 : s = (pre ++ bl) ++ (wordsL[j] ++ rest) := by rw [hs]; simp
  have hpl : (pre ++ bl).length = pre.length + bl.length := List.length_append
  obtain ⟨c, hc0, hcc⟩ : ∃ c, s[pre.length + bl.length]? = some c ∧ 97 ≤ c.toNat ∧ c.toNat ≤ 122 := by
    rw [hs2, ← hpl]
    have : ∀ j : Fin 11, wordsL[j.val] ≠ [] ∧ ∀ c ∈ wordsL[j.val], 97 ≤ c.toNat ∧ c.toNat ≤ 122 := by decide
    obtain ⟨h1, h2⟩ := this ⟨j, hj⟩
    simp only at h1 h2
    generalize wordsL[j] = ds at h1 h2
    cases ds with
    | nil => exact absurd rfl h1
    | cons c ds => exact ⟨c, mid_get (i := 0) (ds := c :: ds) (by simp), h2 c (by simp)⟩
  have hlc := (List.getElem?_eq_some_iff.1 hc0).1
  refine k_open (args := [.pointer (some ⟨p, 0, none⟩)]) (E0 := [(0, .pointer (some ⟨p, 0, none⟩))]) tbl132 Tryz.func132 rfl follows (by kernel_rfl) Tryz.ntmps132 rfl rfl ?_
  repeat' (first
    | (show EW _ _ _ _ _; first | refine ew_p (h := ?_) | refine ew_bu (h := ?_) | refine ew_skip (h := ?_) | refine ew_ld (h := ?_) | (refine ew_fresh ?_; intro b hb; refine ew_nw hb (h := ?_); (try simp only [AHeap.push_next, AHeap.put_next] at hb)) | refine ew_st (h := ?_) | (refine ew_df (ht := ?_) (hf := ?_) <;> intro _) | refine ew_ar (h := ?_) | refine w_nil ?_ | refine w_nilD ?_)
    | (show EC _ _ _ _ _ _ _; first | refine k_seq ?_ | refine k_region ?_ | refine k_draw (h := ?_) | refine k_skip ?_ | refine k_ret ?_ | refine k_exit ?_ | refine k_block ?_ | refine k_true (h := ?_) | refine k_false (h := ?_))
    | (show EX _ (bodyA _ _ _) _ _ _; first | refine x_end1 (hq := ?_) | refine x_endc (hc := by (first | assumption | (apply cells_row; (focus ((repeat' (first | assumption | (rw [aadd_block]) | (apply gN; (focus (first | exact rfl | omega | (simp only [AHeap.push_next, AHeap.put_next, aadd_block] <;> omega))); (focus exact rfl)) | (apply gO; (focus (first | omega | (simp only [AHeap.push_next, AHeap.put_next, aadd_block, ne_eq] <;> omega)))) | (apply gS; (focus (first | exact rfl | omega | (simp only [AHeap.push_next, AHeap.put_next, aadd_block] <;> omega))); (focus exact rfl)) | (apply gP; (focus (first | omega | (simp only [AHeap.push_next, AHeap.put_next, aadd_block, ne_eq] <;> omega)))) | exact rfl)); done)); (focus exact rfl); (focus exact rfl); (focus (first | exact (rfl : _ = some [_]) | exact (rfl : _ = some [_, _, _, _]) | exact (rfl : _ = some [_, _, _, _, _, _, _, _]) | exact (rfl : _ = some [_, _, _, _, _, _, _, _, _, _, _, _, _, _, _, _])))) | (apply cells_k; (focus assumption); (focus (first | assumption | (simp only [aadd_block] <;> first | assumption | omega))); (focus ((repeat' (first | exact Keep.refl | assumption | (apply Keep.push) | (refine Keep.put ?_ ?_; rotate_left; (focus (intro hlt; first | assumption | exact rfl | exact .inl rfl | exact .inr rfl | omega | (exfalso; simp only [AHeap.push_next, AHeap.put_next, aadd_block] at hlt; omega)))))); done))))) (hv := by exact rfl) (hq := ?_))
    | (show EX _ _ _ _ _; first | refine x_normal ?_ | refine x_ret ?_ | refine x_exit ?_ | refine x_same ?_ | refine x_other (h := ?_) | refine x_bnormal ?_ | refine x_bret ?_))
  obtain ⟨q, rfl⟩ : ∃ q, q = b := ⟨b, rfl⟩
  refine k_loop follows (BkI H p s pre.length bl.length k ta tx nm hv op q) (bl.length - 0) [(0, _), (2, _)] (by kernel_rfl) ⟨rfl, rfl, trivial⟩ ⟨by exact kp, 0, rfl, by omega, by exact rdx, by exact rdx, by simp; omega, by omega, rfl⟩ ?_
  rintro n E H1 ⟨hk, i, rfl, hi, hp1, hb1, hbn, hHb, rfl⟩
  have hn1 := hk.1
  by_cases hlt : i < bl.length
  · have hc : s[pre.length + i]? = some bl[i] := by rw [hs]; exact mid_get hlt
    have h32 : bl[i].toNat = 32 := by rw [hbl _ (List.getElem_mem hlt)]; rfl
    generalize bl[i] = c at hc h32
    have hlt2 := (List.getElem?_eq_some_iff.1 hc).1
    have e1 : ((pre.length + (i + 1) : Nat) : Int) = ((pre.length + i : Nat) : Int) + 1 := by omega
    repeat' (first
    | (show EW _ _ _ _ _; first | refine ew_p (h := ?_) | refine ew_bu (h := ?_) | refine ew_skip (h := ?_) | refine ew_ld (h := ?_) | (refine ew_fresh ?_; intro b hb; refine ew_nw hb (h := ?_); (try simp only [AHeap.push_next, AHeap.put_next] at hb)) | refine ew_st (h := ?_) | (refine ew_df (ht := ?_) (hf := ?_) <;> intro _) | refine ew_ar (h := ?_) | refine ew_p2 (h := ?_) | (refine ew_df2 (ht := ?_) (hf := ?_) <;> intro _) | refine w_nil ?_ | refine w_nilD ?_)
    | (show EC _ _ _ _ _ _ _; first | refine k_seq ?_ | refine k_region ?_ | refine k_draw (h := ?_) | refine k_skip ?_ | refine k_ret ?_ | refine k_exit ?_ | refine k_block ?_ | refine k_true (h := ?_) | refine k_false (h := ?_))
    | (show EX _ (bodyA _ _ _) _ _ _; first | refine x_end1 (hq := ?_) | refine x_endc (hc := by (first | assumption | (apply cells_row; (focus ((repeat' (first | assumption | (rw [aadd_block]) | (apply gN; (focus (first | exact rfl | omega | (simp only [AHeap.push_next, AHeap.put_next, aadd_block] <;> omega))); (focus exact rfl)) | (apply gO; (focus (first | omega | (simp only [AHeap.push_next, AHeap.put_next, aadd_block, ne_eq] <;> omega)))) | (apply gS; (focus (first | exact rfl | omega | (simp only [AHeap.push_next, AHeap.put_next, aadd_block] <;> omega))); (focus exact rfl)) | (apply gP; (focus (first | omega | (simp only [AHeap.push_next, AHeap.put_next, aadd_block, ne_eq] <;> omega)))) | exact rfl)); done)); (focus exact rfl); (focus exact rfl); (focus (first | exact (rfl : _ = some [_]) | exact (rfl : _ = some [_, _, _, _]) | exact (rfl : _ = some [_, _, _, _, _, _, _, _]) | exact (rfl : _ = some [_, _, _, _, _, _, _, _, _, _, _, _, _, _, _, _])))) | (apply cells_k; (focus assumption); (focus (first | assumption | (simp only [aadd_block] <;> first | assumption | omega))); (focus ((repeat' (first | exact Keep.refl | assumption | (apply Keep.push) | (refine Keep.put ?_ ?_; rotate_left; (focus (intro hlt; first | assumption | exact rfl | exact .inl rfl | exact .inr rfl | omega | (exfalso; simp only [AHeap.push_next, AHeap.put_next, aadd_block] at hlt; omega)))))); done))))) (hv := by exact rfl) (hq := ?_))
    | (show EX _ _ _ _ _; first | refine x_normal ?_ | refine x_ret ?_ | refine x_exit ?_ | refine x_same ?_ | refine x_other (h := ?_) | refine x_bnormal ?_ | refine x_bret ?_))
    exact x_again (bl.length - (i + 1)) [(0, _), (2, _)] ⟨rfl, rfl, trivial⟩ (by omega) ⟨hk.trans (by exact kp) fun _ _ h => h, i + 1, rfl, by omega, by unfold rowP; rw [e1]; exact rdx, by exact rdx, by simpa using hbn, hHb, rfl⟩
  · obtain rfl : i = bl.length := by omega
    have hw1 : H1.get 5 = some (.row ⟨strV wordsL, 382, 0, false⟩) := hk.get hw (by omega) (by omega)
    repeat' (first
    | (show EW _ _ _ _ _; first | refine ew_p (h := ?_) | refine ew_bu (h := ?_) | refine ew_skip (h := ?_) | refine ew_ld (h := ?_) | (refine ew_fresh ?_; intro b hb; refine ew_nw hb (h := ?_); (try simp only [AHeap.push_next, AHeap.put_next] at hb)) | refine ew_st (h := ?_) | (refine ew_df (ht := ?_) (hf := ?_) <;> intro _) | refine ew_ar (h := ?_) | refine ew_p2 (h := ?_) | (refine ew_df2 (ht := ?_) (hf := ?_) <;> intro _) | refine w_nil ?_ | refine w_nilD ?_)
    | (show EC _ _ _ _ _ _ _; first | refine k_seq ?_ | refine k_region ?_ | refine k_draw (h := ?_) | refine k_skip ?_ | refine k_ret ?_ | refine k_exit ?_ | refine k_block ?_ | refine k_true (h := ?_) | refine k_false (h := ?_))
    | (show EX _ (bodyA _ _ _) _ _ _; first | refine x_end1 (hq := ?_) | refine x_endc (hc := by (first | assumption | (apply cells_row; (focus ((repeat' (first | assumption | (rw [aadd_block]) | (apply gN; (focus (first | exact rfl | omega | (simp only [AHeap.push_next, AHeap.put_next, aadd_block] <;> omega))); (focus exact rfl)) | (apply gO; (focus (first | omega | (simp only [AHeap.push_next, AHeap.put_next, aadd_block, ne_eq] <;> omega)))) | (apply gS; (focus (first | exact rfl | omega | (simp only [AHeap.push_next, AHeap.put_next, aadd_block] <;> omega))); (focus exact rfl)) | (apply gP; (focus (first | omega | (simp only [AHeap.push_next, AHeap.put_next, aadd_block, ne_eq] <;> omega)))) | exact rfl)); done)); (focus exact rfl); (focus exact rfl); (focus (first | exact (rfl : _ = some [_]) | exact (rfl : _ = some [_, _, _, _]) | exact (rfl : _ = some [_, _, _, _, _, _, _, _]) | exact (rfl : _ = some [_, _, _, _, _, _, _, _, _, _, _, _, _, _, _, _])))) | (apply cells_k; (focus assumption); (focus (first | assumption | (simp only [aadd_block] <;> first | assumption | omega))); (focus ((repeat' (first | exact Keep.refl | assumption | (apply Keep.push) | (refine Keep.put ?_ ?_; rotate_left; (focus (intro hlt; first | assumption | exact rfl | exact .inl rfl | exact .inr rfl | omega | (exfalso; simp only [AHeap.push_next, AHeap.put_next, aadd_block] at hlt; omega)))))); done))))) (hv := by exact rfl) (hq := ?_))
    | (show EX _ _ _ _ _; first | refine x_normal ?_ | refine x_ret ?_ | refine x_exit ?_ | refine x_same ?_ | refine x_other (h := ?_) | refine x_bnormal ?_ | refine x_bret ?_))
    refine ew_callS (hc := cr_call) (hR := wordL_calls (pre := pre ++ bl) hj hs2 hr hls (by exact rdx) ⟨by simp only [AHeap.put_next, AHeap.push_next]; omega, by omega, by omega⟩ (by rw [hpl]; exact rdx) (by rw [hpl]; exact rdx) (by simp only [AHeap.put_next, AHeap.push_next]; omega) (by simp only [AHeap.put_next, AHeap.push_next]; omega) (by omega)) (h := ?_)
    rintro _ H2 ⟨rfl, k2, g2, t2⟩
    have gq := k2.get (x := some (.row ⟨[.int .i64 0, .int .i64 0, .string .empty, .int .i64 0], 186, 0, true⟩)) (i := q) (by exact rdx) (by simp only [AHeap.put_next, AHeap.push_next]; omega) (by rintro (h | h) <;> omega)
    have n2 := k2.1
    simp only [AHeap.put_next, AHeap.push_next] at n2
    repeat' (first
    | (show EW _ _ _ _ _; first | refine ew_p (h := ?_) | refine ew_bu (h := ?_) | refine ew_skip (h := ?_) | refine ew_ld (h := ?_) | (refine ew_fresh ?_; intro b hb; refine ew_nw hb (h := ?_); (try simp only [AHeap.push_next, AHeap.put_next] at hb)) | refine ew_st (h := ?_) | (refine ew_df (ht := ?_) (hf := ?_) <;> intro _) | refine ew_ar (h := ?_) | refine w_nil ?_ | refine w_nilD ?_)
    | (show EC _ _ _ _ _ _ _; first | refine k_seq ?_ | refine k_region ?_ | refine k_draw (h := ?_) | refine k_skip ?_ | refine k_ret ?_ | refine k_exit ?_ | refine k_block ?_ | refine k_true (h := ?_) | refine k_false (h := ?_))
    | (show EX _ (bodyA _ _ _) _ _ _; first | refine x_end1 (hq := ?_) | refine x_endc (hc := by (first | assumption | (apply cells_row; (focus ((repeat' (first | assumption | (rw [aadd_block]) | (apply gN; (focus (first | exact rfl | omega | (simp only [AHeap.push_next, AHeap.put_next, aadd_block] <;> omega))); (focus exact rfl)) | (apply gO; (focus (first | omega | (simp only [AHeap.push_next, AHeap.put_next, aadd_block, ne_eq] <;> omega)))) | (apply gS; (focus (first | exact rfl | omega | (simp only [AHeap.push_next, AHeap.put_next, aadd_block] <;> omega))); (focus exact rfl)) | (apply gP; (focus (first | omega | (simp only [AHeap.push_next, AHeap.put_next, aadd_block, ne_eq] <;> omega)))) | exact rfl)); done)); (focus exact rfl); (focus exact rfl); (focus (first | exact (rfl : _ = some [_]) | exact (rfl : _ = some [_, _, _, _]) | exact (rfl : _ = some [_, _, _, _, _, _, _, _]) | exact (rfl : _ = some [_, _, _, _, _, _, _, _, _, _, _, _, _, _, _, _])))) | (apply cells_k; (focus assumption); (focus (first | assumption | (simp only [aadd_block] <;> first | assumption | omega))); (focus ((repeat' (first | exact Keep.refl | assumption | (apply Keep.push) | (refine Keep.put ?_ ?_; rotate_left; (focus (intro hlt; first | assumption | exact rfl | exact .inl rfl | exact .inr rfl | omega | (exfalso; simp only [AHeap.push_next, AHeap.put_next, aadd_block] at hlt; omega)))))); done))))) (hv := by exact rfl) (hq := ?_))
    | (show EX _ _ _ _ _; first | refine x_normal ?_ | refine x_ret ?_ | refine x_exit ?_ | refine x_same ?_ | refine x_other (h := ?_) | refine x_bnormal ?_ | refine x_bret ?_))
    refine ⟨by simp [flatV, simpleV], ?_, rowP s (pre.length + bl.length + wordsL[j].length) k ta tx nm hv op, ⟨by rw [hpl], rfl⟩, ?_, rfl, rfl, SI ..⟩
    · refine Keep.put (hk.trans (Keep.trans (by exact kp) k2 fun i hi h => ?_) fun _ _ h => h) (fun h => ?_)
      · rcases h with h | h
        · exact h
        · omega
      · exfalso
        have hh : q < H.next := h
        omega
    · rw [AHeap.put_get, if_neg (by simp only; omega)]
      exact (by rw [← hpl]; exact g2)
theorem read_text {H : AHeap} {p : Nat} {s pre bl rest : List UInt8} {k ta : Int} {tx : List UInt8} {nm : Int} {hv : Bool} {op : Int} {w : List UInt8} (hw : w.length ≤ 24) (hs : s = pre ++ (bl ++ (quoteB w ++ rest))) (hbl : ∀ c ∈ bl, c = 32) (hls : s.length < 1000000) (hp : PRow H p s pre.length k ta tx nm hv op) :
    ACalls Tryz.prog 132 #[.pointer (some ⟨p, 0, none⟩)] H fun v H' => ∃ r', (v = .agg #[.int .i64 3, .int .i64 ((pre.length + bl.length : Nat) : Int), .string (strB w), .int .i64 0] ∧ r' = rowP s (pre.length + bl.length + (quoteB w).length) k ta tx nm hv op) ∧ H' = H.put p (.row r') := by
  obtain ⟨hp, hpn, hp14⟩ := hp
  refine ACalls.forget1 hpn hp rfl ?_
  have hsz := strB_size s
  have hs2 : s = (pre ++ bl) ++ (quoteB w ++ rest) := by rw [hs]; simp
  have hpl : (pre ++ bl).length = pre.length + bl.length := List.length_append
  obtain ⟨c, hc0, hcc⟩ : ∃ c, s[pre.length + bl.length]? = some c ∧ c.toNat = 34 := by
    rw [hs2, ← hpl]
    exact ⟨34, mid_get (i := 0) (ds := quoteB w) (by simp [quoteB]), rfl⟩
  have hlc := (List.getElem?_eq_some_iff.1 hc0).1
  refine k_open (args := [.pointer (some ⟨p, 0, none⟩)]) (E0 := [(0, .pointer (some ⟨p, 0, none⟩))]) tbl132 Tryz.func132 rfl follows (by kernel_rfl) Tryz.ntmps132 rfl rfl ?_
  repeat' (first
    | (show EW _ _ _ _ _; first | refine ew_p (h := ?_) | refine ew_bu (h := ?_) | refine ew_skip (h := ?_) | refine ew_ld (h := ?_) | (refine ew_fresh ?_; intro b hb; refine ew_nw hb (h := ?_); (try simp only [AHeap.push_next, AHeap.put_next] at hb)) | refine ew_st (h := ?_) | (refine ew_df (ht := ?_) (hf := ?_) <;> intro _) | refine ew_ar (h := ?_) | refine w_nil ?_ | refine w_nilD ?_)
    | (show EC _ _ _ _ _ _ _; first | refine k_seq ?_ | refine k_region ?_ | refine k_draw (h := ?_) | refine k_skip ?_ | refine k_ret ?_ | refine k_exit ?_ | refine k_block ?_ | refine k_true (h := ?_) | refine k_false (h := ?_))
    | (show EX _ (bodyA _ _ _) _ _ _; first | refine x_end1 (hq := ?_) | refine x_endc (hc := by (first | assumption | (apply cells_row; (focus ((repeat' (first | assumption | (rw [aadd_block]) | (apply gN; (focus (first | exact rfl | omega | (simp only [AHeap.push_next, AHeap.put_next, aadd_block] <;> omega))); (focus exact rfl)) | (apply gO; (focus (first | omega | (simp only [AHeap.push_next, AHeap.put_next, aadd_block, ne_eq] <;> omega)))) | (apply gS; (focus (first | exact rfl | omega | (simp only [AHeap.push_next, AHeap.put_next, aadd_block] <;> omega))); (focus exact rfl)) | (apply gP; (focus (first | omega | (simp only [AHeap.push_next, AHeap.put_next, aadd_block, ne_eq] <;> omega)))) | exact rfl)); done)); (focus exact rfl); (focus exact rfl); (focus (first | exact (rfl : _ = some [_]) | exact (rfl : _ = some [_, _, _, _]) | exact (rfl : _ = some [_, _, _, _, _, _, _, _]) | exact (rfl : _ = some [_, _, _, _, _, _, _, _, _, _, _, _, _, _, _, _])))) | (apply cells_k; (focus assumption); (focus (first | assumption | (simp only [aadd_block] <;> first | assumption | omega))); (focus ((repeat' (first | exact Keep.refl | assumption | (apply Keep.push) | (refine Keep.put ?_ ?_; rotate_left; (focus (intro hlt; first | assumption | exact rfl | exact .inl rfl | exact .inr rfl | omega | (exfalso; simp only [AHeap.push_next, AHeap.put_next, aadd_block] at hlt; omega)))))); done))))) (hv := by exact rfl) (hq := ?_))
    | (show EX _ _ _ _ _; first | refine x_normal ?_ | refine x_ret ?_ | refine x_exit ?_ | refine x_same ?_ | refine x_other (h := ?_) | refine x_bnormal ?_ | refine x_bret ?_))
  obtain ⟨q, rfl⟩ : ∃ q, q = b := ⟨b, rfl⟩
  refine k_loop follows (BkI H p s pre.length bl.length k ta tx nm hv op q) (bl.length - 0) [(0, _), (2, _)] (by kernel_rfl) ⟨rfl, rfl, trivial⟩ ⟨by exact kp, 0, rfl, by omega, by exact rdx, by exact rdx, by simp; omega, by omega, rfl⟩ ?_
  rintro n E H1 ⟨hk, i, rfl, hi, hp1, hb1, hbn, hHb, rfl⟩
  have hn1 := hk.1
  by_cases hlt : i < bl.length
  · have hc : s[pre.length + i]? = some bl[i] := by rw [hs]; exact mid_get hlt
    have h32 : bl[i].toNat = 32 := by rw [hbl _ (List.getElem_mem hlt)]; rfl
    generalize bl[i] = c at hc h32
    have hlt2 := (List.getElem?_eq_some_iff.1 hc).1
    have e1 : ((pre.length + (i + 1) : Nat) : Int) = ((pre.length + i : Nat) : Int) + 1 := by omega
    repeat' (first
    | (show EW _ _ _ _ _; first | refine ew_p (h := ?_) | refine ew_bu (h := ?_) | refine ew_skip (h := ?_) | refine ew_ld (h := ?_) | (refine ew_fresh ?_; intro b hb; refine ew_nw hb (h := ?_); (try simp only [AHeap.push_next, AHeap.put_next] at hb)) | refine ew_st (h := ?_) | (refine ew_df (ht := ?_) (hf := ?_) <;> intro _) | refine ew_ar (h := ?_) | refine ew_p2 (h := ?_) | (refine ew_df2 (ht := ?_) (hf := ?_) <;> intro _) | refine w_nil ?_ | refine w_nilD ?_)
    | (show EC _ _ _ _ _ _ _; first | refine k_seq ?_ | refine k_region ?_ | refine k_draw (h := ?_) | refine k_skip ?_ | refine k_ret ?_ | refine k_exit ?_ | refine k_block ?_ | refine k_true (h := ?_) | refine k_false (h := ?_))
    | (show EX _ (bodyA _ _ _) _ _ _; first | refine x_end1 (hq := ?_) | refine x_endc (hc := by (first | assumption | (apply cells_row; (focus ((repeat' (first | assumption | (rw [aadd_block]) | (apply gN; (focus (first | exact rfl | omega | (simp only [AHeap.push_next, AHeap.put_next, aadd_block] <;> omega))); (focus exact rfl)) | (apply gO; (focus (first | omega | (simp only [AHeap.push_next, AHeap.put_next, aadd_block, ne_eq] <;> omega)))) | (apply gS; (focus (first | exact rfl | omega | (simp only [AHeap.push_next, AHeap.put_next, aadd_block] <;> omega))); (focus exact rfl)) | (apply gP; (focus (first | omega | (simp only [AHeap.push_next, AHeap.put_next, aadd_block, ne_eq] <;> omega)))) | exact rfl)); done)); (focus exact rfl); (focus exact rfl); (focus (first | exact (rfl : _ = some [_]) | exact (rfl : _ = some [_, _, _, _]) | exact (rfl : _ = some [_, _, _, _, _, _, _, _]) | exact (rfl : _ = some [_, _, _, _, _, _, _, _, _, _, _, _, _, _, _, _])))) | (apply cells_k; (focus assumption); (focus (first | assumption | (simp only [aadd_block] <;> first | assumption | omega))); (focus ((repeat' (first | exact Keep.refl | assumption | (apply Keep.push) | (refine Keep.put ?_ ?_; rotate_left; (focus (intro hlt; first | assumption | exact rfl | exact .inl rfl | exact .inr rfl | omega | (exfalso; simp only [AHeap.push_next, AHeap.put_next, aadd_block] at hlt; omega)))))); done))))) (hv := by exact rfl) (hq := ?_))
    | (show EX _ _ _ _ _; first | refine x_normal ?_ | refine x_ret ?_ | refine x_exit ?_ | refine x_same ?_ | refine x_other (h := ?_) | refine x_bnormal ?_ | refine x_bret ?_))
    exact x_again (bl.length - (i + 1)) [(0, _), (2, _)] ⟨rfl, rfl, trivial⟩ (by omega) ⟨hk.trans (by exact kp) fun _ _ h => h, i + 1, rfl, by omega, by unfold rowP; rw [e1]; exact rdx, by exact rdx, by simpa using hbn, hHb, rfl⟩
  · obtain rfl : i = bl.length := by omega
    repeat' (first
    | (show EW _ _ _ _ _; first | refine ew_p (h := ?_) | refine ew_bu (h := ?_) | refine ew_skip (h := ?_) | refine ew_ld (h := ?_) | (refine ew_fresh ?_; intro b hb; refine ew_nw hb (h := ?_); (try simp only [AHeap.push_next, AHeap.put_next] at hb)) | refine ew_st (h := ?_) | (refine ew_df (ht := ?_) (hf := ?_) <;> intro _) | refine ew_ar (h := ?_) | refine ew_p2 (h := ?_) | (refine ew_df2 (ht := ?_) (hf := ?_) <;> intro _) | refine w_nil ?_ | refine w_nilD ?_)
    | (show EC _ _ _ _ _ _ _; first | refine k_seq ?_ | refine k_region ?_ | refine k_draw (h := ?_) | refine k_skip ?_ | refine k_ret ?_ | refine k_exit ?_ | refine k_block ?_ | refine k_true (h := ?_) | refine k_false (h := ?_))
    | (show EX _ (bodyA _ _ _) _ _ _; first | refine x_end1 (hq := ?_) | refine x_endc (hc := by (first | assumption | (apply cells_row; (focus ((repeat' (first | assumption | (rw [aadd_block]) | (apply gN; (focus (first | exact rfl | omega | (simp only [AHeap.push_next, AHeap.put_next, aadd_block] <;> omega))); (focus exact rfl)) | (apply gO; (focus (first | omega | (simp only [AHeap.push_next, AHeap.put_next, aadd_block, ne_eq] <;> omega)))) | (apply gS; (focus (first | exact rfl | omega | (simp only [AHeap.push_next, AHeap.put_next, aadd_block] <;> omega))); (focus exact rfl)) | (apply gP; (focus (first | omega | (simp only [AHeap.push_next, AHeap.put_next, aadd_block, ne_eq] <;> omega)))) | exact rfl)); done)); (focus exact rfl); (focus exact rfl); (focus (first | exact (rfl : _ = some [_]) | exact (rfl : _ = some [_, _, _, _]) | exact (rfl : _ = some [_, _, _, _, _, _, _, _]) | exact (rfl : _ = some [_, _, _, _, _, _, _, _, _, _, _, _, _, _, _, _])))) | (apply cells_k; (focus assumption); (focus (first | assumption | (simp only [aadd_block] <;> first | assumption | omega))); (focus ((repeat' (first | exact Keep.refl | assumption | (apply Keep.push) | (refine Keep.put ?_ ?_; rotate_left; (focus (intro hlt; first | assumption | exact rfl | exact .inl rfl | exact .inr rfl | omega | (exfalso; simp only [AHeap.push_next, AHeap.put_next, aadd_block] at hlt; omega)))))); done))))) (hv := by exact rfl) (hq := ?_))
    | (show EX _ _ _ _ _; first | refine x_normal ?_ | refine x_ret ?_ | refine x_exit ?_ | refine x_same ?_ | refine x_other (h := ?_) | refine x_bnormal ?_ | refine x_bret ?_))
    refine ew_callS (hc := cr_call) (hR := quotedL_calls (pre := pre ++ bl) hs2 hw hls (by rw [hpl]; exact rdx) (by rw [hpl]; exact rdx) (by simp only [AHeap.put_next, AHeap.push_next]; omega) (by simp only [AHeap.put_next, AHeap.push_next]; omega) (by omega)) (h := ?_)
    rintro _ H2 ⟨rfl, k2, g2, t2⟩
    have gq := k2.get (x := some (.row ⟨[.int .i64 0, .int .i64 0, .string .empty, .int .i64 0], 186, 0, true⟩)) (i := q) (by exact rdx) (by simp only [AHeap.put_next, AHeap.push_next]; omega) (by rintro (h | h) <;> omega)
    have n2 := k2.1
    simp only [AHeap.put_next, AHeap.push_next] at n2
    repeat' (first
    | (show EW _ _ _ _ _; first | refine ew_p (h := ?_) | refine ew_bu (h := ?_) | refine ew_skip (h := ?_) | refine ew_ld (h := ?_) | (refine ew_fresh ?_; intro b hb; refine ew_nw hb (h := ?_); (try simp only [AHeap.push_next, AHeap.put_next] at hb)) | refine ew_st (h := ?_) | (refine ew_df (ht := ?_) (hf := ?_) <;> intro _) | refine ew_ar (h := ?_) | refine w_nil ?_ | refine w_nilD ?_)
    | (show EC _ _ _ _ _ _ _; first | refine k_seq ?_ | refine k_region ?_ | refine k_draw (h := ?_) | refine k_skip ?_ | refine k_ret ?_ | refine k_exit ?_ | refine k_block ?_ | refine k_true (h := ?_) | refine k_false (h := ?_))
    | (show EX _ (bodyA _ _ _) _ _ _; first | refine x_end1 (hq := ?_) | refine x_endc (hc := by (first | assumption | (apply cells_row; (focus ((repeat' (first | assumption | (rw [aadd_block]) | (apply gN; (focus (first | exact rfl | omega | (simp only [AHeap.push_next, AHeap.put_next, aadd_block] <;> omega))); (focus exact rfl)) | (apply gO; (focus (first | omega | (simp only [AHeap.push_next, AHeap.put_next, aadd_block, ne_eq] <;> omega)))) | (apply gS; (focus (first | exact rfl | omega | (simp only [AHeap.push_next, AHeap.put_next, aadd_block] <;> omega))); (focus exact rfl)) | (apply gP; (focus (first | omega | (simp only [AHeap.push_next, AHeap.put_next, aadd_block, ne_eq] <;> omega)))) | exact rfl)); done)); (focus exact rfl); (focus exact rfl); (focus (first | exact (rfl : _ = some [_]) | exact (rfl : _ = some [_, _, _, _]) | exact (rfl : _ = some [_, _, _, _, _, _, _, _]) | exact (rfl : _ = some [_, _, _, _, _, _, _, _, _, _, _, _, _, _, _, _])))) | (apply cells_k; (focus assumption); (focus (first | assumption | (simp only [aadd_block] <;> first | assumption | omega))); (focus ((repeat' (first | exact Keep.refl | assumption | (apply Keep.push) | (refine Keep.put ?_ ?_; rotate_left; (focus (intro hlt; first | assumption | exact rfl | exact .inl rfl | exact .inr rfl | omega | (exfalso; simp only [AHeap.push_next, AHeap.put_next, aadd_block] at hlt; omega)))))); done))))) (hv := by exact rfl) (hq := ?_))
    | (show EX _ _ _ _ _; first | refine x_normal ?_ | refine x_ret ?_ | refine x_exit ?_ | refine x_same ?_ | refine x_other (h := ?_) | refine x_bnormal ?_ | refine x_bret ?_))
    refine ⟨by simp [flatV, simpleV], ?_, rowP s (pre.length + bl.length + (quoteB w).length) k ta tx nm hv op, ⟨by rw [hpl], rfl⟩, ?_, rfl, rfl, SI ..⟩
    · refine Keep.put (hk.trans (Keep.trans (by exact kp) k2 fun i hi h => ?_) fun _ _ h => h) (fun h => ?_)
      · rcases h with h | h
        · exact h
        · omega
      · exfalso
        have hh : q < H.next := h
        omega
    · rw [AHeap.put_get, if_neg (by simp only; omega)]
      exact (by rw [← hpl]; exact g2)
end Go.Ae

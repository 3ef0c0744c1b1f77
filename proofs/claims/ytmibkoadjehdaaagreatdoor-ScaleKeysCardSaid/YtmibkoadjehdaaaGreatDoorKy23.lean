/- A text's form read back: value.Parse on what quoted writes. No condition. -/
import Derived.Test.YtmibkoadjehdaaaGreatDoorKy21
import Derived.Test.YtmibkoadjehdaaaGreatDoorKy22
set_option linter.unusedVariables false
set_option linter.unusedSimpArgs false
set_option linter.unusedSimpArgs false
set_option linter.unusedVariables false
set_option linter.unnecessarySimpa false
set_option maxRecDepth 100000
set_option maxHeartbeats 400000
namespace Go.Ae
open Go.Proofs
attribute [local irreducible] awC wpSeq wpS nRes aw aE acall ACalls szT isAggT zeroT byT elemSz fieldOff Program.underlying appendA copyA thenA inBlockA bodyA AHeap.push AHeap.put AHeap.cellsAt AHeap.setCells resV loadA intBin EW EC EX Nr Nc Er Cr Agree
def tbl244 : Tbl := [(1, [0, 1, 2, 3, 4, 5, 6, 7, 8, 9], [0, 1, 3, 7, 0, 16, 48, 112, 240, 511]), (2, [0, 1, 2, 3, 4, 5, 6, 7, 8, 9], [0, 1, 3, 7, 0, 16, 48, 112, 255, 511])]
def tbl272 : Tbl := []
def tbl264 : Tbl := []
def tbl246 : Tbl := [(13, [0, 1, 2, 3, 4, 5, 6, 7, 8, 9, 10, 11, 12, 13, 14], [0, 1, 3, 7, 0, 16, 48, 112, 255, 511, 1023, 2047, 2047, 4095, 16383]), (16, [0, 1, 2, 3, 4, 5, 6, 7, 8, 9, 10, 11, 12, 13, 14, 15, 16, 17], [0, 0, 2, 6, 14, 0, 32, 96, 224, 0, 512, 1536, 3584, 0, 15872, 32766, 65535, 131071])]
def tbl223 : Tbl := []
def tbl224 : Tbl := []
def tbl208 : Tbl := []
theorem AHeap.put_get_self {H : AHeap} {r : Nat} {o : AObj} : (H.put r o).get r = some o := by rw [AHeap.put_get, if_pos rfl]
abbrev rowR (s : List UInt8) (a : Nat) (n : Int) : Row := ⟨[.string (strB s), .int .i64 (a : Int), .int .i64 n], 404, 0, true⟩
theorem vpeek_calls {H : AHeap} {r a : Nat} {s : List UInt8} {n : Int} {c : UInt8} (hr : H.get r = some (.row (rowR s a n))) (hc : s[a]? = some c) : ACalls Tryz.prog 244 #[.pointer (some ⟨r, 0, none⟩)] H fun v H' => v = .int .u8 (c.toNat : Int) ∧ H' = H := by
  have hsz := strB_size s
  have hlt := (List.getElem?_eq_some_iff.1 hc).1
  refine k_open (args := [.pointer (some ⟨r, 0, none⟩)]) (E0 := [(0, .pointer (some ⟨r, 0, none⟩))]) tbl244 Tryz.func244 rfl follows (by kernel_rfl) Tryz.ntmps244 rfl rfl ?_
  repeat' (first
    | (show EW _ _ _ _ _; first | refine ew_p (h := ?_) | refine ew_ld (h := ?_) | (refine ew_df (ht := ?_) (hf := ?_) <;> intro _) | refine ew_p2 (h := ?_) | (refine ew_df2 (ht := ?_) (hf := ?_) <;> intro _) | refine w_nil ?_ | refine w_nilD ?_)
    | (show EC _ _ _ _ _ _ _; first | refine k_seq ?_ | refine k_region ?_ | refine k_draw (h := ?_) | refine k_skip ?_ | refine k_ret ?_ | refine k_exit ?_ | refine k_block ?_ | refine k_true (h := ?_) | refine k_false (h := ?_))
    | (show EX _ (bodyA _ _ _) _ _ _; first | refine x_end1 (hq := ?_))
    | (show EX _ _ _ _ _; first | refine x_normal ?_ | refine x_ret ?_ | refine x_exit ?_ | refine x_same ?_ | refine x_other (h := ?_) | refine x_bnormal ?_ | refine x_bret ?_))
  exact ⟨rfl, rfl⟩
theorem vpeek_end {H : AHeap} {r a : Nat} {s : List UInt8} {n : Int} (hr : H.get r = some (.row (rowR s a n))) (hc : s.length ≤ a) : ACalls Tryz.prog 244 #[.pointer (some ⟨r, 0, none⟩)] H fun v H' => v = .int .u8 0 ∧ H' = H := by
  have hsz := strB_size s
  refine k_open (args := [.pointer (some ⟨r, 0, none⟩)]) (E0 := [(0, .pointer (some ⟨r, 0, none⟩))]) tbl244 Tryz.func244 rfl follows (by kernel_rfl) Tryz.ntmps244 rfl rfl ?_
  repeat' (first
    | (show EW _ _ _ _ _; first | refine ew_p (h := ?_) | refine ew_ld (h := ?_) | (refine ew_df (ht := ?_) (hf := ?_) <;> intro _) | refine ew_p2 (h := ?_) | (refine ew_df2 (ht := ?_) (hf := ?_) <;> intro _) | refine w_nil ?_ | refine w_nilD ?_)
    | (show EC _ _ _ _ _ _ _; first | refine k_seq ?_ | refine k_region ?_ | refine k_draw (h := ?_) | refine k_skip ?_ | refine k_ret ?_ | refine k_exit ?_ | refine k_block ?_ | refine k_true (h := ?_) | refine k_false (h := ?_))
    | (show EX _ (bodyA _ _ _) _ _ _; first | refine x_end1 (hq := ?_))
    | (show EX _ _ _ _ _; first | refine x_normal ?_ | refine x_ret ?_ | refine x_exit ?_ | refine x_same ?_ | refine x_other (h := ?_) | refine x_bnormal ?_ | refine x_bret ?_))
  exact ⟨rfl, rfl⟩
theorem hexD_val : ∀ n : Fin 16, (n.val < 10 → (hexD n.val).toNat = 48 + n.val) ∧ (¬ n.val < 10 → (hexD n.val).toNat = 87 + n.val) := by decide
theorem vhex_calls {H : AHeap} {r a m : Nat} {s : List UInt8} {n : Int} (hm : m < 16) (hr : H.get r = some (.row (rowR s a n))) (hc : s[a]? = some (hexD m)) (hls : s.length < 1000000) (hrn : r < H.next) :
    ACalls Tryz.prog 272 #[.pointer (some ⟨r, 0, none⟩)] H fun v H' => v = .int .u8 (m : Int) ∧ H' = H.put r (.row (rowR s (a + 1) n)) := by
  have hx := hexD_val ⟨m, hm⟩
  have hlt := (List.getElem?_eq_some_iff.1 hc).1
  simp only at hx
  refine k_open (args := [.pointer (some ⟨r, 0, none⟩)]) (E0 := [(0, .pointer (some ⟨r, 0, none⟩))]) tbl272 Tryz.func272 rfl follows (by kernel_rfl) Tryz.ntmps272 rfl rfl ?_
  generalize hexD m = c at hc hx
  by_cases h10 : m < 10
  · have hx1 := hx.1 h10
    repeat' (first
    | (show EW _ _ _ _ _; first | refine ew_p (h := ?_) | refine ew_skip (h := ?_) | refine ew_ld (h := ?_) | refine ew_st (h := ?_) | (refine ew_df (ht := ?_) (hf := ?_) <;> intro _) | refine ew_ar (h := ?_) | (refine ew_callS (hc := cr_call) (hR := vpeek_calls hr hc) (h := ?_); rintro _ _ ⟨rfl, rfl⟩) | refine w_nil ?_)
    | (show EC _ _ _ _ _ _ _; first | refine k_seq ?_ | refine k_region ?_ | refine k_skip ?_ | refine k_ret ?_ | refine k_exit ?_ | refine k_block ?_ | refine k_true (h := ?_) | refine k_false (h := ?_))
    | (show EX _ (bodyA _ _ _) _ _ _; first | refine x_end1 (hq := ?_))
    | (show EX _ _ _ _ _; first | refine x_normal ?_ | refine x_ret ?_ | refine x_exit ?_ | refine x_same ?_ | refine x_other (h := ?_) | refine x_bnormal ?_ | refine x_bret ?_))
    refine ⟨?_, rfl⟩
    congr 1
    omega
  · have hx1 := hx.2 h10
    repeat' (first
    | (show EW _ _ _ _ _; first | refine ew_p (h := ?_) | refine ew_skip (h := ?_) | refine ew_ld (h := ?_) | refine ew_st (h := ?_) | (refine ew_df (ht := ?_) (hf := ?_) <;> intro _) | refine ew_ar (h := ?_) | (refine ew_callS (hc := cr_call) (hR := vpeek_calls hr hc) (h := ?_); rintro _ _ ⟨rfl, rfl⟩) | refine w_nil ?_)
    | (show EC _ _ _ _ _ _ _; first | refine k_seq ?_ | refine k_region ?_ | refine k_skip ?_ | refine k_ret ?_ | refine k_exit ?_ | refine k_block ?_ | refine k_true (h := ?_) | refine k_false (h := ?_))
    | (show EX _ (bodyA _ _ _) _ _ _; first | refine x_end1 (hq := ?_))
    | (show EX _ _ _ _ _; first | refine x_normal ?_ | refine x_ret ?_ | refine x_exit ?_ | refine x_same ?_ | refine x_other (h := ?_) | refine x_bnormal ?_ | refine x_bret ?_))
    refine ⟨?_, rfl⟩
    congr 1
    omega
theorem vesc_one {H : AHeap} {r a : Nat} {s : List UInt8} {n : Int} {c e : UInt8} (hr : H.get r = some (.row (rowR s a n))) (hc : s[a]? = some c) (he : ((c.toNat = 34 ∨ c.toNat = 92) ∧ e = c) ∨ (c.toNat = 110 ∧ e = 10) ∨ (c.toNat = 116 ∧ e = 9)) (hls : s.length < 1000000) (hrn : r < H.next) :
    ACalls Tryz.prog 264 #[.pointer (some ⟨r, 0, none⟩)] H fun v H' => v = .int .u8 (e.toNat : Int) ∧ H' = H.put r (.row (rowR s (a + 1) n)) := by
  have hlt := (List.getElem?_eq_some_iff.1 hc).1
  refine k_open (args := [.pointer (some ⟨r, 0, none⟩)]) (E0 := [(0, .pointer (some ⟨r, 0, none⟩))]) tbl264 Tryz.func264 rfl follows (by kernel_rfl) Tryz.ntmps264 rfl rfl ?_
  rcases he with ⟨h1 | h1, rfl⟩ | ⟨h1, rfl⟩ | ⟨h1, rfl⟩
  all_goals
    repeat' (first
    | (show EW _ _ _ _ _; first | refine ew_p (h := ?_) | refine ew_ld (h := ?_) | refine ew_st (h := ?_) | (refine ew_df (ht := ?_) (hf := ?_) <;> intro _) | refine ew_ar (h := ?_) | (refine ew_callS (hc := cr_call) (hR := vpeek_calls hr hc) (h := ?_); rintro _ _ ⟨rfl, rfl⟩) | refine w_nil ?_)
    | (show EC _ _ _ _ _ _ _; first | refine k_seq ?_ | refine k_region ?_ | refine k_skip ?_ | refine k_ret ?_ | refine k_exit ?_ | refine k_block ?_ | refine k_true (h := ?_) | refine k_false (h := ?_))
    | (show EX _ (bodyA _ _ _) _ _ _; first | refine x_end1 (hq := ?_))
    | (show EX _ _ _ _ _; first | refine x_normal ?_ | refine x_ret ?_ | refine x_exit ?_ | refine x_same ?_ | refine x_other (h := ?_) | refine x_bnormal ?_ | refine x_bret ?_))
    exact ⟨rfl, rfl⟩
theorem orHex : ∀ i j : Fin 16, intBin .or .u8 (IntKind.u8.wrap ((i.val : Int) * 2 ^ min (Int.toNat 4) IntKind.u8.bits)) (j.val : Int) = some (.int .u8 ((16 * i.val + j.val : Nat) : Int)) := by
  intro i j
  have h9 : IntKind.u8.bits = 8 := rfl
  have h2 : ∀ i : Fin 16, IntKind.u8.wrap ((i.val : Int) * 2 ^ min (Int.toNat 4) IntKind.u8.bits) = ((16 * i.val : Nat) : Int) := by decide
  rw [h2 i]
  simp only [intBin]
  have h8 : ∀ i j : Fin 16, (BitVec.ofInt 8 ((16 * i.val : Nat) : Int) ||| BitVec.ofInt 8 (j.val : Int)).toNat = 16 * i.val + j.val := by decide
  rw [h9, h8 i j, wrap8_in]
  · omega
  · omega
theorem put_put {H : AHeap} {r : Nat} {x y : AObj} : (H.put r x).put r y = H.put r y := by
  cases H with | mk get next =>
  simp only [AHeap.put, AHeap.mk.injEq, and_true]
  funext j
  split <;> rfl
theorem vesc_hex {H : AHeap} {r a : Nat} {s : List UInt8} {n : Int} {e c : UInt8} (hr : H.get r = some (.row (rowR s a n))) (h0 : s[a]? = some c) (hc : c.toNat = 120) (h1 : s[a + 1]? = some (hexD (e.toNat / 16))) (h2 : s[a + 2]? = some (hexD (e.toNat % 16))) (hls : s.length < 1000000) (hrn : r < H.next) :
    ACalls Tryz.prog 264 #[.pointer (some ⟨r, 0, none⟩)] H fun v H' => v = .int .u8 (e.toNat : Int) ∧ H' = H.put r (.row (rowR s (a + 3) n)) := by
  have hlt := (List.getElem?_eq_some_iff.1 h2).1
  have he := e.toNat_lt
  refine k_open (args := [.pointer (some ⟨r, 0, none⟩)]) (E0 := [(0, .pointer (some ⟨r, 0, none⟩))]) tbl264 Tryz.func264 rfl follows (by kernel_rfl) Tryz.ntmps264 rfl rfl ?_
  repeat' (first
    | (show EW _ _ _ _ _; first | refine ew_p (h := ?_) | refine ew_ld (h := ?_) | refine ew_st (h := ?_) | (refine ew_df (ht := ?_) (hf := ?_) <;> intro _) | refine ew_ar (h := ?_) | (refine ew_callS (hc := cr_call) (hR := vpeek_calls hr h0) (h := ?_); rintro _ H ⟨rfl, rfl⟩) | refine w_nil ?_)
    | (show EC _ _ _ _ _ _ _; first | refine k_seq ?_ | refine k_region ?_ | refine k_skip ?_ | refine k_ret ?_ | refine k_exit ?_ | refine k_block ?_ | refine k_true (h := ?_) | refine k_false (h := ?_))
    | (show EX _ (bodyA _ _ _) _ _ _; first | refine x_end1 (hq := ?_))
    | (show EX _ _ _ _ _; first | refine x_normal ?_ | refine x_ret ?_ | refine x_exit ?_ | refine x_same ?_ | refine x_other (h := ?_) | refine x_bnormal ?_ | refine x_bret ?_))
  have g1 : (H.put r (.row (rowR s (a + 1) n))).get r = some (.row (rowR s (a + 1) n)) := AHeap.put_get_self
  refine ew_callS (hc := cr_call) (hR := vhex_calls (show e.toNat / 16 < 16 by omega) g1 h1 hls (by simpa using hrn)) (h := ?_)
  rintro _ _ ⟨rfl, rfl⟩
  rw [put_put]
  repeat' (first
    | (show EW _ _ _ _ _; first | refine ew_p (h := ?_) | refine ew_ld (h := ?_) | refine ew_st (h := ?_) | (refine ew_df (ht := ?_) (hf := ?_) <;> intro _) | refine ew_ar (h := ?_) | refine w_nil ?_)
    | (show EC _ _ _ _ _ _ _; first | refine k_seq ?_ | refine k_region ?_ | refine k_skip ?_ | refine k_ret ?_ | refine k_exit ?_ | refine k_block ?_ | refine k_true (h := ?_) | refine k_false (h := ?_))
    | (show EX _ (bodyA _ _ _) _ _ _; first | refine x_end1 (hq := ?_))
    | (show EX _ _ _ _ _; first | refine x_normal ?_ | refine x_ret ?_ | refine x_exit ?_ | refine x_same ?_ | refine x_other (h := ?_) | refine x_bnormal ?_ | refine x_bret ?_))
  have g2 : (H.put r (.row (rowR s (a + 1 + 1) n))).get r = some (.row (rowR s (a + 1 + 1) n)) := AHeap.put_get_self
  refine ew_callS (hc := cr_call) (hR := vhex_calls (show e.toNat % 16 < 16 by omega) g2 h2 hls (by simpa using hrn)) (h := ?_)
  rintro _ _ ⟨rfl, rfl⟩
  rw [put_put]
  repeat' (first
    | (show EW _ _ _ _ _; first | refine ew_n (hn := r_bin (hr := orHex ⟨e.toNat / 16, by omega⟩ ⟨e.toNat % 16, by omega⟩)) (h := ?_) | refine ew_p (h := ?_) | refine ew_ld (h := ?_) | refine ew_st (h := ?_) | (refine ew_df (ht := ?_) (hf := ?_) <;> intro _) | refine ew_ar (h := ?_) | refine w_nil ?_)
    | (show EC _ _ _ _ _ _ _; first | refine k_seq ?_ | refine k_region ?_ | refine k_skip ?_ | refine k_ret ?_ | refine k_exit ?_ | refine k_block ?_ | refine k_true (h := ?_) | refine k_false (h := ?_))
    | (show EX _ (bodyA _ _ _) _ _ _; first | refine x_end1 (hq := ?_))
    | (show EX _ _ _ _ _; first | refine x_normal ?_ | refine x_ret ?_ | refine x_exit ?_ | refine x_same ?_ | refine x_other (h := ?_) | refine x_bnormal ?_ | refine x_bret ?_))
  refine ⟨?_, rfl⟩
  congr 2
  show 16 * (e.toNat / 16) + e.toNat % 16 = e.toNat
  omega
/-! The text -/
def qLen (b : List UInt8) (i : Nat) : Nat := 1 + ((b.take i).flatMap qByte).length
theorem quote_split {b : List UInt8} {i : Nat} (hi : i < b.length) : quoteB b = ([34] ++ (b.take i).flatMap qByte) ++ (qByte b[i] ++ ((b.drop (i + 1)).flatMap qByte ++ [34])) := by
  unfold quoteB
  conv => lhs; rw [← List.take_append_drop i b, List.drop_eq_getElem_cons hi]
  simp only [List.flatMap_append, List.flatMap_cons, List.append_assoc]
theorem quote_at {b : List UInt8} {i j : Nat} (hi : i < b.length) (hj : j < (qByte b[i]).length) : (quoteB b)[qLen b i + j]? = some (qByte b[i])[j] := by
  rw [quote_split hi, show qLen b i = ([34] ++ (b.take i).flatMap qByte).length by simp [qLen]; omega]
  exact mid_get hj
theorem quote_end (b : List UInt8) : (quoteB b)[qLen b b.length]? = some 34 := by
  have : quoteB b = ([34] ++ b.flatMap qByte) ++ ([34] ++ []) := by simp [quoteB]
  rw [this, show qLen b b.length = ([34] ++ b.flatMap qByte).length + 0 by simp [qLen]; omega]
  exact mid_get (by simp)
theorem qLen_succ {b : List UInt8} {i : Nat} (hi : i < b.length) : qLen b (i + 1) = qLen b i + (qByte b[i]).length := by
  unfold qLen
  rw [flat_take hi, List.length_append]
  omega
theorem qLen_le (b : List UInt8) (i : Nat) : qLen b i ≤ 1 + 4 * b.length := by
  have := flat_len qByte_len (b.take i)
  rw [List.length_take] at this
  unfold qLen
  omega
theorem quoteB_len (b : List UInt8) : (quoteB b).length = qLen b b.length + 1 := by simp [quoteB, qLen]; omega
def TxI (H0 : AHeap) (r : Nat) (b : List UInt8) (n : Int) (m : Nat) (E : Env) (H : AHeap) : Prop :=
  Keep (fun i => i = r) H0 H ∧ r < H0.next ∧ ∃ (i : Nat) (sl : Value), m = b.length - i ∧ i ≤ b.length ∧ H.get r = some (.row (rowR (quoteB b) (qLen b i) n)) ∧ Opn H (fun i => H0.next ≤ i) 5 1 sl (b.take i).length (bytesV (b.take i)) ∧ (b.take i = [] → sl = .slice none 0 0) ∧
    E = [(0, .pointer (some ⟨r, 0, none⟩)), (4, sl)]
theorem TxI.next {H0 H H' : AHeap} {r i : Nat} {b : List UInt8} {n : Int} {sl : Value} (hk : Keep (fun i => i = r) H0 H) (hr : r < H0.next) (hi : i < b.length) (hk' : Keep (fun j => j = r ∨ H0.next ≤ j) H H') (hg : H'.get r = some (.row (rowR (quoteB b) (qLen b i + (qByte b[i]).length) n)))
    (ho : Opn H' (fun i => H0.next ≤ i) 5 1 sl (b.take i ++ [b[i]]).length (bytesV (b.take i ++ [b[i]]))) (hz : b.take i ++ [b[i]] = [] → sl = .slice none 0 0) :
    TxI H0 r b n (b.length - (i + 1)) [(0, .pointer (some ⟨r, 0, none⟩)), (4, sl)] H' :=
  ⟨hk.trans hk' fun j hj h => h.elim id fun h => absurd h (by omega), hr, i + 1, sl, rfl, by omega, by rw [qLen_succ hi]; exact hg, by rw [List.take_succ_eq_append_getElem hi]; exact ho, by rw [List.take_succ_eq_append_getElem hi]; exact hz, rfl⟩
/-- append(out, byte) -/
theorem app_byte {H0 H : AHeap} {sl : Value} {q : Nat} {bs : List UInt8} {c : UInt8} (ho : Opn H (fun i => H0.next ≤ i) 5 1 sl bs.length (bytesV bs)) (hz : bs = [] → sl = .slice none 0 0) (hq : H.get q = some (.row ⟨[.int .u8 (c.toNat : Int)], 5, 0, true⟩)) (hn : H0.next ≤ H.next) (hL : bs.length ≤ 1000000) :
    ∃ sl' H', appendA Tryz.prog H 108 108 sl (.slice (some ⟨q, 0, none⟩) 1 1) = some (sl', H') ∧ (Opn H' (fun i => H0.next ≤ i) 5 1 sl' (bs ++ [c]).length (bytesV (bs ++ [c])) ∧ (bs ++ [c] = [] → sl' = .slice none 0 0) ∧ Keep (fun i => H0.next ≤ i) H H' ∧ ∃ z k, sl' = .slice z (bs ++ [c]).length k) := by
  obtain ⟨sl', H', h1, h2, h3, h4⟩ := app_bu T108b ho hz (src_byte hq) (by simp; omega)
  have h5 := h2.weak (G := fun i => H0.next ≤ i) fun i h => h.elim id fun h => Nat.le_trans hn h.1
  obtain ⟨z, k, e, _⟩ := h5.cap1 (by simp only [List.length_append, List.length_cons, List.length_nil]; unfold openCap; omega)
  exact ⟨sl', H', h1, h5, h3, h4, z, k, e⟩
theorem vesc_calls {H : AHeap} {r a : Nat} {s u : List UInt8} {n : Int} {c : UInt8} (hr : H.get r = some (.row (rowR s a n))) (hu : ∀ (j : Nat) (hj : j < u.length), s[a + j]? = some u[j]) (hq : qByte c = 92 :: u) (hls : s.length < 1000000) (hrn : r < H.next) :
    ACalls Tryz.prog 264 #[.pointer (some ⟨r, 0, none⟩)] H fun v H' => v = .int .u8 (c.toNat : Int) ∧ H' = H.put r (.row (rowR s (a + u.length) n)) := by
  unfold qByte at hq
  split at hq
  · rename_i h
    obtain rfl : u = [c] := by simpa using hq.symm
    exact vesc_one hr (hu 0 (by simp)) (.inl ⟨h, rfl⟩) hls hrn
  · rename_i hn
    split at hq
    · rename_i h
      obtain rfl : u = [110] := by simpa using hq.symm
      have : c = 10 := UInt8.toNat_inj.1 h
      subst this
      exact vesc_one hr (hu 0 (by simp)) (.inr (.inl ⟨rfl, rfl⟩)) hls hrn
    · split at hq
      · rename_i h
        obtain rfl : u = [116] := by simpa using hq.symm
        have : c = 9 := UInt8.toNat_inj.1 h
        subst this
        exact vesc_one hr (hu 0 (by simp)) (.inr (.inr ⟨rfl, rfl⟩)) hls hrn
      · split at hq
        · simp only [List.cons.injEq] at hq
          exact absurd (.inr (by rw [hq.1]; rfl)) hn
        · obtain rfl : u = [120, hexD (c.toNat / 16), hexD (c.toNat % 16)] := by simpa using hq.symm
          exact vesc_hex hr (hu 0 (by simp)) rfl (hu 1 (by simp)) (hu 2 (by simp)) hls hrn
theorem qByte_shape (c : UInt8) : (∃ u, qByte c = 92 :: u) ∨ (qByte c = [c] ∧ 32 ≤ c.toNat ∧ c.toNat ≤ 126 ∧ c.toNat ≠ 34 ∧ c.toNat ≠ 92) := by
  unfold qByte
  split
  · exact .inl ⟨_, rfl⟩
  · split
    · exact .inl ⟨_, rfl⟩
    · split
      · exact .inl ⟨_, rfl⟩
      · split
        · exact .inr ⟨rfl, by omega, by omega, by omega, by omega⟩
        · exact .inl ⟨_, rfl⟩
theorem vtext_calls {H : AHeap} {r : Nat} {w : List UInt8} {n : Int} (hr : H.get r = some (.row (rowR (quoteB w) 0 n))) (hb : w.length ≤ 24) (hrn : r < H.next) :
    ACalls Tryz.prog 246 #[.pointer (some ⟨r, 0, none⟩)] H fun v H' => v = .string (strB w) ∧ H'.get r = some (.row (rowR (quoteB w) (quoteB w).length n)) ∧ Keep (fun i => i = r) H H' := by
  have hql := quoteB_len w
  have hqe := qLen_le w w.length
  refine k_open (args := [.pointer (some ⟨r, 0, none⟩)]) (E0 := [(0, .pointer (some ⟨r, 0, none⟩))]) tbl246 Tryz.func246 rfl follows (by kernel_rfl) Tryz.ntmps246 rfl rfl ?_
  repeat' (first
    | (show EW _ _ _ _ _; first | refine ew_p (h := ?_) | refine ew_skip (h := ?_) | refine ew_ld (h := ?_) | refine ew_ci (h := ?_) | refine ew_conv (hn := r_conv_br (h := by first | assumption | (apply Rd.keep0; (focus assumption); exact kp))) (h := ?_) | (refine ew_fresh ?_; intro b hb; refine ew_nw hb (h := ?_); (try simp only [AHeap.push_next, AHeap.put_next] at hb)) | refine ew_st (h := ?_) | (refine ew_df (ht := ?_) (hf := ?_) <;> intro _) | refine ew_ar (h := ?_) | refine w_nil ?_ | refine w_nilD ?_)
    | (show EC _ _ _ _ _ _ _; first | refine k_seq ?_ | refine k_region ?_ | refine k_draw (h := ?_) | refine k_skip ?_ | refine k_ret ?_ | refine k_exit ?_ | refine k_block ?_ | refine k_true (h := ?_) | refine k_false (h := ?_) | refine k_label ?_ | refine k_scope follows (by kernel_rfl) ?_)
    | (show EX _ (bodyA _ _ _) _ _ _; first | refine x_end1 (hq := ?_))
    | (show EX _ _ _ _ _; first | refine x_normal ?_ | refine x_ret ?_ | refine x_exit ?_ | refine x_same ?_ | refine x_other (h := ?_) | refine x_bnormal ?_ | refine x_bret ?_ | refine x_sn ?_ | refine x_sr ?_ | refine x_se ?_))
  refine k_loop follows (TxI H r w n) (w.length - 0) [(0, _), (4, _)] (by kernel_rfl) ⟨rfl, rfl, trivial⟩ ⟨by exact kp, hrn, 0, _, rfl, by omega, by exact rdx, Opn.nil, fun _ => rfl, rfl⟩ ?_
  rintro m E H1 ⟨hk, hr0, i, sl, rfl, hi, hr1, ho, hz, rfl⟩
  have hn1 := hk.1
  by_cases hlt : i < w.length
  · have hq := qLen_succ hlt
    have hqm := qLen_le w i
    have htl : (w.take i).length = i := by simp; omega
    have hat := fun j => quote_at (i := i) (j := j) hlt
    have hqs := fun (j : Nat) (hj : j < (qByte w[i]).length) => (List.getElem?_eq_some_iff.1 (hat j hj)).1
    have hls : (quoteB w).length < 1000000 := by omega
    obtain ⟨c, hc⟩ : ∃ c, c = w[i] := ⟨_, rfl⟩
    have hnx := fun (H' : AHeap) (sl' : Value) => TxI.next (H' := H') (sl := sl') (n := n) hk hr0 hlt
    rw [← hc] at hat hqs hq hnx
    rcases qByte_shape c with ⟨u, hu⟩ | ⟨hu, u1, u2, u3, u4⟩
    · rw [hu] at hat hqs hq hnx
      have hq1 : qLen w i + (92 :: u).length = qLen w i + 1 + u.length := by simp; omega
      have hc0 : (quoteB w)[qLen w i]? = some 92 := hat 0 (by simp)
      have h92 : ((92 : UInt8).toNat : Int) = 92 := rfl
      have hl0 := hqs 0 (by simp)
      repeat' (first
    | (show EW _ _ _ _ _; first | refine ew_p (h := ?_) | refine ew_skip (h := ?_) | refine ew_ld (h := ?_) | refine ew_ci (h := ?_) | refine ew_conv (hn := r_conv_br (h := by first | assumption | (apply Rd.keep0; (focus assumption); exact kp))) (h := ?_) | (refine ew_fresh ?_; intro b hb; refine ew_nw hb (h := ?_); (try simp only [AHeap.push_next, AHeap.put_next] at hb)) | refine ew_st (h := ?_) | (refine ew_df (ht := ?_) (hf := ?_) <;> intro _) | refine ew_ar (h := ?_) | (refine ew_callS (hc := cr_call) (hR := vpeek_calls hr1 hc0) (h := ?_); rintro _ H1 ⟨rfl, rfl⟩; rw [h92]) | refine w_nil ?_ | refine w_nilD ?_)
    | (show EC _ _ _ _ _ _ _; first | refine k_seq ?_ | refine k_region ?_ | refine k_draw (h := ?_) | refine k_skip ?_ | refine k_ret ?_ | refine k_exit ?_ | refine k_block ?_ | refine k_true (h := ?_) | refine k_false (h := ?_) | refine k_label ?_ | refine k_scope follows (by kernel_rfl) ?_)
    | (show EX _ (bodyA _ _ _) _ _ _; first | refine x_end1 (hq := ?_))
    | (show EX _ _ _ _ _; first | refine x_normal ?_ | refine x_ret ?_ | refine x_exit ?_ | refine x_same ?_ | refine x_other (h := ?_) | refine x_bnormal ?_ | refine x_bret ?_ | refine x_sn ?_ | refine x_sr ?_ | refine x_se ?_))
      have g1 : (H1.put r (.row (rowR (quoteB w) (qLen w i + 1) n))).get r = some (.row (rowR (quoteB w) (qLen w i + 1) n)) := AHeap.put_get_self
      refine ew_callS (hc := cr_call) (hR := vesc_calls g1 (fun j hj => by have := hat (j + 1) (by simpa using hj); rwa [← Nat.add_assoc, Nat.add_right_comm] at this) hu hls (by simp; omega)) (h := ?_)
      rintro _ _ ⟨rfl, rfl⟩
      rw [put_put]
      have g2 : (H1.put r (.row (rowR (quoteB w) (qLen w i + 1 + u.length) n))).get r = some (.row (rowR (quoteB w) (qLen w i + 1 + u.length) n)) := AHeap.put_get_self
      have k2 : Keep (fun i => i = r) H1 (H1.put r (.row (rowR (quoteB w) (qLen w i + 1 + u.length) n))) := Keep.refl.put fun _ => rfl
      have o2 := ho.keep k2 (fun j _ hj _ he => by have e : j = r := he; have h : H.next ≤ j := hj; omega)
      have n2 : (H1.put r (.row (rowR (quoteB w) (qLen w i + 1 + u.length) n))).next = H1.next := AHeap.put_next ..
      generalize H1.put r (.row (rowR (quoteB w) (qLen w i + 1 + u.length) n)) = H2 at g2 k2 o2 n2 ⊢
      repeat' (first
    | (show EW _ _ _ _ _; first | refine ew_p (h := ?_) | refine ew_skip (h := ?_) | refine ew_ld (h := ?_) | refine ew_ci (h := ?_) | refine ew_conv (hn := r_conv_br (h := by first | assumption | (apply Rd.keep0; (focus assumption); exact kp))) (h := ?_) | (refine ew_fresh ?_; intro b hb; refine ew_nw hb (h := ?_); (try simp only [AHeap.push_next, AHeap.put_next] at hb)) | refine ew_st (h := ?_) | (refine ew_df (ht := ?_) (hf := ?_) <;> intro _) | refine ew_ar (h := ?_) | refine w_nil ?_ | refine w_nilD ?_)
    | (show EC _ _ _ _ _ _ _; first | refine k_seq ?_ | refine k_region ?_ | refine k_draw (h := ?_) | refine k_skip ?_ | refine k_ret ?_ | refine k_exit ?_ | refine k_block ?_ | refine k_true (h := ?_) | refine k_false (h := ?_) | refine k_label ?_ | refine k_scope follows (by kernel_rfl) ?_)
    | (show EX _ (bodyA _ _ _) _ _ _; first | refine x_end1 (hq := ?_))
    | (show EX _ _ _ _ _; first | refine x_normal ?_ | refine x_ret ?_ | refine x_exit ?_ | refine x_same ?_ | refine x_other (h := ?_) | refine x_bnormal ?_ | refine x_bret ?_ | refine x_sn ?_ | refine x_sr ?_ | refine x_se ?_))
      have kp : Keep No H2 (H2.push (.row ⟨[.int .u8 (c.toNat : Int)], 5, 0, true⟩)) := Keep.refl.push
      have np : (H2.push (.row ⟨[.int .u8 (c.toNat : Int)], 5, 0, true⟩)).next = H2.next + 1 := AHeap.push_next ..
      have gp : (H2.push (.row ⟨[.int .u8 (c.toNat : Int)], 5, 0, true⟩)).get b = some (.row ⟨[.int .u8 (c.toNat : Int)], 5, 0, true⟩) := by rw [AHeap.push_get, if_pos hb]
      have op := o2.keep0 kp
      have g3 := kp.get0 g2 (by omega)
      generalize H2.push (.row ⟨[.int .u8 (c.toNat : Int)], 5, 0, true⟩) = Hp at kp np gp op g3 ⊢
      refine ew_appS (R := _) (hR := app_byte (H0 := H) op hz gp (by omega) (by omega)) (h := ?_)
      rintro _ H3 ⟨a1, a2, a3, z, k, rfl⟩
      have g4 := a3.get g3 (by omega) (by omega)
      have k4 : Keep (fun j => j = r ∨ H.next ≤ j) H1 H3 := (k2.weak fun _ _ h => .inl h).trans ((kp.no (G := fun j => j = r ∨ H.next ≤ j)).trans (a3.weak fun _ _ h => .inr h) fun _ _ h => h) fun _ _ h => h
      repeat' (first
    | (show EW _ _ _ _ _; first | refine ew_p (h := ?_) | refine ew_skip (h := ?_) | refine ew_ld (h := ?_) | refine ew_ci (h := ?_) | refine ew_conv (hn := r_conv_br (h := by first | assumption | (apply Rd.keep0; (focus assumption); exact kp))) (h := ?_) | (refine ew_fresh ?_; intro b hb; refine ew_nw hb (h := ?_); (try simp only [AHeap.push_next, AHeap.put_next] at hb)) | refine ew_st (h := ?_) | (refine ew_df (ht := ?_) (hf := ?_) <;> intro _) | refine ew_ar (h := ?_) | refine w_nil ?_ | refine w_nilD ?_)
    | (show EC _ _ _ _ _ _ _; first | refine k_seq ?_ | refine k_region ?_ | refine k_draw (h := ?_) | refine k_skip ?_ | refine k_ret ?_ | refine k_exit ?_ | refine k_block ?_ | refine k_true (h := ?_) | refine k_false (h := ?_) | refine k_label ?_ | refine k_scope follows (by kernel_rfl) ?_)
    | (show EX _ (bodyA _ _ _) _ _ _; first | refine x_end1 (hq := ?_))
    | (show EX _ _ _ _ _; first | refine x_normal ?_ | refine x_ret ?_ | refine x_exit ?_ | refine x_same ?_ | refine x_other (h := ?_) | refine x_bnormal ?_ | refine x_bret ?_ | refine x_sn ?_ | refine x_sr ?_ | refine x_se ?_))
      exact x_again (w.length - (i + 1)) [(0, _), (4, _)] ⟨rfl, rfl, trivial⟩ (by omega) (hnx _ _ k4 (by rw [hq1]; exact g4) a1 a2)
    · rw [hu] at hat hqs hq hnx
      have hc0 : (quoteB w)[qLen w i]? = some c := hat 0 (by simp)
      have hl0 := hqs 0 (by simp)
      repeat' (first
    | (show EW _ _ _ _ _; first | refine ew_p (h := ?_) | refine ew_skip (h := ?_) | refine ew_ld (h := ?_) | refine ew_ci (h := ?_) | refine ew_conv (hn := r_conv_br (h := by first | assumption | (apply Rd.keep0; (focus assumption); exact kp))) (h := ?_) | (refine ew_fresh ?_; intro b hb; refine ew_nw hb (h := ?_); (try simp only [AHeap.push_next, AHeap.put_next] at hb)) | refine ew_st (h := ?_) | (refine ew_df (ht := ?_) (hf := ?_) <;> intro _) | refine ew_ar (h := ?_) | (refine ew_callS (hc := cr_call) (hR := vpeek_calls hr1 hc0) (h := ?_); rintro _ H1 ⟨rfl, rfl⟩) | refine w_nil ?_ | refine w_nilD ?_)
    | (show EC _ _ _ _ _ _ _; first | refine k_seq ?_ | refine k_region ?_ | refine k_draw (h := ?_) | refine k_skip ?_ | refine k_ret ?_ | refine k_exit ?_ | refine k_block ?_ | refine k_true (h := ?_) | refine k_false (h := ?_) | refine k_label ?_ | refine k_scope follows (by kernel_rfl) ?_)
    | (show EX _ (bodyA _ _ _) _ _ _; first | refine x_end1 (hq := ?_))
    | (show EX _ _ _ _ _; first | refine x_normal ?_ | refine x_ret ?_ | refine x_exit ?_ | refine x_same ?_ | refine x_other (h := ?_) | refine x_bnormal ?_ | refine x_bret ?_ | refine x_sn ?_ | refine x_sr ?_ | refine x_se ?_))
      have g2 := hr1
      have k2 : Keep (fun i => i = r) H1 H1 := Keep.refl
      have o2 := ho
      obtain ⟨H2, hH2⟩ : ∃ H2, H2 = H1 := ⟨_, rfl⟩
      rw [← hH2] at g2 o2
      have k2 : Keep (fun i => i = r) H1 H2 := by rw [hH2]; exact Keep.refl
      have n2 : H2.next = H1.next := by rw [hH2]
      rw [← hH2] at hb
      rw [← hH2]
      have kp : Keep No H2 (H2.push (.row ⟨[.int .u8 (c.toNat : Int)], 5, 0, true⟩)) := Keep.refl.push
      have np : (H2.push (.row ⟨[.int .u8 (c.toNat : Int)], 5, 0, true⟩)).next = H2.next + 1 := AHeap.push_next ..
      have gp : (H2.push (.row ⟨[.int .u8 (c.toNat : Int)], 5, 0, true⟩)).get b = some (.row ⟨[.int .u8 (c.toNat : Int)], 5, 0, true⟩) := by rw [AHeap.push_get, if_pos hb]
      have op := o2.keep0 kp
      have g3 := kp.get0 g2 (by omega)
      generalize H2.push (.row ⟨[.int .u8 (c.toNat : Int)], 5, 0, true⟩) = Hp at kp np gp op g3 ⊢
      refine ew_appS (R := _) (hR := app_byte (H0 := H) op hz gp (by omega) (by omega)) (h := ?_)
      rintro _ H3 ⟨a1, a2, a3, z, k, rfl⟩
      have g4 := a3.get g3 (by omega) (by omega)
      have k4 : Keep (fun j => j = r ∨ H.next ≤ j) H1 H3 := (k2.weak fun _ _ h => .inl h).trans ((kp.no (G := fun j => j = r ∨ H.next ≤ j)).trans (a3.weak fun _ _ h => .inr h) fun _ _ h => h) fun _ _ h => h
      repeat' (first
    | (show EW _ _ _ _ _; first | refine ew_p (h := ?_) | refine ew_skip (h := ?_) | refine ew_ld (h := ?_) | refine ew_ci (h := ?_) | refine ew_conv (hn := r_conv_br (h := by first | assumption | (apply Rd.keep0; (focus assumption); exact kp))) (h := ?_) | (refine ew_fresh ?_; intro b hb; refine ew_nw hb (h := ?_); (try simp only [AHeap.push_next, AHeap.put_next] at hb)) | refine ew_st (h := ?_) | (refine ew_df (ht := ?_) (hf := ?_) <;> intro _) | refine ew_ar (h := ?_) | refine w_nil ?_ | refine w_nilD ?_)
    | (show EC _ _ _ _ _ _ _; first | refine k_seq ?_ | refine k_region ?_ | refine k_draw (h := ?_) | refine k_skip ?_ | refine k_ret ?_ | refine k_exit ?_ | refine k_block ?_ | refine k_true (h := ?_) | refine k_false (h := ?_) | refine k_label ?_ | refine k_scope follows (by kernel_rfl) ?_)
    | (show EX _ (bodyA _ _ _) _ _ _; first | refine x_end1 (hq := ?_))
    | (show EX _ _ _ _ _; first | refine x_normal ?_ | refine x_ret ?_ | refine x_exit ?_ | refine x_same ?_ | refine x_other (h := ?_) | refine x_bnormal ?_ | refine x_bret ?_ | refine x_sn ?_ | refine x_sr ?_ | refine x_se ?_))
      have k5 : Keep (fun i => i = r) H3 (H3.put r (.row (rowR (quoteB w) (qLen w i + [c].length) n))) := Keep.refl.put fun _ => rfl
      exact x_again (w.length - (i + 1)) [(0, _), (4, _)] ⟨rfl, rfl, trivial⟩ (by omega) (hnx _ _ (k4.trans (k5.weak fun _ _ h => .inl h) fun _ _ h => h) AHeap.put_get_self (a1.keep k5 (fun j _ hj _ he => by have e : j = r := he; have h : H.next ≤ j := hj; omega)) a2)
  · obtain rfl : i = w.length := by omega
    rw [List.take_length] at ho hz
    have hc0 := quote_end w
    have h34 : ((34 : UInt8).toNat : Int) = 34 := rfl
    repeat' (first
    | (show EW _ _ _ _ _; first | refine ew_p (h := ?_) | refine ew_skip (h := ?_) | refine ew_ld (h := ?_) | refine ew_ci (h := ?_) | refine ew_conv (hn := r_conv_br (h := by first | assumption | (apply Rd.keep0; (focus assumption); exact kp))) (h := ?_) | (refine ew_fresh ?_; intro b hb; refine ew_nw hb (h := ?_); (try simp only [AHeap.push_next, AHeap.put_next] at hb)) | refine ew_st (h := ?_) | (refine ew_df (ht := ?_) (hf := ?_) <;> intro _) | refine ew_ar (h := ?_) | (refine ew_callS (hc := cr_call) (hR := vpeek_calls hr1 hc0) (h := ?_); rintro _ H1 ⟨rfl, rfl⟩; rw [h34]) | refine w_nil ?_ | refine w_nilD ?_)
    | (show EC _ _ _ _ _ _ _; first | refine k_seq ?_ | refine k_region ?_ | refine k_draw (h := ?_) | refine k_skip ?_ | refine k_ret ?_ | refine k_exit ?_ | refine k_block ?_ | refine k_true (h := ?_) | refine k_false (h := ?_) | refine k_label ?_ | refine k_scope follows (by kernel_rfl) ?_)
    | (show EX _ (bodyA _ _ _) _ _ _; first | refine x_end1 (hq := ?_))
    | (show EX _ _ _ _ _; first | refine x_normal ?_ | refine x_ret ?_ | refine x_exit ?_ | refine x_same ?_ | refine x_other (h := ?_) | refine x_bnormal ?_ | refine x_bret ?_ | refine x_sn ?_ | refine x_sr ?_ | refine x_se ?_))
    have k5 : Keep (fun i => i = r) H1 (H1.put r (.row (rowR (quoteB w) (qLen w w.length + 1) n))) := Keep.refl.put fun _ => rfl
    obtain ⟨z, k, rfl, _⟩ := ho.cap1 (by unfold openCap; omega)
    have hbr : BR (H1.put r (.row (rowR (quoteB w) (qLen w w.length + 1) n))) (fun i => H.next ≤ i) (.slice z w.length k) w := (ho.keep k5 (fun j _ hj _ he => by have e : j = r := he; have h : H.next ≤ j := hj; omega)).rd
    have g5 : (H1.put r (.row (rowR (quoteB w) (qLen w w.length + 1) n))).get r = _ := AHeap.put_get_self
    repeat' (first
    | (show EW _ _ _ _ _; first | refine ew_p (h := ?_) | refine ew_skip (h := ?_) | refine ew_ld (h := ?_) | refine ew_ci (h := ?_) | refine ew_conv (hn := r_conv_br (h := by first | assumption | (apply Rd.keep0; (focus assumption); exact kp))) (h := ?_) | (refine ew_fresh ?_; intro b hb; refine ew_nw hb (h := ?_); (try simp only [AHeap.push_next, AHeap.put_next] at hb)) | refine ew_st (h := ?_) | (refine ew_df (ht := ?_) (hf := ?_) <;> intro _) | refine ew_ar (h := ?_) | refine ew_conv (hn := r_conv_br (h := hbr)) (h := ?_) | refine w_nil ?_ | refine w_nilD ?_)
    | (show EC _ _ _ _ _ _ _; first | refine k_seq ?_ | refine k_region ?_ | refine k_draw (h := ?_) | refine k_skip ?_ | refine k_ret ?_ | refine k_exit ?_ | refine k_block ?_ | refine k_true (h := ?_) | refine k_false (h := ?_) | refine k_label ?_ | refine k_scope follows (by kernel_rfl) ?_)
    | (show EX _ (bodyA _ _ _) _ _ _; first | refine x_end1 (hq := ?_))
    | (show EX _ _ _ _ _; first | refine x_normal ?_ | refine x_ret ?_ | refine x_exit ?_ | refine x_same ?_ | refine x_other (h := ?_) | refine x_bnormal ?_ | refine x_bret ?_ | refine x_sn ?_ | refine x_sr ?_ | refine x_se ?_))
    exact ⟨rfl, by rw [hql]; exact g5, hk.trans k5 fun _ _ h => h⟩
def BlI (H0 : AHeap) (r : Nat) (n : Nat) (E : Env) (H : AHeap) : Prop := H0 = H ∧ n = 0 ∧ E = [(0, .pointer (some ⟨r, 0, none⟩))]
theorem vblanks_at {H : AHeap} {r a : Nat} {s : List UInt8} {n : Int} {c : UInt8} (hr : H.get r = some (.row (rowR s a n))) (hc : s[a]? = some c) (h1 : c.toNat ≠ 32) (h2 : c.toNat ≠ 9) : ACalls Tryz.prog 223 #[.pointer (some ⟨r, 0, none⟩)] H fun v H' => v = .tuple #[] ∧ H' = H := by
  refine k_open (args := [.pointer (some ⟨r, 0, none⟩)]) (E0 := [(0, .pointer (some ⟨r, 0, none⟩))]) tbl223 Tryz.func223 rfl follows (by kernel_rfl) Tryz.ntmps223 rfl rfl ?_
  repeat' (first
    | (show EW _ _ _ _ _; first | refine ew_p (h := ?_) | refine ew_skip (h := ?_) | refine ew_ld (h := ?_) | refine ew_st (h := ?_) | (refine ew_df (ht := ?_) (hf := ?_) <;> intro _) | refine ew_ar (h := ?_) | refine w_nil ?_)
    | (show EC _ _ _ _ _ _ _; first | refine k_seq ?_ | refine k_region ?_ | refine k_skip ?_ | refine k_ret ?_ | refine k_exit ?_ | refine k_block ?_ | refine k_true (h := ?_) | refine k_false (h := ?_))
    | (show EX _ (bodyA _ _ _) _ _ _; first | refine x_end0 (hq := ?_))
    | (show EX _ _ _ _ _; first | refine x_normal ?_ | refine x_ret ?_ | refine x_exit ?_ | refine x_same ?_ | refine x_other (h := ?_) | refine x_bnormal ?_ | refine x_bret ?_))
  refine k_loop follows (BlI H r) 0 [(0, _)] (by kernel_rfl) ⟨rfl, trivial⟩ ⟨rfl, rfl, rfl⟩ ?_
  rintro n E _ ⟨rfl, rfl, rfl⟩
  repeat' (first
    | (show EW _ _ _ _ _; first | refine ew_p (h := ?_) | refine ew_skip (h := ?_) | refine ew_ld (h := ?_) | refine ew_st (h := ?_) | (refine ew_df (ht := ?_) (hf := ?_) <;> intro _) | refine ew_ar (h := ?_) | (refine ew_callS (hc := cr_call) (hR := vpeek_calls hr hc) (h := ?_); rintro _ H ⟨rfl, rfl⟩) | refine w_nil ?_)
    | (show EC _ _ _ _ _ _ _; first | refine k_seq ?_ | refine k_region ?_ | refine k_skip ?_ | refine k_ret ?_ | refine k_exit ?_ | refine k_block ?_ | refine k_true (h := ?_) | refine k_false (h := ?_))
    | (show EX _ (bodyA _ _ _) _ _ _; first | refine x_end0 (hq := ?_))
    | (show EX _ _ _ _ _; first | refine x_normal ?_ | refine x_ret ?_ | refine x_exit ?_ | refine x_same ?_ | refine x_other (h := ?_) | refine x_bnormal ?_ | refine x_bret ?_))
  exact ⟨rfl, rfl⟩
theorem vblanks_end {H : AHeap} {r a : Nat} {s : List UInt8} {n : Int} (hr : H.get r = some (.row (rowR s a n))) (hc : s.length ≤ a) : ACalls Tryz.prog 223 #[.pointer (some ⟨r, 0, none⟩)] H fun v H' => v = .tuple #[] ∧ H' = H := by
  refine k_open (args := [.pointer (some ⟨r, 0, none⟩)]) (E0 := [(0, .pointer (some ⟨r, 0, none⟩))]) tbl223 Tryz.func223 rfl follows (by kernel_rfl) Tryz.ntmps223 rfl rfl ?_
  repeat' (first
    | (show EW _ _ _ _ _; first | refine ew_p (h := ?_) | refine ew_skip (h := ?_) | refine ew_ld (h := ?_) | refine ew_st (h := ?_) | (refine ew_df (ht := ?_) (hf := ?_) <;> intro _) | refine ew_ar (h := ?_) | refine w_nil ?_)
    | (show EC _ _ _ _ _ _ _; first | refine k_seq ?_ | refine k_region ?_ | refine k_skip ?_ | refine k_ret ?_ | refine k_exit ?_ | refine k_block ?_ | refine k_true (h := ?_) | refine k_false (h := ?_))
    | (show EX _ (bodyA _ _ _) _ _ _; first | refine x_end0 (hq := ?_))
    | (show EX _ _ _ _ _; first | refine x_normal ?_ | refine x_ret ?_ | refine x_exit ?_ | refine x_same ?_ | refine x_other (h := ?_) | refine x_bnormal ?_ | refine x_bret ?_))
  refine k_loop follows (BlI H r) 0 [(0, _)] (by kernel_rfl) ⟨rfl, trivial⟩ ⟨rfl, rfl, rfl⟩ ?_
  rintro n E _ ⟨rfl, rfl, rfl⟩
  repeat' (first
    | (show EW _ _ _ _ _; first | refine ew_p (h := ?_) | refine ew_skip (h := ?_) | refine ew_ld (h := ?_) | refine ew_st (h := ?_) | (refine ew_df (ht := ?_) (hf := ?_) <;> intro _) | refine ew_ar (h := ?_) | (refine ew_callS (hc := cr_call) (hR := vpeek_end hr hc) (h := ?_); rintro _ H ⟨rfl, rfl⟩) | refine w_nil ?_)
    | (show EC _ _ _ _ _ _ _; first | refine k_seq ?_ | refine k_region ?_ | refine k_skip ?_ | refine k_ret ?_ | refine k_exit ?_ | refine k_block ?_ | refine k_true (h := ?_) | refine k_false (h := ?_))
    | (show EX _ (bodyA _ _ _) _ _ _; first | refine x_end0 (hq := ?_))
    | (show EX _ _ _ _ _; first | refine x_normal ?_ | refine x_ret ?_ | refine x_exit ?_ | refine x_same ?_ | refine x_other (h := ?_) | refine x_bnormal ?_ | refine x_bret ?_))
  exact ⟨rfl, rfl⟩
theorem vvalue_calls {H : AHeap} {r : Nat} {w : List UInt8} (hr : H.get r = some (.row (rowR (quoteB w) 0 0))) (hw : w.length ≤ 24) (hrn : r < H.next) :
    ACalls Tryz.prog 224 #[.pointer (some ⟨r, 0, none⟩), .int .i64 0] H fun v H' => v = .agg #[.int .i64 2, .int .i64 0, .string (strB w), .slice none 0 0] ∧ H'.get r = some (.row (rowR (quoteB w) (quoteB w).length 1)) ∧ Keep (fun i => i = r) H H' := by
  have hc0 : (quoteB w)[0]? = some 34 := rfl
  have h34 : ((34 : UInt8).toNat : Int) = 34 := rfl
  refine k_open (args := [.pointer (some ⟨r, 0, none⟩), .int .i64 0]) (E0 := [(0, .pointer (some ⟨r, 0, none⟩)), (1, .int .i64 0)]) tbl224 Tryz.func224 rfl follows (by kernel_rfl) Tryz.ntmps224 rfl rfl ?_
  repeat' (first
    | (show EW _ _ _ _ _; first | refine ew_p (h := ?_) | refine ew_bu (h := ?_) | refine ew_skip (h := ?_) | refine ew_ld (h := ?_) | (refine ew_fresh ?_; intro b hb; refine ew_nw hb (h := ?_); (try simp only [AHeap.push_next, AHeap.put_next] at hb)) | refine ew_st (h := ?_) | (refine ew_df (ht := ?_) (hf := ?_) <;> intro _) | refine ew_ar (h := ?_) | refine w_nil ?_)
    | (show EC _ _ _ _ _ _ _; first | refine k_seq ?_ | refine k_region ?_ | refine k_skip ?_ | refine k_ret ?_ | refine k_exit ?_ | refine k_block ?_ | refine k_true (h := ?_) | refine k_false (h := ?_))
    | (show EX _ (bodyA _ _ _) _ _ _; first | refine x_end1 (hq := ?_) | refine x_endc (hc := by (first | assumption | (apply cells_row; (focus ((repeat' (first | assumption | (rw [aadd_block]) | (apply gN; (focus (first | exact rfl | omega | (simp only [AHeap.push_next, AHeap.put_next, aadd_block] <;> omega))); (focus exact rfl)) | (apply gO; (focus (first | omega | (simp only [AHeap.push_next, AHeap.put_next, aadd_block, ne_eq] <;> omega)))) | (apply gS; (focus (first | exact rfl | omega | (simp only [AHeap.push_next, AHeap.put_next, aadd_block] <;> omega))); (focus exact rfl)) | (apply gP; (focus (first | omega | (simp only [AHeap.push_next, AHeap.put_next, aadd_block, ne_eq] <;> omega)))) | exact rfl)); done)); (focus exact rfl); (focus exact rfl); (focus (first | exact (rfl : _ = some [_]) | exact (rfl : _ = some [_, _, _]) | exact (rfl : _ = some [_, _, _, _])))) | (apply cells_k; (focus assumption); (focus (first | assumption | (simp only [aadd_block] <;> first | assumption | omega))); (focus ((repeat' (first | exact Keep.refl | assumption | (apply Keep.push) | (refine Keep.put ?_ ?_; rotate_left; (focus (intro hlt; first | assumption | exact rfl | exact .inl rfl | exact .inr rfl | omega | (exfalso; simp only [AHeap.push_next, AHeap.put_next, aadd_block] at hlt; omega)))))); done))))) (hv := by exact rfl) (hq := ?_))
    | (show EX _ _ _ _ _; first | refine x_normal ?_ | refine x_ret ?_ | refine x_exit ?_ | refine x_same ?_ | refine x_other (h := ?_) | refine x_bnormal ?_ | refine x_bret ?_))
  repeat' (first
    | (show EW _ _ _ _ _; first | refine ew_p (h := ?_) | refine ew_bu (h := ?_) | refine ew_skip (h := ?_) | refine ew_ld (h := ?_) | (refine ew_fresh ?_; intro b hb; refine ew_nw hb (h := ?_); (try simp only [AHeap.push_next, AHeap.put_next] at hb)) | refine ew_st (h := ?_) | (refine ew_df (ht := ?_) (hf := ?_) <;> intro _) | refine ew_ar (h := ?_) | (refine ew_callS (hc := cr_call) (hR := vpeek_calls (n := 0) (by exact rdx) hc0) (h := ?_); rintro _ H1 ⟨rfl, rfl⟩; rw [h34]) | refine w_nil ?_)
    | (show EC _ _ _ _ _ _ _; first | refine k_seq ?_ | refine k_region ?_ | refine k_skip ?_ | refine k_ret ?_ | refine k_exit ?_ | refine k_block ?_ | refine k_true (h := ?_) | refine k_false (h := ?_))
    | (show EX _ (bodyA _ _ _) _ _ _; first | refine x_end1 (hq := ?_) | refine x_endc (hc := by (first | assumption | (apply cells_row; (focus ((repeat' (first | assumption | (rw [aadd_block]) | (apply gN; (focus (first | exact rfl | omega | (simp only [AHeap.push_next, AHeap.put_next, aadd_block] <;> omega))); (focus exact rfl)) | (apply gO; (focus (first | omega | (simp only [AHeap.push_next, AHeap.put_next, aadd_block, ne_eq] <;> omega)))) | (apply gS; (focus (first | exact rfl | omega | (simp only [AHeap.push_next, AHeap.put_next, aadd_block] <;> omega))); (focus exact rfl)) | (apply gP; (focus (first | omega | (simp only [AHeap.push_next, AHeap.put_next, aadd_block, ne_eq] <;> omega)))) | exact rfl)); done)); (focus exact rfl); (focus exact rfl); (focus (first | exact (rfl : _ = some [_]) | exact (rfl : _ = some [_, _, _]) | exact (rfl : _ = some [_, _, _, _])))) | (apply cells_k; (focus assumption); (focus (first | assumption | (simp only [aadd_block] <;> first | assumption | omega))); (focus ((repeat' (first | exact Keep.refl | assumption | (apply Keep.push) | (refine Keep.put ?_ ?_; rotate_left; (focus (intro hlt; first | assumption | exact rfl | exact .inl rfl | exact .inr rfl | omega | (exfalso; simp only [AHeap.push_next, AHeap.put_next, aadd_block] at hlt; omega)))))); done))))) (hv := by exact rfl) (hq := ?_))
    | (show EX _ _ _ _ _; first | refine x_normal ?_ | refine x_ret ?_ | refine x_exit ?_ | refine x_same ?_ | refine x_other (h := ?_) | refine x_bnormal ?_ | refine x_bret ?_))
  refine ew_callS (hc := cr_call) (hR := vtext_calls (r := r) (n := 1) (by exact rdx) hw (by simp only [AHeap.put_next, AHeap.push_next]; omega)) (h := ?_)
  rintro _ H2 ⟨rfl, g2, k2⟩
  have n2 := k2.1
  simp only [AHeap.put_next, AHeap.push_next] at n2
  have gb : H2.get b = some (.row ⟨[.int .i64 0, .int .i64 0, .string .empty, .slice none 0 0], 82, 0, true⟩) := k2.get (by exact rdx) (by simp only [AHeap.put_next, AHeap.push_next]; omega) (by omega)
  repeat' (first
    | (show EW _ _ _ _ _; first | refine ew_p (h := ?_) | refine ew_bu (h := ?_) | refine ew_skip (h := ?_) | refine ew_ld (h := ?_) | (refine ew_fresh ?_; intro b hb; refine ew_nw hb (h := ?_); (try simp only [AHeap.push_next, AHeap.put_next] at hb)) | refine ew_st (h := ?_) | (refine ew_df (ht := ?_) (hf := ?_) <;> intro _) | refine ew_ar (h := ?_) | refine w_nil ?_)
    | (show EC _ _ _ _ _ _ _; first | refine k_seq ?_ | refine k_region ?_ | refine k_skip ?_ | refine k_ret ?_ | refine k_exit ?_ | refine k_block ?_ | refine k_true (h := ?_) | refine k_false (h := ?_))
    | (show EX _ (bodyA _ _ _) _ _ _; first | refine x_end1 (hq := ?_) | refine x_endc (hc := by (first | assumption | (apply cells_row; (focus ((repeat' (first | assumption | (rw [aadd_block]) | (apply gN; (focus (first | exact rfl | omega | (simp only [AHeap.push_next, AHeap.put_next, aadd_block] <;> omega))); (focus exact rfl)) | (apply gO; (focus (first | omega | (simp only [AHeap.push_next, AHeap.put_next, aadd_block, ne_eq] <;> omega)))) | (apply gS; (focus (first | exact rfl | omega | (simp only [AHeap.push_next, AHeap.put_next, aadd_block] <;> omega))); (focus exact rfl)) | (apply gP; (focus (first | omega | (simp only [AHeap.push_next, AHeap.put_next, aadd_block, ne_eq] <;> omega)))) | exact rfl)); done)); (focus exact rfl); (focus exact rfl); (focus (first | exact (rfl : _ = some [_]) | exact (rfl : _ = some [_, _, _]) | exact (rfl : _ = some [_, _, _, _])))) | (apply cells_k; (focus assumption); (focus (first | assumption | (simp only [aadd_block] <;> first | assumption | omega))); (focus ((repeat' (first | exact Keep.refl | assumption | (apply Keep.push) | (refine Keep.put ?_ ?_; rotate_left; (focus (intro hlt; first | assumption | exact rfl | exact .inl rfl | exact .inr rfl | omega | (exfalso; simp only [AHeap.push_next, AHeap.put_next, aadd_block] at hlt; omega)))))); done))))) (hv := by exact rfl) (hq := ?_))
    | (show EX _ _ _ _ _; first | refine x_normal ?_ | refine x_ret ?_ | refine x_exit ?_ | refine x_same ?_ | refine x_other (h := ?_) | refine x_bnormal ?_ | refine x_bret ?_))
  refine ⟨rfl, by exact rdx, ?_⟩
  refine Keep.put (Keep.trans ?_ k2 fun _ _ h => h) (fun h => ?_)
  · exact kp
  · exfalso
    have hbl : b < H.next := h
    omega
theorem noopD2 : ∀ g ∈ [86, 221], NoopD Tryz.prog g := by
  intro g hg
  have hg' : g = 86 ∨ g = 221 := by simpa using hg
  rcases hg' with rfl | rfl
  · exact noop86
  · exact noop221
theorem vparse_calls {H : AHeap} {w : List UInt8} (hw : w.length ≤ 24) :
    ACalls Tryz.prog 208 #[.string (strB (quoteB w))] H fun v H' => v = .tuple #[.agg #[.int .i64 2, .int .i64 0, .string (strB w), .slice none 0 0], .int .i64 ((quoteB w).length : Int), .int .i64 0] ∧ H' = H := by
  refine ACalls.forget2 ?_
  have hsz := strB_size (quoteB w)
  have hc0 : (quoteB w)[0]? = some 34 := rfl
  refine k_openD (args := [.string (strB (quoteB w))]) (E0 := [(0, .string (strB (quoteB w)))]) tbl208 noopD2 Tryz.func208 rfl follows (by kernel_rfl) Tryz.ntmps208 rfl rfl ?_
  repeat' (first
    | (show EW _ _ _ _ _; first | refine ew_p (h := ?_) | refine ew_bu (h := ?_) | refine ew_ld (h := ?_) | (refine ew_fresh ?_; intro b hb; refine ew_nw hb (h := ?_); (try simp only [AHeap.push_next, AHeap.put_next] at hb)) | refine ew_st (h := ?_) | (refine ew_df (ht := ?_) (hf := ?_) <;> intro _) | refine w_nil ?_)
    | (show EC _ _ _ _ _ _ _; first | refine k_seq ?_ | refine k_region ?_ | refine k_skip ?_ | refine k_ret ?_ | refine k_exit ?_ | refine k_block ?_ | refine k_true (h := ?_) | refine k_false (h := ?_))
    | (show EX _ (bodyA _ _ _) _ _ _; first | refine x_end3 (hq := ?_))
    | (show EX _ _ _ _ _; first | refine x_normal ?_ | refine x_ret ?_ | refine x_exit ?_ | refine x_same ?_ | refine x_other (h := ?_) | refine x_bnormal ?_ | refine x_bret ?_))
  refine x_defer (tbl := tbl208) (t := 6) (N := 23) follows (by decide) (by kernel_rfl) (by kernel_rfl) rfl (by decide) rfl ?_
  repeat' (first
    | (show EW _ _ _ _ _; first | refine ew_p (h := ?_) | refine ew_bu (h := ?_) | refine ew_ld (h := ?_) | (refine ew_fresh ?_; intro b hb; refine ew_nw hb (h := ?_); (try simp only [AHeap.push_next, AHeap.put_next] at hb)) | refine ew_st (h := ?_) | (refine ew_df (ht := ?_) (hf := ?_) <;> intro _) | refine w_nil ?_)
    | (show EC _ _ _ _ _ _ _; first | refine k_seq ?_ | refine k_region ?_ | refine k_skip ?_ | refine k_ret ?_ | refine k_exit ?_ | refine k_block ?_ | refine k_true (h := ?_) | refine k_false (h := ?_))
    | (show EX _ (bodyA _ _ _) _ _ _; first | refine x_end3 (hq := ?_))
    | (show EX _ _ _ _ _; first | refine x_normal ?_ | refine x_ret ?_ | refine x_exit ?_ | refine x_same ?_ | refine x_other (h := ?_) | refine x_bnormal ?_ | refine x_bret ?_))
  rename_i q2 hq2 q3 hq3 q4 hq4
  refine ew_callS (hc := cr_call) (hR := vblanks_at (r := b) (a := 0) (n := 0) (s := quoteB w) (by exact rdx) hc0 (by decide) (by decide)) (h := ?_)
  rintro _ H1 ⟨rfl, rfl⟩
  repeat' (first
    | (show EW _ _ _ _ _; first | refine ew_p (h := ?_) | refine ew_bu (h := ?_) | refine ew_ld (h := ?_) | (refine ew_fresh ?_; intro b hb; refine ew_nw hb (h := ?_); (try simp only [AHeap.push_next, AHeap.put_next] at hb)) | refine ew_st (h := ?_) | (refine ew_df (ht := ?_) (hf := ?_) <;> intro _) | refine w_nil ?_)
    | (show EC _ _ _ _ _ _ _; first | refine k_seq ?_ | refine k_region ?_ | refine k_skip ?_ | refine k_ret ?_ | refine k_exit ?_ | refine k_block ?_ | refine k_true (h := ?_) | refine k_false (h := ?_))
    | (show EX _ (bodyA _ _ _) _ _ _; first | refine x_end3 (hq := ?_))
    | (show EX _ _ _ _ _; first | refine x_normal ?_ | refine x_ret ?_ | refine x_exit ?_ | refine x_same ?_ | refine x_other (h := ?_) | refine x_bnormal ?_ | refine x_bret ?_))
  refine ew_callS (hc := cr_call) (hR := vvalue_calls (r := b) (w := w) (by exact rdx) hw (by simp only [AHeap.put_next, AHeap.push_next]; omega)) (h := ?_)
  rintro _ H2 ⟨rfl, g2, k2⟩
  have n2 := k2.1
  simp only [AHeap.put_next, AHeap.push_next] at n2
  have gq2 : H2.get q2 = some (.row ⟨[.int .i64 0, .int .i64 0, .string .empty, .slice none 0 0], 82, 0, true⟩) := k2.get (by exact rdx) (by simp only [AHeap.put_next, AHeap.push_next]; omega) (by omega)
  have gq3 : H2.get q3 = some (.row ⟨[.int .i64 0], 3, 0, true⟩) := k2.get (by exact rdx) (by simp only [AHeap.put_next, AHeap.push_next]; omega) (by omega)
  have gq4 : H2.get q4 = some (.row ⟨[.int .i64 0], 44, 0, true⟩) := k2.get (by exact rdx) (by simp only [AHeap.put_next, AHeap.push_next]; omega) (by omega)
  have kH : Keep No H H2 := Keep.trans (by exact kp) k2 fun i hi h => by have h : i = b := h; omega
  repeat' (first
    | (show EW _ _ _ _ _; first | refine ew_p (h := ?_) | refine ew_bu (h := ?_) | refine ew_ld (h := ?_) | (refine ew_fresh ?_; intro b hb; refine ew_nw hb (h := ?_); (try simp only [AHeap.push_next, AHeap.put_next] at hb)) | refine ew_st (h := ?_) | (refine ew_df (ht := ?_) (hf := ?_) <;> intro _) | refine w_nil ?_)
    | (show EC _ _ _ _ _ _ _; first | refine k_seq ?_ | refine k_region ?_ | refine k_skip ?_ | refine k_ret ?_ | refine k_exit ?_ | refine k_block ?_ | refine k_true (h := ?_) | refine k_false (h := ?_))
    | (show EX _ (bodyA _ _ _) _ _ _; first | refine x_end3 (hq := ?_))
    | (show EX _ _ _ _ _; first | refine x_normal ?_ | refine x_ret ?_ | refine x_exit ?_ | refine x_same ?_ | refine x_other (h := ?_) | refine x_bnormal ?_ | refine x_bret ?_))
  refine ew_callS (hc := cr_call) (hR := vblanks_end (r := b) (a := (quoteB w).length) (n := 1) (s := quoteB w) (by exact rdx) (Nat.le_refl _)) (h := ?_)
  rintro _ H3 ⟨rfl, rfl⟩
  repeat' (first
    | (show EW _ _ _ _ _; first | refine ew_p (h := ?_) | refine ew_bu (h := ?_) | refine ew_ld (h := ?_) | (refine ew_fresh ?_; intro b hb; refine ew_nw hb (h := ?_); (try simp only [AHeap.push_next, AHeap.put_next] at hb)) | refine ew_st (h := ?_) | (refine ew_df (ht := ?_) (hf := ?_) <;> intro _) | refine w_nil ?_)
    | (show EC _ _ _ _ _ _ _; first | refine k_seq ?_ | refine k_region ?_ | refine k_skip ?_ | refine k_ret ?_ | refine k_exit ?_ | refine k_block ?_ | refine k_true (h := ?_) | refine k_false (h := ?_))
    | (show EX _ (bodyA _ _ _) _ _ _; first | refine x_end3 (hq := ?_))
    | (show EX _ _ _ _ _; first | refine x_normal ?_ | refine x_ret ?_ | refine x_exit ?_ | refine x_same ?_ | refine x_other (h := ?_) | refine x_bnormal ?_ | refine x_bret ?_))
  refine x_endg [.agg #[.int .i64 2, .int .i64 0, .string (strB w), .slice none 0 0], .int .i64 ((quoteB w).length : Int), .int .i64 0] ⟨rv_cell (hc := by (first | assumption | (apply cells_row; (focus ((repeat' (first | assumption | (rw [aadd_block]) | (apply gN; (focus (first | exact rfl | omega | (simp only [AHeap.push_next, AHeap.put_next, aadd_block] <;> omega))); (focus exact rfl)) | (apply gO; (focus (first | omega | (simp only [AHeap.push_next, AHeap.put_next, aadd_block, ne_eq] <;> omega)))) | (apply gS; (focus (first | exact rfl | omega | (simp only [AHeap.push_next, AHeap.put_next, aadd_block] <;> omega))); (focus exact rfl)) | (apply gP; (focus (first | omega | (simp only [AHeap.push_next, AHeap.put_next, aadd_block, ne_eq] <;> omega)))) | exact rfl)); done)); (focus exact rfl); (focus exact rfl); (focus (first | exact (rfl : _ = some [_]) | exact (rfl : _ = some [_, _, _, _])))) | (apply cells_k; (focus assumption); (focus (first | assumption | (simp only [aadd_block] <;> first | assumption | omega))); (focus ((repeat' (first | exact Keep.refl | assumption | (apply Keep.push) | (refine Keep.put ?_ ?_; rotate_left; (focus (intro hlt; first | assumption | exact rfl | exact .inl rfl | exact .inr rfl | omega | (exfalso; simp only [AHeap.push_next, AHeap.put_next, aadd_block] at hlt; omega)))))); done))))) (hv := by exact rfl), rv_cell (hc := by (first | assumption | (apply cells_row; (focus ((repeat' (first | assumption | (rw [aadd_block]) | (apply gN; (focus (first | exact rfl | omega | (simp only [AHeap.push_next, AHeap.put_next, aadd_block] <;> omega))); (focus exact rfl)) | (apply gO; (focus (first | omega | (simp only [AHeap.push_next, AHeap.put_next, aadd_block, ne_eq] <;> omega)))) | (apply gS; (focus (first | exact rfl | omega | (simp only [AHeap.push_next, AHeap.put_next, aadd_block] <;> omega))); (focus exact rfl)) | (apply gP; (focus (first | omega | (simp only [AHeap.push_next, AHeap.put_next, aadd_block, ne_eq] <;> omega)))) | exact rfl)); done)); (focus exact rfl); (focus exact rfl); (focus (first | exact (rfl : _ = some [_]) | exact (rfl : _ = some [_, _, _, _])))) | (apply cells_k; (focus assumption); (focus (first | assumption | (simp only [aadd_block] <;> first | assumption | omega))); (focus ((repeat' (first | exact Keep.refl | assumption | (apply Keep.push) | (refine Keep.put ?_ ?_; rotate_left; (focus (intro hlt; first | assumption | exact rfl | exact .inl rfl | exact .inr rfl | omega | (exfalso; simp only [AHeap.push_next, AHeap.put_next, aadd_block] at hlt; omega)))))); done))))) (hv := by rw [hsz]; exact rfl), rv_cell (hc := by (first | assumption | (apply cells_row; (focus ((repeat' (first | assumption | (rw [aadd_block]) | (apply gN; (focus (first | exact rfl | omega | (simp only [AHeap.push_next, AHeap.put_next, aadd_block] <;> omega))); (focus exact rfl)) | (apply gO; (focus (first | omega | (simp only [AHeap.push_next, AHeap.put_next, aadd_block, ne_eq] <;> omega)))) | (apply gS; (focus (first | exact rfl | omega | (simp only [AHeap.push_next, AHeap.put_next, aadd_block] <;> omega))); (focus exact rfl)) | (apply gP; (focus (first | omega | (simp only [AHeap.push_next, AHeap.put_next, aadd_block, ne_eq] <;> omega)))) | exact rfl)); done)); (focus exact rfl); (focus exact rfl); (focus (first | exact (rfl : _ = some [_]) | exact (rfl : _ = some [_, _, _, _])))) | (apply cells_k; (focus assumption); (focus (first | assumption | (simp only [aadd_block] <;> first | assumption | omega))); (focus ((repeat' (first | exact Keep.refl | assumption | (apply Keep.push) | (refine Keep.put ?_ ?_; rotate_left; (focus (intro hlt; first | assumption | exact rfl | exact .inl rfl | exact .inr rfl | omega | (exfalso; simp only [AHeap.push_next, AHeap.put_next, aadd_block] at hlt; omega)))))); done))))) (hv := by exact rfl), trivial⟩ ⟨rfl, by simp [flat2V, bodyV, flatV, simpleV], ?_⟩
  refine Keep.put (Keep.put (Keep.put (Keep.put kH ?_) ?_) ?_) ?_ <;> intro h <;> exfalso <;> simp only at h <;> omega
end Go.Ae

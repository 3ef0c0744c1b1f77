/- The expressions' lexer: numbers, words. No condition. -/
import Derived.Test.YtmibkoadjehdaaaGreatDoorKy20
set_option linter.unusedVariables false
set_option linter.unusedSimpArgs false
set_option linter.unusedSimpArgs false
set_option linter.unusedVariables false
set_option linter.unnecessarySimpa false
set_option maxRecDepth 100000
set_option maxHeartbeats 400000
namespace Go.Ae
open Go.Proofs
attribute [local irreducible] awC wpSeq wpS nRes aw aE acall ACalls szT isAggT zeroT byT elemSz fieldOff Program.underlying appendA copyA thenA inBlockA bodyA AHeap.push AHeap.put AHeap.cellsAt AHeap.setCells resV loadA intBin EW EC EX Nr Nc Er Cr Agree
def tbl168 : Tbl := [(1, [0, 1, 2, 3, 4, 5, 6, 7, 8, 9, 10, 11, 12, 13, 14, 15, 16, 17, 18, 19, 20, 21, 22, 23, 24, 25, 26, 27, 28, 29, 30, 31, 32, 33], [0, 1, 3, 7, 0, 16, 48, 112, 240, 511, 1023, 2047, 4095, 8191, 16383, 2047, 34815, 100351, 231423, 524287, 1048575, 2097151, 4194303, 8388607, 16777215, 33554431, 67108863, 8388607, 142606335, 411041791, 947912703, 2147483647, 4294967295, 8589934591]), (2, [0, 1, 2, 3, 4, 5, 6, 7, 8, 9, 10, 11], [0, 1, 3, 7, 0, 16, 48, 112, 255, 511, 1023, 2047])]
def tbl169 : Tbl := [(1, [0, 1, 2, 3, 4, 5, 6, 7, 8, 9, 10, 11, 12, 13, 14, 15, 16, 17, 18, 19, 20, 21, 22, 23, 24, 25, 26, 27, 28, 29, 30, 31, 32, 33], [0, 1, 3, 7, 0, 16, 48, 112, 240, 511, 1023, 2047, 4095, 8191, 16383, 2047, 34815, 100351, 231423, 524287, 1048575, 2097151, 4194303, 8388607, 16777215, 33554431, 67108863, 8388607, 142606335, 411041791, 947912703, 2147483647, 4294967295, 8589934591]), (3, [0, 1, 2, 3, 4, 5, 6, 7, 8, 9, 10, 11, 12, 13, 14, 15, 16], [0, 0, 2, 6, 14, 0, 32, 96, 224, 0, 512, 1536, 3584, 8190, 16383, 32767, 65535])]
/-- The parser's row; a token's. -/
abbrev rowP (s : List UInt8) (a : Nat) (k ta : Int) (tx : List UInt8) (nm : Int) (hv : Bool) (op : Int) : Row := ⟨[.string (strB s), .int .i64 (a : Int), .int .i64 k, .int .i64 ta, .string (strB tx), .int .i64 nm, .bool hv, .int .i64 op], 188, 0, true⟩
abbrev rowT (k ta : Int) (tx : List UInt8) (nm : Int) : Row := ⟨[.int .i64 k, .int .i64 ta, .string (strB tx), .int .i64 nm], 186, 0, true⟩
/-- What digits mean. -/
def digV (ds : List UInt8) : Nat := ds.foldl (fun n d => 10 * n + (d.toNat - 48)) 0
def isDig (c : UInt8) : Prop := 48 ≤ c.toNat ∧ c.toNat ≤ 57
theorem digV_snoc (ds : List UInt8) (d : UInt8) : digV (ds ++ [d]) = 10 * digV ds + (d.toNat - 48) := by simp [digV]
theorem digV_le (ds es : List UInt8) : digV ds ≤ digV (ds ++ es) := by
  have key : ∀ (es : List UInt8) (n : Nat), n ≤ es.foldl (fun n d => 10 * n + (d.toNat - 48)) n := by
    intro es
    induction es with
    | nil => intro n; exact Nat.le_refl _
    | cons e es ih => intro n; exact Nat.le_trans (show n ≤ 10 * n + (e.toNat - 48) by omega) (ih _)
  unfold digV
  rw [List.foldl_append]
  exact key _ _
theorem digV_take {ds : List UInt8} {i : Nat} (hi : i < ds.length) : digV (ds.take (i + 1)) = 10 * digV (ds.take i) + (ds[i].toNat - 48) := by
  rw [List.take_succ_eq_append_getElem hi, digV_snoc]
theorem digV_take_le (ds : List UInt8) (i : Nat) : digV (ds.take i) ≤ digV ds := by
  have := digV_le (ds.take i) (ds.drop i)
  rwa [List.take_append_drop] at this
theorem mid_get {pre ds rest : List UInt8} {i : Nat} (hi : i < ds.length) : (pre ++ (ds ++ rest))[pre.length + i]? = some ds[i] := by
  rw [List.getElem?_append_right (by omega), List.getElem?_append_left (by omega), Nat.add_sub_cancel_left, List.getElem?_eq_getElem hi]
theorem mid_end {pre ds rest : List UInt8} : (pre ++ (ds ++ rest))[pre.length + ds.length]? = rest.head? := by
  rw [List.getElem?_append_right (by omega), List.getElem?_append_right (by omega), show pre.length + ds.length - pre.length - ds.length = 0 by omega]
  cases rest <;> rfl
/-- The next byte, if there is one, isn't such. -/
def Ends (Q : UInt8 → Prop) : List UInt8 → Prop
  | [] => True
  | c :: _ => ¬ Q c
def NuI (H0 : AHeap) (p t : Nat) (s : List UInt8) (a : Nat) (k ta : Int) (tx : List UInt8) (nm : Int) (hv : Bool) (op : Int) (ta' : Int) (ds : List UInt8) (n : Nat) (E : Env) (H : AHeap) : Prop :=
  Keep (fun i => i = p ∨ i = t) H0 H ∧ ∃ i : Nat, n = ds.length - i ∧ i ≤ ds.length ∧ H.get p = some (.row (rowP s (a + i) k ta tx nm hv op)) ∧ H.get t = some (.row (rowT 1 ta' [] (digV (ds.take i)))) ∧ p < H.next ∧ t < H.next ∧
    E = [(0, .pointer (some ⟨p, 0, none⟩)), (1, .pointer (some ⟨t, 0, none⟩))]
theorem number_calls {H : AHeap} {p t : Nat} {s pre ds rest : List UInt8} {k ta : Int} {tx : List UInt8} {nm : Int} {hv : Bool} {op ta' : Int} (hs : s = pre ++ (ds ++ rest)) (hd : ∀ c ∈ ds, isDig c) (hr : Ends isDig rest) (hv2 : digV ds < 9223372036854775807) (hls : s.length < 1000000)
    (hp : H.get p = some (.row (rowP s pre.length k ta tx nm hv op))) (ht : H.get t = some (.row (rowT 0 ta' [] 0))) (hpn : p < H.next) (htn : t < H.next) (hpt : p ≠ t) :
    ACalls Tryz.prog 168 #[.pointer (some ⟨p, 0, none⟩), .pointer (some ⟨t, 0, none⟩)] H fun v H' => v = .tuple #[] ∧ Keep (fun i => i = p ∨ i = t) H H' ∧ H'.get p = some (.row (rowP s (pre.length + ds.length) k ta tx nm hv op)) ∧ H'.get t = some (.row (rowT 1 ta' [] (digV ds))) := by
  refine k_open (args := [.pointer (some ⟨p, 0, none⟩), .pointer (some ⟨t, 0, none⟩)]) (E0 := [(0, .pointer (some ⟨p, 0, none⟩)), (1, .pointer (some ⟨t, 0, none⟩))]) tbl168 Tryz.func168 rfl follows (by kernel_rfl) Tryz.ntmps168 rfl rfl ?_
  repeat' (first
    | (show EW _ _ _ _ _; first | refine ew_p (h := ?_) | refine ew_skip (h := ?_) | refine ew_ld (h := ?_) | refine ew_ci (h := ?_) | refine ew_conv (hn := r_conv_br (h := by first | assumption | (apply Rd.keep0; (focus assumption); exact kp))) (h := ?_) | refine ew_st (h := ?_) | (refine ew_df (ht := ?_) (hf := ?_) <;> intro _) | refine ew_ar (h := ?_) | refine w_nil ?_ | refine w_nilD ?_)
    | (show EC _ _ _ _ _ _ _; first | refine k_seq ?_ | refine k_region ?_ | refine k_draw (h := ?_) | refine k_skip ?_ | refine k_ret ?_ | refine k_exit ?_ | refine k_block ?_ | refine k_true (h := ?_) | refine k_false (h := ?_))
    | (show EX _ (bodyA _ _ _) _ _ _; first | refine x_end0 (hq := ?_))
    | (show EX _ _ _ _ _; first | refine x_normal ?_ | refine x_ret ?_ | refine x_exit ?_ | refine x_same ?_ | refine x_other (h := ?_) | refine x_bnormal ?_ | refine x_bret ?_))
  have hsz := strB_size s
  refine k_loop follows (NuI H p t s pre.length k ta tx nm hv op ta' ds) (ds.length - 0) [(0, _), (1, _)] (by kernel_rfl) ⟨rfl, rfl, trivial⟩ ⟨by exact kp, 0, rfl, by omega, by exact rdx, by exact rdx, by simpa using hpn, by simpa using htn, rfl⟩ ?_
  rintro n E H1 ⟨hk, i, rfl, hi, hp1, ht1, hpn1, htn1, rfl⟩
  have hsl : s.length = pre.length + ds.length + rest.length := by rw [hs]; simp; omega
  by_cases hlt : i < ds.length
  · have hc : s[pre.length + i]? = some ds[i] := by rw [hs]; exact mid_get hlt
    obtain ⟨h1, h2⟩ := hd _ (List.getElem_mem hlt)
    have hv3 := digV_take hlt
    have hv4 := digV_take_le ds (i + 1)
    generalize ds[i] = c at hc h1 h2 hv3
    repeat' (first
    | (show EW _ _ _ _ _; first | refine ew_p (h := ?_) | refine ew_skip (h := ?_) | refine ew_ld (h := ?_) | refine ew_ci (h := ?_) | refine ew_conv (hn := r_conv_br (h := by first | assumption | (apply Rd.keep0; (focus assumption); exact kp))) (h := ?_) | refine ew_st (h := ?_) | (refine ew_df (ht := ?_) (hf := ?_) <;> intro _) | refine ew_ar (h := ?_) | refine ew_p2 (h := ?_) | (refine ew_df2 (ht := ?_) (hf := ?_) <;> intro _) | refine w_nil ?_ | refine w_nilD ?_)
    | (show EC _ _ _ _ _ _ _; first | refine k_seq ?_ | refine k_region ?_ | refine k_draw (h := ?_) | refine k_skip ?_ | refine k_ret ?_ | refine k_exit ?_ | refine k_block ?_ | refine k_true (h := ?_) | refine k_false (h := ?_))
    | (show EX _ (bodyA _ _ _) _ _ _; first | refine x_end0 (hq := ?_))
    | (show EX _ _ _ _ _; first | refine x_normal ?_ | refine x_ret ?_ | refine x_exit ?_ | refine x_same ?_ | refine x_other (h := ?_) | refine x_bnormal ?_ | refine x_bret ?_))
    have e1 : (((pre.length + (i + 1) : Nat) : Int)) = ((pre.length + i : Nat) : Int) + 1 := by omega
    have e2 : ((digV (ds.take (i + 1)) : Nat) : Int) = 10 * (digV (ds.take i) : Int) + ((c.toNat : Int) - 48) := by omega
    refine x_again (ds.length - (i + 1)) [(0, _), (1, _)] ⟨rfl, rfl, trivial⟩ (by omega) ⟨?_, i + 1, rfl, by omega, ?_, ?_, ?_, ?_, rfl⟩
    · refine hk.trans (by exact kp) fun _ _ h => h
    · unfold rowP; rw [e1]; exact rdx
    · rw [e2]; exact rdx
    · simpa using hpn1
    · simpa using htn1
  · obtain rfl : i = ds.length := by omega
    rw [List.take_length] at ht1
    have hc : s[pre.length + ds.length]? = rest.head? := by rw [hs]; exact mid_end
    cases rest with
    | nil =>
      have hl : s.length = pre.length + ds.length := by simpa using hsl
      repeat' (first
    | (show EW _ _ _ _ _; first | refine ew_p (h := ?_) | refine ew_skip (h := ?_) | refine ew_ld (h := ?_) | refine ew_ci (h := ?_) | refine ew_conv (hn := r_conv_br (h := by first | assumption | (apply Rd.keep0; (focus assumption); exact kp))) (h := ?_) | refine ew_st (h := ?_) | (refine ew_df (ht := ?_) (hf := ?_) <;> intro _) | refine ew_ar (h := ?_) | refine ew_p2 (h := ?_) | (refine ew_df2 (ht := ?_) (hf := ?_) <;> intro _) | refine w_nil ?_ | refine w_nilD ?_)
    | (show EC _ _ _ _ _ _ _; first | refine k_seq ?_ | refine k_region ?_ | refine k_draw (h := ?_) | refine k_skip ?_ | refine k_ret ?_ | refine k_exit ?_ | refine k_block ?_ | refine k_true (h := ?_) | refine k_false (h := ?_))
    | (show EX _ (bodyA _ _ _) _ _ _; first | refine x_end0 (hq := ?_))
    | (show EX _ _ _ _ _; first | refine x_normal ?_ | refine x_ret ?_ | refine x_exit ?_ | refine x_same ?_ | refine x_other (h := ?_) | refine x_bnormal ?_ | refine x_bret ?_))
      exact ⟨rfl, hk, hp1, ht1⟩
    | cons c rest =>
      have hc' : s[pre.length + ds.length]? = some c := hc
      have hl : s.length = pre.length + ds.length + (rest.length + 1) := by simpa using hsl
      have hnd : ¬ (48 ≤ c.toNat ∧ c.toNat ≤ 57) := hr
      repeat' (first
    | (show EW _ _ _ _ _; first | refine ew_p (h := ?_) | refine ew_skip (h := ?_) | refine ew_ld (h := ?_) | refine ew_ci (h := ?_) | refine ew_conv (hn := r_conv_br (h := by first | assumption | (apply Rd.keep0; (focus assumption); exact kp))) (h := ?_) | refine ew_st (h := ?_) | (refine ew_df (ht := ?_) (hf := ?_) <;> intro _) | refine ew_ar (h := ?_) | refine ew_p2 (h := ?_) | (refine ew_df2 (ht := ?_) (hf := ?_) <;> intro _) | refine w_nil ?_ | refine w_nilD ?_)
    | (show EC _ _ _ _ _ _ _; first | refine k_seq ?_ | refine k_region ?_ | refine k_draw (h := ?_) | refine k_skip ?_ | refine k_ret ?_ | refine k_exit ?_ | refine k_block ?_ | refine k_true (h := ?_) | refine k_false (h := ?_))
    | (show EX _ (bodyA _ _ _) _ _ _; first | refine x_end0 (hq := ?_))
    | (show EX _ _ _ _ _; first | refine x_normal ?_ | refine x_ret ?_ | refine x_exit ?_ | refine x_same ?_ | refine x_other (h := ?_) | refine x_bnormal ?_ | refine x_bret ?_))
      all_goals (first | (exact ⟨rfl, hk, hp1, ht1⟩) | (exfalso; omega) | trace_state)
/-! words -/
theorem r_strsl' {P : Program} {N : Nat} {E : Env} {H : AHeap} {d : Nat} {t ty : TypeId} {p : String} {af : Array Edge} {g : Option (Nat × Bool)} {x : Operand} {bs r : List UInt8} {lo hi : Option Operand} {lv hv : Option Value} {l h : Nat} [un : UnT P t .string] (hr : (bs.drop l).take (h - l) = r)
    (h1 : (lv = none ∧ l = 0) ∨ ∃ k, lv = some (.int k (l : Int))) (h2 : (hv = none ∧ h = bs.length) ∨ ∃ k, hv = some (.int k (h : Int))) (h3 : l ≤ h) (h4 : h ≤ bs.length)
    (hx : evE E x = some (.string (strB bs)) := by exact rfl) (hl : evO E lo = some lv := by exact rfl) (hh : evO E hi = some hv := by exact rfl) :
    Nr P N E H ⟨some d, .slice t x lo hi none, ty, p, af, g⟩ (.string (strB r)) H := by subst hr; exact r_strsl hx hl hh h1 h2 h3 h4
def wordsL : List (List UInt8) := [[107, 101, 121], [118, 97, 108], [97, 99, 99], [104, 111, 112, 115], [110, 111, 110, 101], [105, 102], [116, 104, 101, 110], [101, 108, 115, 101], [97, 110, 100], [111, 114], [110, 111, 116]]
def isLet (c : UInt8) : Prop := 97 ≤ c.toNat ∧ c.toNat ≤ 122
theorem words_ix {i : Nat} (hi : i < 11) : indexA Tryz.prog 382 (.agg (strV wordsL).toArray) (.int .i64 (i : Int)) = some (.string (strB wordsL[i])) := by
  have hl : (strV wordsL).length = 11 := rfl
  have h0 : (0 : Int) ≤ (i : Int) ∧ (i : Int) < ((11 : Nat) : Int) := ⟨by omega, by omega⟩
  simp only [indexA, Tryz.underlying382, sz9, if_pos h0, apart, ag9, Int.toNat_natCast, Nat.mul_one]
  simp [strV, List.getElem?_eq_getElem (show i < wordsL.length from hi)]
  rfl
theorem words_nodup : ∀ i j : Fin 11, wordsL[i.val] = wordsL[j.val] → i = j := by decide
def WoI (H0 : AHeap) (p t : Nat) (s : List UInt8) (a : Nat) (k ta : Int) (tx : List UInt8) (nm : Int) (hv : Bool) (op : Int) (ta' : Int) (ds : List UInt8) (n : Nat) (E : Env) (H : AHeap) : Prop :=
  Keep (fun i => i = p ∨ i = t) H0 H ∧ ∃ i : Nat, n = ds.length - i ∧ i ≤ ds.length ∧ H.get p = some (.row (rowP s (a + i) k ta tx nm hv op)) ∧ H.get t = some (.row (rowT 2 ta' [] 0)) ∧ p < H.next ∧ t < H.next ∧
    E = [(0, .pointer (some ⟨p, 0, none⟩)), (1, .pointer (some ⟨t, 0, none⟩))]
def W2I (H0 : AHeap) (t j : Nat) (n : Nat) (E : Env) (H : AHeap) : Prop :=
  H0 = H ∧ ∃ i : Nat, i ≤ j ∧ n = j - i ∧ E = [(69, .int .i64 i), (68, .agg (strV wordsL).toArray), (1, .pointer (some ⟨t, 0, none⟩))]
theorem wordL_calls {H : AHeap} {p t j : Nat} {s pre rest : List UInt8} {k ta : Int} {tx : List UInt8} {nm : Int} {hv : Bool} {op : Int} (hj : j < 11) (hs : s = pre ++ (wordsL[j] ++ rest)) (hr : Ends isLet rest) (hls : s.length < 1000000)
    (hw : H.get 5 = some (.row ⟨strV wordsL, 382, 0, false⟩)) (h5 : 5 < H.next ∧ p ≠ 5 ∧ t ≠ 5)
    (hp : H.get p = some (.row (rowP s pre.length k ta tx nm hv op))) (ht : H.get t = some (.row (rowT 0 pre.length [] 0))) (hpn : p < H.next) (htn : t < H.next) (hpt : p ≠ t) :
    ACalls Tryz.prog 169 #[.pointer (some ⟨p, 0, none⟩), .pointer (some ⟨t, 0, none⟩)] H fun v H' => v = .tuple #[] ∧ Keep (fun i => i = p ∨ i = t) H H' ∧ H'.get p = some (.row (rowP s (pre.length + wordsL[j].length) k ta tx nm hv op)) ∧ H'.get t = some (.row (rowT 2 pre.length wordsL[j] 0)) := by
  have hd : ∀ c ∈ wordsL[j], isLet c := by
    have : ∀ j : Fin 11, ∀ c ∈ wordsL[j.val], 97 ≤ c.toNat ∧ c.toNat ≤ 122 := by decide
    exact this ⟨j, hj⟩
  obtain ⟨ds, hds⟩ : ∃ ds, ds = wordsL[j] := ⟨_, rfl⟩
  rw [← hds] at hs hd ⊢
  refine k_open (args := [.pointer (some ⟨p, 0, none⟩), .pointer (some ⟨t, 0, none⟩)]) (E0 := [(0, .pointer (some ⟨p, 0, none⟩)), (1, .pointer (some ⟨t, 0, none⟩))]) tbl169 Tryz.func169 rfl follows (by kernel_rfl) Tryz.ntmps169 rfl rfl ?_
  repeat' (first
    | (show EW _ _ _ _ _; first | refine ew_p (h := ?_) | refine ew_skip (h := ?_) | refine ew_ld (h := ?_) | (refine ew_fresh ?_; intro b hb; refine ew_nw hb (h := ?_); (try simp only [AHeap.push_next, AHeap.put_next] at hb)) | refine ew_st (h := ?_) | (refine ew_df (ht := ?_) (hf := ?_) <;> intro _) | refine ew_ar (h := ?_) | refine w_nil ?_ | refine w_nilD ?_)
    | (show EC _ _ _ _ _ _ _; first | refine k_seq ?_ | refine k_region ?_ | refine k_draw (h := ?_) | refine k_skip ?_ | refine k_ret ?_ | refine k_exit ?_ | refine k_block ?_ | refine k_true (h := ?_) | refine k_false (h := ?_))
    | (show EX _ (bodyA _ _ _) _ _ _; first | refine x_end0 (hq := ?_))
    | (show EX _ _ _ _ _; first | refine x_normal ?_ | refine x_ret ?_ | refine x_exit ?_ | refine x_same ?_ | refine x_other (h := ?_) | refine x_bnormal ?_ | refine x_bret ?_))
  have hsz := strB_size s
  refine k_loop follows (WoI H p t s pre.length k ta tx nm hv op pre.length ds) (ds.length - 0) [(0, _), (1, _)] (by kernel_rfl) ⟨rfl, rfl, trivial⟩ ⟨by exact kp, 0, rfl, by omega, by exact rdx, by exact rdx, by simpa using hpn, by simpa using htn, rfl⟩ ?_
  rintro n E H1 ⟨hk, i, rfl, hi, hp1, ht1, hpn1, htn1, rfl⟩
  have hsl : s.length = pre.length + ds.length + rest.length := by rw [hs]; simp; omega
  by_cases hlt : i < ds.length
  · have hc : s[pre.length + i]? = some ds[i] := by rw [hs]; exact mid_get hlt
    obtain ⟨h1, h2⟩ := hd _ (List.getElem_mem hlt)
    generalize ds[i] = c at hc h1 h2
    repeat' (first
    | (show EW _ _ _ _ _; first | refine ew_p (h := ?_) | refine ew_skip (h := ?_) | refine ew_ld (h := ?_) | (refine ew_fresh ?_; intro b hb; refine ew_nw hb (h := ?_); (try simp only [AHeap.push_next, AHeap.put_next] at hb)) | refine ew_st (h := ?_) | (refine ew_df (ht := ?_) (hf := ?_) <;> intro _) | refine ew_ar (h := ?_) | refine ew_p2 (h := ?_) | (refine ew_df2 (ht := ?_) (hf := ?_) <;> intro _) | refine w_nil ?_ | refine w_nilD ?_)
    | (show EC _ _ _ _ _ _ _; first | refine k_seq ?_ | refine k_region ?_ | refine k_draw (h := ?_) | refine k_skip ?_ | refine k_ret ?_ | refine k_exit ?_ | refine k_block ?_ | refine k_true (h := ?_) | refine k_false (h := ?_))
    | (show EX _ (bodyA _ _ _) _ _ _; first | refine x_end0 (hq := ?_))
    | (show EX _ _ _ _ _; first | refine x_normal ?_ | refine x_ret ?_ | refine x_exit ?_ | refine x_same ?_ | refine x_other (h := ?_) | refine x_bnormal ?_ | refine x_bret ?_))
    have e1 : (((pre.length + (i + 1) : Nat) : Int)) = ((pre.length + i : Nat) : Int) + 1 := by omega
    refine x_again (ds.length - (i + 1)) [(0, _), (1, _)] ⟨rfl, rfl, trivial⟩ (by omega) ⟨?_, i + 1, rfl, by omega, ?_, ?_, ?_, ?_, rfl⟩
    · refine hk.trans (by exact kp) fun _ _ h => h
    · unfold rowP; rw [e1]; exact rdx
    · exact rdx
    · simpa using hpn1
    · simpa using htn1
  · obtain rfl : i = ds.length := by omega
    have hc : s[pre.length + ds.length]? = rest.head? := by rw [hs]; exact mid_end
    have hcut : (s.drop pre.length).take (pre.length + ds.length - pre.length) = ds := by rw [hs]; simp
    have hw1 : H1.get 5 = some (.row ⟨strV wordsL, 382, 0, false⟩) := hk.get hw h5.1 (by rintro (h | h) <;> omega)
    cases rest with
    | nil =>
      have hl : s.length = pre.length + ds.length := by simpa using hsl
      repeat' (first
    | (show EW _ _ _ _ _; first | refine ew_n (hn := r_strsl' hcut (.inr ⟨_, rfl⟩) (.inr ⟨_, rfl⟩) (by omega) (by omega)) (h := ?_) | refine ew_p (h := ?_) | refine ew_skip (h := ?_) | refine ew_ld (h := ?_) | (refine ew_fresh ?_; intro b hb; refine ew_nw hb (h := ?_); (try simp only [AHeap.push_next, AHeap.put_next] at hb)) | refine ew_st (h := ?_) | (refine ew_df (ht := ?_) (hf := ?_) <;> intro _) | refine ew_ar (h := ?_) | refine ew_p2 (h := ?_) | (refine ew_df2 (ht := ?_) (hf := ?_) <;> intro _) | refine w_nil ?_ | refine w_nilD ?_)
    | (show EC _ _ _ _ _ _ _; first | refine k_seq ?_ | refine k_region ?_ | refine k_draw (h := ?_) | refine k_skip ?_ | refine k_ret ?_ | refine k_exit ?_ | refine k_block ?_ | refine k_true (h := ?_) | refine k_false (h := ?_))
    | (show EX _ (bodyA _ _ _) _ _ _; first | refine x_end0 (hq := ?_))
    | (show EX _ _ _ _ _; first | refine x_normal ?_ | refine x_ret ?_ | refine x_exit ?_ | refine x_same ?_ | refine x_other (h := ?_) | refine x_bnormal ?_ | refine x_bret ?_))
      refine k_loop follows (W2I _ t j) (j - 0) [(69, _), (68, _), (1, _)] (by kernel_rfl) ⟨rfl, rfl, rfl, trivial⟩ ⟨rfl, 0, by omega, rfl, rfl⟩ ?_
      rintro n E _ ⟨rfl, i, hij, rfl, rfl⟩
      have hi11 : i < wordsL.length := by show i < 11; omega
      by_cases hlt2 : i < j
      · have hne : wordsL[i] ≠ ds := by
          intro he
          have := words_nodup ⟨i, by omega⟩ ⟨j, hj⟩ (he.trans hds)
          simp only [Fin.mk.injEq] at this
          omega
        repeat' (first
    | (show EW _ _ _ _ _; first | refine ew_n (hn := r_ix (h := words_ix (by omega))) (h := ?_) | refine ew_p (h := ?_) | refine ew_skip (h := ?_) | refine ew_ld (h := ?_) | (refine ew_fresh ?_; intro b hb; refine ew_nw hb (h := ?_); (try simp only [AHeap.push_next, AHeap.put_next] at hb)) | refine ew_st (h := ?_) | (refine ew_df (ht := ?_) (hf := ?_) <;> intro _) | refine ew_ar (h := ?_) | refine w_nil ?_ | refine w_nilD ?_)
    | (show EC _ _ _ _ _ _ _; first | refine k_seq ?_ | refine k_region ?_ | refine k_draw (h := ?_) | refine k_skip ?_ | refine k_ret ?_ | refine k_exit ?_ | refine k_block ?_ | refine k_true (h := ?_) | refine k_false (h := ?_))
    | (show EX _ (bodyA _ _ _) _ _ _; first | refine x_end0 (hq := ?_))
    | (show EX _ _ _ _ _; first | refine x_normal ?_ | refine x_ret ?_ | refine x_exit ?_ | refine x_same ?_ | refine x_other (h := ?_) | refine x_bnormal ?_ | refine x_bret ?_))
        · exact absurd ‹_› hne
        · refine x_again (j - (i + 1)) [(69, _), (68, _), (1, _)] ⟨rfl, rfl, rfl, trivial⟩ (by omega) ⟨rfl, i + 1, by omega, rfl, rfl⟩
      · obtain rfl : i = j := by omega
        have heq : wordsL[i] = ds := hds.symm
        repeat' (first
    | (show EW _ _ _ _ _; first | refine ew_n (hn := r_ix (h := words_ix (by omega))) (h := ?_) | refine ew_p (h := ?_) | refine ew_skip (h := ?_) | refine ew_ld (h := ?_) | (refine ew_fresh ?_; intro b hb; refine ew_nw hb (h := ?_); (try simp only [AHeap.push_next, AHeap.put_next] at hb)) | refine ew_st (h := ?_) | (refine ew_df (ht := ?_) (hf := ?_) <;> intro _) | refine ew_ar (h := ?_) | refine w_nil ?_ | refine w_nilD ?_)
    | (show EC _ _ _ _ _ _ _; first | refine k_seq ?_ | refine k_region ?_ | refine k_draw (h := ?_) | refine k_skip ?_ | refine k_ret ?_ | refine k_exit ?_ | refine k_block ?_ | refine k_true (h := ?_) | refine k_false (h := ?_))
    | (show EX _ (bodyA _ _ _) _ _ _; first | refine x_end0 (hq := ?_))
    | (show EX _ _ _ _ _; first | refine x_normal ?_ | refine x_ret ?_ | refine x_exit ?_ | refine x_same ?_ | refine x_other (h := ?_) | refine x_bnormal ?_ | refine x_bret ?_))
        · refine ⟨rfl, hk.trans (by exact kp) fun _ _ h => h, by exact rdx, by exact rdx⟩
        · exact absurd heq ‹_›
    | cons c rest =>
      have hc' : s[pre.length + ds.length]? = some c := hc
      have hl : s.length = pre.length + ds.length + (rest.length + 1) := by simpa using hsl
      have hnd : ¬ (97 ≤ c.toNat ∧ c.toNat ≤ 122) := hr
      by_cases hlo : 97 ≤ c.toNat
      · have hhi : ¬ c.toNat ≤ 122 := by omega
        repeat' (first
    | (show EW _ _ _ _ _; first | refine ew_n (hn := r_strsl' hcut (.inr ⟨_, rfl⟩) (.inr ⟨_, rfl⟩) (by omega) (by omega)) (h := ?_) | refine ew_p (h := ?_) | refine ew_skip (h := ?_) | refine ew_ld (h := ?_) | (refine ew_fresh ?_; intro b hb; refine ew_nw hb (h := ?_); (try simp only [AHeap.push_next, AHeap.put_next] at hb)) | refine ew_st (h := ?_) | (refine ew_df (ht := ?_) (hf := ?_) <;> intro _) | refine ew_ar (h := ?_) | refine ew_p2 (h := ?_) | (refine ew_df2 (ht := ?_) (hf := ?_) <;> intro _) | refine w_nil ?_ | refine w_nilD ?_)
    | (show EC _ _ _ _ _ _ _; first | refine k_seq ?_ | refine k_region ?_ | refine k_draw (h := ?_) | refine k_skip ?_ | refine k_ret ?_ | refine k_exit ?_ | refine k_block ?_ | refine k_true (h := ?_) | refine k_false (h := ?_))
    | (show EX _ (bodyA _ _ _) _ _ _; first | refine x_end0 (hq := ?_))
    | (show EX _ _ _ _ _; first | refine x_normal ?_ | refine x_ret ?_ | refine x_exit ?_ | refine x_same ?_ | refine x_other (h := ?_) | refine x_bnormal ?_ | refine x_bret ?_))
        refine k_loop follows (W2I _ t j) (j - 0) [(69, _), (68, _), (1, _)] (by kernel_rfl) ⟨rfl, rfl, rfl, trivial⟩ ⟨rfl, 0, by omega, rfl, rfl⟩ ?_
        rintro n E _ ⟨rfl, i, hij, rfl, rfl⟩
        have hi11 : i < wordsL.length := by show i < 11; omega
        by_cases hlt2 : i < j
        · have hne : wordsL[i] ≠ ds := by
            intro he
            have := words_nodup ⟨i, by omega⟩ ⟨j, hj⟩ (he.trans hds)
            simp only [Fin.mk.injEq] at this
            omega
          repeat' (first
    | (show EW _ _ _ _ _; first | refine ew_n (hn := r_ix (h := words_ix (by omega))) (h := ?_) | refine ew_p (h := ?_) | refine ew_skip (h := ?_) | refine ew_ld (h := ?_) | (refine ew_fresh ?_; intro b hb; refine ew_nw hb (h := ?_); (try simp only [AHeap.push_next, AHeap.put_next] at hb)) | refine ew_st (h := ?_) | (refine ew_df (ht := ?_) (hf := ?_) <;> intro _) | refine ew_ar (h := ?_) | refine w_nil ?_ | refine w_nilD ?_)
    | (show EC _ _ _ _ _ _ _; first | refine k_seq ?_ | refine k_region ?_ | refine k_draw (h := ?_) | refine k_skip ?_ | refine k_ret ?_ | refine k_exit ?_ | refine k_block ?_ | refine k_true (h := ?_) | refine k_false (h := ?_))
    | (show EX _ (bodyA _ _ _) _ _ _; first | refine x_end0 (hq := ?_))
    | (show EX _ _ _ _ _; first | refine x_normal ?_ | refine x_ret ?_ | refine x_exit ?_ | refine x_same ?_ | refine x_other (h := ?_) | refine x_bnormal ?_ | refine x_bret ?_))
          · exact absurd ‹_› hne
          · refine x_again (j - (i + 1)) [(69, _), (68, _), (1, _)] ⟨rfl, rfl, rfl, trivial⟩ (by omega) ⟨rfl, i + 1, by omega, rfl, rfl⟩
        · obtain rfl : i = j := by omega
          have heq : wordsL[i] = ds := hds.symm
          repeat' (first
    | (show EW _ _ _ _ _; first | refine ew_n (hn := r_ix (h := words_ix (by omega))) (h := ?_) | refine ew_p (h := ?_) | refine ew_skip (h := ?_) | refine ew_ld (h := ?_) | (refine ew_fresh ?_; intro b hb; refine ew_nw hb (h := ?_); (try simp only [AHeap.push_next, AHeap.put_next] at hb)) | refine ew_st (h := ?_) | (refine ew_df (ht := ?_) (hf := ?_) <;> intro _) | refine ew_ar (h := ?_) | refine w_nil ?_ | refine w_nilD ?_)
    | (show EC _ _ _ _ _ _ _; first | refine k_seq ?_ | refine k_region ?_ | refine k_draw (h := ?_) | refine k_skip ?_ | refine k_ret ?_ | refine k_exit ?_ | refine k_block ?_ | refine k_true (h := ?_) | refine k_false (h := ?_))
    | (show EX _ (bodyA _ _ _) _ _ _; first | refine x_end0 (hq := ?_))
    | (show EX _ _ _ _ _; first | refine x_normal ?_ | refine x_ret ?_ | refine x_exit ?_ | refine x_same ?_ | refine x_other (h := ?_) | refine x_bnormal ?_ | refine x_bret ?_))
          · refine ⟨rfl, hk.trans (by exact kp) fun _ _ h => h, by exact rdx, by exact rdx⟩
          · exact absurd heq ‹_›
      · repeat' (first
    | (show EW _ _ _ _ _; first | refine ew_n (hn := r_strsl' hcut (.inr ⟨_, rfl⟩) (.inr ⟨_, rfl⟩) (by omega) (by omega)) (h := ?_) | refine ew_p (h := ?_) | refine ew_skip (h := ?_) | refine ew_ld (h := ?_) | (refine ew_fresh ?_; intro b hb; refine ew_nw hb (h := ?_); (try simp only [AHeap.push_next, AHeap.put_next] at hb)) | refine ew_st (h := ?_) | (refine ew_df (ht := ?_) (hf := ?_) <;> intro _) | refine ew_ar (h := ?_) | refine ew_p2 (h := ?_) | (refine ew_df2 (ht := ?_) (hf := ?_) <;> intro _) | refine w_nil ?_ | refine w_nilD ?_)
    | (show EC _ _ _ _ _ _ _; first | refine k_seq ?_ | refine k_region ?_ | refine k_draw (h := ?_) | refine k_skip ?_ | refine k_ret ?_ | refine k_exit ?_ | refine k_block ?_ | refine k_true (h := ?_) | refine k_false (h := ?_))
    | (show EX _ (bodyA _ _ _) _ _ _; first | refine x_end0 (hq := ?_))
    | (show EX _ _ _ _ _; first | refine x_normal ?_ | refine x_ret ?_ | refine x_exit ?_ | refine x_same ?_ | refine x_other (h := ?_) | refine x_bnormal ?_ | refine x_bret ?_))
        refine k_loop follows (W2I _ t j) (j - 0) [(69, _), (68, _), (1, _)] (by kernel_rfl) ⟨rfl, rfl, rfl, trivial⟩ ⟨rfl, 0, by omega, rfl, rfl⟩ ?_
        rintro n E _ ⟨rfl, i, hij, rfl, rfl⟩
        have hi11 : i < wordsL.length := by show i < 11; omega
        by_cases hlt2 : i < j
        · have hne : wordsL[i] ≠ ds := by
            intro he
            have := words_nodup ⟨i, by omega⟩ ⟨j, hj⟩ (he.trans hds)
            simp only [Fin.mk.injEq] at this
            omega
          repeat' (first
    | (show EW _ _ _ _ _; first | refine ew_n (hn := r_ix (h := words_ix (by omega))) (h := ?_) | refine ew_p (h := ?_) | refine ew_skip (h := ?_) | refine ew_ld (h := ?_) | (refine ew_fresh ?_; intro b hb; refine ew_nw hb (h := ?_); (try simp only [AHeap.push_next, AHeap.put_next] at hb)) | refine ew_st (h := ?_) | (refine ew_df (ht := ?_) (hf := ?_) <;> intro _) | refine ew_ar (h := ?_) | refine w_nil ?_ | refine w_nilD ?_)
    | (show EC _ _ _ _ _ _ _; first | refine k_seq ?_ | refine k_region ?_ | refine k_draw (h := ?_) | refine k_skip ?_ | refine k_ret ?_ | refine k_exit ?_ | refine k_block ?_ | refine k_true (h := ?_) | refine k_false (h := ?_))
    | (show EX _ (bodyA _ _ _) _ _ _; first | refine x_end0 (hq := ?_))
    | (show EX _ _ _ _ _; first | refine x_normal ?_ | refine x_ret ?_ | refine x_exit ?_ | refine x_same ?_ | refine x_other (h := ?_) | refine x_bnormal ?_ | refine x_bret ?_))
          · exact absurd ‹_› hne
          · refine x_again (j - (i + 1)) [(69, _), (68, _), (1, _)] ⟨rfl, rfl, rfl, trivial⟩ (by omega) ⟨rfl, i + 1, by omega, rfl, rfl⟩
        · obtain rfl : i = j := by omega
          have heq : wordsL[i] = ds := hds.symm
          repeat' (first
    | (show EW _ _ _ _ _; first | refine ew_n (hn := r_ix (h := words_ix (by omega))) (h := ?_) | refine ew_p (h := ?_) | refine ew_skip (h := ?_) | refine ew_ld (h := ?_) | (refine ew_fresh ?_; intro b hb; refine ew_nw hb (h := ?_); (try simp only [AHeap.push_next, AHeap.put_next] at hb)) | refine ew_st (h := ?_) | (refine ew_df (ht := ?_) (hf := ?_) <;> intro _) | refine ew_ar (h := ?_) | refine w_nil ?_ | refine w_nilD ?_)
    | (show EC _ _ _ _ _ _ _; first | refine k_seq ?_ | refine k_region ?_ | refine k_draw (h := ?_) | refine k_skip ?_ | refine k_ret ?_ | refine k_exit ?_ | refine k_block ?_ | refine k_true (h := ?_) | refine k_false (h := ?_))
    | (show EX _ (bodyA _ _ _) _ _ _; first | refine x_end0 (hq := ?_))
    | (show EX _ _ _ _ _; first | refine x_normal ?_ | refine x_ret ?_ | refine x_exit ?_ | refine x_same ?_ | refine x_other (h := ?_) | refine x_bnormal ?_ | refine x_bret ?_))
          · refine ⟨rfl, hk.trans (by exact kp) fun _ _ h => h, by exact rdx, by exact rdx⟩
          · exact absurd heq ‹_›
end Go.Ae

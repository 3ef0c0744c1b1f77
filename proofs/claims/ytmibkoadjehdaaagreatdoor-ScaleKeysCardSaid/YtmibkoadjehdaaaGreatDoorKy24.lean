/- The expressions' lexer: texts, signs, one token. No condition. -/
import Derived.Test.YtmibkoadjehdaaaGreatDoorKy23
set_option linter.unusedVariables false
set_option linter.unusedSimpArgs false
set_option linter.unusedSimpArgs false
set_option linter.unusedVariables false
set_option linter.unnecessarySimpa false
set_option maxRecDepth 100000
set_option maxHeartbeats 400000
namespace Go.Ae
open Go.Proofs
attribute [local irreducible] awC wpSeq wpS nRes aw aE acall ACalls szT isAggT zeroT byT elemSz fieldOff Program.underlying appendA copyA thenA inBlockA bodyA AHeap.push AHeap.put AHeap.cellsAt AHeap.setCells resV loadA intBin EW EC EX Nr Nc Er Cr Agree
def tbl170 : Tbl := [(3, [0, 1, 2, 3, 4, 5, 6, 7, 8, 9], [0, 1, 3, 7, 0, 16, 48, 112, 240, 511]), (4, [0, 1, 2, 3, 4, 5, 6, 7, 8, 9], [0, 1, 3, 7, 0, 16, 48, 112, 255, 511]), (10, [0, 1, 2, 3, 4, 5, 6, 7, 8, 9, 10, 11, 12, 13], [0, 1, 3, 7, 0, 16, 48, 112, 0, 256, 768, 1792, 4095, 8191])]
def tbl132 : Tbl := [(1, [0, 1, 2, 3, 4, 5, 6, 7, 8, 9, 10, 11, 12, 13, 14, 15, 16, 17, 18, 19, 20, 21], [0, 1, 3, 7, 0, 16, 48, 112, 240, 511, 1023, 2047, 4095, 8191, 16383, 2047, 34815, 100351, 231423, 524287, 1048575, 2097151]), (4, [0, 1, 2, 3, 4, 5, 6, 7, 8, 9], [0, 1, 3, 7, 0, 16, 48, 112, 240, 511]), (6, [0, 1, 2, 3, 4, 5, 6, 7, 8, 9], [0, 1, 3, 7, 0, 16, 48, 112, 255, 511]), (11, [0, 1, 2, 3, 4, 5, 6, 7, 8, 9, 10], [0, 1, 3, 7, 0, 16, 48, 112, 255, 0, 1023])]
def tbl171 : Tbl := []
def tbl209 : Tbl := []
theorem r_strsl2 {P : Program} {N : Nat} {E : Env} {H : AHeap} {d : Nat} {t ty : TypeId} {p : String} {af : Array Edge} {g : Option (Nat × Bool)} {x : Operand} {bs r : List UInt8} {lo hi : Option Operand} {k k' : IntKind} {li ui : Int} {l h : Nat} [un : UnT P t .string]
    (hx : evE E x = some (.string (strB bs)) := by exact rfl) (hl : evO E lo = some (some (.int k li)) := by exact rfl) (hh : evO E hi = some (some (.int k' ui)) := by exact rfl) (e1 : li = (l : Int)) (e2 : ui = (h : Int)) (hr : (bs.drop l).take (h - l) = r) (h3 : l ≤ h) (h4 : h ≤ bs.length) :
    Nr P N E H ⟨some d, .slice t x lo hi none, ty, p, af, g⟩ (.string (strB r)) H := by subst e1 e2 hr; exact r_strsl hx hl hh (.inr ⟨_, rfl⟩) (.inr ⟨_, rfl⟩) h3 h4
/-- How many bytes a text's form takes, its closing quote too. -/
def scanQ : List UInt8 → Nat → Nat
  | [], _ => 0
  | c :: l, k => if c.toNat = 34 ∧ k % 2 = 0 then 1 else 1 + scanQ l (if c.toNat = 92 then k + 1 else 0)
theorem hexD_ne (n : Nat) (hn : n < 16) : (hexD n).toNat ≠ 34 ∧ (hexD n).toNat ≠ 92 ∧ 32 ≤ (hexD n).toNat ∧ (hexD n).toNat ≤ 126 := by
  have : ∀ n : Fin 16, (hexD n.val).toNat ≠ 34 ∧ (hexD n.val).toNat ≠ 92 ∧ 32 ≤ (hexD n.val).toNat ∧ (hexD n.val).toNat ≤ 126 := by decide
  exact this ⟨n, hn⟩
theorem scan_unit (c : UInt8) (l : List UInt8) (k : Nat) (hk : k % 2 = 0) : ∃ k', k' % 2 = 0 ∧ scanQ (qByte c ++ l) k = (qByte c).length + scanQ l k' := by
  have hc := c.toNat_lt
  have h92 : ((92 : UInt8)).toNat = 92 := rfl
  have h110 : ((110 : UInt8)).toNat = 110 := rfl
  have h116 : ((116 : UInt8)).toNat = 116 := rfl
  have h120 : ((120 : UInt8)).toNat = 120 := rfl
  have hk1 : ¬ (k + 1) % 2 = 0 := by omega
  unfold qByte
  split
  · rename_i h
    by_cases h1 : c.toNat = 34
    · refine ⟨0, rfl, ?_⟩
      simp [scanQ, h92, h1, hk1]; omega
    · have h2 : c.toNat = 92 := by omega
      refine ⟨k + 1 + 1, by omega, ?_⟩
      simp [scanQ, h92, h2]; omega
  · split
    · refine ⟨0, rfl, ?_⟩
      simp [scanQ, h92, h110]; omega
    · split
      · refine ⟨0, rfl, ?_⟩
        simp [scanQ, h92, h116]; omega
      · split
        · rename_i h1 h2 h3 h4
          have a1 : ¬ c.toNat = 34 := by omega
          have a2 : ¬ c.toNat = 92 := by omega
          refine ⟨0, rfl, ?_⟩
          simp [scanQ, a1, a2]
        · have x1 := hexD_ne (c.toNat / 16) (by omega)
          have x2 := hexD_ne (c.toNat % 16) (by omega)
          refine ⟨0, rfl, ?_⟩
          simp [scanQ, h92, h120, x1.1, x1.2.1, x2.1, x2.2.1]; omega
theorem scan_text : ∀ (w rest : List UInt8) (k : Nat), k % 2 = 0 → scanQ (w.flatMap qByte ++ (34 :: rest)) k = (w.flatMap qByte).length + 1
  | [], rest, k, hk => by
    have : ((34 : UInt8)).toNat = 34 := rfl
    simp [scanQ, this, hk]
  | c :: w, rest, k, hk => by
    obtain ⟨k', h1, h2⟩ := scan_unit c (w.flatMap qByte ++ (34 :: rest)) k hk
    rw [List.flatMap_cons, List.append_assoc, h2, scan_text w rest k' h1, List.length_append]
    omega
theorem quote_print (w : List UInt8) : ∀ c ∈ quoteB w, 32 ≤ c.toNat ∧ c.toNat ≤ 126 := by
  have unit : ∀ c : UInt8, ∀ d ∈ qByte c, 32 ≤ d.toNat ∧ d.toNat ≤ 126 := by
    intro c d hd
    have hc := c.toNat_lt
    have x1 := hexD_ne (c.toNat / 16) (by omega)
    have x2 := hexD_ne (c.toNat % 16) (by omega)
    unfold qByte at hd
    split at hd
    · rename_i h
      rcases List.mem_cons.1 hd with rfl | hd
      · decide
      · obtain rfl : d = c := by simpa using hd
        omega
    · split at hd
      · rcases List.mem_cons.1 hd with rfl | hd
        · decide
        · obtain rfl : d = 110 := by simpa using hd
          decide
      · split at hd
        · rcases List.mem_cons.1 hd with rfl | hd
          · decide
          · obtain rfl : d = 116 := by simpa using hd
            decide
        · split at hd
          · obtain rfl : d = c := by simpa using hd
            assumption
          · simp only [List.mem_cons, List.not_mem_nil, or_false] at hd
            rcases hd with rfl | rfl | rfl | rfl
            · decide
            · decide
            · exact x1.2.2
            · exact x2.2.2
  intro c hc
  unfold quoteB at hc
  simp only [List.mem_append, List.mem_cons, List.not_mem_nil, or_false, List.mem_flatMap] at hc
  rcases hc with (rfl | ⟨d, _, hd⟩) | rfl
  · decide
  · exact unit d c hd
  · decide
def QlI (H0 : AHeap) (p t : Nat) (s : List UInt8) (a : Nat) (k ta : Int) (tx : List UInt8) (nm : Int) (hv : Bool) (op : Int) (ta' : Int) (n0 : Nat) (n : Nat) (E : Env) (H : AHeap) : Prop :=
  Keep (fun i => i = p ∨ i = t) H0 H ∧ ∃ i j : Nat, n = n0 - i ∧ i + scanQ (s.drop (a + i)) j = n0 ∧ j ≤ i ∧ H.get p = some (.row (rowP s (a + i) k ta tx nm hv op)) ∧ H.get t = some (.row (rowT 3 ta' [] 0)) ∧ p < H.next ∧ t < H.next ∧
    E = [(0, .pointer (some ⟨p, 0, none⟩)), (1, .pointer (some ⟨t, 0, none⟩)), (4, .int .i64 (j : Int))]
def Q2I (H0 : AHeap) (p t : Nat) (w : List UInt8) (n : Nat) (E : Env) (H : AHeap) : Prop :=
  H0 = H ∧ ∃ i : Nat, i ≤ w.length ∧ n = w.length - i ∧ E = [(73, .int .i64 i), (72, .int .i64 (w.length : Int)), (6, .string (strB w)), (1, .pointer (some ⟨t, 0, none⟩))]
theorem quotedL_calls {H : AHeap} {p t : Nat} {s pre w rest : List UInt8} {k ta : Int} {tx : List UInt8} {nm : Int} {hv : Bool} {op : Int} (hs : s = pre ++ (quoteB w ++ rest)) (hw : w.length ≤ 24) (hls : s.length < 1000000)
    (hp : H.get p = some (.row (rowP s pre.length k ta tx nm hv op))) (ht : H.get t = some (.row (rowT 0 pre.length [] 0))) (hpn : p < H.next) (htn : t < H.next) (hpt : p ≠ t) :
    ACalls Tryz.prog 170 #[.pointer (some ⟨p, 0, none⟩), .pointer (some ⟨t, 0, none⟩)] H fun v H' => v = .tuple #[] ∧ Keep (fun i => i = p ∨ i = t) H H' ∧ H'.get p = some (.row (rowP s (pre.length + (quoteB w).length) k ta tx nm hv op)) ∧ H'.get t = some (.row (rowT 3 pre.length w 0)) := by
  have hsl : s.length = pre.length + (quoteB w).length + rest.length := by rw [hs]; simp; omega
  have hql : (quoteB w).length = 1 + ((w.flatMap qByte).length + 1) := by simp [quoteB]; omega
  have hsc : scanQ (s.drop (pre.length + 1)) 0 = (w.flatMap qByte).length + 1 := by
    have : s.drop (pre.length + 1) = w.flatMap qByte ++ (34 :: rest) := by rw [hs, ← List.drop_drop]; simp [quoteB]
    rw [this]
    exact scan_text w rest 0 rfl
  have hcut : (s.drop pre.length).take (pre.length + 1 + ((w.flatMap qByte).length + 1) - pre.length) = quoteB w := by
    rw [hs]
    have : pre.length + 1 + ((w.flatMap qByte).length + 1) - pre.length = (quoteB w).length := by omega
    rw [this]
    simp
  generalize hn0 : (w.flatMap qByte).length + 1 = n0 at hsc hcut hql
  have hsz := strB_size s
  have hszq := strB_size (quoteB w)
  refine k_open (args := [.pointer (some ⟨p, 0, none⟩), .pointer (some ⟨t, 0, none⟩)]) (E0 := [(0, .pointer (some ⟨p, 0, none⟩)), (1, .pointer (some ⟨t, 0, none⟩))]) tbl170 Tryz.func170 rfl follows (by kernel_rfl) Tryz.ntmps170 rfl rfl ?_
  repeat' (first
    | (show EW _ _ _ _ _; first | refine ew_p (h := ?_) | refine ew_skip (h := ?_) | refine ew_ld (h := ?_) | (refine ew_fresh ?_; intro b hb; refine ew_nw hb (h := ?_); (try simp only [AHeap.push_next, AHeap.put_next] at hb)) | refine ew_st (h := ?_) | (refine ew_df (ht := ?_) (hf := ?_) <;> intro _) | refine ew_ar (h := ?_) | refine w_nil ?_ | refine w_nilD ?_)
    | (show EC _ _ _ _ _ _ _; first | refine k_seq ?_ | refine k_region ?_ | refine k_draw (h := ?_) | refine k_skip ?_ | refine k_ret ?_ | refine k_exit ?_ | refine k_block ?_ | refine k_true (h := ?_) | refine k_false (h := ?_))
    | (show EX _ (bodyA _ _ _) _ _ _; first | refine x_end0 (hq := ?_))
    | (show EX _ _ _ _ _; first | refine x_normal ?_ | refine x_ret ?_ | refine x_exit ?_ | refine x_same ?_ | refine x_other (h := ?_) | refine x_bnormal ?_ | refine x_bret ?_))
  have e0 : ((pre.length + 1 + 0 : Nat) : Int) = (pre.length : Int) + 1 := by omega
  refine k_loop follows (QlI H p t s (pre.length + 1) k ta tx nm hv op pre.length n0) (n0 - 0) [(0, _), (1, _), (4, _)] (by kernel_rfl) ⟨rfl, rfl, rfl, trivial⟩ ⟨by exact kp, 0, 0, rfl, by simpa using hsc, by omega, by unfold rowP; rw [e0]; exact rdx, by exact rdx, by simpa using hpn, by simpa using htn, rfl⟩ ?_
  rintro n E H1 ⟨hk, i, j, rfl, hi, hji, hp1, ht1, hpn1, htn1, rfl⟩
  have hpn1' := hpn1
  by_cases hlt : pre.length + 1 + i < s.length
  · obtain ⟨c, hc0⟩ : ∃ c, c = s[pre.length + 1 + i] := ⟨_, rfl⟩
    have hc : s[pre.length + 1 + i]? = some c := by rw [hc0, List.getElem?_eq_getElem hlt]
    have hdr : s.drop (pre.length + 1 + i) = c :: s.drop (pre.length + 1 + (i + 1)) := by rw [hc0]; exact List.drop_eq_getElem_cons hlt
    rw [hdr] at hi
    have e1 : ((pre.length + 1 + (i + 1) : Nat) : Int) = ((pre.length + 1 + i : Nat) : Int) + 1 := by omega
    by_cases h34 : c.toNat = 34 ∧ j % 2 = 0
    · have hi1 : i + 1 = n0 := by simpa [scanQ, h34] using hi
      obtain ⟨c34, c2⟩ := h34
      have eN : ((pre.length + (quoteB w).length : Nat) : Int) = ((pre.length + 1 + i : Nat) : Int) + 1 := by omega
      have hj2 : (j : Int) % 2 = 0 := by omega
      repeat' (first
    | (show EW _ _ _ _ _; first | refine ew_n (hn := r_strsl2 (l := pre.length) (h := pre.length + 1 + n0) (hr := hcut) (e1 := by omega) (e2 := by omega) (h3 := by omega) (h4 := by omega)) (h := ?_) | refine ew_p (h := ?_) | refine ew_skip (h := ?_) | refine ew_ld (h := ?_) | (refine ew_fresh ?_; intro b hb; refine ew_nw hb (h := ?_); (try simp only [AHeap.push_next, AHeap.put_next] at hb)) | refine ew_st (h := ?_) | (refine ew_df (ht := ?_) (hf := ?_) <;> intro _) | refine ew_ar (h := ?_) | refine ew_p2 (h := ?_) | (refine ew_df2 (ht := ?_) (hf := ?_) <;> intro _) | refine w_nil ?_ | refine w_nilD ?_)
    | (show EC _ _ _ _ _ _ _; first | refine k_seq ?_ | refine k_region ?_ | refine k_draw (h := ?_) | refine k_skip ?_ | refine k_ret ?_ | refine k_exit ?_ | refine k_block ?_ | refine k_true (h := ?_) | refine k_false (h := ?_))
    | (show EX _ (bodyA _ _ _) _ _ _; first | refine x_end0 (hq := ?_))
    | (show EX _ _ _ _ _; first | refine x_normal ?_ | refine x_ret ?_ | refine x_exit ?_ | refine x_same ?_ | refine x_other (h := ?_) | refine x_bnormal ?_ | refine x_bret ?_))
      try rw [hszq]
      refine k_loop follows (Q2I _ p t (quoteB w)) ((quoteB w).length - 0) [(73, _), (72, _), (6, _), (1, _)] (by kernel_rfl) ⟨rfl, rfl, rfl, rfl, trivial⟩ ⟨rfl, 0, by omega, rfl, rfl⟩ ?_
      rintro n E _ ⟨rfl, i2, hi2, rfl, rfl⟩
      by_cases hlt2 : i2 < (quoteB w).length
      · obtain ⟨d1, d2⟩ := quote_print w _ (List.getElem_mem hlt2)
        have hd := List.getElem?_eq_getElem hlt2
        generalize (quoteB w)[i2] = d at hd d1 d2
        repeat' (first
    | (show EW _ _ _ _ _; first | refine ew_p (h := ?_) | refine ew_skip (h := ?_) | refine ew_ld (h := ?_) | (refine ew_fresh ?_; intro b hb; refine ew_nw hb (h := ?_); (try simp only [AHeap.push_next, AHeap.put_next] at hb)) | refine ew_st (h := ?_) | (refine ew_df (ht := ?_) (hf := ?_) <;> intro _) | refine ew_ar (h := ?_) | refine ew_p2 (h := ?_) | (refine ew_df2 (ht := ?_) (hf := ?_) <;> intro _) | refine w_nil ?_ | refine w_nilD ?_)
    | (show EC _ _ _ _ _ _ _; first | refine k_seq ?_ | refine k_region ?_ | refine k_draw (h := ?_) | refine k_skip ?_ | refine k_ret ?_ | refine k_exit ?_ | refine k_block ?_ | refine k_true (h := ?_) | refine k_false (h := ?_))
    | (show EX _ (bodyA _ _ _) _ _ _; first | refine x_end0 (hq := ?_))
    | (show EX _ _ _ _ _; first | refine x_normal ?_ | refine x_ret ?_ | refine x_exit ?_ | refine x_same ?_ | refine x_other (h := ?_) | refine x_bnormal ?_ | refine x_bret ?_))
        exact x_again ((quoteB w).length - (i2 + 1)) [(73, _), (72, _), (6, _), (1, _)] ⟨rfl, rfl, rfl, rfl, trivial⟩ (by omega) ⟨rfl, i2 + 1, by omega, rfl, rfl⟩
      · obtain rfl : i2 = (quoteB w).length := by omega
        repeat' (first
    | (show EW _ _ _ _ _; first | refine ew_p (h := ?_) | refine ew_skip (h := ?_) | refine ew_ld (h := ?_) | (refine ew_fresh ?_; intro b hb; refine ew_nw hb (h := ?_); (try simp only [AHeap.push_next, AHeap.put_next] at hb)) | refine ew_st (h := ?_) | (refine ew_df (ht := ?_) (hf := ?_) <;> intro _) | refine ew_ar (h := ?_) | (refine ew_callS (hc := cr_call) (hR := vparse_calls hw) (h := ?_); rintro _ _ ⟨rfl, rfl⟩) | refine w_nil ?_ | refine w_nilD ?_)
    | (show EC _ _ _ _ _ _ _; first | refine k_seq ?_ | refine k_region ?_ | refine k_draw (h := ?_) | refine k_skip ?_ | refine k_ret ?_ | refine k_exit ?_ | refine k_block ?_ | refine k_true (h := ?_) | refine k_false (h := ?_))
    | (show EX _ (bodyA _ _ _) _ _ _; first | refine x_end0 (hq := ?_))
    | (show EX _ _ _ _ _; first | refine x_normal ?_ | refine x_ret ?_ | refine x_exit ?_ | refine x_same ?_ | refine x_other (h := ?_) | refine x_bnormal ?_ | refine x_bret ?_))
        exact ⟨rfl, hk.trans (by exact kp) fun _ _ h => h, by unfold rowP; rw [eN]; exact rdx, by exact rdx⟩
    · have hi1 : i + (1 + scanQ (s.drop (pre.length + 1 + (i + 1))) (if c.toNat = 92 then j + 1 else 0)) = n0 := by simpa [scanQ, h34] using hi
      by_cases h92 : c.toNat = 92
      · rw [if_pos h92] at hi1
        repeat' (first
    | (show EW _ _ _ _ _; first | refine ew_p (h := ?_) | refine ew_skip (h := ?_) | refine ew_ld (h := ?_) | (refine ew_fresh ?_; intro b hb; refine ew_nw hb (h := ?_); (try simp only [AHeap.push_next, AHeap.put_next] at hb)) | refine ew_st (h := ?_) | (refine ew_df (ht := ?_) (hf := ?_) <;> intro _) | refine ew_ar (h := ?_) | refine ew_p2 (h := ?_) | (refine ew_df2 (ht := ?_) (hf := ?_) <;> intro _) | refine w_nil ?_ | refine w_nilD ?_)
    | (show EC _ _ _ _ _ _ _; first | refine k_seq ?_ | refine k_region ?_ | refine k_draw (h := ?_) | refine k_skip ?_ | refine k_ret ?_ | refine k_exit ?_ | refine k_block ?_ | refine k_true (h := ?_) | refine k_false (h := ?_))
    | (show EX _ (bodyA _ _ _) _ _ _; first | refine x_end0 (hq := ?_))
    | (show EX _ _ _ _ _; first | refine x_normal ?_ | refine x_ret ?_ | refine x_exit ?_ | refine x_same ?_ | refine x_other (h := ?_) | refine x_bnormal ?_ | refine x_bret ?_))
        exact x_again (n0 - (i + 1)) [(0, _), (1, _), (4, _)] ⟨rfl, rfl, rfl, trivial⟩ (by omega) ⟨hk.trans (by exact kp) fun _ _ h => h, i + 1, j + 1, rfl, by omega, by omega, by unfold rowP; rw [e1]; exact rdx, by exact rdx, by simpa using hpn1, by simpa using htn1, rfl⟩
      · rw [if_neg h92] at hi1
        by_cases hq : c.toNat = 34
        · have hj2 : (j : Int) % 2 = 1 := by omega
          repeat' (first
    | (show EW _ _ _ _ _; first | refine ew_p (h := ?_) | refine ew_skip (h := ?_) | refine ew_ld (h := ?_) | (refine ew_fresh ?_; intro b hb; refine ew_nw hb (h := ?_); (try simp only [AHeap.push_next, AHeap.put_next] at hb)) | refine ew_st (h := ?_) | (refine ew_df (ht := ?_) (hf := ?_) <;> intro _) | refine ew_ar (h := ?_) | refine ew_p2 (h := ?_) | (refine ew_df2 (ht := ?_) (hf := ?_) <;> intro _) | refine w_nil ?_ | refine w_nilD ?_)
    | (show EC _ _ _ _ _ _ _; first | refine k_seq ?_ | refine k_region ?_ | refine k_draw (h := ?_) | refine k_skip ?_ | refine k_ret ?_ | refine k_exit ?_ | refine k_block ?_ | refine k_true (h := ?_) | refine k_false (h := ?_))
    | (show EX _ (bodyA _ _ _) _ _ _; first | refine x_end0 (hq := ?_))
    | (show EX _ _ _ _ _; first | refine x_normal ?_ | refine x_ret ?_ | refine x_exit ?_ | refine x_same ?_ | refine x_other (h := ?_) | refine x_bnormal ?_ | refine x_bret ?_))
          exact x_again (n0 - (i + 1)) [(0, _), (1, _), (4, _)] ⟨rfl, rfl, rfl, trivial⟩ (by omega) ⟨hk.trans (by exact kp) fun _ _ h => h, i + 1, 0, rfl, by omega, by omega, by unfold rowP; rw [e1]; exact rdx, by exact rdx, by simpa using hpn1, by simpa using htn1, rfl⟩
        · repeat' (first
    | (show EW _ _ _ _ _; first | refine ew_p (h := ?_) | refine ew_skip (h := ?_) | refine ew_ld (h := ?_) | (refine ew_fresh ?_; intro b hb; refine ew_nw hb (h := ?_); (try simp only [AHeap.push_next, AHeap.put_next] at hb)) | refine ew_st (h := ?_) | (refine ew_df (ht := ?_) (hf := ?_) <;> intro _) | refine ew_ar (h := ?_) | refine ew_p2 (h := ?_) | (refine ew_df2 (ht := ?_) (hf := ?_) <;> intro _) | refine w_nil ?_ | refine w_nilD ?_)
    | (show EC _ _ _ _ _ _ _; first | refine k_seq ?_ | refine k_region ?_ | refine k_draw (h := ?_) | refine k_skip ?_ | refine k_ret ?_ | refine k_exit ?_ | refine k_block ?_ | refine k_true (h := ?_) | refine k_false (h := ?_))
    | (show EX _ (bodyA _ _ _) _ _ _; first | refine x_end0 (hq := ?_))
    | (show EX _ _ _ _ _; first | refine x_normal ?_ | refine x_ret ?_ | refine x_exit ?_ | refine x_same ?_ | refine x_other (h := ?_) | refine x_bnormal ?_ | refine x_bret ?_))
          exact x_again (n0 - (i + 1)) [(0, _), (1, _), (4, _)] ⟨rfl, rfl, rfl, trivial⟩ (by omega) ⟨hk.trans (by exact kp) fun _ _ h => h, i + 1, 0, rfl, by omega, by omega, by unfold rowP; rw [e1]; exact rdx, by exact rdx, by simpa using hpn1, by simpa using htn1, rfl⟩
  · have hd0 : s.drop (pre.length + 1 + i) = [] := List.drop_eq_nil_of_le (by omega)
    rw [hd0] at hi
    have hi1 : i = n0 := by simpa [scanQ] using hi
    have eN : ((pre.length + (quoteB w).length : Nat) : Int) = ((pre.length + 1 + i : Nat) : Int) := by omega
    repeat' (first
    | (show EW _ _ _ _ _; first | refine ew_n (hn := r_strsl2 (l := pre.length) (h := pre.length + 1 + n0) (hr := hcut) (e1 := by omega) (e2 := by omega) (h3 := by omega) (h4 := by omega)) (h := ?_) | refine ew_p (h := ?_) | refine ew_skip (h := ?_) | refine ew_ld (h := ?_) | (refine ew_fresh ?_; intro b hb; refine ew_nw hb (h := ?_); (try simp only [AHeap.push_next, AHeap.put_next] at hb)) | refine ew_st (h := ?_) | (refine ew_df (ht := ?_) (hf := ?_) <;> intro _) | refine ew_ar (h := ?_) | refine ew_p2 (h := ?_) | (refine ew_df2 (ht := ?_) (hf := ?_) <;> intro _) | refine w_nil ?_ | refine w_nilD ?_)
    | (show EC _ _ _ _ _ _ _; first | refine k_seq ?_ | refine k_region ?_ | refine k_draw (h := ?_) | refine k_skip ?_ | refine k_ret ?_ | refine k_exit ?_ | refine k_block ?_ | refine k_true (h := ?_) | refine k_false (h := ?_))
    | (show EX _ (bodyA _ _ _) _ _ _; first | refine x_end0 (hq := ?_))
    | (show EX _ _ _ _ _; first | refine x_normal ?_ | refine x_ret ?_ | refine x_exit ?_ | refine x_same ?_ | refine x_other (h := ?_) | refine x_bnormal ?_ | refine x_bret ?_))
    try rw [hszq]
    refine k_loop follows (Q2I _ p t (quoteB w)) ((quoteB w).length - 0) [(73, _), (72, _), (6, _), (1, _)] (by kernel_rfl) ⟨rfl, rfl, rfl, rfl, trivial⟩ ⟨rfl, 0, by omega, rfl, rfl⟩ ?_
    rintro n E _ ⟨rfl, i2, hi2, rfl, rfl⟩
    by_cases hlt2 : i2 < (quoteB w).length
    · obtain ⟨d1, d2⟩ := quote_print w _ (List.getElem_mem hlt2)
      have hd := List.getElem?_eq_getElem hlt2
      generalize (quoteB w)[i2] = d at hd d1 d2
      repeat' (first
    | (show EW _ _ _ _ _; first | refine ew_p (h := ?_) | refine ew_skip (h := ?_) | refine ew_ld (h := ?_) | (refine ew_fresh ?_; intro b hb; refine ew_nw hb (h := ?_); (try simp only [AHeap.push_next, AHeap.put_next] at hb)) | refine ew_st (h := ?_) | (refine ew_df (ht := ?_) (hf := ?_) <;> intro _) | refine ew_ar (h := ?_) | refine ew_p2 (h := ?_) | (refine ew_df2 (ht := ?_) (hf := ?_) <;> intro _) | refine w_nil ?_ | refine w_nilD ?_)
    | (show EC _ _ _ _ _ _ _; first | refine k_seq ?_ | refine k_region ?_ | refine k_draw (h := ?_) | refine k_skip ?_ | refine k_ret ?_ | refine k_exit ?_ | refine k_block ?_ | refine k_true (h := ?_) | refine k_false (h := ?_))
    | (show EX _ (bodyA _ _ _) _ _ _; first | refine x_end0 (hq := ?_))
    | (show EX _ _ _ _ _; first | refine x_normal ?_ | refine x_ret ?_ | refine x_exit ?_ | refine x_same ?_ | refine x_other (h := ?_) | refine x_bnormal ?_ | refine x_bret ?_))
      exact x_again ((quoteB w).length - (i2 + 1)) [(73, _), (72, _), (6, _), (1, _)] ⟨rfl, rfl, rfl, rfl, trivial⟩ (by omega) ⟨rfl, i2 + 1, by omega, rfl, rfl⟩
    · obtain rfl : i2 = (quoteB w).length := by omega
      repeat' (first
    | (show EW _ _ _ _ _; first | refine ew_p (h := ?_) | refine ew_skip (h := ?_) | refine ew_ld (h := ?_) | (refine ew_fresh ?_; intro b hb; refine ew_nw hb (h := ?_); (try simp only [AHeap.push_next, AHeap.put_next] at hb)) | refine ew_st (h := ?_) | (refine ew_df (ht := ?_) (hf := ?_) <;> intro _) | refine ew_ar (h := ?_) | (refine ew_callS (hc := cr_call) (hR := vparse_calls hw) (h := ?_); rintro _ _ ⟨rfl, rfl⟩) | refine w_nil ?_ | refine w_nilD ?_)
    | (show EC _ _ _ _ _ _ _; first | refine k_seq ?_ | refine k_region ?_ | refine k_draw (h := ?_) | refine k_skip ?_ | refine k_ret ?_ | refine k_exit ?_ | refine k_block ?_ | refine k_true (h := ?_) | refine k_false (h := ?_))
    | (show EX _ (bodyA _ _ _) _ _ _; first | refine x_end0 (hq := ?_))
    | (show EX _ _ _ _ _; first | refine x_normal ?_ | refine x_ret ?_ | refine x_exit ?_ | refine x_same ?_ | refine x_other (h := ?_) | refine x_bnormal ?_ | refine x_bret ?_))
      exact ⟨rfl, hk.trans (by exact kp) fun _ _ h => h, by unfold rowP; rw [eN]; exact rdx, by exact rdx⟩
end Go.Ae

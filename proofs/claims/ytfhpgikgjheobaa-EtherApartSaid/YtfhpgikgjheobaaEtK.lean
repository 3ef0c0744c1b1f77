/- Bits, lists of packets compared, a network made: package eddylaw22 over the abstract heap. No condition. -/
import Derived.Test.YtfhpgikgjheobaaEtH
import Derived.Test.YtfhpgikgjheobaaAeImp
set_option linter.unusedSimpArgs false
set_option linter.unusedVariables false
set_option linter.unnecessarySimpa false
set_option maxRecDepth 100000
set_option maxHeartbeats 400000
namespace Go.Ae
open Go.Proofs
attribute [local irreducible] awC wpSeq wpS nRes aw aE acall ACalls szT isAggT zeroT byT elemSz fieldOff Program.underlying appendA copyA thenA inBlockA bodyA AHeap.push AHeap.put AHeap.cellsAt AHeap.setCells resV loadA intBin EW EC EX Nr Nc Er Cr Agree

def tbl32 : Tbl := [(7, [0, 1, 2, 3, 4, 5, 6, 7, 8, 9, 10], [0, 0, 3, 7, 0, 0, 48, 112, 255, 511, 1023])]
def tbl23 : Tbl := [(6, [0, 1, 2, 3, 4, 5, 6, 7, 8, 9], [0, 0, 3, 7, 0, 0, 48, 112, 255, 511])]
def tbl21 : Tbl := []

/-- How many bits are set. -/
def popN (x : Nat) : Nat := if h : x = 0 then 0 else x % 2 + popN (x / 2)
termination_by x
decreasing_by omega
theorem popN_zero : popN 0 = 0 := by rw [popN]; simp
theorem popN_pos {x : Nat} (h : 0 < x) : popN x = x % 2 + popN (x / 2) := by rw [popN]; simp; omega
theorem popN_le (x : Nat) : popN x ≤ x := by
  induction x using Nat.strongRecOn with
  | _ x ih =>
    by_cases h : x = 0
    · subst h; rw [popN_zero]; omega
    · rw [popN_pos (by omega)]
      have := ih (x / 2) (by omega)
      omega
def bitsS (a b : List UInt8) : Nat → Nat
  | 0 => 0
  | i + 1 => bitsS a b i + popN ((a.getD i 0 ^^^ b.getD i 0).toNat)
theorem bitsS_le (a b : List UInt8) (i : Nat) : bitsS a b i ≤ 255 * i := by
  induction i with
  | zero => simp [bitsS]
  | succ i ih =>
    have h1 := popN_le ((a.getD i 0 ^^^ b.getD i 0).toNat)
    have h2 := (a.getD i 0 ^^^ b.getD i 0).toNat_lt
    simp only [bitsS]
    omega
/-- In how many bits two lists differ; -1: unlike lengths. -/
def bitsP (a b : List UInt8) : Int := if a.length = b.length then bitsS a b a.length else -1

def BitsI (x y : Value) (a b : List UInt8) (H0 : AHeap) (n : Nat) (E : Env) (H : AHeap) : Prop :=
  H0 = H ∧ ∃ i, n + i = a.length ∧ E = [(5, .int .i64 (bitsS a b i)), (6, .int .i64 i), (0, x), (1, y)]
def BitI (x y : Value) (i tot : Nat) (H0 : AHeap) (n : Nat) (E : Env) (H : AHeap) : Prop :=
  H0 = H ∧ n ≤ 255 ∧ ∃ acc, acc + popN n = tot ∧ E = [(5, .int .i64 (acc : Nat)), (7, .int .i64 n), (6, .int .i64 i), (0, x), (1, y)]
theorem bits_calls {F G : Blks} {x y : Value} {a b : List UInt8} (H : AHeap) (hx : BR H F x a) (hy : BR H G y b) (hl : a.length ≤ 140737488355328) :
    ACalls Try.prog 32 #[x, y] H fun v H' => v = .int .i64 (bitsP a b) ∧ H' = H := by
  obtain ⟨zx, cx, rfl⟩ := Rd.slice hx
  obtain ⟨zy, cy, rfl⟩ := Rd.slice hy
  refine k_open (args := [.slice zx a.length cx, .slice zy b.length cy]) (E0 := [(0, .slice zx a.length cx), (1, .slice zy b.length cy)]) tbl32 Try.func32 rfl follows (by kernel_rfl) Try.ntmps32 rfl rfl ?_
  by_cases hab : a.length = b.length
  case neg =>
    repeat' (first
    | (show EW _ _ _ _ _; first | refine ew_p (h := ?_) | refine ew_ld (h := ?_) | refine ew_ci (h := ?_) | refine ew_conv (hn := r_conv_br (h := by first | assumption | (apply Rd.keep0; (focus assumption); exact kp))) (h := ?_) | (refine ew_df (ht := ?_) (hf := ?_) <;> intro _) | refine ew_ar (h := ?_) | refine w_nil ?_ | refine w_nilD ?_)
    | (show EC _ _ _ _ _ _ _; first | refine k_seq ?_ | refine k_region ?_ | refine k_draw (h := ?_) | refine k_skip ?_ | refine k_ret ?_ | refine k_exit ?_ | refine k_block ?_ | refine k_true (h := ?_) | refine k_false (h := ?_))
    | (show EX _ (bodyA _ _ _) _ _ _; first | refine x_end1 (hq := ?_))
    | (show EX _ _ _ _ _; first | refine x_normal ?_ | refine x_ret ?_ | refine x_exit ?_ | refine x_same ?_ | refine x_other (h := ?_) | refine x_bnormal ?_ | refine x_bret ?_))
    exact ⟨by rw [bitsP, if_neg hab], rfl⟩
  repeat' (first
    | (show EW _ _ _ _ _; first | refine ew_p (h := ?_) | refine ew_ld (h := ?_) | refine ew_ci (h := ?_) | refine ew_conv (hn := r_conv_br (h := by first | assumption | (apply Rd.keep0; (focus assumption); exact kp))) (h := ?_) | (refine ew_df (ht := ?_) (hf := ?_) <;> intro _) | refine ew_ar (h := ?_) | refine w_nil ?_ | refine w_nilD ?_)
    | (show EC _ _ _ _ _ _ _; first | refine k_seq ?_ | refine k_region ?_ | refine k_draw (h := ?_) | refine k_skip ?_ | refine k_ret ?_ | refine k_exit ?_ | refine k_block ?_ | refine k_true (h := ?_) | refine k_false (h := ?_))
    | (show EX _ (bodyA _ _ _) _ _ _; first | refine x_end1 (hq := ?_))
    | (show EX _ _ _ _ _; first | refine x_normal ?_ | refine x_ret ?_ | refine x_exit ?_ | refine x_same ?_ | refine x_other (h := ?_) | refine x_bnormal ?_ | refine x_bret ?_))
  refine k_loop follows (BitsI (.slice zx a.length cx) (.slice zy b.length cy) a b H) a.length [(5, _), (6, _), (0, _), (1, _)] (by kernel_rfl) ⟨rfl, rfl, rfl, rfl, trivial⟩ ⟨rfl, 0, by omega, rfl⟩ ?_
  rintro n E _ ⟨rfl, i, hi, rfl⟩
  by_cases hlt : i < a.length
  · obtain ⟨ba, hba⟩ : ∃ w, a[i]? = some w := ⟨a[i], List.getElem?_eq_getElem hlt⟩
    obtain ⟨bb, hbb⟩ : ∃ w, b[i]? = some w := ⟨b[i]'(by omega), List.getElem?_eq_getElem (by omega)⟩
    obtain ⟨ada, ca, hva, _, _, hca⟩ := BR.at hx hba
    obtain ⟨adb, cb, hvb, _, _, hcb⟩ := BR.at hy hbb
    simp only [Value.slice.injEq, true_and] at hva hvb
    obtain ⟨rfl, rfl⟩ := hva
    obtain ⟨rfl, rfl⟩ := hvb
    have hga : a.getD i 0 = ba := by simp [List.getD, hba]
    have hgb : b.getD i 0 = bb := by simp [List.getD, hbb]
    have htot : bitsS a b (i + 1) = bitsS a b i + popN ((ba ^^^ bb).toNat) := by rw [bitsS, hga, hgb]
    have hb1 := bitsS_le a b (i + 1)
    repeat' (first
    | (show EW _ _ _ _ _; first | refine ew_p (h := ?_) | refine ew_ld (h := ?_) | refine ew_ci (h := ?_) | refine ew_conv (hn := r_conv_br (h := by first | assumption | (apply Rd.keep0; (focus assumption); exact kp))) (h := ?_) | (refine ew_df (ht := ?_) (hf := ?_) <;> intro _) | refine ew_ar (h := ?_) | refine w_nil ?_ | refine w_nilD ?_)
    | (show EC _ _ _ _ _ _ _; first | refine k_seq ?_ | refine k_region ?_ | refine k_draw (h := ?_) | refine k_skip ?_ | refine k_ret ?_ | refine k_exit ?_ | refine k_block ?_ | refine k_true (h := ?_) | refine k_false (h := ?_))
    | (show EX _ (bodyA _ _ _) _ _ _; first | refine x_end1 (hq := ?_))
    | (show EX _ _ _ _ _; first | refine x_normal ?_ | refine x_ret ?_ | refine x_exit ?_ | refine x_same ?_ | refine x_other (h := ?_) | refine x_bnormal ?_ | refine x_bret ?_))
    refine k_loop follows (BitI (.slice (some ada) a.length cx) (.slice (some adb) b.length cy) i (bitsS a b (i + 1)) H) (ba ^^^ bb).toNat [(5, _), (7, _), (6, _), (0, _), (1, _)] (by kernel_rfl) ⟨rfl, rfl, rfl, rfl, rfl, trivial⟩ ⟨rfl, by have := (ba ^^^ bb).toNat_lt; omega, bitsS a b i, htot.symm, rfl⟩ ?_
    rintro n' E _ ⟨rfl, h255, acc, hacc, rfl⟩
    by_cases h0 : 0 < n'
    · have hp := popN_pos h0
      repeat' (first
    | (show EW _ _ _ _ _; first | refine ew_p (h := ?_) | refine ew_ld (h := ?_) | refine ew_ci (h := ?_) | refine ew_conv (hn := r_conv_br (h := by first | assumption | (apply Rd.keep0; (focus assumption); exact kp))) (h := ?_) | (refine ew_df (ht := ?_) (hf := ?_) <;> intro _) | refine ew_ar (h := ?_) | refine w_nil ?_ | refine w_nilD ?_)
    | (show EC _ _ _ _ _ _ _; first | refine k_seq ?_ | refine k_region ?_ | refine k_draw (h := ?_) | refine k_skip ?_ | refine k_ret ?_ | refine k_exit ?_ | refine k_block ?_ | refine k_true (h := ?_) | refine k_false (h := ?_))
    | (show EX _ (bodyA _ _ _) _ _ _; first | refine x_end1 (hq := ?_))
    | (show EX _ _ _ _ _; first | refine x_normal ?_ | refine x_ret ?_ | refine x_exit ?_ | refine x_same ?_ | refine x_other (h := ?_) | refine x_bnormal ?_ | refine x_bret ?_))
      exact x_again (n' / 2) [(5, _), (7, _), (6, _), (0, _), (1, _)] ⟨rfl, rfl, rfl, rfl, rfl, trivial⟩ (by omega) ⟨rfl, by omega, acc + n' % 2, by omega, rfl⟩
    · obtain rfl : n' = 0 := by omega
      rw [popN_zero, Nat.add_zero] at hacc
      subst hacc
      repeat' (first
    | (show EW _ _ _ _ _; first | refine ew_p (h := ?_) | refine ew_ld (h := ?_) | refine ew_ci (h := ?_) | refine ew_conv (hn := r_conv_br (h := by first | assumption | (apply Rd.keep0; (focus assumption); exact kp))) (h := ?_) | (refine ew_df (ht := ?_) (hf := ?_) <;> intro _) | refine ew_ar (h := ?_) | refine w_nil ?_ | refine w_nilD ?_)
    | (show EC _ _ _ _ _ _ _; first | refine k_seq ?_ | refine k_region ?_ | refine k_draw (h := ?_) | refine k_skip ?_ | refine k_ret ?_ | refine k_exit ?_ | refine k_block ?_ | refine k_true (h := ?_) | refine k_false (h := ?_))
    | (show EX _ (bodyA _ _ _) _ _ _; first | refine x_end1 (hq := ?_))
    | (show EX _ _ _ _ _; first | refine x_normal ?_ | refine x_ret ?_ | refine x_exit ?_ | refine x_same ?_ | refine x_other (h := ?_) | refine x_bnormal ?_ | refine x_bret ?_))
      exact x_again (n - 1) [(5, _), (6, _), (0, _), (1, _)] ⟨rfl, rfl, rfl, rfl, trivial⟩ (by omega) ⟨rfl, i + 1, by omega, rfl⟩
  · obtain rfl : i = a.length := by omega
    repeat' (first
    | (show EW _ _ _ _ _; first | refine ew_p (h := ?_) | refine ew_ld (h := ?_) | refine ew_ci (h := ?_) | refine ew_conv (hn := r_conv_br (h := by first | assumption | (apply Rd.keep0; (focus assumption); exact kp))) (h := ?_) | (refine ew_df (ht := ?_) (hf := ?_) <;> intro _) | refine ew_ar (h := ?_) | refine w_nil ?_ | refine w_nilD ?_)
    | (show EC _ _ _ _ _ _ _; first | refine k_seq ?_ | refine k_region ?_ | refine k_draw (h := ?_) | refine k_skip ?_ | refine k_ret ?_ | refine k_exit ?_ | refine k_block ?_ | refine k_true (h := ?_) | refine k_false (h := ?_))
    | (show EX _ (bodyA _ _ _) _ _ _; first | refine x_end1 (hq := ?_))
    | (show EX _ _ _ _ _; first | refine x_normal ?_ | refine x_ret ?_ | refine x_exit ?_ | refine x_same ?_ | refine x_other (h := ?_) | refine x_bnormal ?_ | refine x_bret ?_))
    exact ⟨by rw [bitsP, if_pos hab], rfl⟩

/-- A list of packets, as it reads. -/
def FlR (H : AHeap) (F : Blks) (v : Value) (M : List Msg) : Prop :=
  ∃ cells, Rd H F 3 v M.length cells ∧ ∀ i x, M[i]? = some x → ∃ dv, (cells.drop (i * 3)).take 3 = [.int .i64 x.1, .int .i64 x.2.1, dv] ∧ BR H F dv x.2.2
theorem FlR.keep {F G : Blks} {H H' : AHeap} {v : Value} {M : List Msg} (h : FlR H F v M) (hk : Keep G H H') (hd : ∀ b, b < H.next → F b → ¬ G b) : FlR H' F v M := by
  obtain ⟨cells, h1, h2⟩ := h
  exact ⟨cells, h1.keep hk hd, fun i x hx => let ⟨dv, h3, h4⟩ := h2 i x hx; ⟨dv, h3, Rd.keep h4 hk hd⟩⟩
theorem FlR.keep0 {F : Blks} {H H' : AHeap} {v : Value} {M : List Msg} (h : FlR H F v M) (hk : Keep No H H') : FlR H' F v M := h.keep hk fun _ _ _ h => h
theorem Lst.reads {F : Blks} {H : AHeap} {v : Value} {L : List Pk} (h : Lst H F v L) : FlR H F v (L.map Pk.msg) := by
  refine ⟨flCells L, by rw [List.length_map]; exact h.fli.rd, fun i x hx => ?_⟩
  rw [List.getElem?_map] at hx
  obtain ⟨p, hp, rfl⟩ := Option.map_eq_some_iff.1 hx
  have hd := h.data p (List.mem_of_getElem? hp)
  exact ⟨p.dv, flCells_at hp, rd_row hd.1 hd.2.1 hd.2.2⟩
theorem FlR.at {F : Blks} {H : AHeap} {v : Value} {M : List Msg} {i : Nat} {x : Msg} (h : FlR H F v M) (hx : M[i]? = some x) :
    ∃ ad c dv, v = .slice (some ad) M.length c ∧ F ad.block ∧ ad.block < H.next ∧ H.cellsAt (aadd ad ((i : Int).toNat * 3)) 3 = some [.int .i64 x.1, .int .i64 x.2.1, dv] ∧ BR H F dv x.2.2 := by
  obtain ⟨cells, h1, h2⟩ := h
  obtain ⟨ad, c, hv, hF, hlt, hc⟩ := h1.at (List.getElem?_eq_some_iff.1 hx).1
  obtain ⟨dv, h3, h4⟩ := h2 i x hx
  exact ⟨ad, c, dv, hv, hF, hlt, by rw [Int.toNat_natCast, hc, h3], h4⟩
theorem FlR.slice {F : Blks} {H : AHeap} {v : Value} {M : List Msg} (h : FlR H F v M) : ∃ z c, v = .slice z M.length c := by
  obtain ⟨cells, h1, _⟩ := h
  exact h1.slice

def SameI (x y : Value) (len : Nat) (H0 : AHeap) (n : Nat) (E : Env) (H : AHeap) : Prop :=
  Keep No H0 H ∧ ∃ i, n + i = len ∧ E = [(5, .int .i64 (i : Nat)), (0, x), (1, y)]
theorem same_calls {F G : Blks} {x y : Value} {M M' : List Msg} (H : AHeap) (hx : FlR H F x M) (hy : FlR H G y M') (hl : M.length ≤ 140737488355328) :
    ACalls Try.prog 23 #[x, y] H fun v H' => v = .bool (decide (M = M')) ∧ Keep No H H' := by
  obtain ⟨zx, cx, rfl⟩ := hx.slice
  obtain ⟨zy, cy, rfl⟩ := hy.slice
  refine k_open (args := [.slice zx M.length cx, .slice zy M'.length cy]) (E0 := [(0, .slice zx M.length cx), (1, .slice zy M'.length cy)]) tbl23 Try.func23 rfl follows (by kernel_rfl) Try.ntmps23 rfl rfl ?_
  by_cases hab : M.length = M'.length
  case neg =>
    repeat' (first
    | (show EW _ _ _ _ _; first | refine ew_p (h := ?_) | refine ew_ld (h := ?_) | (refine ew_df (ht := ?_) (hf := ?_) <;> intro _) | refine ew_ar (h := ?_) | refine w_nil ?_ | refine w_nilD ?_)
    | (show EC _ _ _ _ _ _ _; first | refine k_seq ?_ | refine k_region ?_ | refine k_draw (h := ?_) | refine k_skip ?_ | refine k_ret ?_ | refine k_exit ?_ | refine k_block ?_ | refine k_true (h := ?_) | refine k_false (h := ?_))
    | (show EX _ (bodyA _ _ _) _ _ _; first | refine x_end1 (hq := ?_))
    | (show EX _ _ _ _ _; first | refine x_normal ?_ | refine x_ret ?_ | refine x_exit ?_ | refine x_same ?_ | refine x_other (h := ?_) | refine x_bnormal ?_ | refine x_bret ?_))
    exact ⟨by rw [decide_eq_false (fun h => hab (by rw [h]))], Keep.refl⟩
  repeat' (first
    | (show EW _ _ _ _ _; first | refine ew_p (h := ?_) | refine ew_ld (h := ?_) | (refine ew_df (ht := ?_) (hf := ?_) <;> intro _) | refine ew_ar (h := ?_) | refine w_nil ?_ | refine w_nilD ?_)
    | (show EC _ _ _ _ _ _ _; first | refine k_seq ?_ | refine k_region ?_ | refine k_draw (h := ?_) | refine k_skip ?_ | refine k_ret ?_ | refine k_exit ?_ | refine k_block ?_ | refine k_true (h := ?_) | refine k_false (h := ?_))
    | (show EX _ (bodyA _ _ _) _ _ _; first | refine x_end1 (hq := ?_))
    | (show EX _ _ _ _ _; first | refine x_normal ?_ | refine x_ret ?_ | refine x_exit ?_ | refine x_same ?_ | refine x_other (h := ?_) | refine x_bnormal ?_ | refine x_bret ?_))
  refine k_loop follows (fun n E H1 => SameI (.slice zx M.length cx) (.slice zy M'.length cy) M.length H n E H1 ∧ M.take (M.length - n) = M'.take (M.length - n)) M.length [(5, _), (0, _), (1, _)] (by kernel_rfl) ⟨rfl, rfl, rfl, trivial⟩ ⟨⟨Keep.refl, 0, by omega, rfl⟩, by simp⟩ ?_
  rintro n E H1 ⟨⟨hk, i, hi, rfl⟩, hpre⟩
  rw [show M.length - n = i by omega] at hpre
  have hn1 := hk.1
  by_cases hlt : i < M.length
  · obtain ⟨ma, hma⟩ : ∃ w, M[i]? = some w := ⟨M[i], List.getElem?_eq_getElem hlt⟩
    obtain ⟨mb, hmb⟩ : ∃ w, M'[i]? = some w := ⟨M'[i]'(by omega), List.getElem?_eq_getElem (by omega)⟩
    obtain ⟨ada, ca, dva, hva, _, hla, hca, hba⟩ := hx.at hma
    obtain ⟨adb, cb, dvb, hvb, _, hlb, hcb, hbb⟩ := hy.at hmb
    simp only [Value.slice.injEq, true_and] at hva hvb
    obtain ⟨rfl, rfl⟩ := hva
    obtain ⟨rfl, rfl⟩ := hvb
    repeat' (first
    | (show EW _ _ _ _ _; first | refine ew_p (h := ?_) | refine ew_ld (h := ?_) | (refine ew_df (ht := ?_) (hf := ?_) <;> intro _) | refine ew_ar (h := ?_) | refine w_nil ?_ | refine w_nilD ?_)
    | (show EC _ _ _ _ _ _ _; first | refine k_seq ?_ | refine k_region ?_ | refine k_draw (h := ?_) | refine k_skip ?_ | refine k_ret ?_ | refine k_exit ?_ | refine k_block ?_ | refine k_true (h := ?_) | refine k_false (h := ?_))
    | (show EX _ (bodyA _ _ _) _ _ _; first | refine x_end1 (hq := ?_))
    | (show EX _ _ _ _ _; first | refine x_normal ?_ | refine x_ret ?_ | refine x_exit ?_ | refine x_same ?_ | refine x_other (h := ?_) | refine x_bnormal ?_ | refine x_bret ?_))
    (first | (refine' ew_callS (hc := cr_call) (hR := ?_) (h := ?_); rotate_left 1) | (refine' ew_call (hc := cr_call) (hR := ?_) (h := ?_); rotate_left 1))
    · exact sameFlight_calls (f := ma.1) (t := ma.2.1) (f' := mb.1) (t' := mb.2.1) _ (hba.keep0 hk) (hbb.keep0 hk)
    rintro _ H2 ⟨rfl, hk2⟩
    refine ⟨by (dsimp only [Mode.kept, Mode.logged, Mode.at]; (repeat' (first | exact (fun _ h => absurd h List.not_mem_nil) | (refine List.forall_mem_cons.2 ⟨?_, ?_⟩) | (refine .inl ?_; exact rfl) | (refine .inl ?_; dsimp only; decide) | (refine .inr ?_; exact hk2.cells (by simp only [aadd_block]; omega) id)))), ?_⟩
    by_cases he : ma.1 = mb.1 ∧ ma.2.1 = mb.2.1 ∧ ma.2.2 = mb.2.2
    · have hm : ma = mb := Prod.ext he.1 (Prod.ext he.2.1 he.2.2)
      rw [decide_eq_true he]
      repeat' (first
    | (show EW _ _ _ _ _; first | refine ew_p (h := ?_) | refine ew_ld (h := ?_) | (refine ew_df (ht := ?_) (hf := ?_) <;> intro _) | refine ew_ar (h := ?_) | refine w_nil ?_ | refine w_nilD ?_)
    | (show EC _ _ _ _ _ _ _; first | refine k_seq ?_ | refine k_region ?_ | refine k_draw (h := ?_) | refine k_skip ?_ | refine k_ret ?_ | refine k_exit ?_ | refine k_block ?_ | refine k_true (h := ?_) | refine k_false (h := ?_))
    | (show EX _ (bodyA _ _ _) _ _ _; first | refine x_end1 (hq := ?_))
    | (show EX _ _ _ _ _; first | refine x_normal ?_ | refine x_ret ?_ | refine x_exit ?_ | refine x_same ?_ | refine x_other (h := ?_) | refine x_bnormal ?_ | refine x_bret ?_))
      refine x_again (n - 1) [(5, _), (0, _), (1, _)] ⟨rfl, rfl, rfl, trivial⟩ (by omega) ⟨⟨hk.after hk2, i + 1, by omega, rfl⟩, ?_⟩
      rw [show M.length - (n - 1) = i + 1 by omega, List.take_add_one, List.take_add_one, hpre, hma, hmb, hm]
    · rw [decide_eq_false he]
      repeat' (first
    | (show EW _ _ _ _ _; first | refine ew_p (h := ?_) | refine ew_ld (h := ?_) | (refine ew_df (ht := ?_) (hf := ?_) <;> intro _) | refine ew_ar (h := ?_) | refine w_nil ?_ | refine w_nilD ?_)
    | (show EC _ _ _ _ _ _ _; first | refine k_seq ?_ | refine k_region ?_ | refine k_draw (h := ?_) | refine k_skip ?_ | refine k_ret ?_ | refine k_exit ?_ | refine k_block ?_ | refine k_true (h := ?_) | refine k_false (h := ?_))
    | (show EX _ (bodyA _ _ _) _ _ _; first | refine x_end1 (hq := ?_))
    | (show EX _ _ _ _ _; first | refine x_normal ?_ | refine x_ret ?_ | refine x_exit ?_ | refine x_same ?_ | refine x_other (h := ?_) | refine x_bnormal ?_ | refine x_bret ?_))
      refine ⟨?_, hk.after hk2⟩
      rw [decide_eq_false]
      rintro rfl
      rw [hma] at hmb
      obtain rfl := Option.some.inj hmb
      exact he ⟨rfl, rfl, rfl⟩
  · obtain rfl : i = M.length := by omega
    repeat' (first
    | (show EW _ _ _ _ _; first | refine ew_p (h := ?_) | refine ew_ld (h := ?_) | (refine ew_df (ht := ?_) (hf := ?_) <;> intro _) | refine ew_ar (h := ?_) | refine w_nil ?_ | refine w_nilD ?_)
    | (show EC _ _ _ _ _ _ _; first | refine k_seq ?_ | refine k_region ?_ | refine k_draw (h := ?_) | refine k_skip ?_ | refine k_ret ?_ | refine k_exit ?_ | refine k_block ?_ | refine k_true (h := ?_) | refine k_false (h := ?_))
    | (show EX _ (bodyA _ _ _) _ _ _; first | refine x_end1 (hq := ?_))
    | (show EX _ _ _ _ _; first | refine x_normal ?_ | refine x_ret ?_ | refine x_exit ?_ | refine x_same ?_ | refine x_other (h := ?_) | refine x_bnormal ?_ | refine x_bret ?_))
    refine ⟨?_, hk⟩
    rw [decide_eq_true]
    rw [List.take_length, hab, List.take_length] at hpre
    exact hpre

/-- The packets of made: the first n. -/
def madeM (ds : List (List UInt8)) : Nat → List Msg
  | 0 => []
  | n + 1 => madeM ds n ++ (if (ds.getD n []).length ≤ 1000 then [((n : Int) % 3, ((n : Int) + 1) % 3, ds.getD n [])] else [])
theorem madeM_len (ds : List (List UInt8)) (n : Nat) : (madeM ds n).length ≤ n := by
  induction n with
  | zero => simp [madeM]
  | succ n ih => simp only [madeM, List.length_append]; split <;> simp <;> omega
def MadeI (v : Value) (e : Nat) (ds : List (List UInt8)) (H0 : AHeap) (n : Nat) (E : Env) (H : AHeap) : Prop :=
  Keep No H0 H ∧ ∃ (i : Nat) (F : Blks), n + i = min ds.length 40 ∧ E = [(3, .pointer (some ⟨e, 0, none⟩)), (5, .int .i64 i), (0, v)] ∧ NetM H F e 3 (madeM ds i) ∧ (∀ b, F b → H0.next ≤ b)
theorem made_calls {v : Value} {ds : List (List UInt8)} (H : AHeap) (r0 : SlR 1 24 ByR H [v] ds) :
    ACalls Try.prog 21 #[v] H fun v' H' => Keep No H H' ∧ ∃ e F, v' = .pointer (some ⟨e, 0, none⟩) ∧ NetM H' F e 3 (madeM ds (min ds.length 40)) ∧ (∀ b, F b → H.next ≤ b) := by
  obtain ⟨z0, c0, rfl, w0⟩ := r0.slice
  have hrb : reachBytes = 140737488351232 := rfl
  rw [hrb] at w0
  refine k_open (args := [.slice z0 ds.length c0]) (E0 := [(0, .slice z0 ds.length c0)]) tbl21 Try.func21 rfl follows (by kernel_rfl) Try.ntmps21 rfl rfl ?_
  repeat' (first
    | (show EW _ _ _ _ _; first | refine ew_p (h := ?_) | refine ew_skip (h := ?_) | refine ew_ld (h := ?_) | (refine ew_df (ht := ?_) (hf := ?_) <;> intro _) | refine ew_ar (h := ?_) | refine w_nil ?_)
    | (show EC _ _ _ _ _ _ _; first | refine k_seq ?_ | refine k_region ?_ | refine k_skip ?_ | refine k_ret ?_ | refine k_exit ?_ | refine k_block ?_ | refine k_true (h := ?_) | refine k_false (h := ?_))
    | (show EX _ (bodyA _ _ _) _ _ _; first | refine x_end1 (hq := ?_))
    | (show EX _ _ _ _ _; first | refine x_normal ?_ | refine x_ret ?_ | refine x_exit ?_ | refine x_same ?_ | refine x_other (h := ?_) | refine x_bnormal ?_ | refine x_bret ?_))
  (first | (refine' ew_callS (hc := cr_call) (hR := ?_) (h := ?_); rotate_left 1) | (refine' ew_call (hc := cr_call) (hR := ?_) (h := ?_); rotate_left 1))
  · exact newM 3 _
  rintro v H2 (⟨h, _⟩ | ⟨_, e, rfl, hN2, hk2⟩)
  · exact absurd h (by decide)
  repeat' (first
    | (show EW _ _ _ _ _; first | refine ew_p (h := ?_) | refine ew_skip (h := ?_) | refine ew_ld (h := ?_) | (refine ew_df (ht := ?_) (hf := ?_) <;> intro _) | refine ew_ar (h := ?_) | refine w_nil ?_)
    | (show EC _ _ _ _ _ _ _; first | refine k_seq ?_ | refine k_region ?_ | refine k_skip ?_ | refine k_ret ?_ | refine k_exit ?_ | refine k_block ?_ | refine k_true (h := ?_) | refine k_false (h := ?_))
    | (show EX _ (bodyA _ _ _) _ _ _; first | refine x_end1 (hq := ?_))
    | (show EX _ _ _ _ _; first | refine x_normal ?_ | refine x_ret ?_ | refine x_exit ?_ | refine x_same ?_ | refine x_other (h := ?_) | refine x_bnormal ?_ | refine x_bret ?_))
  refine k_loop follows (MadeI (.slice z0 ds.length c0) e ds H) (min ds.length 40) [(3, _), (5, _), (0, _)] (by kernel_rfl) ⟨rfl, rfl, rfl, trivial⟩ ⟨hk2, 0, New H H2, by omega, rfl, hN2, fun b hb => hb.1⟩ ?_
  clear hN2 hk2 H2
  rintro n E H2 ⟨hk, i, F, hi, rfl, hN, hF⟩
  have hn2 := hk.1
  by_cases hlt : i < ds.length ∧ i < 40
  · obtain ⟨h1, h2⟩ := hlt
    obtain ⟨bs, hbs⟩ : ∃ bs, ds[i]? = some bs := ⟨ds[i], List.getElem?_eq_getElem h1⟩
    obtain ⟨ad0, c0', as0, hv0, hlt0, hcell0, vb, rfl, hbr, hlen⟩ := SlR.at r0 hbs
    simp only [Value.slice.injEq, true_and] at hv0
    obtain ⟨rfl, rfl⟩ := hv0
    obtain ⟨zb, cb, rfl⟩ := Rd.slice hbr
    have hcell0' : H.cellsAt (aadd ad0 ((i : Int).toNat * 1)) 1 = some [.slice zb bs.length cb] := hcell0
    have hgd : ds.getD i [] = bs := by simp [List.getD, hbs]
    have hml := madeM_len ds i
    rw [hrb] at hlen
    by_cases hbig : 1000 < bs.length
    · have hm : madeM ds (i + 1) = madeM ds i := by simp only [madeM, hgd]; rw [if_neg (by omega), List.append_nil]
      repeat' (first
    | (show EW _ _ _ _ _; first | refine ew_p (h := ?_) | refine ew_skip (h := ?_) | refine ew_ld (h := ?_) | (refine ew_df (ht := ?_) (hf := ?_) <;> intro _) | refine ew_ar (h := ?_) | refine w_nil ?_)
    | (show EC _ _ _ _ _ _ _; first | refine k_seq ?_ | refine k_region ?_ | refine k_skip ?_ | refine k_ret ?_ | refine k_exit ?_ | refine k_block ?_ | refine k_true (h := ?_) | refine k_false (h := ?_))
    | (show EX _ (bodyA _ _ _) _ _ _; first | refine x_end1 (hq := ?_))
    | (show EX _ _ _ _ _; first | refine x_normal ?_ | refine x_ret ?_ | refine x_exit ?_ | refine x_same ?_ | refine x_other (h := ?_) | refine x_bnormal ?_ | refine x_bret ?_))
      exact x_again (n - 1) [(3, _), (5, _), (0, _)] ⟨rfl, rfl, rfl, trivial⟩ (by omega) ⟨hk, i + 1, F, by omega, rfl, by rw [hm]; exact hN, hF⟩
    · have hm : madeM ds (i + 1) = madeM ds i ++ [((i : Int) % 3, ((i : Int) + 1) % 3, bs)] := by simp only [madeM, hgd]; rw [if_pos (by omega)]
      have hres : sendP 3 (madeM ds i) ((i : Int) % 3) (((i : Int) + 1) % 3) bs = (0, madeM ds (i + 1)) := by
        unfold sendP
        rw [if_neg (by omega), if_neg (by omega), if_neg (by omega), hm]
      repeat' (first
    | (show EW _ _ _ _ _; first | refine ew_p (h := ?_) | refine ew_skip (h := ?_) | refine ew_ld (h := ?_) | (refine ew_df (ht := ?_) (hf := ?_) <;> intro _) | refine ew_ar (h := ?_) | refine w_nil ?_)
    | (show EC _ _ _ _ _ _ _; first | refine k_seq ?_ | refine k_region ?_ | refine k_skip ?_ | refine k_ret ?_ | refine k_exit ?_ | refine k_block ?_ | refine k_true (h := ?_) | refine k_false (h := ?_))
    | (show EX _ (bodyA _ _ _) _ _ _; first | refine x_end1 (hq := ?_))
    | (show EX _ _ _ _ _; first | refine x_normal ?_ | refine x_ret ?_ | refine x_exit ?_ | refine x_same ?_ | refine x_other (h := ?_) | refine x_bnormal ?_ | refine x_bret ?_))
      (first | (refine' ew_callS (hc := cr_call) (hR := ?_) (h := ?_); rotate_left 1) | (refine' ew_call (hc := cr_call) (hR := ?_) (h := ?_); rotate_left 1))
      · exact sendM ((i : Int) % 3) (((i : Int) + 1) % 3) hN (hbr.keep0 hk) (by omega)
      rw [hres]
      rintro _ H3 ⟨rfl, hk3, F3, hN3, hg3⟩
      repeat' (first
    | (show EW _ _ _ _ _; first | refine ew_p (h := ?_) | refine ew_skip (h := ?_) | refine ew_ld (h := ?_) | (refine ew_df (ht := ?_) (hf := ?_) <;> intro _) | refine ew_ar (h := ?_) | refine w_nil ?_)
    | (show EC _ _ _ _ _ _ _; first | refine k_seq ?_ | refine k_region ?_ | refine k_skip ?_ | refine k_ret ?_ | refine k_exit ?_ | refine k_block ?_ | refine k_true (h := ?_) | refine k_false (h := ?_))
    | (show EX _ (bodyA _ _ _) _ _ _; first | refine x_end1 (hq := ?_))
    | (show EX _ _ _ _ _; first | refine x_normal ?_ | refine x_ret ?_ | refine x_exit ?_ | refine x_same ?_ | refine x_other (h := ?_) | refine x_bnormal ?_ | refine x_bret ?_))
      exact x_again (n - 1) [(3, _), (5, _), (0, _)] ⟨rfl, rfl, rfl, trivial⟩ (by omega) ⟨hk.own hk3 hF, i + 1, F3, by omega, rfl, hN3, hg3.own hn2 hF⟩
  · have hi' : i = min ds.length 40 := by omega
    repeat' (first
    | (show EW _ _ _ _ _; first | refine ew_p (h := ?_) | refine ew_skip (h := ?_) | refine ew_ld (h := ?_) | (refine ew_df (ht := ?_) (hf := ?_) <;> intro _) | refine ew_ar (h := ?_) | refine w_nil ?_)
    | (show EC _ _ _ _ _ _ _; first | refine k_seq ?_ | refine k_region ?_ | refine k_skip ?_ | refine k_ret ?_ | refine k_exit ?_ | refine k_block ?_ | refine k_true (h := ?_) | refine k_false (h := ?_))
    | (show EX _ (bodyA _ _ _) _ _ _; first | refine x_end1 (hq := ?_))
    | (show EX _ _ _ _ _; first | refine x_normal ?_ | refine x_ret ?_ | refine x_exit ?_ | refine x_same ?_ | refine x_other (h := ?_) | refine x_bnormal ?_ | refine x_bret ?_))
    all_goals exact ⟨hk, e, F, rfl, by rw [← hi']; exact hN, hF⟩

end Go.Ae

/- The book of EtherHonest: what it knows. No condition. -/
import Derived.Test.YtfhpgikgjheobaaEtL
import Derived.Test.YtfhpgikgjheobaaAeOpn
set_option linter.unusedSimpArgs false
set_option linter.unusedVariables false
set_option linter.unnecessarySimpa false
set_option maxRecDepth 100000
set_option maxHeartbeats 800000
namespace Go.Ae
open Go.Proofs
attribute [local irreducible] awC wpSeq wpS nRes aw aE acall ACalls szT isAggT zeroT byT elemSz fieldOff Program.underlying appendA copyA thenA inBlockA bodyA AHeap.push AHeap.put AHeap.cellsAt AHeap.setCells resV loadA intBin EW EC EX Nr Nc Er Cr Agree

def tbl28 : Tbl := []

/-- Was such a packet sent, but for so many bits? -/
def knows1 (fl : Nat) (f s : Msg) : Bool := decide (s.1 = f.1 ∧ s.2.1 = f.2.1 ∧ 0 ≤ bitsP s.2.2 f.2.2 ∧ bitsP s.2.2 f.2.2 ≤ fl)
def knownP (S : List Msg) (fl : Nat) (f : Msg) : Bool := S.any (knows1 fl f)
theorem knownP_take {S : List Msg} {fl : Nat} {f : Msg} {i : Nat} {s : Msg} (hs : S[i]? = some s) : knownP (S.take (i + 1)) fl f = (knownP (S.take i) fl f || knows1 fl f s) := by
  unfold knownP
  rw [List.take_add_one, hs]
  simp
theorem knownP_mem {S : List Msg} {fl : Nat} {f : Msg} {i : Nat} {s : Msg} (hs : S[i]? = some s) (h : knows1 fl f s = true) : knownP S fl f = true := by
  unfold knownP
  rw [List.any_eq_true]
  exact ⟨s, List.mem_of_getElem? hs, h⟩

theorem FlR.at4 {F : Blks} {H : AHeap} {v : Value} {M : List Msg} {i : Nat} {x : Msg} (h : FlR H F v M) (hx : M[i]? = some x) :
    ∃ ad c z cb, v = .slice (some ad) M.length c ∧ ad.block < H.next ∧ H.cellsAt (aadd ad ((i : Int).toNat * 3)) 3 = some [.int .i64 x.1, .int .i64 x.2.1, .slice z x.2.2.length cb] ∧
      H.cellsAt (aadd (aadd ad ((i : Int).toNat * 3)) 2) 1 = some [.slice z x.2.2.length cb] ∧ BR H F (.slice z x.2.2.length cb) x.2.2 := by
  obtain ⟨ad, c, dv, hv, _, hlt, hc, hb⟩ := h.at hx
  obtain ⟨z, cb, rfl⟩ := Rd.slice hb
  exact ⟨ad, c, z, cb, hv, hlt, hc, cellsAt_sub hc (j := 2) (i := 1) (by omega), hb⟩

def KnownI (H0 : AHeap) (k b0 : Nat) (S : List Msg) (fl : Nat) (f : Msg) (n : Nat) (E : Env) (H : AHeap) : Prop :=
  Keep No H0 H ∧ ∃ i, n + i = S.length ∧ E = [(5, .int .i64 (i : Nat)), (0, .pointer (some ⟨k, 0, none⟩)), (3, .pointer (some ⟨b0, 0, none⟩))] ∧ knownP (S.take i) fl f = false
theorem known_calls {F G : Blks} {k : Nat} {sv dv : Value} {S : List Msg} {f : Msg} {c d p fl : Nat} (H : AHeap) (hk : H.get k = some (.row ⟨[sv, .int .i64 c, .int .i64 d, .int .i64 p, .int .i64 fl], 69, 0, true⟩)) (hkn : k < H.next)
    (hS : FlR H F sv S) (hf : BR H G dv f.2.2) (hl : S.length ≤ 140737488355328) (hsz : ∀ s ∈ S, s.2.2.length ≤ 140737488355328) :
    ACalls Try.prog 28 #[.pointer (some ⟨k, 0, none⟩), .agg #[.int .i64 f.1, .int .i64 f.2.1, dv]] H fun v H' => v = .bool (knownP S fl f) ∧ Keep No H H' := by
  obtain ⟨zs, cs, rfl⟩ := hS.slice
  obtain ⟨zf, cf, rfl⟩ := Rd.slice hf
  refine k_open (args := [.pointer (some ⟨k, 0, none⟩), .agg #[.int .i64 f.1, .int .i64 f.2.1, .slice zf f.2.2.length cf]]) (E0 := [(0, .pointer (some ⟨k, 0, none⟩)), (1, .agg #[.int .i64 f.1, .int .i64 f.2.1, .slice zf f.2.2.length cf])]) tbl28 Try.func28 rfl follows (by kernel_rfl) Try.ntmps28 rfl rfl ?_
  repeat' (first
    | (show EW _ _ _ _ _; first | refine ew_p (h := ?_) | refine ew_skip (h := ?_) | refine ew_ld (h := ?_) | (refine ew_fresh ?_; intro b hb; refine ew_nw hb (h := ?_); (try simp only [AHeap.push_next, AHeap.put_next] at hb)) | refine ew_st (h := ?_) | (refine ew_df (ht := ?_) (hf := ?_) <;> intro _) | refine ew_ar (h := ?_) | refine w_nil ?_)
    | (show EC _ _ _ _ _ _ _; first | refine k_seq ?_ | refine k_region ?_ | refine k_skip ?_ | refine k_ret ?_ | refine k_exit ?_ | refine k_block ?_ | refine k_true (h := ?_) | refine k_false (h := ?_))
    | (show EX _ (bodyA _ _ _) _ _ _; first | refine x_end1 (hq := ?_))
    | (show EX _ _ _ _ _; first | refine x_normal ?_ | refine x_ret ?_ | refine x_exit ?_ | refine x_same ?_ | refine x_other (h := ?_) | refine x_bnormal ?_ | refine x_bret ?_))
  have hk0 : Keep No H (H.push (.row ⟨[.int .i64 f.1, .int .i64 f.2.1, .slice zf f.2.2.length cf], 32, 0, true⟩)) := by exact kp
  refine k_loop follows (KnownI (H.push (.row ⟨[.int .i64 f.1, .int .i64 f.2.1, .slice zf f.2.2.length cf], 32, 0, true⟩)) k b S fl f) S.length [(5, _), (0, _), (3, _)] (by kernel_rfl) ⟨rfl, rfl, rfl, trivial⟩ ⟨Keep.refl, 0, by omega, rfl, rfl⟩ ?_
  have hb0 : (H.push (.row ⟨[.int .i64 f.1, .int .i64 f.2.1, .slice zf f.2.2.length cf], 32, 0, true⟩)).get b = some (.row ⟨[.int .i64 f.1, .int .i64 f.2.1, .slice zf f.2.2.length cf], 32, 0, true⟩) := by exact rdx
  have hbk : (H.push (.row ⟨[.int .i64 f.1, .int .i64 f.2.1, .slice zf f.2.2.length cf], 32, 0, true⟩)).get k = some (.row ⟨[.slice zs S.length cs, .int .i64 c, .int .i64 d, .int .i64 p, .int .i64 fl], 69, 0, true⟩) := by exact rdx
  have hS0 := hS.keep0 hk0
  have hf0 : BR _ G (.slice zf f.2.2.length cf) f.2.2 := Rd.keep0 hf hk0
  have hnx : (H.push (.row ⟨[.int .i64 f.1, .int .i64 f.2.1, .slice zf f.2.2.length cf], 32, 0, true⟩)).next = H.next + 1 := AHeap.push_next _ _
  generalize H.push (.row ⟨[.int .i64 f.1, .int .i64 f.2.1, .slice zf f.2.2.length cf], 32, 0, true⟩) = H0 at hk0 hb0 hbk hS0 hf0 hnx
  rintro n E H1 ⟨hk1, i, hi, rfl, hpre⟩
  have hn1 := hk1.1
  have hb1 := hk1.row0 hb0 (by omega)
  have hk1r := hk1.row0 hbk (by omega)
  have hkA := hk0.after hk1
  by_cases hlt : i < S.length
  · obtain ⟨s, hs⟩ : ∃ s, S[i]? = some s := ⟨S[i], List.getElem?_eq_getElem hlt⟩
    have hS1 := hS0.keep0 hk1
    have hf1 : BR _ G (.slice zf f.2.2.length cf) f.2.2 := Rd.keep0 hf0 hk1
    obtain ⟨ads, c', z', cb', hv', hlts, hc3, hc1, hbr⟩ := hS1.at4 hs
    simp only [Value.slice.injEq, true_and] at hv'
    obtain ⟨rfl, rfl⟩ := hv'
    have hsl := hsz s (List.mem_of_getElem? hs)
    by_cases hft : s.1 = f.1 ∧ s.2.1 = f.2.1
    · obtain ⟨h1, h2⟩ := hft
      repeat' (first
    | (show EW _ _ _ _ _; first | refine ew_p (h := ?_) | refine ew_skip (h := ?_) | refine ew_ld (h := ?_) | (refine ew_fresh ?_; intro b hb; refine ew_nw hb (h := ?_); (try simp only [AHeap.push_next, AHeap.put_next] at hb)) | refine ew_st (h := ?_) | (refine ew_df (ht := ?_) (hf := ?_) <;> intro _) | refine ew_ar (h := ?_) | refine w_nil ?_)
    | (show EC _ _ _ _ _ _ _; first | refine k_seq ?_ | refine k_region ?_ | refine k_skip ?_ | refine k_ret ?_ | refine k_exit ?_ | refine k_block ?_ | refine k_true (h := ?_) | refine k_false (h := ?_))
    | (show EX _ (bodyA _ _ _) _ _ _; first | refine x_end1 (hq := ?_))
    | (show EX _ _ _ _ _; first | refine x_normal ?_ | refine x_ret ?_ | refine x_exit ?_ | refine x_same ?_ | refine x_other (h := ?_) | refine x_bnormal ?_ | refine x_bret ?_))
      (first | (refine' ew_callS (hc := cr_call) (hR := ?_) (h := ?_); rotate_left 1) | (refine' ew_call (hc := cr_call) (hR := ?_) (h := ?_); rotate_left 1))
      · exact bits_calls _ (hbr.keep0 (by exact kp)) (hf1.keep0 (by exact kp)) (by omega)
      rintro _ H2 ⟨rfl, rfl⟩
      by_cases hin : 0 ≤ bitsP s.2.2 f.2.2 ∧ bitsP s.2.2 f.2.2 ≤ fl
      · obtain ⟨h3, h4⟩ := hin
        repeat' (first
    | (show EW _ _ _ _ _; first | refine ew_p (h := ?_) | refine ew_skip (h := ?_) | refine ew_ld (h := ?_) | (refine ew_fresh ?_; intro b hb; refine ew_nw hb (h := ?_); (try simp only [AHeap.push_next, AHeap.put_next] at hb)) | refine ew_st (h := ?_) | (refine ew_df (ht := ?_) (hf := ?_) <;> intro _) | refine ew_ar (h := ?_) | refine w_nil ?_)
    | (show EC _ _ _ _ _ _ _; first | refine k_seq ?_ | refine k_region ?_ | refine k_skip ?_ | refine k_ret ?_ | refine k_exit ?_ | refine k_block ?_ | refine k_true (h := ?_) | refine k_false (h := ?_))
    | (show EX _ (bodyA _ _ _) _ _ _; first | refine x_end1 (hq := ?_))
    | (show EX _ _ _ _ _; first | refine x_normal ?_ | refine x_ret ?_ | refine x_exit ?_ | refine x_same ?_ | refine x_other (h := ?_) | refine x_bnormal ?_ | refine x_bret ?_))
        refine ⟨?_, by exact kp⟩
        rw [knownP_mem hs (by unfold knows1; exact decide_eq_true ⟨h1, h2, h3, h4⟩)]
      · have hno : knows1 fl f s = false := by unfold knows1; exact decide_eq_false fun h => hin ⟨h.2.2.1, h.2.2.2⟩
        by_cases h3 : 0 ≤ bitsP s.2.2 f.2.2
        all_goals (
          repeat' (first
    | (show EW _ _ _ _ _; first | refine ew_p (h := ?_) | refine ew_skip (h := ?_) | refine ew_ld (h := ?_) | (refine ew_fresh ?_; intro b hb; refine ew_nw hb (h := ?_); (try simp only [AHeap.push_next, AHeap.put_next] at hb)) | refine ew_st (h := ?_) | (refine ew_df (ht := ?_) (hf := ?_) <;> intro _) | refine ew_ar (h := ?_) | refine w_nil ?_)
    | (show EC _ _ _ _ _ _ _; first | refine k_seq ?_ | refine k_region ?_ | refine k_skip ?_ | refine k_ret ?_ | refine k_exit ?_ | refine k_block ?_ | refine k_true (h := ?_) | refine k_false (h := ?_))
    | (show EX _ (bodyA _ _ _) _ _ _; first | refine x_end1 (hq := ?_))
    | (show EX _ _ _ _ _; first | refine x_normal ?_ | refine x_ret ?_ | refine x_exit ?_ | refine x_same ?_ | refine x_other (h := ?_) | refine x_bnormal ?_ | refine x_bret ?_))
          exact x_again (n - 1) [(5, _), (0, _), (3, _)] ⟨rfl, rfl, rfl, trivial⟩ (by omega) ⟨by exact kp, i + 1, by omega, rfl, by rw [knownP_take hs, hpre, hno]; rfl⟩)
    · have hno : knows1 fl f s = false := by unfold knows1; exact decide_eq_false fun h => hft ⟨h.1, h.2.1⟩
      by_cases h1 : s.1 = f.1
      all_goals (
        repeat' (first
    | (show EW _ _ _ _ _; first | refine ew_p (h := ?_) | refine ew_skip (h := ?_) | refine ew_ld (h := ?_) | (refine ew_fresh ?_; intro b hb; refine ew_nw hb (h := ?_); (try simp only [AHeap.push_next, AHeap.put_next] at hb)) | refine ew_st (h := ?_) | (refine ew_df (ht := ?_) (hf := ?_) <;> intro _) | refine ew_ar (h := ?_) | refine w_nil ?_)
    | (show EC _ _ _ _ _ _ _; first | refine k_seq ?_ | refine k_region ?_ | refine k_skip ?_ | refine k_ret ?_ | refine k_exit ?_ | refine k_block ?_ | refine k_true (h := ?_) | refine k_false (h := ?_))
    | (show EX _ (bodyA _ _ _) _ _ _; first | refine x_end1 (hq := ?_))
    | (show EX _ _ _ _ _; first | refine x_normal ?_ | refine x_ret ?_ | refine x_exit ?_ | refine x_same ?_ | refine x_other (h := ?_) | refine x_bnormal ?_ | refine x_bret ?_))
        exact x_again (n - 1) [(5, _), (0, _), (3, _)] ⟨rfl, rfl, rfl, trivial⟩ (by omega) ⟨by exact kp, i + 1, by omega, rfl, by rw [knownP_take hs, hpre, hno]; rfl⟩)
  · obtain rfl : i = S.length := by omega
    repeat' (first
    | (show EW _ _ _ _ _; first | refine ew_p (h := ?_) | refine ew_skip (h := ?_) | refine ew_ld (h := ?_) | (refine ew_fresh ?_; intro b hb; refine ew_nw hb (h := ?_); (try simp only [AHeap.push_next, AHeap.put_next] at hb)) | refine ew_st (h := ?_) | (refine ew_df (ht := ?_) (hf := ?_) <;> intro _) | refine ew_ar (h := ?_) | refine w_nil ?_)
    | (show EC _ _ _ _ _ _ _; first | refine k_seq ?_ | refine k_region ?_ | refine k_skip ?_ | refine k_ret ?_ | refine k_exit ?_ | refine k_block ?_ | refine k_true (h := ?_) | refine k_false (h := ?_))
    | (show EX _ (bodyA _ _ _) _ _ _; first | refine x_end1 (hq := ?_))
    | (show EX _ _ _ _ _; first | refine x_normal ?_ | refine x_ret ?_ | refine x_exit ?_ | refine x_same ?_ | refine x_other (h := ?_) | refine x_bnormal ?_ | refine x_bret ?_))
    refine ⟨?_, hkA⟩
    rw [List.take_length] at hpre
    rw [hpre]

end Go.Ae

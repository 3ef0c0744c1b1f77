/- The document's own network (eddyref22): Flip. No condition. -/
import Derived.Test.YtfhpgikgjheobaaEtT
set_option linter.unusedSimpArgs false
set_option linter.unusedVariables false
set_option linter.unnecessarySimpa false
set_option maxRecDepth 100000
set_option maxHeartbeats 800000
namespace Go.Ae
open Go.Proofs
attribute [local irreducible] awC wpSeq wpS nRes aw aE acall ACalls szT isAggT zeroT byT elemSz fieldOff Program.underlying appendA copyA thenA inBlockA bodyA AHeap.push AHeap.put AHeap.cellsAt AHeap.setCells resV loadA intBin EW EC EX Nr Nc Er Cr Agree

def tbl62 : Tbl := []

/-- append(nil, bytes...), and the row that it makes. -/
theorem app_bytesR {G : Blks} {H : AHeap} {dv : Value} {bs : List UInt8} (hd : BR H G dv bs) (hl : bs.length ≤ 140737488355328) (h0 : bs.length ≠ 0) :
    ∃ v H', appendA Try.prog H 29 29 (.slice none 0 0) dv = some (v, H') ∧ v = .slice (some ⟨H.next, 0, none⟩) bs.length (openCap + 1) ∧ H'.get H.next = some (.row ⟨bytesV bs, 5, 0, true⟩) ∧ Keep No H H' ∧ H'.next = H.next + 1 := by
  have hs := Rd.src hd
  exact ⟨_, _, app_nil T29 hs h0 (by omega), rfl, by rw [AHeap.push_get, if_pos rfl], Keep.refl.push, by simp⟩
theorem freshR_calls {G : Blks} {H : AHeap} {dv : Value} {bs : List UInt8} (hd : BR H G dv bs) (hl : bs.length ≤ 140737488355328) (h0 : bs.length ≠ 0) :
    ACalls Try.prog 87 #[dv] H fun v H' => v = .slice (some ⟨H.next, 0, none⟩) bs.length (openCap + 1) ∧ H'.get H.next = some (.row ⟨bytesV bs, 5, 0, true⟩) ∧ Keep No H H' ∧ H'.next = H.next + 1 := by
  refine k_open (args := [dv]) (E0 := [(0, dv)]) tbl87 Try.func87 rfl follows (by kernel_rfl) Try.ntmps87 rfl rfl ?_
  repeat' (first
    | (show EW _ _ _ _ _; first | refine ew_p (h := ?_) | refine w_nil ?_)
    | (show EC _ _ _ _ _ _ _; first | refine k_seq ?_ | refine k_region ?_ | refine k_skip ?_ | refine k_ret ?_ | refine k_exit ?_ | refine k_block ?_ | refine k_true (h := ?_) | refine k_false (h := ?_))
    | (show EX _ (bodyA _ _ _) _ _ _; first | refine x_end1 (hq := ?_))
    | (show EX _ _ _ _ _; first | refine x_normal ?_ | refine x_ret ?_ | refine x_exit ?_ | refine x_same ?_ | refine x_other (h := ?_) | refine x_bnormal ?_ | refine x_bret ?_))
  (first | (refine' ew_appS (hR := ?_) (h := ?_); rotate_left 1) | (refine' ew_app (hR := ?_) (h := ?_); rotate_left 1))
  · exact app_bytesR hd hl h0
  rintro v H1 h1
  repeat' (first
    | (show EW _ _ _ _ _; first | refine ew_p (h := ?_) | refine w_nil ?_)
    | (show EC _ _ _ _ _ _ _; first | refine k_seq ?_ | refine k_region ?_ | refine k_skip ?_ | refine k_ret ?_ | refine k_exit ?_ | refine k_block ?_ | refine k_true (h := ?_) | refine k_false (h := ?_))
    | (show EX _ (bodyA _ _ _) _ _ _; first | refine x_end1 (hq := ?_))
    | (show EX _ _ _ _ _; first | refine x_normal ?_ | refine x_ret ?_ | refine x_exit ?_ | refine x_same ?_ | refine x_other (h := ?_) | refine x_bnormal ?_ | refine x_bret ?_))
  exact h1

def refFlipP (A : List (Option Msg)) (i bit : Int) : List (Option Msg) := match atI (flight A) i with
  | none => A
  | some x => if bit < 0 ∨ (x.2.2.length : Int) ≤ bit / 8 then A else A.set (placeP A i).toNat (some (x.1, x.2.1, flipB x.2.2 bit))
theorem flight_flip (A : List (Option Msg)) (i bit : Int) : flight (refFlipP A i bit) = (flipP (flight A) i bit).2 := by
  unfold refFlipP flipP
  rcases placeP_spec A i with ⟨h1, h2⟩ | ⟨q, x, h1, h2, h3, h4, h5⟩
  · rw [h1]
  · rw [h3, h1, Int.toNat_natCast]
    simp only
    split
    · rfl
    · exact h5 _
theorem setCells_el2 {H : AHeap} {ad : Addr} {rc vs : List Value} {e : TypeId} {vr j i : Nat} (hg : H.get ad.block = some (.row ⟨rc, e, vr, true⟩)) (hv : verOf ad = vr) (hle : ad.off + j + i + vs.length ≤ rc.length) (h1 : vs.all Value.oneCell' = true) :
    H.setCells (aadd (aadd ad j) i) vs = some (H.put ad.block (.row ⟨lset rc (ad.off + j + i) vs, e, vr, true⟩)) :=
  setCells_of (ad := aadd (aadd ad j) i) hg hv rfl (by simpa using hle) h1
theorem lset_field {l : List Value} {o : Nat} {a b c d c' : Value} (hl : o + 4 ≤ l.length) (h : (l.drop o).take 4 = [a, b, c, d]) : lset l (o + 2) [c'] = lset l o [a, b, c', d] := by
  have hg : ∀ i, i < 4 → l[o + i]? = [a, b, c, d][i]? := fun i hi => by rw [← h, List.getElem?_take, if_pos hi, List.getElem?_drop]
  apply List.ext_getElem?
  intro i
  rw [lset_get (by simp; omega), lset_get (by simp; omega)]
  simp only [List.length_cons, List.length_nil, Nat.zero_add, Nat.reduceAdd]
  by_cases h1 : i < o
  · rw [if_pos (show i < o + 2 by omega), if_pos h1]
  · rw [if_neg h1]
    by_cases h2 : i < o + 4
    · rw [if_pos h2]
      obtain ⟨j, rfl⟩ : ∃ j, i = o + j := ⟨i - o, by omega⟩
      have hj : j = 0 ∨ j = 1 ∨ j = 2 ∨ j = 3 := by omega
      rcases hj with rfl | rfl | rfl | rfl
      · rw [if_pos (by omega), hg 0 (by omega)]; simp
      · rw [if_pos (by omega), hg 1 (by omega)]; simp
      · rw [if_neg (by omega), if_pos (by omega)]; simp
      · rw [if_neg (by omega), if_neg (by omega), hg 3 (by omega)]; simp
    · rw [if_neg h2, if_neg (by omega), if_neg (by omega)]
theorem maskP (bit : Int) (h : 0 ≤ bit) : IntKind.u8.wrap ((2 ^ (bit % 8).toNat : Nat) : Int) = ((maskB bit).toNat : Int) := by
  unfold maskB
  obtain ⟨k, hk⟩ : ∃ k, k = (bit % 8).toNat := ⟨_, rfl⟩
  rw [← hk]
  have : k < 8 := by omega
  have hc : k = 0 ∨ k = 1 ∨ k = 2 ∨ k = 3 ∨ k = 4 ∨ k = 5 ∨ k = 6 ∨ k = 7 := by omega
  rcases hc with rfl | rfl | rfl | rfl | rfl | rfl | rfl | rfl <;> decide
/-- 2 to the power of what has been counted. -/
def PowI (H0 : AHeap) (bit : Int) (rest : Env) (n : Nat) (E : Env) (H : AHeap) : Prop :=
  H0 = H ∧ ∃ (j : Nat) (w : Int), n + j = (bit % 8).toNat ∧ w = (2 ^ j : Nat) ∧ E = (10, .int .i64 (n : Nat)) :: (9, .int .i64 w) :: rest
theorem refflip_calls {H : AHeap} {F : Blks} {k : Nat} {m : Int} {A : List (Option Msg)} (t : RefM H F k m A) (i bit : Int) (hi2 : i ≤ 9223372036854775807) (hb1 : -9223372036854775808 ≤ bit) (hb2 : bit ≤ 9223372036854775807) (hA : A.length ≤ 2932031007401) :
    ACalls Try.prog 62 #[.pointer (some ⟨k, 0, none⟩), .int .i64 i, .int .i64 bit] H fun v H' =>
      v = .bool (flipP (flight A) i bit).1 ∧ Keep F H H' ∧ ∃ F', RefM H' F' k m (refFlipP A i bit) ∧ Grow F F' H := by
  obtain ⟨O, D, r, hF, hFn, hlen, hsz⟩ := id t
  obtain ⟨sv, cells, hr, ho, hcl⟩ := r.row
  have hAll : AllR H O D sv A := ⟨cells, ho.rd, hcl⟩
  obtain ⟨z, c, rfl⟩ := hAll.slice
  have hkn := r.kn
  refine k_open (args := [.pointer (some ⟨k, 0, none⟩), .int .i64 i, .int .i64 bit]) (E0 := [(0, .pointer (some ⟨k, 0, none⟩)), (1, .int .i64 i), (2, .int .i64 bit)]) tbl62 Try.func62 rfl follows (by kernel_rfl) Try.ntmps62 rfl rfl ?_
  repeat' (first
    | (show EW _ _ _ _ _; first | refine ew_p (h := ?_) | refine ew_skip (h := ?_) | refine ew_ld (h := ?_) | refine ew_ci (h := ?_) | refine ew_conv (hn := r_conv_br (h := by first | assumption | (apply Rd.keep0; (focus assumption); exact kp))) (h := ?_) | refine ew_st (h := ?_) | (refine ew_df (ht := ?_) (hf := ?_) <;> intro _) | refine ew_ar (h := ?_) | refine w_nil ?_)
    | (show EC _ _ _ _ _ _ _; first | refine k_seq ?_ | refine k_region ?_ | refine k_skip ?_ | refine k_ret ?_ | refine k_exit ?_ | refine k_block ?_ | refine k_true (h := ?_) | refine k_false (h := ?_))
    | (show EX _ (bodyA _ _ _) _ _ _; first | refine x_end1 (hq := ?_))
    | (show EX _ _ _ _ _; first | refine x_normal ?_ | refine x_ret ?_ | refine x_exit ?_ | refine x_same ?_ | refine x_other (h := ?_) | refine x_bnormal ?_ | refine x_bret ?_))
  (first | (refine' ew_callS (hc := cr_call) (hR := ?_) (h := ?_); rotate_left 1) | (refine' ew_call (hc := cr_call) (hR := ?_) (h := ?_); rotate_left 1))
  · exact place_calls i hr hAll (by omega) hi2
  rintro _ H1 ⟨rfl, rfl⟩
  rcases placeP_spec A i with ⟨h1, h2⟩ | ⟨q, x, h1, h2, h3, h4, h5⟩
  · have hc1 : refFlipP A i bit = A := by unfold refFlipP; rw [h1]
    have hc2 : flipP (flight A) i bit = (false, flight A) := by unfold flipP; rw [h1]
    rw [h2]
    repeat' (first
    | (show EW _ _ _ _ _; first | refine ew_p (h := ?_) | refine ew_skip (h := ?_) | refine ew_ld (h := ?_) | refine ew_ci (h := ?_) | refine ew_conv (hn := r_conv_br (h := by first | assumption | (apply Rd.keep0; (focus assumption); exact kp))) (h := ?_) | refine ew_st (h := ?_) | (refine ew_df (ht := ?_) (hf := ?_) <;> intro _) | refine ew_ar (h := ?_) | refine w_nil ?_)
    | (show EC _ _ _ _ _ _ _; first | refine k_seq ?_ | refine k_region ?_ | refine k_skip ?_ | refine k_ret ?_ | refine k_exit ?_ | refine k_block ?_ | refine k_true (h := ?_) | refine k_false (h := ?_))
    | (show EX _ (bodyA _ _ _) _ _ _; first | refine x_end1 (hq := ?_))
    | (show EX _ _ _ _ _; first | refine x_normal ?_ | refine x_ret ?_ | refine x_exit ?_ | refine x_same ?_ | refine x_other (h := ?_) | refine x_bnormal ?_ | refine x_bret ?_))
    exact ⟨by rw [hc2], Keep.refl, F, by rw [hc1]; exact t, Grow.refl⟩
  rw [h1]
  have hqA : q < A.length := (List.getElem?_eq_some_iff.1 h2).1
  have hxs : x.2.2.length ≤ 32776 := hsz x (by have := atI_some h3; unfold atI at h3; rw [if_pos this.1] at h3; exact List.mem_of_getElem? h3)
  obtain ⟨ad, c', rc, vr, hsv', hOa, hlt, hg, hv, hle, ht, hcap⟩ := ho.at_row (by omega)
  simp only [Value.slice.injEq, true_and] at hsv'
  obtain ⟨rfl, rfl⟩ := hsv'
  obtain ⟨ad', c', cs, hsv, hO', hltb, hc4, he, hc1'⟩ := hAll.at h2
  simp only [Value.slice.injEq, Option.some.injEq, true_and] at hsv
  obtain ⟨rfl, rfl⟩ := hsv
  obtain ⟨dv, rfl, hbr⟩ := he
  obtain ⟨zd, cd, rfl⟩ := Rd.slice hbr
  have hc2' : H1.cellsAt (aadd (aadd ad ((q : Int).toNat * 4)) 2) 1 = some [.slice zd x.2.2.length cd] := cellsAt_sub hc4 (j := 2) (i := 1) (by omega)
  by_cases hbad : bit < 0 ∨ (x.2.2.length : Int) ≤ bit / 8
  · have hc1 : refFlipP A i bit = A := by unfold refFlipP; rw [h3]; exact if_pos hbad
    have hc2 : flipP (flight A) i bit = (false, flight A) := by unfold flipP; rw [h3]; exact if_pos hbad
    by_cases hneg : bit < 0
    · repeat' (first
    | (show EW _ _ _ _ _; first | refine ew_p (h := ?_) | refine ew_skip (h := ?_) | refine ew_ld (h := ?_) | refine ew_ci (h := ?_) | refine ew_conv (hn := r_conv_br (h := by first | assumption | (apply Rd.keep0; (focus assumption); exact kp))) (h := ?_) | refine ew_st (h := ?_) | (refine ew_df (ht := ?_) (hf := ?_) <;> intro _) | refine ew_ar (h := ?_) | refine w_nil ?_)
    | (show EC _ _ _ _ _ _ _; first | refine k_seq ?_ | refine k_region ?_ | refine k_skip ?_ | refine k_ret ?_ | refine k_exit ?_ | refine k_block ?_ | refine k_true (h := ?_) | refine k_false (h := ?_))
    | (show EX _ (bodyA _ _ _) _ _ _; first | refine x_end1 (hq := ?_))
    | (show EX _ _ _ _ _; first | refine x_normal ?_ | refine x_ret ?_ | refine x_exit ?_ | refine x_same ?_ | refine x_other (h := ?_) | refine x_bnormal ?_ | refine x_bret ?_))
      exact ⟨by rw [hc2], Keep.refl, F, by rw [hc1]; exact t, Grow.refl⟩
    · repeat' (first
    | (show EW _ _ _ _ _; first | refine ew_p (h := ?_) | refine ew_skip (h := ?_) | refine ew_ld (h := ?_) | refine ew_ci (h := ?_) | refine ew_conv (hn := r_conv_br (h := by first | assumption | (apply Rd.keep0; (focus assumption); exact kp))) (h := ?_) | refine ew_st (h := ?_) | (refine ew_df (ht := ?_) (hf := ?_) <;> intro _) | refine ew_ar (h := ?_) | refine w_nil ?_)
    | (show EC _ _ _ _ _ _ _; first | refine k_seq ?_ | refine k_region ?_ | refine k_skip ?_ | refine k_ret ?_ | refine k_exit ?_ | refine k_block ?_ | refine k_true (h := ?_) | refine k_false (h := ?_))
    | (show EX _ (bodyA _ _ _) _ _ _; first | refine x_end1 (hq := ?_))
    | (show EX _ _ _ _ _; first | refine x_normal ?_ | refine x_ret ?_ | refine x_exit ?_ | refine x_same ?_ | refine x_other (h := ?_) | refine x_bnormal ?_ | refine x_bret ?_))
      exact ⟨by rw [hc2], Keep.refl, F, by rw [hc1]; exact t, Grow.refl⟩
  have hc1 : refFlipP A i bit = A.set q (some (x.1, x.2.1, flipB x.2.2 bit)) := by unfold refFlipP; rw [h3, h1]; exact if_neg hbad
  have hc2 : flipP (flight A) i bit = (true, (flight A).set i.toNat (x.1, x.2.1, flipB x.2.2 bit)) := by unfold flipP; rw [h3]; exact if_neg hbad
  have hb0 : 0 ≤ bit := by omega
  have hb8 : bit / 8 < x.2.2.length := by omega
  repeat' (first
    | (show EW _ _ _ _ _; first | refine ew_p (h := ?_) | refine ew_skip (h := ?_) | refine ew_ld (h := ?_) | refine ew_ci (h := ?_) | refine ew_conv (hn := r_conv_br (h := by first | assumption | (apply Rd.keep0; (focus assumption); exact kp))) (h := ?_) | refine ew_st (h := ?_) | (refine ew_df (ht := ?_) (hf := ?_) <;> intro _) | refine ew_ar (h := ?_) | refine w_nil ?_)
    | (show EC _ _ _ _ _ _ _; first | refine k_seq ?_ | refine k_region ?_ | refine k_skip ?_ | refine k_ret ?_ | refine k_exit ?_ | refine k_block ?_ | refine k_true (h := ?_) | refine k_false (h := ?_))
    | (show EX _ (bodyA _ _ _) _ _ _; first | refine x_end1 (hq := ?_))
    | (show EX _ _ _ _ _; first | refine x_normal ?_ | refine x_ret ?_ | refine x_exit ?_ | refine x_same ?_ | refine x_other (h := ?_) | refine x_bnormal ?_ | refine x_bret ?_))
  (first | (refine' ew_callS (hc := cr_call) (hR := ?_) (h := ?_); rotate_left 1) | (refine' ew_call (hc := cr_call) (hR := ?_) (h := ?_); rotate_left 1))
  · exact freshR_calls hbr (by omega) (by omega)
  rintro v H2 ⟨rfl, hg2, hk2, hn2⟩
  repeat' (first
    | (show EW _ _ _ _ _; first | refine ew_p (h := ?_) | refine ew_skip (h := ?_) | refine ew_ld (h := ?_) | refine ew_ci (h := ?_) | refine ew_conv (hn := r_conv_br (h := by first | assumption | (apply Rd.keep0; (focus assumption); exact kp))) (h := ?_) | refine ew_st (h := ?_) | (refine ew_df (ht := ?_) (hf := ?_) <;> intro _) | refine ew_ar (h := ?_) | refine w_nil ?_)
    | (show EC _ _ _ _ _ _ _; first | refine k_seq ?_ | refine k_region ?_ | refine k_skip ?_ | refine k_ret ?_ | refine k_exit ?_ | refine k_block ?_ | refine k_true (h := ?_) | refine k_false (h := ?_))
    | (show EX _ (bodyA _ _ _) _ _ _; first | refine x_end1 (hq := ?_))
    | (show EX _ _ _ _ _; first | refine x_normal ?_ | refine x_ret ?_ | refine x_exit ?_ | refine x_same ?_ | refine x_other (h := ?_) | refine x_bnormal ?_ | refine x_bret ?_))
  have hmod : bit % 8 = (bit % 8).toNat := by omega
  refine k_loop follows (PowI H2 bit [(8, .slice (some ⟨H1.next, 0, none⟩) x.2.2.length (openCap + 1)), (7, .int .i64 q), (6, .bool false), (0, .pointer (some ⟨k, 0, none⟩)), (1, .int .i64 i), (2, .int .i64 bit)]) (bit % 8).toNat [(10, _), (9, _), (8, _), (7, _), (6, _), (0, _), (1, _), (2, _)] (by kernel_rfl) ⟨rfl, rfl, rfl, rfl, rfl, rfl, rfl, rfl, trivial⟩
    ⟨rfl, 0, 1, by omega, rfl, by rw [← hmod]⟩ ?_
  rintro n E _ ⟨rfl, j, w, hj, hw, rfl⟩
  have hj8 : j < 8 := by omega
  have hw8 : 1 ≤ w ∧ w ≤ 128 := by
    have hc : j = 0 ∨ j = 1 ∨ j = 2 ∨ j = 3 ∨ j = 4 ∨ j = 5 ∨ j = 6 ∨ j = 7 := by omega
    rcases hc with rfl | rfl | rfl | rfl | rfl | rfl | rfl | rfl <;> simp at hw <;> omega
  by_cases hn0 : 0 < n
  · repeat' (first
    | (show EW _ _ _ _ _; first | refine ew_p (h := ?_) | refine ew_skip (h := ?_) | refine ew_ld (h := ?_) | refine ew_ci (h := ?_) | refine ew_conv (hn := r_conv_br (h := by first | assumption | (apply Rd.keep0; (focus assumption); exact kp))) (h := ?_) | refine ew_st (h := ?_) | (refine ew_df (ht := ?_) (hf := ?_) <;> intro _) | refine ew_ar (h := ?_) | refine w_nil ?_)
    | (show EC _ _ _ _ _ _ _; first | refine k_seq ?_ | refine k_region ?_ | refine k_skip ?_ | refine k_ret ?_ | refine k_exit ?_ | refine k_block ?_ | refine k_true (h := ?_) | refine k_false (h := ?_))
    | (show EX _ (bodyA _ _ _) _ _ _; first | refine x_end1 (hq := ?_))
    | (show EX _ _ _ _ _; first | refine x_normal ?_ | refine x_ret ?_ | refine x_exit ?_ | refine x_same ?_ | refine x_other (h := ?_) | refine x_bnormal ?_ | refine x_bret ?_))
    refine x_again (n - 1) [(10, _), (9, _), (8, _), (7, _), (6, _), (0, _), (1, _), (2, _)] ⟨rfl, rfl, rfl, rfl, rfl, rfl, rfl, rfl, trivial⟩ (by omega) ⟨rfl, j + 1, 2 * w, by omega, by rw [hw, Nat.pow_succ]; omega, ?_⟩
    rw [show ((n - 1 : Nat) : Int) = (n : Int) - 1 by omega]
  have hn : n = 0 := by omega
  subst hn
  have hjj : j = (bit % 8).toNat := by omega
  have hkk : (bit / 8).toNat < x.2.2.length := by omega
  have hx : x.2.2.getD (bit / 8).toNat 0 = x.2.2[(bit / 8).toNat] := by simp [List.getD, hkk]
  have hcell : H2.cellsAt (aadd ⟨H1.next, 0, none⟩ ((bit / 8).toNat * 1)) 1 = some [.int .u8 (x.2.2.getD (bit / 8).toNat 0).toNat] := by
    refine cellsAt_of hg2 rfl (by simp; omega) ?_
    simp only [aadd_off, Nat.zero_add, Nat.mul_one]
    rw [List.drop_eq_getElem_cons (by simpa using hkk), hx]
    simp [bytesV]
  have hr2 := hk2.row0 hr hkn
  have hgA := hk2.row0 hg hlt
  repeat' (first
    | (show EW _ _ _ _ _; first | refine ew_p (h := ?_) | refine ew_skip (h := ?_) | refine ew_ld (h := ?_) | refine ew_ci (h := ?_) | refine ew_conv (hn := r_conv_br (h := by first | assumption | (apply Rd.keep0; (focus assumption); exact kp))) (h := ?_) | refine ew_st (h := ?_) | (refine ew_df (ht := ?_) (hf := ?_) <;> intro _) | refine ew_ar (h := ?_) | refine w_nil ?_)
    | (show EC _ _ _ _ _ _ _; first | refine k_seq ?_ | refine k_region ?_ | refine k_skip ?_ | refine k_ret ?_ | refine k_exit ?_ | refine k_block ?_ | refine k_true (h := ?_) | refine k_false (h := ?_))
    | (show EX _ (bodyA _ _ _) _ _ _; first | refine x_end1 (hq := ?_))
    | (show EX _ _ _ _ _; first | refine x_normal ?_ | refine x_ret ?_ | refine x_exit ?_ | refine x_same ?_ | refine x_other (h := ?_) | refine x_bnormal ?_ | refine x_bret ?_))
  have hq4 : (q + 1) * 4 ≤ A.length * 4 := Nat.mul_le_mul_right 4 hqA
  have hle2 : ad.off + (q : Int).toNat * 4 + 2 + 1 ≤ rc.length := by omega
  refine ew_e (he := er_store (hc := setCells_el2 (by exact rdx) hv hle2 rfl)) (hk := Mode.kept_seq rfl) (h := ?_)
  repeat' (first
    | (show EW _ _ _ _ _; first | refine ew_p (h := ?_) | refine ew_skip (h := ?_) | refine ew_ld (h := ?_) | refine ew_ci (h := ?_) | refine ew_conv (hn := r_conv_br (h := by first | assumption | (apply Rd.keep0; (focus assumption); exact kp))) (h := ?_) | refine ew_st (h := ?_) | (refine ew_df (ht := ?_) (hf := ?_) <;> intro _) | refine ew_ar (h := ?_) | refine w_nil ?_)
    | (show EC _ _ _ _ _ _ _; first | refine k_seq ?_ | refine k_region ?_ | refine k_skip ?_ | refine k_ret ?_ | refine k_exit ?_ | refine k_block ?_ | refine k_true (h := ?_) | refine k_false (h := ?_))
    | (show EX _ (bodyA _ _ _) _ _ _; first | refine x_end1 (hq := ?_))
    | (show EX _ _ _ _ _; first | refine x_normal ?_ | refine x_ret ?_ | refine x_exit ?_ | refine x_same ?_ | refine x_other (h := ?_) | refine x_bnormal ?_ | refine x_bret ?_))
  have hwm : w = ((maskB bit).toNat : Int) := by
    have h1 := maskP bit hb0
    rw [← hjj, ← hw] at h1
    rw [← h1, wrap8_in w (by omega) (by omega)]
  have fin : ∀ Hy Hz, Hy = H2.put H1.next (.row ⟨bytesV (flipB x.2.2 bit), 5, 0, true⟩) → Hz = Hy.put ad.block (.row ⟨lset rc (ad.off + q * 4 + 2) [.slice (some ⟨H1.next, 0, none⟩) x.2.2.length (openCap + 1)], 126, vr, true⟩) →
      Value.bool true = .bool (flipP (flight A) i bit).1 ∧ Keep F H1 Hz ∧ ∃ F', RefM Hz F' k m (refFlipP A i bit) ∧ Grow F F' H1 := by
    intro Hy Hz hHy hHz
    have hky : Keep No H1 Hy := by rw [hHy]; exact hk2.put fun h => absurd h (Nat.lt_irrefl _)
    have hny : Hy.next = H1.next + 1 := by rw [hHy, AHeap.put_next, hn2]
    have hgy : Hy.get H1.next = some (.row ⟨bytesV (flipB x.2.2 bit), 5, 0, true⟩) := by rw [hHy, AHeap.put_get, if_pos rfl]
    have hcells : (rc.drop (ad.off + q * 4)).take 4 = [.int .i64 x.1, .int .i64 x.2.1, .slice zd x.2.2.length cd, .bool false] := by
      have h := cellsAt_get (ad := aadd ad ((q : Int).toNat * 4)) (n := 4) hg hv (by simp; omega)
      rw [hc4] at h
      simpa using h.symm
    rw [lset_field (by omega) hcells] at hHz
    have hkz : Keep (fun b => b = k) (Hy.put ad.block (.row ⟨lset rc (ad.off + q * 4) [.int .i64 x.1, .int .i64 x.2.1, .slice (some ⟨H1.next, 0, none⟩) x.2.2.length (openCap + 1), .bool false], 126, vr, true⟩)) Hz := by rw [hHz]; exact Keep.refl
    have hlen' : (flight (A.set q (some (x.1, x.2.1, flipB x.2.2 bit)))).length = (flight A).length := by rw [h5, List.length_set]
    have rz : Rf Hz O (Or D (fun b => b = H1.next)) k m (A.set q (some (x.1, x.2.1, flipB x.2.2 bit))) := by
      refine Rf.set (r.keep0 hky) hOa (by omega) hv hle ht hcap (fun i a ha => (hcl i a ha).keep hky fun _ _ _ h => h) hqA rfl ⟨_, rfl, ?_⟩ ?_ hkz ?_
      · have e := flipB_length x.2.2 bit
        rw [← e]
        exact .full ⟨H1.next, 0, none⟩ _ _ _ (by omega) rfl (by dsimp only; omega) (cellsAt_of hgy rfl (by simp) (by rw [List.drop_zero, List.take_of_length_le (by simp)]))
      · rintro b rfl
        exact ⟨by omega, by omega, fun h => by have := r.ob _ h; omega⟩
      · rw [hlen', hHz, AHeap.put_get, if_neg (fun h : k = ad.block => r.ok (by rw [h]; exact hOa)), hHy, AHeap.put_get, if_neg (by omega)]
        exact hr2
    refine ⟨by rw [hc2], by rw [hHz]; exact hky.no.put fun _ => hF _ (.inr (.inl hOa)), fun b => b = k ∨ O b ∨ Or D (fun b => b = H1.next) b, ?_, ?_⟩
    · rw [hc1]
      refine ⟨O, _, rz, fun b hb => hb, ?_, by omega, ?_⟩
      · rintro b (rfl | hb | hb)
        · exact rz.kn
        · exact rz.ob b hb
        · exact rz.db b hb
      · intro y hy
        rw [h5] at hy
        rcases List.mem_or_eq_of_mem_set hy with hy | rfl
        · exact hsz y hy
        · simpa using hxs
    · rintro b (rfl | hb | hb | hb)
      · exact .inl (hF _ (.inl rfl))
      · exact .inl (hF b (.inr (.inl hb)))
      · exact .inl (hF b (.inr (.inr hb)))
      · exact .inr (by have : b = H1.next := hb; omega)
  refine fin _ _ ?_ rfl
  have hcs : (bytesV x.2.2).take ((bit / 8).toNat * 1) ++ .int .u8 (IntKind.u8.wrap ↑(BitVec.ofInt IntKind.u8.bits ↑(x.2.2.getD (bit / 8).toNat 0).toNat ^^^ BitVec.ofInt IntKind.u8.bits w).toNat) ::
      (bytesV x.2.2).drop ((bit / 8).toNat * 1 + 1) = bytesV (flipB x.2.2 bit) := by
    rw [hwm, xor_u8, Nat.mul_one, bytesV_set _ _ _ hkk]
    rfl
  rw [← hcs]
  simp [lset, Value.cells]

end Go.Ae

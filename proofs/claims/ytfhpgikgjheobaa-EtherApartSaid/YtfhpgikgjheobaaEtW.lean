/- A copy with spare room (eddyroom): lot, word, Bytes. No condition. -/
import Derived.Test.YtfhpgikgjheobaaEtV
set_option linter.unusedSimpArgs false
set_option linter.unusedVariables false
set_option linter.unnecessarySimpa false
set_option maxRecDepth 100000
set_option maxHeartbeats 800000
namespace Go.Ae
open Go.Proofs
attribute [local irreducible] awC wpSeq wpS nRes aw aE acall ACalls szT isAggT zeroT byT elemSz fieldOff Program.underlying appendA copyA thenA inBlockA bodyA AHeap.push AHeap.put AHeap.cellsAt AHeap.setCells resV loadA intBin EW EC EX Nr Nc Er Cr Agree

theorem T23 : AppT Try.prog 23 23 29 0 23 := ⟨Try.underlying23, ⟨_, Try.underlying23, rfl⟩, sz29, by29, ⟨_, ze29⟩⟩
def tbl80 : Tbl := []
def tbl88 : Tbl := []
def tbl56 : Tbl := []

def lotP (i : Nat) : Int := if i % 2 = 0 then -7701 else -7702
def lotB (i : Nat) : UInt8 := if i % 2 = 0 then 235 else 234
theorem lot_wrap (i : Nat) : IntKind.u8.wrap (lotP i) = ((lotB i).toNat : Int) := by
  unfold lotP lotB
  split <;> decide
theorem lot_calls (i : Nat) (H : AHeap) (hi : i ≤ 4611686018427387904) : ACalls Try.prog 80 #[.int .i64 i] H fun v H' => v = .int .i64 (lotP i) ∧ H' = H := by
  refine k_open (args := [.int .i64 i]) (E0 := [(0, .int .i64 i)]) tbl80 Try.func80 rfl follows (by kernel_rfl) Try.ntmps80 rfl rfl ?_
  by_cases h : i % 2 = 0
  · have h2 : (i : Int) % 2 = 0 := by omega
    repeat' (first
    | (show EW _ _ _ _ _; first | refine ew_p (h := ?_) | (refine ew_df (ht := ?_) (hf := ?_) <;> intro _) | refine ew_ar (h := ?_) | refine w_nil ?_)
    | (show EC _ _ _ _ _ _ _; first | refine k_seq ?_ | refine k_region ?_ | refine k_skip ?_ | refine k_ret ?_ | refine k_exit ?_ | refine k_block ?_ | refine k_true (h := ?_) | refine k_false (h := ?_))
    | (show EX _ (bodyA _ _ _) _ _ _; first | refine x_end1 (hq := ?_))
    | (show EX _ _ _ _ _; first | refine x_normal ?_ | refine x_ret ?_ | refine x_exit ?_ | refine x_same ?_ | refine x_other (h := ?_) | refine x_bnormal ?_ | refine x_bret ?_))
    exact ⟨by rw [lotP, if_pos h], rfl⟩
  · have h2 : (i : Int) % 2 = 1 := by omega
    repeat' (first
    | (show EW _ _ _ _ _; first | refine ew_p (h := ?_) | (refine ew_df (ht := ?_) (hf := ?_) <;> intro _) | refine ew_ar (h := ?_) | refine w_nil ?_)
    | (show EC _ _ _ _ _ _ _; first | refine k_seq ?_ | refine k_region ?_ | refine k_skip ?_ | refine k_ret ?_ | refine k_exit ?_ | refine k_block ?_ | refine k_true (h := ?_) | refine k_false (h := ?_))
    | (show EX _ (bodyA _ _ _) _ _ _; first | refine x_end1 (hq := ?_))
    | (show EX _ _ _ _ _; first | refine x_normal ?_ | refine x_ret ?_ | refine x_exit ?_ | refine x_same ?_ | refine x_other (h := ?_) | refine x_bnormal ?_ | refine x_bret ?_))
    exact ⟨by rw [lotP, if_neg h], rfl⟩
/-- Marks behind a list. -/
def marksB (n : Nat) : List UInt8 := (List.range n).map lotB
theorem marksB_succ (n : Nat) : marksB (n + 1) = marksB n ++ [lotB n] := by simp [marksB, List.range_succ]
@[simp] theorem marksB_length (n : Nat) : (marksB n).length = n := by simp [marksB]

theorem Opn.cap {H : AHeap} {F : Blks} {e k n : Nat} {sv : Value} {cells : List Value} (h : Opn H F e k sv n cells) (hn : n ≤ openCap) : ∃ z c, sv = .slice z n c ∧ n ≤ c := by
  rcases h with ⟨rfl, rfl, _⟩ | ⟨ad, c, r, rfl, _, _, _, _, _, hle, _, _, ho⟩
  · exact ⟨_, _, rfl, Nat.le_refl _⟩
  · refine ⟨_, _, rfl, ?_⟩
    rcases ho with rfl | ⟨rfl, h⟩
    · exact Nat.le_refl _
    · omega
/-- append(own bytes, bytes...) -/
theorem app_own {H : AHeap} {O GB : Blks} {sv dv : Value} {n : Nat} {ls bs : List UInt8} (ho : Opn H O 5 1 sv n (bytesV ls)) (hd : BR H GB dv bs) (hL : n + bs.length ≤ 140737488355328) :
    ∃ sv' H', appendA Try.prog H 29 29 sv dv = some (sv', H') ∧ Opn H' (Or O (New H H')) 5 1 sv' (n + bs.length) (bytesV (ls ++ bs)) ∧ Keep O H H' := by
  have hs := Rd.src hd
  by_cases h0 : bs.length = 0
  · obtain rfl := List.eq_nil_of_length_eq_zero h0
    obtain ⟨z, c, rfl, hc⟩ := ho.cap (by unfold openCap; omega)
    exact ⟨_, _, app_none T29 hs hc, by simpa using ho.weak fun b hb => .inl hb, Keep.refl⟩
  · obtain ⟨sv', H', h1, h2, h3, _⟩ := Opn.snoc T29 ho hs h0 (by simp) (by simp [bytesV, Value.oneCell']) (by simpa using hL)
    exact ⟨sv', H', h1, by rw [bytesV_append]; simpa using h2, h3⟩

/-- The room, in which one list of bytes lies. -/
structure Rm (H0 H : AHeap) (rr : Nat) (ad : Addr) (cf : Nat) (bs : List UInt8) : Prop where
  row : ∃ O1 O2 sv, H.get rr = some (.row ⟨[.slice none 0 0, .slice none 0 0, .slice none 0 0, .slice none 0 0, .slice none 0 0, .slice none 0 0, .slice none 0 0, .slice none 0 0, .slice none 0 0, sv], 96, 0, true⟩) ∧
    Opn H O2 29 1 sv 1 [.slice (some ad) (bs.length + 600) cf] ∧ Opn H O1 5 1 (.slice (some ad) (bs.length + 600) cf) (bs.length + 600) (bytesV (bs ++ marksB 600)) ∧ (∀ b, O1 b → H0.next ≤ b) ∧ (∀ b, O2 b → H0.next ≤ b)
  rr0 : H0.next ≤ rr
  rrn : rr < H.next
def BytI (H0 : AHeap) (rr : Nat) (dv : Value) (bs : List UInt8) (n : Nat) (E : Env) (H : AHeap) : Prop :=
  Keep No H0 H ∧ ∃ (i : Nat) (O : Blks) (sv : Value), n + i = 600 ∧ E = [(6, .int .i64 i), (5, sv), (4, .slice none 0 0), (0, .pointer (some ⟨rr, 0, none⟩)), (1, dv)] ∧ Opn H O 5 1 sv (bs.length + i) (bytesV (bs ++ marksB i)) ∧ (∀ b, O b → H0.next ≤ b)
theorem bytesR_calls {H0 H G : AHeap} {GB : Blks} {rr : Nat} {dv : Value} {bs : List UInt8} (hk : Keep No H0 H) (hr0 : H0.next ≤ rr) (hrn : rr < H.next)
    (hr : H.get rr = some (.row ⟨[.slice none 0 0, .slice none 0 0, .slice none 0 0, .slice none 0 0, .slice none 0 0, .slice none 0 0, .slice none 0 0, .slice none 0 0, .slice none 0 0, .slice none 0 0], 96, 0, true⟩))
    (hd : BR H GB dv bs) (hl : bs.length ≤ 140737488351232) :
    ACalls Try.prog 56 #[.pointer (some ⟨rr, 0, none⟩), dv] H fun v H' => ∃ ad cf, v = .slice (some (aadd ad 0)) bs.length (bs.length + 600) ∧ Keep No H0 H' ∧ Rm H0 H' rr ad cf bs := by
  obtain ⟨zd, cd, rfl⟩ := Rd.slice hd
  refine k_open (args := [.pointer (some ⟨rr, 0, none⟩), .slice zd bs.length cd]) (E0 := [(0, .pointer (some ⟨rr, 0, none⟩)), (1, .slice zd bs.length cd)]) tbl56 Try.func56 rfl follows (by kernel_rfl) Try.ntmps56 rfl rfl ?_
  repeat' (first
    | (show EW _ _ _ _ _; first | refine ew_p (h := ?_) | refine ew_ld (h := ?_) | refine ew_ci (h := ?_) | refine ew_conv (hn := r_conv_br (h := by first | assumption | (apply Rd.keep0; (focus assumption); exact kp))) (h := ?_) | (refine ew_fresh ?_; intro b hb; refine ew_nw hb (h := ?_); (try simp only [AHeap.push_next, AHeap.put_next] at hb)) | refine ew_st (h := ?_) | (refine ew_df (ht := ?_) (hf := ?_) <;> intro _) | refine ew_ar (h := ?_) | refine w_nil ?_)
    | (show EC _ _ _ _ _ _ _; first | refine k_seq ?_ | refine k_region ?_ | refine k_skip ?_ | refine k_ret ?_ | refine k_exit ?_ | refine k_block ?_ | refine k_true (h := ?_) | refine k_false (h := ?_))
    | (show EX _ (bodyA _ _ _) _ _ _; first | refine x_end1 (hq := ?_))
    | (show EX _ _ _ _ _; first | refine x_normal ?_ | refine x_ret ?_ | refine x_exit ?_ | refine x_same ?_ | refine x_other (h := ?_) | refine x_bnormal ?_ | refine x_bret ?_))
  have hkb : Keep No H (H.push (.row ⟨[], 5, 0, true⟩)) := by exact kp
  (first | (refine' ew_appS (hR := ?_) (h := ?_); rotate_left 1) | (refine' ew_app (hR := ?_) (h := ?_); rotate_left 1))
  · exact app_own (O := fun x => x = b) (ls := []) (.inr ⟨⟨b, 0, none⟩, 0, ⟨[], 5, 0, true⟩, rfl, rfl, by simp; omega, by rw [AHeap.push_get, if_pos hb], rfl, rfl, by simp, rfl, rfl, .inl rfl⟩) (Rd.keep0 hd hkb) (by omega)
  rintro sv H1 ⟨ho1, hk1⟩
  repeat' (first
    | (show EW _ _ _ _ _; first | refine ew_p (h := ?_) | refine ew_ld (h := ?_) | refine ew_ci (h := ?_) | refine ew_conv (hn := r_conv_br (h := by first | assumption | (apply Rd.keep0; (focus assumption); exact kp))) (h := ?_) | (refine ew_fresh ?_; intro b hb; refine ew_nw hb (h := ?_); (try simp only [AHeap.push_next, AHeap.put_next] at hb)) | refine ew_st (h := ?_) | (refine ew_df (ht := ?_) (hf := ?_) <;> intro _) | refine ew_ar (h := ?_) | refine w_nil ?_)
    | (show EC _ _ _ _ _ _ _; first | refine k_seq ?_ | refine k_region ?_ | refine k_skip ?_ | refine k_ret ?_ | refine k_exit ?_ | refine k_block ?_ | refine k_true (h := ?_) | refine k_false (h := ?_))
    | (show EX _ (bodyA _ _ _) _ _ _; first | refine x_end1 (hq := ?_))
    | (show EX _ _ _ _ _; first | refine x_normal ?_ | refine x_ret ?_ | refine x_exit ?_ | refine x_same ?_ | refine x_other (h := ?_) | refine x_bnormal ?_ | refine x_bret ?_))
  refine k_loop follows (BytI H rr (.slice zd bs.length cd) bs) 600 [(6, _), (5, _), (4, _), (0, _), (1, _)] (by kernel_rfl) ⟨rfl, rfl, rfl, rfl, rfl, trivial⟩
    ⟨hkb.own hk1 (fun x hx => by have : x = b := hx; omega), 0, _, _, rfl, rfl, by simpa [marksB] using ho1, ?_⟩ ?_
  · rintro x (rfl | hx)
    · omega
    · have := hx.1; have := hkb.1; omega
  rintro n E H2 ⟨hk2, i, O, sv2, hi, rfl, ho2, hO2⟩
  have hn2 := hk2.1
  by_cases hlt : i < 600
  · repeat' (first
    | (show EW _ _ _ _ _; first | refine ew_p (h := ?_) | refine ew_ld (h := ?_) | refine ew_ci (h := ?_) | refine ew_conv (hn := r_conv_br (h := by first | assumption | (apply Rd.keep0; (focus assumption); exact kp))) (h := ?_) | (refine ew_fresh ?_; intro b hb; refine ew_nw hb (h := ?_); (try simp only [AHeap.push_next, AHeap.put_next] at hb)) | refine ew_st (h := ?_) | (refine ew_df (ht := ?_) (hf := ?_) <;> intro _) | refine ew_ar (h := ?_) | refine w_nil ?_)
    | (show EC _ _ _ _ _ _ _; first | refine k_seq ?_ | refine k_region ?_ | refine k_skip ?_ | refine k_ret ?_ | refine k_exit ?_ | refine k_block ?_ | refine k_true (h := ?_) | refine k_false (h := ?_))
    | (show EX _ (bodyA _ _ _) _ _ _; first | refine x_end1 (hq := ?_))
    | (show EX _ _ _ _ _; first | refine x_normal ?_ | refine x_ret ?_ | refine x_exit ?_ | refine x_same ?_ | refine x_other (h := ?_) | refine x_bnormal ?_ | refine x_bret ?_))
    (first | (refine' ew_callS (hc := cr_call) (hR := ?_) (h := ?_); rotate_left 1) | (refine' ew_call (hc := cr_call) (hR := ?_) (h := ?_); rotate_left 1))
    · exact lot_calls i _ (by omega)
    rintro _ H3 ⟨rfl, rfl⟩
    repeat' (first
    | (show EW _ _ _ _ _; first | refine ew_p (h := ?_) | refine ew_ld (h := ?_) | refine ew_ci (h := ?_) | refine ew_conv (hn := r_conv_br (h := by first | assumption | (apply Rd.keep0; (focus assumption); exact kp))) (h := ?_) | (refine ew_fresh ?_; intro b hb; refine ew_nw hb (h := ?_); (try simp only [AHeap.push_next, AHeap.put_next] at hb)) | refine ew_st (h := ?_) | (refine ew_df (ht := ?_) (hf := ?_) <;> intro _) | refine ew_ar (h := ?_) | refine w_nil ?_)
    | (show EC _ _ _ _ _ _ _; first | refine k_seq ?_ | refine k_region ?_ | refine k_skip ?_ | refine k_ret ?_ | refine k_exit ?_ | refine k_block ?_ | refine k_true (h := ?_) | refine k_false (h := ?_))
    | (show EX _ (bodyA _ _ _) _ _ _; first | refine x_end1 (hq := ?_))
    | (show EX _ _ _ _ _; first | refine x_normal ?_ | refine x_ret ?_ | refine x_exit ?_ | refine x_same ?_ | refine x_other (h := ?_) | refine x_bnormal ?_ | refine x_bret ?_))
    have hkx : Keep No H3 (H3.push (.row ⟨[.int .u8 (IntKind.u8.wrap (lotP i))], 5, 0, true⟩)) := by exact kp
    (first | (refine' ew_appS (hR := ?_) (h := ?_); rotate_left 1) | (refine' ew_app (hR := ?_) (h := ?_); rotate_left 1))
    · exact app_own (bs := [lotB i]) (ho2.keep0 hkx) (rd_row (F := fun _ => True) (by rw [AHeap.push_get, if_pos hb, lot_wrap]; rfl) trivial (by simp; omega)) (by simp; omega)
    rintro sv3 H4 ⟨ho4, hk4⟩
    repeat' (first
    | (show EW _ _ _ _ _; first | refine ew_p (h := ?_) | refine ew_ld (h := ?_) | refine ew_ci (h := ?_) | refine ew_conv (hn := r_conv_br (h := by first | assumption | (apply Rd.keep0; (focus assumption); exact kp))) (h := ?_) | (refine ew_fresh ?_; intro b hb; refine ew_nw hb (h := ?_); (try simp only [AHeap.push_next, AHeap.put_next] at hb)) | refine ew_st (h := ?_) | (refine ew_df (ht := ?_) (hf := ?_) <;> intro _) | refine ew_ar (h := ?_) | refine w_nil ?_)
    | (show EC _ _ _ _ _ _ _; first | refine k_seq ?_ | refine k_region ?_ | refine k_skip ?_ | refine k_ret ?_ | refine k_exit ?_ | refine k_block ?_ | refine k_true (h := ?_) | refine k_false (h := ?_))
    | (show EX _ (bodyA _ _ _) _ _ _; first | refine x_end1 (hq := ?_))
    | (show EX _ _ _ _ _; first | refine x_normal ?_ | refine x_ret ?_ | refine x_exit ?_ | refine x_same ?_ | refine x_other (h := ?_) | refine x_bnormal ?_ | refine x_bret ?_))
    refine x_again (n - 1) [(6, _), (5, _), (4, _), (0, _), (1, _)] ⟨rfl, rfl, rfl, rfl, rfl, trivial⟩ (by omega) ⟨(hk2.after hkx).own hk4 hO2, i + 1, Or O (New (H3.push (.row ⟨[.int .u8 (IntKind.u8.wrap (lotP i))], 5, 0, true⟩)) H4), _, by omega, rfl, ?_, ?_⟩
    · rw [marksB_succ, ← List.append_assoc]
      exact ho4
    · rintro x (hx | hx)
      · exact hO2 x hx
      · have := hx.1; have := hkx.1; omega
  · obtain rfl : i = 600 := by omega
    obtain ⟨ad, cf, rc, vr, rfl, hOa, hla, hga, hva, hle, htk, hcap⟩ := ho2.at_row (by omega)
    have hr2 := hk2.row0 hr hrn
    repeat' (first
    | (show EW _ _ _ _ _; first | refine ew_p (h := ?_) | refine ew_ld (h := ?_) | refine ew_ci (h := ?_) | refine ew_conv (hn := r_conv_br (h := by first | assumption | (apply Rd.keep0; (focus assumption); exact kp))) (h := ?_) | (refine ew_fresh ?_; intro b hb; refine ew_nw hb (h := ?_); (try simp only [AHeap.push_next, AHeap.put_next] at hb)) | refine ew_st (h := ?_) | (refine ew_df (ht := ?_) (hf := ?_) <;> intro _) | refine ew_ar (h := ?_) | refine w_nil ?_)
    | (show EC _ _ _ _ _ _ _; first | refine k_seq ?_ | refine k_region ?_ | refine k_skip ?_ | refine k_ret ?_ | refine k_exit ?_ | refine k_block ?_ | refine k_true (h := ?_) | refine k_false (h := ?_))
    | (show EX _ (bodyA _ _ _) _ _ _; first | refine x_end1 (hq := ?_))
    | (show EX _ _ _ _ _; first | refine x_normal ?_ | refine x_ret ?_ | refine x_exit ?_ | refine x_same ?_ | refine x_other (h := ?_) | refine x_bnormal ?_ | refine x_bret ?_))
    have hkx : Keep No H2 (H2.push (.row ⟨[.slice (some ad) (bs.length + 600) cf], 29, 0, true⟩)) := by exact kp
    (first | (refine' ew_appS (hR := ?_) (h := ?_); rotate_left 1) | (refine' ew_app (hR := ?_) (h := ?_); rotate_left 1))
    · exact Opn.snoc T23 (Opn.nil (F := No)) (news := [.slice (some ad) (bs.length + 600) cf]) (m := 1) (by refine src_of (by decide) (m := 1) rfl ?_; (first | assumption | (apply cells_row; (focus ((repeat' (first | assumption | (rw [aadd_block]) | (apply gN; (focus (first | exact rfl | omega | (simp only [AHeap.push_next, AHeap.put_next, aadd_block] <;> omega))); (focus exact rfl)) | (apply gO; (focus (first | omega | (simp only [AHeap.push_next, AHeap.put_next, aadd_block, ne_eq] <;> omega)))) | (apply gS; (focus (first | exact rfl | omega | (simp only [AHeap.push_next, AHeap.put_next, aadd_block] <;> omega))); (focus exact rfl)) | (apply gP; (focus (first | omega | (simp only [AHeap.push_next, AHeap.put_next, aadd_block, ne_eq] <;> omega)))) | exact rfl)); done)); (focus exact rfl); (focus exact rfl); (focus (first | exact (rfl : _ = some [_])))) | (apply cells_k; (focus assumption); (focus (first | assumption | (simp only [aadd_block] <;> first | assumption | omega))); (focus ((repeat' (first | exact Keep.refl | assumption | (apply Keep.push) | (refine Keep.put ?_ ?_; rotate_left; (focus (intro hlt; first | assumption | omega | (exfalso; simp only [AHeap.push_next, AHeap.put_next, aadd_block] at hlt; omega)))))); done))))) (by decide) rfl rfl (by omega)
    rintro sv3 H4 ⟨ho4, hk4, hn4, hd4⟩
    have hk4' : Keep No H2 H4 := (hkx.no (G := No)).trans hk4 fun _ _ h => h.elim
    have hr4 := hk4'.row0 hr2 (by omega)
    obtain ⟨z3, c3, rfl⟩ := ho4.rd.slice
    have hn4' := hk4'.1
    have hsl : sliceA Try.prog 29 (.slice (some ad) (bs.length + 600) cf) none (some (.int .i64 (bs.length : Nat))) (some (.int .i64 ((bs.length + 600 : Nat) : Int))) = some (.slice (some (aadd ad 0)) bs.length (bs.length + 600)) := by
      have hb : (0 : Int) ≤ ((bs.length + 600 : Nat) : Int) ∧ ((bs.length + 600 : Nat) : Int) ≤ ((bs.length + 600 : Nat) : Int) := ⟨by omega, by omega⟩
      have hb0 : (0 : Int) ≤ ((bs.length : Nat) : Int) ∧ ((bs.length : Nat) : Int) ≤ ((bs.length + 600 : Nat) : Int) := ⟨by omega, by omega⟩
      have h00 : bs.length + 600 ≠ 0 := by omega
      rcases hcap with rfl | ⟨rfl, _⟩
      · have h2 : ¬ openCap ≤ bs.length + 600 := by unfold openCap; omega
        simp only [sliceA, T29.ht, T29.hs, h2, if_false, boundsA, boundA, lowA, advA, hb, hb0, and_self, if_true, Option.bind_some, Option.map_some, Int.toNat_natCast, h00, Nat.sub_zero, Nat.zero_mul]
      · simp only [sliceA, T29.ht, T29.hs, boundsA, boundA, lowA, advA, hb, hb0, and_self, if_true, if_false, Option.bind_some, Option.map_some, Int.toNat_natCast, h00, Nat.sub_zero, Nat.zero_mul, Option.isSome_some, Nat.le_add_right]
    repeat' (first
    | (show EW _ _ _ _ _; first | refine ew_p (h := ?_) | refine ew_ld (h := ?_) | refine ew_ci (h := ?_) | refine ew_conv (hn := r_conv_br (h := by first | assumption | (apply Rd.keep0; (focus assumption); exact kp))) (h := ?_) | (refine ew_fresh ?_; intro b hb; refine ew_nw hb (h := ?_); (try simp only [AHeap.push_next, AHeap.put_next] at hb)) | refine ew_st (h := ?_) | (refine ew_df (ht := ?_) (hf := ?_) <;> intro _) | refine ew_ar (h := ?_) | refine w_nil ?_)
    | (show EC _ _ _ _ _ _ _; first | refine k_seq ?_ | refine k_region ?_ | refine k_skip ?_ | refine k_ret ?_ | refine k_exit ?_ | refine k_block ?_ | refine k_true (h := ?_) | refine k_false (h := ?_))
    | (show EX _ (bodyA _ _ _) _ _ _; first | refine x_end1 (hq := ?_))
    | (show EX _ _ _ _ _; first | refine x_normal ?_ | refine x_ret ?_ | refine x_exit ?_ | refine x_same ?_ | refine x_other (h := ?_) | refine x_bnormal ?_ | refine x_bret ?_))
    have hkr : Keep (fun b => b = rr) H4 (H4.put rr (.row ⟨[.slice none 0 0, .slice none 0 0, .slice none 0 0, .slice none 0 0, .slice none 0 0, .slice none 0 0, .slice none 0 0, .slice none 0 0, .slice none 0 0, .slice z3 (0 + 1) c3], 96, 0, true⟩)) := Keep.refl.put fun _ => rfl
    have hnr : ∀ b, H.next ≤ b → b ≠ rr := fun b hb he => by omega
    refine ⟨ad, cf, rfl, ((hk.after hk2).after hk4').own (F := fun b => b = rr) hkr (fun b hb => by have : b = rr := hb; omega), ⟨⟨O, _, _, by rw [AHeap.put_get, if_pos rfl], ho4.keep hkr fun b _ hb _ he => ?_, (ho2.keep0 hk4').keep hkr fun b _ hb _ he => hnr b (hO2 b hb) he, fun b hb => Nat.le_trans hk.1 (hO2 b hb), ?_⟩, hr0, by simp; omega⟩⟩
    · rcases hb with hb | hb
      · exact hb
      · have := hb.1; have := hkx.1; exact hnr b (by omega) he
    · rintro b (hb | hb)
      · exact hb.elim
      · have := hb.1; have := hkx.1; have := hk.1; omega

end Go.Ae

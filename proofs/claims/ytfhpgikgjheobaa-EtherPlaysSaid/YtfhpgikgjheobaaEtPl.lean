/- The law EtherPlays over the abstract heap: the whole. No condition. -/
import Derived.Test.YtfhpgikgjheobaaEtZ
set_option linter.unusedSimpArgs false
set_option linter.unusedVariables false
set_option linter.unnecessarySimpa false
set_option maxRecDepth 100000
set_option maxHeartbeats 1600000
namespace Go.Ae
open Go.Proofs
attribute [local irreducible] awC wpSeq wpS nRes aw aE acall ACalls szT isAggT zeroT byT elemSz fieldOff Program.underlying appendA copyA thenA inBlockA bodyA AHeap.push AHeap.put AHeap.cellsAt AHeap.setCells resV loadA intBin EW EC EX Nr Nc Er Cr Agree

def tbl11 : Tbl := []
/-- A step of a script, with the bounds of both its numbers. -/
def OpR2 (H : AHeap) (cs : List Value) (x : OpD) : Prop :=
  ∃ dv, cs = [.int .i64 x.kind, .int .i64 x.wh, .int .i64 x.a, .int .i64 x.b, dv] ∧ BR H (fun _ => True) dv x.dat ∧ x.dat.length ≤ reachBytes ∧ (-9223372036854775808 ≤ x.b ∧ x.b ≤ 9223372036854775807) ∧ -9223372036854775808 ≤ x.a ∧ x.a ≤ 9223372036854775807
theorem OpR2.keep {H H' : AHeap} {cs : List Value} {x : OpD} (h : OpR2 H cs x) (hk : Keep No H H') : OpR2 H' cs x := by
  obtain ⟨dv, h1, h2, h3⟩ := h
  exact ⟨dv, h1, Rd.keep0 h2 hk, h3⟩

structure Two (H0 H : AHeap) (x y : Nat) (m m' : Int) (i : Nat) : Prop where
  kp : Keep No H0 H
  bd : ∃ (Fx Fy : Blks) (Ax Ay : List (Option Msg)), BtR H Fx x m Ax ∧ BtR H Fy y m' Ay ∧ (∀ b, Fx b → ¬ Fy b) ∧ (∀ b, Fx b → H0.next ≤ b) ∧ (∀ b, Fy b → H0.next ≤ b) ∧ Ax.length ≤ i ∧ Ay.length ≤ i
/-- A step of the one. -/
theorem Two.left {H0 H : AHeap} {x y : Nat} {m m' : Int} {i : Nat} (t : Two H0 H x y m m' i) (o : OpD) {dv : Value} (hd : BR H0 (fun _ => True) dv o.dat) (hdl : o.dat.length ≤ 140737488351232)
    (ha1 : -9223372036854775808 ≤ o.a) (ha2 : o.a ≤ 9223372036854775807) (hb1 : -9223372036854775808 ≤ o.b) (hb2 : o.b ≤ 9223372036854775807) (hA : i ≤ 2932031007401) :
    ACalls Try.prog 30 #[.pointer (some ⟨x, 0, none⟩), .agg #[.int .i64 o.kind, .int .i64 o.wh, .int .i64 o.a, .int .i64 o.b, dv]] H fun v H' => v = .bool true ∧ Keep No H0 H' ∧ Two H0 H' x y m m' (i + 1) := by
  obtain ⟨kp, Fx, Fy, Ax, Ay, bx, by', hxy, hx, hy, lx, ly⟩ := t
  have hd' : BR H (fun b => b < H0.next) dv o.dat := Rd.keep0 (Rd.weak hd fun b h _ => h) kp
  refine (play_calls bx o hd' (fun b h h' => by have := hx b h'; omega) hdl ha1 ha2 hb1 hb2 (by omega)).mono fun v H' h => ?_
  obtain ⟨rfl, hk, F', A', b', hG, hl⟩ := h
  have hk0 : Keep No H0 H' := kp.own hk hx
  have hgr : ∀ b, F' b → Fx b ∨ H.next ≤ b := hG
  refine ⟨rfl, hk0, hk0, F', Fy, A', Ay, b', by'.keep hk fun b h h' => hxy b h' h, fun b h h' => (hgr b h).elim (fun h => hxy b h h') fun h => by have := by'.bd b h'; omega, fun b h => (hgr b h).elim (hx b) fun h => by have := kp.1; omega, hy, by omega, by omega⟩
theorem Two.swap {H0 H : AHeap} {x y : Nat} {m m' : Int} {i : Nat} (t : Two H0 H x y m m' i) : Two H0 H y x m' m i := by
  obtain ⟨kp, Fx, Fy, Ax, Ay, bx, by', hxy, hx, hy, lx, ly⟩ := t
  exact ⟨kp, Fy, Fx, Ay, Ax, by', bx, fun b h h' => hxy b h' h, hy, hx, ly, lx⟩
theorem Two.right {H0 H : AHeap} {x y : Nat} {m m' : Int} {i : Nat} (t : Two H0 H x y m m' i) (o : OpD) {dv : Value} (hd : BR H0 (fun _ => True) dv o.dat) (hdl : o.dat.length ≤ 140737488351232)
    (ha1 : -9223372036854775808 ≤ o.a) (ha2 : o.a ≤ 9223372036854775807) (hb1 : -9223372036854775808 ≤ o.b) (hb2 : o.b ≤ 9223372036854775807) (hA : i ≤ 2932031007401) :
    ACalls Try.prog 30 #[.pointer (some ⟨y, 0, none⟩), .agg #[.int .i64 o.kind, .int .i64 o.wh, .int .i64 o.a, .int .i64 o.b, dv]] H fun v H' => v = .bool true ∧ Keep No H0 H' ∧ Two H0 H' x y m m' (i + 1) :=
  (t.swap.left o hd hdl ha1 ha2 hb1 hb2 hA).mono fun v H' h => ⟨h.1, h.2.1, h.2.2.swap⟩
def PlaysI (H0 : AHeap) (m m' : Int) (v1 : Value) (x y T : Nat) (n : Nat) (E : Env) (H : AHeap) : Prop :=
  ∃ i : Nat, n + i = T ∧ E = [(11, .int .i64 i), (9, .pointer (some ⟨y, 0, none⟩)), (7, .pointer (some ⟨x, 0, none⟩)), (2, v1)] ∧ Two H0 H x y m m' i
theorem plays_calls (H : AHeap) (m m' : Int) (v1 : Value) (ops : List OpD) (r1 : SlR 5 56 OpR2 H [v1] ops) :
    ACalls Try.prog 11 #[.int .i64 m, .int .i64 m', v1] H fun v H' => v = .bool true := by
  obtain ⟨z1, c1, rfl, w1⟩ := r1.slice
  have hrb : reachBytes = 140737488351232 := rfl
  rw [hrb] at w1
  refine k_open (args := [.int .i64 m, .int .i64 m', .slice z1 ops.length c1]) (E0 := [(0, .int .i64 m), (1, .int .i64 m'), (2, .slice z1 ops.length c1)]) tbl11 Try.func11 rfl follows (by kernel_rfl) Try.ntmps11 rfl rfl ?_
  repeat' (first
    | (show EW _ _ _ _ _; first | refine ew_p (h := ?_) | refine ew_bu (h := ?_) | refine ew_skip (h := ?_) | refine ew_ld (h := ?_) | (refine ew_df (ht := ?_) (hf := ?_) <;> intro _) | refine ew_ar (h := ?_) | refine w_nil ?_)
    | (show EC _ _ _ _ _ _ _; first | refine k_seq ?_ | refine k_region ?_ | refine k_skip ?_ | refine k_ret ?_ | refine k_exit ?_ | refine k_block ?_ | refine k_true (h := ?_) | refine k_false (h := ?_))
    | (show EX _ (bodyA _ _ _) _ _ _; first | refine x_end1 (hq := ?_))
    | (show EX _ _ _ _ _; first | refine x_normal ?_ | refine x_ret ?_ | refine x_exit ?_ | refine x_same ?_ | refine x_other (h := ?_) | refine x_bnormal ?_ | refine x_bret ?_))
  (first | (refine' ew_callS (hc := cr_call) (hR := ?_) (h := ?_); rotate_left 1) | (refine' ew_call (hc := cr_call) (hR := ?_) (h := ?_); rotate_left 1))
  · exact begin_calls m _
  rintro _ H1 ⟨x, rfl, hx, hk1⟩
  repeat' (first
    | (show EW _ _ _ _ _; first | refine ew_p (h := ?_) | refine ew_bu (h := ?_) | refine ew_skip (h := ?_) | refine ew_ld (h := ?_) | (refine ew_df (ht := ?_) (hf := ?_) <;> intro _) | refine ew_ar (h := ?_) | refine w_nil ?_)
    | (show EC _ _ _ _ _ _ _; first | refine k_seq ?_ | refine k_region ?_ | refine k_skip ?_ | refine k_ret ?_ | refine k_exit ?_ | refine k_block ?_ | refine k_true (h := ?_) | refine k_false (h := ?_))
    | (show EX _ (bodyA _ _ _) _ _ _; first | refine x_end1 (hq := ?_))
    | (show EX _ _ _ _ _; first | refine x_normal ?_ | refine x_ret ?_ | refine x_exit ?_ | refine x_same ?_ | refine x_other (h := ?_) | refine x_bnormal ?_ | refine x_bret ?_))
  (first | (refine' ew_callS (hc := cr_call) (hR := ?_) (h := ?_); rotate_left 1) | (refine' ew_call (hc := cr_call) (hR := ?_) (h := ?_); rotate_left 1))
  · exact begin_calls m' _
  rintro _ H2 ⟨y, rfl, hy, hk2⟩
  repeat' (first
    | (show EW _ _ _ _ _; first | refine ew_p (h := ?_) | refine ew_bu (h := ?_) | refine ew_skip (h := ?_) | refine ew_ld (h := ?_) | (refine ew_df (ht := ?_) (hf := ?_) <;> intro _) | refine ew_ar (h := ?_) | refine w_nil ?_)
    | (show EC _ _ _ _ _ _ _; first | refine k_seq ?_ | refine k_region ?_ | refine k_skip ?_ | refine k_ret ?_ | refine k_exit ?_ | refine k_block ?_ | refine k_true (h := ?_) | refine k_false (h := ?_))
    | (show EX _ (bodyA _ _ _) _ _ _; first | refine x_end1 (hq := ?_))
    | (show EX _ _ _ _ _; first | refine x_normal ?_ | refine x_ret ?_ | refine x_exit ?_ | refine x_same ?_ | refine x_other (h := ?_) | refine x_bnormal ?_ | refine x_bret ?_))
  (first | (refine' ew_callS (hc := cr_call) (hR := ?_) (h := ?_); rotate_left 1) | (refine' ew_call (hc := cr_call) (hR := ?_) (h := ?_); rotate_left 1))
  · exact works_calls _
  rintro _ H3 ⟨rfl, hk3⟩
  repeat' (first
    | (show EW _ _ _ _ _; first | refine ew_p (h := ?_) | refine ew_bu (h := ?_) | refine ew_skip (h := ?_) | refine ew_ld (h := ?_) | (refine ew_df (ht := ?_) (hf := ?_) <;> intro _) | refine ew_ar (h := ?_) | refine w_nil ?_)
    | (show EC _ _ _ _ _ _ _; first | refine k_seq ?_ | refine k_region ?_ | refine k_skip ?_ | refine k_ret ?_ | refine k_exit ?_ | refine k_block ?_ | refine k_true (h := ?_) | refine k_false (h := ?_))
    | (show EX _ (bodyA _ _ _) _ _ _; first | refine x_end1 (hq := ?_))
    | (show EX _ _ _ _ _; first | refine x_normal ?_ | refine x_ret ?_ | refine x_exit ?_ | refine x_same ?_ | refine x_other (h := ?_) | refine x_bnormal ?_ | refine x_bret ?_))
  have hn1 := hk1.1
  have hn2 := hk2.1
  have hT : Two H H3 x y m m' 0 := ⟨(hk1.after hk2).after hk3, New H H1, New H1 H2, [], [], (hx.keep0 hk2).keep0 hk3, hy.keep0 hk3, fun b h h' => by have := h.2; have := h'.1; omega, fun b h => h.1, fun b h => by have := h.1; omega, by simp, by simp⟩
  refine k_loop follows (PlaysI H m m' (.slice z1 ops.length c1) x y ops.length) ops.length [(11, _), (9, _), (7, _), (2, _)] (by kernel_rfl) ⟨rfl, rfl, rfl, rfl, trivial⟩ ⟨0, by omega, rfl, hT⟩ ?_
  clear hT hk3 hn2 hn1 hy hk2 hx hk1
  clear H1 H2 H3
  rintro n E H2 ⟨i, hi, rfl, t⟩
  by_cases hlt : i < ops.length
  · obtain ⟨o, hoo⟩ : ∃ o, ops[i]? = some o := ⟨ops[i], List.getElem?_eq_getElem hlt⟩
    obtain ⟨ad1, c1', cs1, hv1, hlt1, hcell1, dv, rfl, hbr, hdl, ⟨hob1, hob2⟩, hoa1, hoa2⟩ := SlR.at r1 hoo
    simp only [Value.slice.injEq, true_and] at hv1
    obtain ⟨rfl, rfl⟩ := hv1
    rw [hrb] at hdl
    have hcell1' : H.cellsAt (aadd ad1 ((i : Int).toNat * 5)) 5 = some [.int .i64 o.kind, .int .i64 o.wh, .int .i64 o.a, .int .i64 o.b, dv] := hcell1
    have hkind : H.cellsAt (aadd (aadd ad1 ((i : Int).toNat * 5)) 1) 1 = some [.int .i64 o.wh] := cellsAt_sub hcell1' (j := 1) (i := 1) (by omega)
    have hkH := t.kp
    by_cases hw : o.wh = 1
    · repeat' (first
    | (show EW _ _ _ _ _; first | refine ew_p (h := ?_) | refine ew_bu (h := ?_) | refine ew_skip (h := ?_) | refine ew_ld (h := ?_) | (refine ew_df (ht := ?_) (hf := ?_) <;> intro _) | refine ew_ar (h := ?_) | refine w_nil ?_)
    | (show EC _ _ _ _ _ _ _; first | refine k_seq ?_ | refine k_region ?_ | refine k_skip ?_ | refine k_ret ?_ | refine k_exit ?_ | refine k_block ?_ | refine k_true (h := ?_) | refine k_false (h := ?_))
    | (show EX _ (bodyA _ _ _) _ _ _; first | refine x_end1 (hq := ?_))
    | (show EX _ _ _ _ _; first | refine x_normal ?_ | refine x_ret ?_ | refine x_exit ?_ | refine x_same ?_ | refine x_other (h := ?_) | refine x_bnormal ?_ | refine x_bret ?_))
      (first | (refine' ew_callS (hc := cr_call) (hR := ?_) (h := ?_); rotate_left 1) | (refine' ew_call (hc := cr_call) (hR := ?_) (h := ?_); rotate_left 1))
      · exact t.right o hbr hdl hoa1 hoa2 hob1 hob2 (by omega)
      rintro _ H3 ⟨rfl, hk3, t3⟩
      repeat' (first
    | (show EW _ _ _ _ _; first | refine ew_p (h := ?_) | refine ew_bu (h := ?_) | refine ew_skip (h := ?_) | refine ew_ld (h := ?_) | (refine ew_df (ht := ?_) (hf := ?_) <;> intro _) | refine ew_ar (h := ?_) | refine w_nil ?_)
    | (show EC _ _ _ _ _ _ _; first | refine k_seq ?_ | refine k_region ?_ | refine k_skip ?_ | refine k_ret ?_ | refine k_exit ?_ | refine k_block ?_ | refine k_true (h := ?_) | refine k_false (h := ?_))
    | (show EX _ (bodyA _ _ _) _ _ _; first | refine x_end1 (hq := ?_))
    | (show EX _ _ _ _ _; first | refine x_normal ?_ | refine x_ret ?_ | refine x_exit ?_ | refine x_same ?_ | refine x_other (h := ?_) | refine x_bnormal ?_ | refine x_bret ?_))
      exact x_again (n - 1) [(11, _), (9, _), (7, _), (2, _)] ⟨rfl, rfl, rfl, rfl, trivial⟩ (by omega) ⟨i + 1, by omega, rfl, t3⟩
    · repeat' (first
    | (show EW _ _ _ _ _; first | refine ew_p (h := ?_) | refine ew_bu (h := ?_) | refine ew_skip (h := ?_) | refine ew_ld (h := ?_) | (refine ew_df (ht := ?_) (hf := ?_) <;> intro _) | refine ew_ar (h := ?_) | refine w_nil ?_)
    | (show EC _ _ _ _ _ _ _; first | refine k_seq ?_ | refine k_region ?_ | refine k_skip ?_ | refine k_ret ?_ | refine k_exit ?_ | refine k_block ?_ | refine k_true (h := ?_) | refine k_false (h := ?_))
    | (show EX _ (bodyA _ _ _) _ _ _; first | refine x_end1 (hq := ?_))
    | (show EX _ _ _ _ _; first | refine x_normal ?_ | refine x_ret ?_ | refine x_exit ?_ | refine x_same ?_ | refine x_other (h := ?_) | refine x_bnormal ?_ | refine x_bret ?_))
      (first | (refine' ew_callS (hc := cr_call) (hR := ?_) (h := ?_); rotate_left 1) | (refine' ew_call (hc := cr_call) (hR := ?_) (h := ?_); rotate_left 1))
      · exact t.left o hbr hdl hoa1 hoa2 hob1 hob2 (by omega)
      rintro _ H3 ⟨rfl, hk3, t3⟩
      repeat' (first
    | (show EW _ _ _ _ _; first | refine ew_p (h := ?_) | refine ew_bu (h := ?_) | refine ew_skip (h := ?_) | refine ew_ld (h := ?_) | (refine ew_df (ht := ?_) (hf := ?_) <;> intro _) | refine ew_ar (h := ?_) | refine w_nil ?_)
    | (show EC _ _ _ _ _ _ _; first | refine k_seq ?_ | refine k_region ?_ | refine k_skip ?_ | refine k_ret ?_ | refine k_exit ?_ | refine k_block ?_ | refine k_true (h := ?_) | refine k_false (h := ?_))
    | (show EX _ (bodyA _ _ _) _ _ _; first | refine x_end1 (hq := ?_))
    | (show EX _ _ _ _ _; first | refine x_normal ?_ | refine x_ret ?_ | refine x_exit ?_ | refine x_same ?_ | refine x_other (h := ?_) | refine x_bnormal ?_ | refine x_bret ?_))
      exact x_again (n - 1) [(11, _), (9, _), (7, _), (2, _)] ⟨rfl, rfl, rfl, rfl, trivial⟩ (by omega) ⟨i + 1, by omega, rfl, t3⟩
  · repeat' (first
    | (show EW _ _ _ _ _; first | refine ew_p (h := ?_) | refine ew_bu (h := ?_) | refine ew_skip (h := ?_) | refine ew_ld (h := ?_) | (refine ew_df (ht := ?_) (hf := ?_) <;> intro _) | refine ew_ar (h := ?_) | refine w_nil ?_)
    | (show EC _ _ _ _ _ _ _; first | refine k_seq ?_ | refine k_region ?_ | refine k_skip ?_ | refine k_ret ?_ | refine k_exit ?_ | refine k_block ?_ | refine k_true (h := ?_) | refine k_false (h := ?_))
    | (show EX _ (bodyA _ _ _) _ _ _; first | refine x_end1 (hq := ?_))
    | (show EX _ _ _ _ _; first | refine x_normal ?_ | refine x_ret ?_ | refine x_exit ?_ | refine x_same ?_ | refine x_other (h := ?_) | refine x_bnormal ?_ | refine x_bret ?_))
    (first | (refine' ew_callS (hc := cr_call) (hR := ?_) (h := ?_); rotate_left 1) | (refine' ew_call (hc := cr_call) (hR := ?_) (h := ?_); rotate_left 1))
    · exact t.left ⟨6, 0, 0, 0, []⟩ brNil (by simp) (by simp) (by simp) (by simp) (by simp) (by omega)
    rintro _ H3 ⟨rfl, hk3, t3⟩
    repeat' (first
    | (show EW _ _ _ _ _; first | refine ew_p (h := ?_) | refine ew_bu (h := ?_) | refine ew_skip (h := ?_) | refine ew_ld (h := ?_) | (refine ew_df (ht := ?_) (hf := ?_) <;> intro _) | refine ew_ar (h := ?_) | refine w_nil ?_)
    | (show EC _ _ _ _ _ _ _; first | refine k_seq ?_ | refine k_region ?_ | refine k_skip ?_ | refine k_ret ?_ | refine k_exit ?_ | refine k_block ?_ | refine k_true (h := ?_) | refine k_false (h := ?_))
    | (show EX _ (bodyA _ _ _) _ _ _; first | refine x_end1 (hq := ?_))
    | (show EX _ _ _ _ _; first | refine x_normal ?_ | refine x_ret ?_ | refine x_exit ?_ | refine x_same ?_ | refine x_other (h := ?_) | refine x_bnormal ?_ | refine x_bret ?_))
    (first | (refine' ew_callS (hc := cr_call) (hR := ?_) (h := ?_); rotate_left 1) | (refine' ew_call (hc := cr_call) (hR := ?_) (h := ?_); rotate_left 1))
    · exact t3.right ⟨6, 0, 0, 0, []⟩ brNil (by simp) (by simp) (by simp) (by simp) (by simp) (by omega)
    rintro _ H4 ⟨rfl, hk4, t4⟩
    repeat' (first
    | (show EW _ _ _ _ _; first | refine ew_p (h := ?_) | refine ew_bu (h := ?_) | refine ew_skip (h := ?_) | refine ew_ld (h := ?_) | (refine ew_df (ht := ?_) (hf := ?_) <;> intro _) | refine ew_ar (h := ?_) | refine w_nil ?_)
    | (show EC _ _ _ _ _ _ _; first | refine k_seq ?_ | refine k_region ?_ | refine k_skip ?_ | refine k_ret ?_ | refine k_exit ?_ | refine k_block ?_ | refine k_true (h := ?_) | refine k_false (h := ?_))
    | (show EX _ (bodyA _ _ _) _ _ _; first | refine x_end1 (hq := ?_))
    | (show EX _ _ _ _ _; first | refine x_normal ?_ | refine x_ret ?_ | refine x_exit ?_ | refine x_same ?_ | refine x_other (h := ?_) | refine x_bnormal ?_ | refine x_bret ?_))
    rfl

end Go.Ae

/- The law EtherHonest over the abstract heap: the whole. No condition. -/
import Derived.Test.YtfhpgikgjheobaaEtP
set_option linter.unusedSimpArgs false
set_option linter.unusedVariables false
set_option linter.unnecessarySimpa false
set_option maxRecDepth 100000
set_option maxHeartbeats 1600000
namespace Go.Ae
open Go.Proofs

/-- A step of a script. -/
structure OpD where
  kind : Int
  wh : Int
  a : Int
  b : Int
  dat : List UInt8
def OpR (H : AHeap) (cs : List Value) (x : OpD) : Prop :=
  ∃ dv, cs = [.int .i64 x.kind, .int .i64 x.wh, .int .i64 x.a, .int .i64 x.b, dv] ∧ BR H (fun _ => True) dv x.dat ∧ x.dat.length ≤ reachBytes ∧ -9223372036854775808 ≤ x.b ∧ x.b ≤ 9223372036854775807
theorem OpR.keep {H H' : AHeap} {cs : List Value} {x : OpD} (h : OpR H cs x) (hk : Keep No H H') : OpR H' cs x := by
  obtain ⟨dv, h1, h2, h3⟩ := h
  exact ⟨dv, h1, Rd.keep0 h2 hk, h3⟩

theorem r_pnil {P : Program} {N : Nat} {E : Env} {H : AHeap} {d : Nat} {ty t yt e : TypeId} {p : String} {af : Array Edge} {g : Option (Nat × Bool)} {x y : Operand} [un : UnT P t (.pointer e)] (hx : evE E x = some (.pointer none) := by exact rfl) (hy : evE E y = some (.pointer none) := by exact rfl) :
    Nr P N E H ⟨some d, .binOp .eql t x y yt, ty, p, af, g⟩ (.bool true) H := ⟨rfl, rfl, fun a ha => by
  have hx := ha.eval hx
  have hy := ha.eval hy
  have he : quiet P (Op.equal t (.pointer none) (.pointer none)) = some true := by
    unfold Op.equal Op.maxDepth Op.equalIn
    simp [quiet_bind, quiet_underlying, un.h, quiet_pure]
  have hq : quiet P (execOp a.eval ⟨some d, .binOp .eql t x y yt, ty, p, af, g⟩) = some (.value (.bool true)) := by
    simp [execOp, hx, hy, quiet_bind, quiet_pure, quiet_map, eqGuard, binOp, he]
  have h2 : quietOp P a.eval ⟨some d, .binOp .eql t x y yt, ty, p, af, g⟩ = some _ := quietOp_of (by simp [Op.operands, hx, hy, simpleV]) hq rfl
  simp [nRes, aP, hx, hy, simpleV, h2]⟩

attribute [local irreducible] awC wpSeq wpS nRes aw aE acall ACalls szT isAggT zeroT byT elemSz fieldOff Program.underlying appendA copyA thenA inBlockA bodyA AHeap.push AHeap.put AHeap.cellsAt AHeap.setCells resV loadA intBin EW EC EX Nr Nc Er Cr Agree

def HonI (H0 : AHeap) (mach : Int) (v1 : Value) (e k T : Nat) (n : Nat) (E : Env) (H : AHeap) : Prop :=
  ∃ (i : Nat) (F O D : Blks) (M S : List Msg) (c d p fl : Nat), n + i = T ∧ E = [(5, .pointer (some ⟨e, 0, none⟩)), (6, .int .i64 0), (7, .pointer (some ⟨k, 0, none⟩)), (8, .int .i64 i), (0, .int .i64 mach), (1, v1)] ∧
    Hn H0 H F O D e k mach M S c d p fl ∧ Good i M S c d p fl
def KnI (H0 : AHeap) (mach : Int) (v1 l : Value) (e k i len : Nat) (n : Nat) (E : Env) (H : AHeap) : Prop :=
  Keep No H0 H ∧ ∃ q, n + q = len ∧ E = [(10, .int .i64 (q : Nat)), (9, l), (5, .pointer (some ⟨e, 0, none⟩)), (6, .int .i64 0), (7, .pointer (some ⟨k, 0, none⟩)), (8, .int .i64 (i : Nat)), (0, .int .i64 mach), (1, v1)]

theorem honest_calls (H : AHeap) (mach : Int) (v1 : Value) (ops : List OpD) (r1 : SlR 5 56 OpR H [v1] ops) :
    ACalls Try.prog 10 #[.int .i64 mach, v1] H fun v H' => v = .bool true := by
  obtain ⟨z1, c1, rfl, w1⟩ := r1.slice
  have hrb : reachBytes = 140737488351232 := rfl
  rw [hrb] at w1
  refine k_open (args := [.int .i64 mach, .slice z1 ops.length c1]) (E0 := [(0, .int .i64 mach), (1, .slice z1 ops.length c1)]) tbl10 Try.func10 rfl follows (by kernel_rfl) Try.ntmps10 rfl rfl ?_
  repeat' (first
    | (show EW _ _ _ _ _; first | refine ew_p (h := ?_) | refine ew_bu (h := ?_) | refine ew_skip (h := ?_) | refine ew_ld (h := ?_) | (refine ew_fresh ?_; intro b hb; refine ew_nw hb (h := ?_); (try simp only [AHeap.push_next, AHeap.put_next] at hb)) | (refine ew_df (ht := ?_) (hf := ?_) <;> intro _) | refine ew_ar (h := ?_) | refine w_nil ?_ | refine w_nilD ?_)
    | (show EC _ _ _ _ _ _ _; first | refine k_seq ?_ | refine k_region ?_ | refine k_draw (h := ?_) | refine k_skip ?_ | refine k_ret ?_ | refine k_exit ?_ | refine k_block ?_ | refine k_true (h := ?_) | refine k_false (h := ?_))
    | (show EX _ (bodyA _ _ _) _ _ _; first | refine x_end1 (hq := ?_))
    | (show EX _ _ _ _ _; first | refine x_normal ?_ | refine x_ret ?_ | refine x_exit ?_ | refine x_same ?_ | refine x_other (h := ?_) | refine x_bnormal ?_ | refine x_bret ?_))
  (first | (refine' ew_callS (hc := cr_call) (hR := ?_) (h := ?_); rotate_left 1) | (refine' ew_call (hc := cr_call) (hR := ?_) (h := ?_); rotate_left 1))
  · exact works_calls _
  rintro _ H1 ⟨rfl, hk1⟩
  repeat' (first
    | (show EW _ _ _ _ _; first | refine ew_p (h := ?_) | refine ew_bu (h := ?_) | refine ew_skip (h := ?_) | refine ew_ld (h := ?_) | (refine ew_fresh ?_; intro b hb; refine ew_nw hb (h := ?_); (try simp only [AHeap.push_next, AHeap.put_next] at hb)) | (refine ew_df (ht := ?_) (hf := ?_) <;> intro _) | refine ew_ar (h := ?_) | refine w_nil ?_ | refine w_nilD ?_)
    | (show EC _ _ _ _ _ _ _; first | refine k_seq ?_ | refine k_region ?_ | refine k_draw (h := ?_) | refine k_skip ?_ | refine k_ret ?_ | refine k_exit ?_ | refine k_block ?_ | refine k_true (h := ?_) | refine k_false (h := ?_))
    | (show EX _ (bodyA _ _ _) _ _ _; first | refine x_end1 (hq := ?_))
    | (show EX _ _ _ _ _; first | refine x_normal ?_ | refine x_ret ?_ | refine x_exit ?_ | refine x_same ?_ | refine x_other (h := ?_) | refine x_bnormal ?_ | refine x_bret ?_))
  (first | (refine' ew_callS (hc := cr_call) (hR := ?_) (h := ?_); rotate_left 1) | (refine' ew_call (hc := cr_call) (hR := ?_) (h := ?_); rotate_left 1))
  · exact newM mach _
  rintro v H2 (⟨hno, rfl, rfl⟩ | ⟨hyes, e, rfl, hN2, hk2⟩)
  · by_cases hm1 : mach < 1
    all_goals (
      repeat' (first
    | (show EW _ _ _ _ _; first | refine ew_p (h := ?_) | refine ew_bu (h := ?_) | refine ew_skip (h := ?_) | refine ew_ld (h := ?_) | (refine ew_fresh ?_; intro b hb; refine ew_nw hb (h := ?_); (try simp only [AHeap.push_next, AHeap.put_next] at hb)) | (refine ew_df (ht := ?_) (hf := ?_) <;> intro _) | refine ew_ar (h := ?_) | refine ew_n (hn := r_pnil) (h := ?_) | refine w_nil ?_ | refine w_nilD ?_)
    | (show EC _ _ _ _ _ _ _; first | refine k_seq ?_ | refine k_region ?_ | refine k_draw (h := ?_) | refine k_skip ?_ | refine k_ret ?_ | refine k_exit ?_ | refine k_block ?_ | refine k_true (h := ?_) | refine k_false (h := ?_))
    | (show EX _ (bodyA _ _ _) _ _ _; first | refine x_end1 (hq := ?_))
    | (show EX _ _ _ _ _; first | refine x_normal ?_ | refine x_ret ?_ | refine x_exit ?_ | refine x_same ?_ | refine x_other (h := ?_) | refine x_bnormal ?_ | refine x_bret ?_))
      rfl)
  repeat' (first
    | (show EW _ _ _ _ _; first | refine ew_p (h := ?_) | refine ew_bu (h := ?_) | refine ew_skip (h := ?_) | refine ew_ld (h := ?_) | (refine ew_fresh ?_; intro b hb; refine ew_nw hb (h := ?_); (try simp only [AHeap.push_next, AHeap.put_next] at hb)) | (refine ew_df (ht := ?_) (hf := ?_) <;> intro _) | refine ew_ar (h := ?_) | refine w_nil ?_ | refine w_nilD ?_)
    | (show EC _ _ _ _ _ _ _; first | refine k_seq ?_ | refine k_region ?_ | refine k_draw (h := ?_) | refine k_skip ?_ | refine k_ret ?_ | refine k_exit ?_ | refine k_block ?_ | refine k_true (h := ?_) | refine k_false (h := ?_))
    | (show EX _ (bodyA _ _ _) _ _ _; first | refine x_end1 (hq := ?_))
    | (show EX _ _ _ _ _; first | refine x_normal ?_ | refine x_ret ?_ | refine x_exit ?_ | refine x_same ?_ | refine x_other (h := ?_) | refine x_bnormal ?_ | refine x_bret ?_))
  have hkA := hk1.after hk2
  have hn1 := hk1.1
  have hn2 := hk2.1
  have hHn : Hn H (H2.push (.row ⟨[.slice none 0 0, .int .i64 0, .int .i64 0, .int .i64 0, .int .i64 0], 69, 0, true⟩)) (New H1 H2) No No e b mach [] [] 0 0 0 0 := by
    refine ⟨by exact kp, hN2.keep0 (by exact kp), ⟨⟨_, [], by exact rdx, Opn.nil, by simp⟩, by simp only [AHeap.push_next]; omega, fun _ h => h.elim, fun _ h => h.elim, id, id, fun _ h => h.elim⟩, fun y hy => ⟨by have := hy.2; omega, id, id⟩, fun y hy => by have := hy.1; omega, fun _ h => h.elim, fun _ h => h.elim, by omega⟩
  refine k_loop follows (HonI H mach (.slice z1 ops.length c1) e b ops.length) ops.length [(5, _), (6, _), (7, _), (8, _), (0, _), (1, _)] (by kernel_rfl) ⟨rfl, rfl, rfl, rfl, rfl, rfl, trivial⟩
    ⟨0, _, _, _, _, _, _, _, _, _, by omega, rfl, hHn, ⟨rfl, by simp, by simp, by simp, by simp, by simp, by simp, by simp⟩⟩ ?_
  obtain ⟨k, hk⟩ : ∃ k, k = b := ⟨_, rfl⟩
  rw [← hk]
  clear hHn hN2 hkA hk2 hk1 hn1 hn2 hb hk b H1
  rintro n E H2 ⟨i, F, O, D, M, S, c, d, p, fl, hi, rfl, t, g⟩
  have hlen := t.net.len
  have s1 := g.sn
  have s2 := g.cn
  have s3 := g.dn
  have s4 := g.pn
  have s5 := g.fn
  have hsum := g.sum
  by_cases hlt : i < ops.length
  · obtain ⟨o, hoo⟩ : ∃ o, ops[i]? = some o := ⟨ops[i], List.getElem?_eq_getElem hlt⟩
    obtain ⟨ad1, c1', cs1, hv1, hlt1, hcell1, dv, rfl, hbr, hdl, hob1, hob2⟩ := SlR.at r1 hoo
    simp only [Value.slice.injEq, true_and] at hv1
    obtain ⟨rfl, rfl⟩ := hv1
    rw [hrb] at hdl
    have hcell1' : H.cellsAt (aadd ad1 ((i : Int).toNat * 5)) 5 = some [.int .i64 o.kind, .int .i64 o.wh, .int .i64 o.a, .int .i64 o.b, dv] := hcell1
    have hkind : H.cellsAt (aadd (aadd ad1 ((i : Int).toNat * 5)) 0) 1 = some [.int .i64 o.kind] := cellsAt_sub hcell1' (j := 0) (i := 1) (by omega)
    have hkH := t.kp
    repeat' (first
    | (show EW _ _ _ _ _; first | refine ew_p (h := ?_) | refine ew_bu (h := ?_) | refine ew_skip (h := ?_) | refine ew_ld (h := ?_) | (refine ew_fresh ?_; intro b hb; refine ew_nw hb (h := ?_); (try simp only [AHeap.push_next, AHeap.put_next] at hb)) | (refine ew_df (ht := ?_) (hf := ?_) <;> intro _) | refine ew_ar (h := ?_) | refine w_nil ?_ | refine w_nilD ?_)
    | (show EC _ _ _ _ _ _ _; first | refine k_seq ?_ | refine k_region ?_ | refine k_draw (h := ?_) | refine k_skip ?_ | refine k_ret ?_ | refine k_exit ?_ | refine k_block ?_ | refine k_true (h := ?_) | refine k_false (h := ?_))
    | (show EX _ (bodyA _ _ _) _ _ _; first | refine x_end1 (hq := ?_))
    | (show EX _ _ _ _ _; first | refine x_normal ?_ | refine x_ret ?_ | refine x_exit ?_ | refine x_same ?_ | refine x_other (h := ?_) | refine x_bnormal ?_ | refine x_bret ?_))
    (first | (refine' ew_callS (hc := cr_call) (hR := ?_) (h := ?_); rotate_left 1) | (refine' ew_call (hc := cr_call) (hR := ?_) (h := ?_); rotate_left 1))
    · exact step_calls t o.kind o.wh o.a o.b dv o.dat hbr (by omega) hob1 hob2 (by omega) (fun s hs => by have := g.sizes s hs; omega) (by omega) (by omega) (by omega) (by omega)
    rintro _ H3 ⟨r, M', S', c', d', p', fl', F', O', D', rfl, t3, hst⟩
    obtain ⟨rfl, g3⟩ := g.step hst
    have hkH3 := t3.kp
    have hlen3 := t3.net.len
    have s1' := g3.sn
    have s2' := g3.cn
    have s3' := g3.dn
    have s4' := g3.pn
    have s5' := g3.fn
    have hsum3 := g3.sum
    by_cases hk6 : o.kind = 6
    case neg =>
      repeat' (first
    | (show EW _ _ _ _ _; first | refine ew_p (h := ?_) | refine ew_bu (h := ?_) | refine ew_skip (h := ?_) | refine ew_ld (h := ?_) | (refine ew_fresh ?_; intro b hb; refine ew_nw hb (h := ?_); (try simp only [AHeap.push_next, AHeap.put_next] at hb)) | (refine ew_df (ht := ?_) (hf := ?_) <;> intro _) | refine ew_ar (h := ?_) | refine w_nil ?_ | refine w_nilD ?_)
    | (show EC _ _ _ _ _ _ _; first | refine k_seq ?_ | refine k_region ?_ | refine k_draw (h := ?_) | refine k_skip ?_ | refine k_ret ?_ | refine k_exit ?_ | refine k_block ?_ | refine k_true (h := ?_) | refine k_false (h := ?_))
    | (show EX _ (bodyA _ _ _) _ _ _; first | refine x_end1 (hq := ?_))
    | (show EX _ _ _ _ _; first | refine x_normal ?_ | refine x_ret ?_ | refine x_exit ?_ | refine x_same ?_ | refine x_other (h := ?_) | refine x_bnormal ?_ | refine x_bret ?_))
      exact x_again (n - 1) [(5, _), (6, _), (7, _), (8, _), (0, _), (1, _)] ⟨rfl, rfl, rfl, rfl, rfl, rfl, trivial⟩ (by omega) ⟨i + 1, _, _, _, _, _, _, _, _, _, by omega, rfl, t3, g3⟩
    repeat' (first
    | (show EW _ _ _ _ _; first | refine ew_p (h := ?_) | refine ew_bu (h := ?_) | refine ew_skip (h := ?_) | refine ew_ld (h := ?_) | (refine ew_fresh ?_; intro b hb; refine ew_nw hb (h := ?_); (try simp only [AHeap.push_next, AHeap.put_next] at hb)) | (refine ew_df (ht := ?_) (hf := ?_) <;> intro _) | refine ew_ar (h := ?_) | refine w_nil ?_ | refine w_nilD ?_)
    | (show EC _ _ _ _ _ _ _; first | refine k_seq ?_ | refine k_region ?_ | refine k_draw (h := ?_) | refine k_skip ?_ | refine k_ret ?_ | refine k_exit ?_ | refine k_block ?_ | refine k_true (h := ?_) | refine k_false (h := ?_))
    | (show EX _ (bodyA _ _ _) _ _ _; first | refine x_end1 (hq := ?_))
    | (show EX _ _ _ _ _; first | refine x_normal ?_ | refine x_ret ?_ | refine x_exit ?_ | refine x_same ?_ | refine x_other (h := ?_) | refine x_bnormal ?_ | refine x_bret ?_))
    (first | (refine' ew_callS (hc := cr_call) (hR := ?_) (h := ?_); rotate_left 1) | (refine' ew_call (hc := cr_call) (hR := ?_) (h := ?_); rotate_left 1))
    · exact listM t3.net
    rintro l H4 ⟨hk4, L4, hL4, hm4⟩
    have t4 := t3.keep0 hk4
    have r4 := hL4.reads
    rw [hm4] at r4
    obtain ⟨z4, c4, rfl⟩ := r4.slice
    obtain ⟨sv, hrow, hS⟩ := t4.book.reads
    obtain ⟨zs, cs', rfl⟩ := hS.slice
    have hkn4 := t4.book.kn
    repeat' (first
    | (show EW _ _ _ _ _; first | refine ew_p (h := ?_) | refine ew_bu (h := ?_) | refine ew_skip (h := ?_) | refine ew_ld (h := ?_) | (refine ew_fresh ?_; intro b hb; refine ew_nw hb (h := ?_); (try simp only [AHeap.push_next, AHeap.put_next] at hb)) | (refine ew_df (ht := ?_) (hf := ?_) <;> intro _) | refine ew_ar (h := ?_) | refine w_nil ?_ | refine w_nilD ?_)
    | (show EC _ _ _ _ _ _ _; first | refine k_seq ?_ | refine k_region ?_ | refine k_draw (h := ?_) | refine k_skip ?_ | refine k_ret ?_ | refine k_exit ?_ | refine k_block ?_ | refine k_true (h := ?_) | refine k_false (h := ?_))
    | (show EX _ (bodyA _ _ _) _ _ _; first | refine x_end1 (hq := ?_))
    | (show EX _ _ _ _ _; first | refine x_normal ?_ | refine x_ret ?_ | refine x_exit ?_ | refine x_same ?_ | refine x_other (h := ?_) | refine x_bnormal ?_ | refine x_bret ?_))
    refine k_loop follows (KnI H4 mach (.slice (some ad1) ops.length c1) (.slice z4 M'.length c4) e k i M'.length) M'.length [(10, _), (9, _), (5, _), (6, _), (7, _), (8, _), (0, _), (1, _)] (by kernel_rfl) ⟨rfl, rfl, rfl, rfl, rfl, rfl, rfl, rfl, trivial⟩ ⟨Keep.refl, 0, by omega, rfl⟩ ?_
    rintro n' E H5 ⟨hk5, q, hq, rfl⟩
    have t5 := t4.keep0 hk5
    have hn5 := hk5.1
    by_cases hql : q < M'.length
    · obtain ⟨y, hy⟩ : ∃ y, M'[q]? = some y := ⟨M'[q], List.getElem?_eq_getElem hql⟩
      obtain ⟨ad4, c4', zy, cy, hv4, hlt4, hc43, hc41, hbr4⟩ := (r4.keep0 hk5).at4 hy
      simp only [Value.slice.injEq, true_and] at hv4
      obtain ⟨rfl, rfl⟩ := hv4
      repeat' (first
    | (show EW _ _ _ _ _; first | refine ew_p (h := ?_) | refine ew_bu (h := ?_) | refine ew_skip (h := ?_) | refine ew_ld (h := ?_) | (refine ew_fresh ?_; intro b hb; refine ew_nw hb (h := ?_); (try simp only [AHeap.push_next, AHeap.put_next] at hb)) | (refine ew_df (ht := ?_) (hf := ?_) <;> intro _) | refine ew_ar (h := ?_) | refine w_nil ?_ | refine w_nilD ?_)
    | (show EC _ _ _ _ _ _ _; first | refine k_seq ?_ | refine k_region ?_ | refine k_draw (h := ?_) | refine k_skip ?_ | refine k_ret ?_ | refine k_exit ?_ | refine k_block ?_ | refine k_true (h := ?_) | refine k_false (h := ?_))
    | (show EX _ (bodyA _ _ _) _ _ _; first | refine x_end1 (hq := ?_))
    | (show EX _ _ _ _ _; first | refine x_normal ?_ | refine x_ret ?_ | refine x_exit ?_ | refine x_same ?_ | refine x_other (h := ?_) | refine x_bnormal ?_ | refine x_bret ?_))
      (first | (refine' ew_callS (hc := cr_call) (hR := ?_) (h := ?_); rotate_left 1) | (refine' ew_call (hc := cr_call) (hR := ?_) (h := ?_); rotate_left 1))
      · exact known_calls (f := y) _ (hk5.row0 hrow hkn4) (by omega) (hS.keep0 hk5) hbr4 (by omega) (fun s hs => by have := g3.sizes s hs; omega)
      rintro _ H6 ⟨rfl, hk6'⟩
      rw [g3.all y (List.mem_of_getElem? hy)]
      repeat' (first
    | (show EW _ _ _ _ _; first | refine ew_p (h := ?_) | refine ew_bu (h := ?_) | refine ew_skip (h := ?_) | refine ew_ld (h := ?_) | (refine ew_fresh ?_; intro b hb; refine ew_nw hb (h := ?_); (try simp only [AHeap.push_next, AHeap.put_next] at hb)) | (refine ew_df (ht := ?_) (hf := ?_) <;> intro _) | refine ew_ar (h := ?_) | refine w_nil ?_ | refine w_nilD ?_)
    | (show EC _ _ _ _ _ _ _; first | refine k_seq ?_ | refine k_region ?_ | refine k_draw (h := ?_) | refine k_skip ?_ | refine k_ret ?_ | refine k_exit ?_ | refine k_block ?_ | refine k_true (h := ?_) | refine k_false (h := ?_))
    | (show EX _ (bodyA _ _ _) _ _ _; first | refine x_end1 (hq := ?_))
    | (show EX _ _ _ _ _; first | refine x_normal ?_ | refine x_ret ?_ | refine x_exit ?_ | refine x_same ?_ | refine x_other (h := ?_) | refine x_bnormal ?_ | refine x_bret ?_))
      exact x_again (n' - 1) [(10, _), (9, _), (5, _), (6, _), (7, _), (8, _), (0, _), (1, _)] ⟨rfl, rfl, rfl, rfl, rfl, rfl, rfl, rfl, trivial⟩ (by omega) ⟨hk5.after hk6', q + 1, by omega, rfl⟩
    · repeat' (first
    | (show EW _ _ _ _ _; first | refine ew_p (h := ?_) | refine ew_bu (h := ?_) | refine ew_skip (h := ?_) | refine ew_ld (h := ?_) | (refine ew_fresh ?_; intro b hb; refine ew_nw hb (h := ?_); (try simp only [AHeap.push_next, AHeap.put_next] at hb)) | (refine ew_df (ht := ?_) (hf := ?_) <;> intro _) | refine ew_ar (h := ?_) | refine w_nil ?_ | refine w_nilD ?_)
    | (show EC _ _ _ _ _ _ _; first | refine k_seq ?_ | refine k_region ?_ | refine k_draw (h := ?_) | refine k_skip ?_ | refine k_ret ?_ | refine k_exit ?_ | refine k_block ?_ | refine k_true (h := ?_) | refine k_false (h := ?_))
    | (show EX _ (bodyA _ _ _) _ _ _; first | refine x_end1 (hq := ?_))
    | (show EX _ _ _ _ _; first | refine x_normal ?_ | refine x_ret ?_ | refine x_exit ?_ | refine x_same ?_ | refine x_other (h := ?_) | refine x_bnormal ?_ | refine x_bret ?_))
      exact x_again (n - 1) [(5, _), (6, _), (7, _), (8, _), (0, _), (1, _)] ⟨rfl, rfl, rfl, rfl, rfl, rfl, trivial⟩ (by omega) ⟨i + 1, _, _, _, _, _, _, _, _, _, by omega, rfl, t5, g3⟩
  · repeat' (first
    | (show EW _ _ _ _ _; first | refine ew_p (h := ?_) | refine ew_bu (h := ?_) | refine ew_skip (h := ?_) | refine ew_ld (h := ?_) | (refine ew_fresh ?_; intro b hb; refine ew_nw hb (h := ?_); (try simp only [AHeap.push_next, AHeap.put_next] at hb)) | (refine ew_df (ht := ?_) (hf := ?_) <;> intro _) | refine ew_ar (h := ?_) | refine w_nil ?_ | refine w_nilD ?_)
    | (show EC _ _ _ _ _ _ _; first | refine k_seq ?_ | refine k_region ?_ | refine k_draw (h := ?_) | refine k_skip ?_ | refine k_ret ?_ | refine k_exit ?_ | refine k_block ?_ | refine k_true (h := ?_) | refine k_false (h := ?_))
    | (show EX _ (bodyA _ _ _) _ _ _; first | refine x_end1 (hq := ?_))
    | (show EX _ _ _ _ _; first | refine x_normal ?_ | refine x_ret ?_ | refine x_exit ?_ | refine x_same ?_ | refine x_other (h := ?_) | refine x_bnormal ?_ | refine x_bret ?_))
    (first | (refine' ew_callS (hc := cr_call) (hR := ?_) (h := ?_); rotate_left 1) | (refine' ew_call (hc := cr_call) (hR := ?_) (h := ?_); rotate_left 1))
    · exact listM t.net
    rintro l H4 ⟨hk4, L4, hL4, hm4⟩
    have t4 := t.keep0 hk4
    have r4 := hL4.reads
    rw [hm4] at r4
    obtain ⟨z4, c4, rfl⟩ := r4.slice
    obtain ⟨sv, hrow, hS⟩ := t4.book.reads
    obtain ⟨zs, cs', rfl⟩ := hS.slice
    repeat' (first
    | (show EW _ _ _ _ _; first | refine ew_p (h := ?_) | refine ew_bu (h := ?_) | refine ew_skip (h := ?_) | refine ew_ld (h := ?_) | (refine ew_fresh ?_; intro b hb; refine ew_nw hb (h := ?_); (try simp only [AHeap.push_next, AHeap.put_next] at hb)) | (refine ew_df (ht := ?_) (hf := ?_) <;> intro _) | refine ew_ar (h := ?_) | refine w_nil ?_ | refine w_nilD ?_)
    | (show EC _ _ _ _ _ _ _; first | refine k_seq ?_ | refine k_region ?_ | refine k_draw (h := ?_) | refine k_skip ?_ | refine k_ret ?_ | refine k_exit ?_ | refine k_block ?_ | refine k_true (h := ?_) | refine k_false (h := ?_))
    | (show EX _ (bodyA _ _ _) _ _ _; first | refine x_end1 (hq := ?_))
    | (show EX _ _ _ _ _; first | refine x_normal ?_ | refine x_ret ?_ | refine x_exit ?_ | refine x_same ?_ | refine x_other (h := ?_) | refine x_bnormal ?_ | refine x_bret ?_))
    rfl

end Go.Ae

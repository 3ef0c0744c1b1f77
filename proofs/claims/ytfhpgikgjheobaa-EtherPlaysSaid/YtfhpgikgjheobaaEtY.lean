/- The law EtherPlays over the abstract heap: begin, play. No condition. -/
import Derived.Test.YtfhpgikgjheobaaEtX
import Derived.Test.YtfhpgikgjheobaaEtQ
set_option linter.unusedSimpArgs false
set_option linter.unusedVariables false
set_option linter.unnecessarySimpa false
set_option maxRecDepth 100000
set_option maxHeartbeats 1600000
namespace Go.Ae
open Go.Proofs
attribute [local irreducible] awC wpSeq wpS nRes aw aE acall ACalls szT isAggT zeroT byT elemSz fieldOff Program.underlying appendA copyA thenA inBlockA bodyA AHeap.push AHeap.put AHeap.cellsAt AHeap.setCells resV loadA intBin EW EC EX Nr Nc Er Cr Agree

def tbl29 : Tbl := []
def tbl30 : Tbl := [(7, [0, 1, 2, 3, 4, 5, 6, 7, 8, 9, 10], [0, 1, 3, 7, 0, 16, 0, 64, 0, 511, 1023]), (8, [0, 1, 2, 3, 4, 5, 6, 7, 8, 9, 10, 11, 12, 13, 14, 15, 16, 17, 18, 19, 20, 21, 22, 23], [0, 0, 2, 6, 14, 0, 32, 0, 128, 0, 512, 2046, 4095, 8191, 16383, 16383, 49151, 131071, 262143, 524287, 1048575, 2097151, 4194303, 8388607]), (15, [0, 1, 2, 3, 4, 5, 10, 6, 7, 8, 9, 11, 12], [0, 1, 3, 7, 0, 16, 63, 127, 255, 255, 0, 1535, 4095]), (16, [0, 1, 2, 3, 4, 5, 10, 6, 7, 8, 9, 11, 12], [0, 1, 3, 7, 0, 16, 63, 127, 255, 255, 0, 1535, 4095]), (19, [0, 1, 2, 3, 4, 5, 6, 7], [0, 1, 3, 7, 0, 16, 63, 127]), (20, [0, 1, 2, 3, 4, 5, 6, 7, 8, 9], [0, 0, 2, 6, 14, 0, 32, 126, 255, 511]), (22, [0, 1, 2, 3, 4, 5, 6, 7], [0, 1, 3, 7, 0, 16, 63, 127]), (23, [0, 1, 2, 3, 4, 5, 6, 7, 8, 9], [0, 0, 2, 6, 14, 0, 32, 126, 255, 511]), (25, [0, 1, 2, 3, 4, 5, 6, 7, 8, 9], [0, 1, 3, 7, 0, 16, 0, 64, 255, 511]), (26, [0, 1, 2, 3, 4, 5, 6, 7, 8, 9, 10, 11], [0, 0, 2, 6, 14, 0, 32, 0, 128, 510, 1023, 2047])]

/-- A network, the program's and the document's. -/
structure BtR (H : AHeap) (F : Blks) (x : Nat) (m : Int) (A : List (Option Msg)) : Prop where
  st : H.get x = some (.row ⟨[.pointer none, .pointer none], 92, 0, true⟩) ∨
    ∃ e k Fe Fk, H.get x = some (.row ⟨[.pointer (some ⟨e, 0, none⟩), .pointer (some ⟨k, 0, none⟩)], 92, 0, true⟩) ∧ NetM H Fe e m (flight A) ∧ RefM H Fk k m A ∧ (∀ b, Fe b → F b) ∧ (∀ b, Fk b → F b) ∧ (∀ b, Fe b → ¬ Fk b) ∧ ¬ Fe x ∧ ¬ Fk x
  fx : F x
  bd : ∀ b, F b → b < H.next
theorem BtR.keep {H H' : AHeap} {F G : Blks} {x : Nat} {m : Int} {A : List (Option Msg)} (h : BtR H F x m A) (hk : Keep G H H') (hd : ∀ b, F b → ¬ G b) : BtR H' F x m A := by
  refine ⟨?_, h.fx, fun b hb => Nat.lt_of_lt_of_le (h.bd b hb) hk.1⟩
  rcases h.st with h1 | ⟨e, k, Fe, Fk, h1, h2, h3, h4, h5, h6⟩
  · exact .inl (hk.row h1 (h.bd _ h.fx) (hd _ h.fx))
  · exact .inr ⟨e, k, Fe, Fk, hk.row h1 (h.bd _ h.fx) (hd _ h.fx), h2.keep hk fun b _ hb => hd b (h4 b hb), h3.keep hk fun b hb => hd b (h5 b hb), h4, h5, h6⟩
theorem BtR.keep0 {H H' : AHeap} {F : Blks} {x : Nat} {m : Int} {A : List (Option Msg)} (h : BtR H F x m A) (hk : Keep No H H') : BtR H' F x m A := h.keep hk fun _ _ h => h
theorem begin_calls (m : Int) (H : AHeap) :
    ACalls Try.prog 29 #[.int .i64 m] H fun v H' => ∃ x, v = .tuple #[.pointer (some ⟨x, 0, none⟩), .bool true] ∧ BtR H' (New H H') x m [] ∧ Keep No H H' := by
  refine k_open (args := [.int .i64 m]) (E0 := [(0, .int .i64 m)]) tbl29 Try.func29 rfl follows (by kernel_rfl) Try.ntmps29 rfl rfl ?_
  repeat' (first
    | (show EW _ _ _ _ _; first | refine ew_p (h := ?_) | refine ew_bu (h := ?_) | refine ew_skip (h := ?_) | (refine ew_fresh ?_; intro b hb; refine ew_nw hb (h := ?_); (try simp only [AHeap.push_next, AHeap.put_next] at hb)) | (refine ew_df (ht := ?_) (hf := ?_) <;> intro _) | refine w_nil ?_)
    | (show EC _ _ _ _ _ _ _; first | refine k_seq ?_ | refine k_region ?_ | refine k_skip ?_ | refine k_ret ?_ | refine k_exit ?_ | refine k_block ?_ | refine k_true (h := ?_) | refine k_false (h := ?_))
    | (show EX _ (bodyA _ _ _) _ _ _; first | refine x_end2 (hq := ?_))
    | (show EX _ _ _ _ _; first | refine x_normal ?_ | refine x_ret ?_ | refine x_exit ?_ | refine x_same ?_ | refine x_other (h := ?_) | refine x_bnormal ?_ | refine x_bret ?_))
  (first | (refine' ew_callS (hc := cr_call) (hR := ?_) (h := ?_); rotate_left 1) | (refine' ew_call (hc := cr_call) (hR := ?_) (h := ?_); rotate_left 1))
  · exact newM m _
  rintro v H1 (⟨hno, rfl, rfl⟩ | ⟨hyes, e, rfl, hN1, hk1⟩)
  · repeat' (first
    | (show EW _ _ _ _ _; first | refine ew_p (h := ?_) | refine ew_bu (h := ?_) | refine ew_skip (h := ?_) | (refine ew_fresh ?_; intro b hb; refine ew_nw hb (h := ?_); (try simp only [AHeap.push_next, AHeap.put_next] at hb)) | (refine ew_df (ht := ?_) (hf := ?_) <;> intro _) | refine w_nil ?_)
    | (show EC _ _ _ _ _ _ _; first | refine k_seq ?_ | refine k_region ?_ | refine k_skip ?_ | refine k_ret ?_ | refine k_exit ?_ | refine k_block ?_ | refine k_true (h := ?_) | refine k_false (h := ?_))
    | (show EX _ (bodyA _ _ _) _ _ _; first | refine x_end2 (hq := ?_))
    | (show EX _ _ _ _ _; first | refine x_normal ?_ | refine x_ret ?_ | refine x_exit ?_ | refine x_same ?_ | refine x_other (h := ?_) | refine x_bnormal ?_ | refine x_bret ?_))
    (first | (refine' ew_callS (hc := cr_call) (hR := ?_) (h := ?_); rotate_left 1) | (refine' ew_call (hc := cr_call) (hR := ?_) (h := ?_); rotate_left 1))
    · exact refnew_calls m _
    rintro v H2 (⟨hno2, rfl, rfl⟩ | ⟨hyes2, k, rfl, hR2, hk2⟩)
    case inr => exact absurd hyes2 hno
    repeat' (first
    | (show EW _ _ _ _ _; first | refine ew_p (h := ?_) | refine ew_bu (h := ?_) | refine ew_skip (h := ?_) | (refine ew_fresh ?_; intro b hb; refine ew_nw hb (h := ?_); (try simp only [AHeap.push_next, AHeap.put_next] at hb)) | (refine ew_df (ht := ?_) (hf := ?_) <;> intro _) | refine ew_n (hn := r_pnil) (h := ?_) | refine w_nil ?_)
    | (show EC _ _ _ _ _ _ _; first | refine k_seq ?_ | refine k_region ?_ | refine k_skip ?_ | refine k_ret ?_ | refine k_exit ?_ | refine k_block ?_ | refine k_true (h := ?_) | refine k_false (h := ?_))
    | (show EX _ (bodyA _ _ _) _ _ _; first | refine x_end2 (hq := ?_))
    | (show EX _ _ _ _ _; first | refine x_normal ?_ | refine x_ret ?_ | refine x_exit ?_ | refine x_same ?_ | refine x_other (h := ?_) | refine x_bnormal ?_ | refine x_bret ?_))
    refine ⟨b, rfl, ⟨.inl (by rw [AHeap.push_get, if_pos hb]; rfl), ⟨by omega, by simp; omega⟩, fun y hy => hy.2⟩, by exact kp⟩
  · repeat' (first
    | (show EW _ _ _ _ _; first | refine ew_p (h := ?_) | refine ew_bu (h := ?_) | refine ew_skip (h := ?_) | (refine ew_fresh ?_; intro b hb; refine ew_nw hb (h := ?_); (try simp only [AHeap.push_next, AHeap.put_next] at hb)) | (refine ew_df (ht := ?_) (hf := ?_) <;> intro _) | refine w_nil ?_)
    | (show EC _ _ _ _ _ _ _; first | refine k_seq ?_ | refine k_region ?_ | refine k_skip ?_ | refine k_ret ?_ | refine k_exit ?_ | refine k_block ?_ | refine k_true (h := ?_) | refine k_false (h := ?_))
    | (show EX _ (bodyA _ _ _) _ _ _; first | refine x_end2 (hq := ?_))
    | (show EX _ _ _ _ _; first | refine x_normal ?_ | refine x_ret ?_ | refine x_exit ?_ | refine x_same ?_ | refine x_other (h := ?_) | refine x_bnormal ?_ | refine x_bret ?_))
    (first | (refine' ew_callS (hc := cr_call) (hR := ?_) (h := ?_); rotate_left 1) | (refine' ew_call (hc := cr_call) (hR := ?_) (h := ?_); rotate_left 1))
    · exact refnew_calls m _
    rintro v H2 (⟨hno2, rfl, rfl⟩ | ⟨hyes2, k, rfl, hR2, hk2⟩)
    case inl => exact absurd hyes hno2
    repeat' (first
    | (show EW _ _ _ _ _; first | refine ew_p (h := ?_) | refine ew_bu (h := ?_) | refine ew_skip (h := ?_) | (refine ew_fresh ?_; intro b hb; refine ew_nw hb (h := ?_); (try simp only [AHeap.push_next, AHeap.put_next] at hb)) | (refine ew_df (ht := ?_) (hf := ?_) <;> intro _) | refine w_nil ?_)
    | (show EC _ _ _ _ _ _ _; first | refine k_seq ?_ | refine k_region ?_ | refine k_skip ?_ | refine k_ret ?_ | refine k_exit ?_ | refine k_block ?_ | refine k_true (h := ?_) | refine k_false (h := ?_))
    | (show EX _ (bodyA _ _ _) _ _ _; first | refine x_end2 (hq := ?_))
    | (show EX _ _ _ _ _; first | refine x_normal ?_ | refine x_ret ?_ | refine x_exit ?_ | refine x_same ?_ | refine x_other (h := ?_) | refine x_bnormal ?_ | refine x_bret ?_))
    have hn1 := hk1.1
    have hn2 := hk2.1
    have hkx : Keep No H2 (H2.push (.row ⟨[.pointer (some ⟨e, 0, none⟩), .pointer (some ⟨k, 0, none⟩)], 92, 0, true⟩)) := by exact kp
    refine ⟨b, rfl, ⟨.inr ⟨e, k, New H H1, New H1 H2, by rw [AHeap.push_get, if_pos hb]; rfl, (hN1.keep0 hk2).keep0 hkx, hR2.keep0 hkx, fun y hy => ⟨hy.1, by have := hy.2; simp; omega⟩, fun y hy => ⟨by have := hy.1; omega, by have := hy.2; simp; omega⟩, fun y hy hy' => by have := hy.2; have := hy'.1; omega, fun hy => by have := hy.2; omega, fun hy => by have := hy.2; omega⟩,
      ⟨by omega, by simp; omega⟩, fun y hy => hy.2⟩, (hk1.after hk2).after hkx⟩

theorem pairD {H1 H2 : AHeap} {Fe Fe' Fk Fk' : Blks} (hGe : Grow Fe Fe' H1) (hGk : Grow Fk Fk' H2) (hb : ∀ b, Fe' b → b < H2.next) (he : ∀ b, Fe b → b < H1.next) (hk : ∀ b, Fk b → b < H1.next) (hle : H1.next ≤ H2.next) (h6 : ∀ b, Fe b → ¬ Fk b) : ∀ b, Fe' b → ¬ Fk' b := by
  intro b h1 h2
  have := hb b h1
  rcases hGe b h1 with h3 | h3 <;> rcases hGk b h2 with h4 | h4
  · exact h6 b h3 h4
  · have := he b h3; omega
  · have := hk b h4; omega
  · omega
theorem BtR.next {H H' : AHeap} {F Fe Fk Fe' Fk' : Blks} {x e k : Nat} {m : Int} {A A' : List (Option Msg)} (t : BtR H F x m A) (h4 : ∀ b, Fe b → F b) (h5 : ∀ b, Fk b → F b) (h7 : ¬ Fe x) (h8 : ¬ Fk x)
    (hx : H'.get x = some (.row ⟨[.pointer (some ⟨e, 0, none⟩), .pointer (some ⟨k, 0, none⟩)], 92, 0, true⟩)) (hN : NetM H' Fe' e m (flight A')) (hR : RefM H' Fk' k m A') (hE : ∀ b, Fe' b → Fe b ∨ H.next ≤ b) (hK : ∀ b, Fk' b → Fk b ∨ H.next ≤ b) (hD : ∀ b, Fe' b → ¬ Fk' b) (hle : H.next ≤ H'.next) :
    ∃ F', BtR H' F' x m A' ∧ Grow F F' H := by
  have hxn := t.bd x t.fx
  refine ⟨fun b => b = x ∨ Fe' b ∨ Fk' b, ⟨.inr ⟨e, k, Fe', Fk', hx, hN, hR, fun b hb => .inr (.inl hb), fun b hb => .inr (.inr hb), hD, fun h => (hE x h).elim h7 (by omega), fun h => (hK x h).elim h8 (by omega)⟩, .inl rfl, ?_⟩, ?_⟩
  · rintro b (rfl | hb | hb)
    · omega
    · exact hN.bound b hb
    · obtain ⟨_, _, _, _, h, _⟩ := hR
      exact h b hb
  · rintro b (rfl | hb | hb)
    · exact .inl t.fx
    · exact (hE b hb).imp (h4 b) id
    · exact (hK b hb).imp (h5 b) id
theorem Rm.br {H0 H : AHeap} {rr : Nat} {ad : Addr} {cf : Nat} {bs : List UInt8} (t : Rm H0 H rr ad cf bs) :
    ∃ O1, BR H O1 (.slice (some (aadd ad 0)) bs.length (bs.length + 600)) bs ∧ (∀ b, O1 b → H0.next ≤ b) ∧ O1 ad.block ∧ ad.block < H.next ∧ ∃ rc vr, H.get ad.block = some (.row ⟨rc, 5, vr, true⟩) ∧ verOf ad = vr ∧ ad.off + bs.length ≤ rc.length := by
  obtain ⟨O1, O2, sv, hr, ho2, ho1, h1, h2⟩ := t.row
  obtain ⟨ad1, c1, rc1, vr1, hsv1, hO1, hl1, hg1, hv1, hle1, ht1, _⟩ := ho1.at_row (by omega)
  simp only [Value.slice.injEq, Option.some.injEq, true_and] at hsv1
  obtain ⟨rfl, rfl⟩ := hsv1
  refine ⟨O1, ?_, h1, hO1, hl1, rc1, vr1, hg1, hv1, by omega⟩
  unfold BR
  by_cases h0 : bs.length = 0
  · obtain rfl := List.eq_nil_of_length_eq_zero h0
    exact .empty _ _
  · refine .full (aadd ad 0) _ _ _ h0 hO1 hl1 (cellsAt_of (ad := aadd ad 0) hg1 hv1 (by simp; omega) ?_)
    have h := congrArg (fun l => l.take bs.length) ht1
    simp only [List.take_take, bytesV_append] at h
    rw [show min bs.length ((bs.length + 600) * 1) = bs.length by omega, List.take_append_of_le_length (by simp), show (bytesV bs).take bs.length = bytesV bs from List.take_of_length_le (by simp)] at h
    simpa only [aadd_off, Nat.add_zero, Nat.mul_one] using h
/-- What a step makes of all packets. -/
def refStepP (m : Int) (A : List (Option Msg)) (o : OpD) : List (Option Msg) :=
  if o.kind = 1 then refSendP m A o.a o.b o.dat else if o.kind = 2 ∨ o.kind = 3 then refCutP A o.a else if o.kind = 4 then refCopyP A o.a else if o.kind = 5 then refFlipP A o.a o.b else A
def FillI (H0 : AHeap) (ad : Addr) (len : Nat) (rest : Env) (n : Nat) (E : Env) (H : AHeap) : Prop :=
  Keep (fun b => b = ad.block) H0 H ∧ ∃ (i : Nat) (rc : List Value) (vr : Nat), n + i = len ∧ E = (9, .int .i64 i) :: rest ∧ H.get ad.block = some (.row ⟨rc, 5, vr, true⟩) ∧ verOf ad = vr ∧ ad.off + len ≤ rc.length
theorem play1 {H : AHeap} {F : Blks} {x : Nat} {m : Int} {A : List (Option Msg)} (t : BtR H F x m A) (o : OpD) {GB : Blks} {dv : Value} (hd : BR H GB dv o.dat) (hdF : ∀ b, GB b → ¬ F b) (hdl : o.dat.length ≤ 140737488351232)
    (ha1 : -9223372036854775808 ≤ o.a) (ha2 : o.a ≤ 9223372036854775807) (hb1 : -9223372036854775808 ≤ o.b) (hb2 : o.b ≤ 9223372036854775807) (hA : A.length ≤ 2932031007401) (hc1 : o.kind = 1) :
    ACalls Try.prog 30 #[.pointer (some ⟨x, 0, none⟩), .agg #[.int .i64 o.kind, .int .i64 o.wh, .int .i64 o.a, .int .i64 o.b, dv]] H fun v H' => v = .bool true ∧ Keep F H H' ∧ ∃ F' A', BtR H' F' x m A' ∧ Grow F F' H ∧ A'.length ≤ A.length + 1 := by
  obtain ⟨zd, cd, rfl⟩ := Rd.slice hd
  have hxn := t.bd _ t.fx
  rcases t.st with h1 | ⟨e, k, Fe, Fk, hx, hN, hR, h4, h5, h6, h7, h8⟩
  · refine k_open (args := [.pointer (some ⟨x, 0, none⟩), .agg #[.int .i64 o.kind, .int .i64 o.wh, .int .i64 o.a, .int .i64 o.b, .slice zd o.dat.length cd]]) (E0 := [(0, .pointer (some ⟨x, 0, none⟩)), (1, .agg #[.int .i64 o.kind, .int .i64 o.wh, .int .i64 o.a, .int .i64 o.b, .slice zd o.dat.length cd])]) tbl30 Try.func30 rfl follows (by kernel_rfl) Try.ntmps30 rfl rfl ?_
    repeat' (first
    | (show EW _ _ _ _ _; first | refine ew_p (h := ?_) | refine ew_bu (h := ?_) | refine ew_skip (h := ?_) | refine ew_ld (h := ?_) | (refine ew_fresh ?_; intro b hb; refine ew_nw hb (h := ?_); (try simp only [AHeap.push_next, AHeap.put_next] at hb)) | refine ew_st (h := ?_) | (refine ew_df (ht := ?_) (hf := ?_) <;> intro _) | refine ew_ar (h := ?_) | refine ew_n (hn := r_pnil) (h := ?_) | refine w_nil ?_ | refine w_nilD ?_)
    | (show EC _ _ _ _ _ _ _; first | refine k_seq ?_ | refine k_region ?_ | refine k_draw (h := ?_) | refine k_skip ?_ | refine k_ret ?_ | refine k_exit ?_ | refine k_block ?_ | refine k_true (h := ?_) | refine k_false (h := ?_))
    | (show EX _ (bodyA _ _ _) _ _ _; first | refine x_end1 (hq := ?_))
    | (show EX _ _ _ _ _; first | refine x_normal ?_ | refine x_ret ?_ | refine x_exit ?_ | refine x_same ?_ | refine x_other (h := ?_) | refine x_bnormal ?_ | refine x_bret ?_))
    have hkb : Keep No H (H.push (.row ⟨[.int .i64 o.kind, .int .i64 o.wh, .int .i64 o.a, .int .i64 o.b, .slice zd o.dat.length cd], 72, 0, true⟩)) := by exact kp
    exact ⟨rfl, hkb.no, F, A, t.keep0 hkb, Grow.refl, by omega⟩
  have hN0 := hN.bound
  refine k_open (args := [.pointer (some ⟨x, 0, none⟩), .agg #[.int .i64 o.kind, .int .i64 o.wh, .int .i64 o.a, .int .i64 o.b, .slice zd o.dat.length cd]]) (E0 := [(0, .pointer (some ⟨x, 0, none⟩)), (1, .agg #[.int .i64 o.kind, .int .i64 o.wh, .int .i64 o.a, .int .i64 o.b, .slice zd o.dat.length cd])]) tbl30 Try.func30 rfl follows (by kernel_rfl) Try.ntmps30 rfl rfl ?_
  · repeat' (first
    | (show EW _ _ _ _ _; first | refine ew_p (h := ?_) | refine ew_bu (h := ?_) | refine ew_skip (h := ?_) | refine ew_ld (h := ?_) | (refine ew_fresh ?_; intro b hb; refine ew_nw hb (h := ?_); (try simp only [AHeap.push_next, AHeap.put_next] at hb)) | refine ew_st (h := ?_) | (refine ew_df (ht := ?_) (hf := ?_) <;> intro _) | refine ew_ar (h := ?_) | refine w_nil ?_ | refine w_nilD ?_)
    | (show EC _ _ _ _ _ _ _; first | refine k_seq ?_ | refine k_region ?_ | refine k_draw (h := ?_) | refine k_skip ?_ | refine k_ret ?_ | refine k_exit ?_ | refine k_block ?_ | refine k_true (h := ?_) | refine k_false (h := ?_))
    | (show EX _ (bodyA _ _ _) _ _ _; first | refine x_end1 (hq := ?_))
    | (show EX _ _ _ _ _; first | refine x_normal ?_ | refine x_ret ?_ | refine x_exit ?_ | refine x_same ?_ | refine x_other (h := ?_) | refine x_bnormal ?_ | refine x_bret ?_))
    rename_i b0 hb0
    obtain ⟨Ho, hHo⟩ : ∃ Ho, Ho = H.push (.row ⟨[.int .i64 o.kind, .int .i64 o.wh, .int .i64 o.a, .int .i64 o.b, .slice zd o.dat.length cd], 72, 0, true⟩) := ⟨_, rfl⟩
    have hko : Keep No H Ho := by rw [hHo]; exact kp
    have hno : Ho.next = H.next + 1 := by rw [hHo, AHeap.push_next]
    have hgo : Ho.get b0 = some (.row ⟨[.int .i64 o.kind, .int .i64 o.wh, .int .i64 o.a, .int .i64 o.b, .slice zd o.dat.length cd], 72, 0, true⟩) := by rw [hHo]; exact rdx
    rw [← hHo]
    obtain ⟨Hr, hHr⟩ : ∃ Hr, Hr = Ho.push (.row ⟨[.slice none 0 0, .slice none 0 0, .slice none 0 0, .slice none 0 0, .slice none 0 0, .slice none 0 0, .slice none 0 0, .slice none 0 0, .slice none 0 0, .slice none 0 0], 96, 0, true⟩) := ⟨_, rfl⟩
    have hbo : b = Ho.next := by rw [hno]; exact hb
    have hkr : Keep No Ho Hr := by rw [hHr]; exact kp
    have hnr : Hr.next = Ho.next + 1 := by rw [hHr, AHeap.push_next]
    have hgr : Hr.get b = some (.row ⟨[.slice none 0 0, .slice none 0 0, .slice none 0 0, .slice none 0 0, .slice none 0 0, .slice none 0 0, .slice none 0 0, .slice none 0 0, .slice none 0 0, .slice none 0 0], 96, 0, true⟩) := by rw [hHr]; exact rdx
    rw [← hHr]
    have hgo2 := hkr.row0 hgo (by omega)
    have hkor := hko.after hkr
    (first | (refine' ew_callS (hc := cr_call) (hR := ?_) (h := ?_); rotate_left 1) | (refine' ew_call (hc := cr_call) (hR := ?_) (h := ?_); rotate_left 1))
    · exact bytesR_calls (G := Hr) hkr (by omega) (by omega) hgr (Rd.keep0 hd hkor) hdl
    rintro _ H1 ⟨ad, cf, rfl, hk1, tR⟩
    have hor : Keep No H H1 := hko.after hk1
    have hx1 := hor.row0 hx hxn
    have hgo1 := hk1.row0 hgo (by omega)
    have hn1 := hor.1
    repeat' (first
    | (show EW _ _ _ _ _; first | refine ew_p (h := ?_) | refine ew_bu (h := ?_) | refine ew_skip (h := ?_) | refine ew_ld (h := ?_) | (refine ew_fresh ?_; intro b hb; refine ew_nw hb (h := ?_); (try simp only [AHeap.push_next, AHeap.put_next] at hb)) | refine ew_st (h := ?_) | (refine ew_df (ht := ?_) (hf := ?_) <;> intro _) | refine ew_ar (h := ?_) | refine w_nil ?_ | refine w_nilD ?_)
    | (show EC _ _ _ _ _ _ _; first | refine k_seq ?_ | refine k_region ?_ | refine k_draw (h := ?_) | refine k_skip ?_ | refine k_ret ?_ | refine k_exit ?_ | refine k_block ?_ | refine k_true (h := ?_) | refine k_false (h := ?_))
    | (show EX _ (bodyA _ _ _) _ _ _; first | refine x_end1 (hq := ?_))
    | (show EX _ _ _ _ _; first | refine x_normal ?_ | refine x_ret ?_ | refine x_exit ?_ | refine x_same ?_ | refine x_other (h := ?_) | refine x_bnormal ?_ | refine x_bret ?_))
    obtain ⟨O1, hbB, hO1, hOad, hadl, _⟩ := tR.br
    have hFO : ∀ b, F b → ¬ O1 b := fun b hb ho => by have := t.bd b hb; have := hO1 b ho; omega
    (first | (refine' ew_callS (hc := cr_call) (hR := ?_) (h := ?_); rotate_left 1) | (refine' ew_call (hc := cr_call) (hR := ?_) (h := ?_); rotate_left 1))
    · exact sendM o.a o.b (hN.keep0 hor) hbB (by omega)
    rintro _ H2 ⟨rfl, hk2, Fe', hN2, hGe⟩
    have hn2 := hk2.1
    have hx2 := hk2.row hx1 (by omega) h7
    have hn1' := hk1.1
    have hb0e : ¬ Fe b0 := fun h => by have := t.bd _ (h4 _ h); omega
    have hb0k : ¬ Fk b0 := fun h => by have := t.bd _ (h5 _ h); omega
    have hgo2' := hk2.row hgo1 (by omega) hb0e
    refine ⟨by (dsimp only [Mode.kept, Mode.logged, Mode.at]; (repeat' (first | exact (fun _ h => absurd h List.not_mem_nil) | (refine List.forall_mem_cons.2 ⟨?_, ?_⟩) | (refine .inl ?_; exact rfl) | (refine .inl ?_; dsimp only; decide) | (refine .inr ?_; exact hk2.cells (by simp only [aadd_block]; omega) h7) | (refine .inr ?_; exact hk2.cells (by simp only [aadd_block]; omega) hb0e)))), ?_⟩
    repeat' (first
    | (show EW _ _ _ _ _; first | refine ew_p (h := ?_) | refine ew_bu (h := ?_) | refine ew_skip (h := ?_) | refine ew_ld (h := ?_) | (refine ew_fresh ?_; intro b hb; refine ew_nw hb (h := ?_); (try simp only [AHeap.push_next, AHeap.put_next] at hb)) | refine ew_st (h := ?_) | (refine ew_df (ht := ?_) (hf := ?_) <;> intro _) | refine ew_ar (h := ?_) | refine w_nil ?_ | refine w_nilD ?_)
    | (show EC _ _ _ _ _ _ _; first | refine k_seq ?_ | refine k_region ?_ | refine k_draw (h := ?_) | refine k_skip ?_ | refine k_ret ?_ | refine k_exit ?_ | refine k_block ?_ | refine k_true (h := ?_) | refine k_false (h := ?_))
    | (show EX _ (bodyA _ _ _) _ _ _; first | refine x_end1 (hq := ?_))
    | (show EX _ _ _ _ _; first | refine x_normal ?_ | refine x_ret ?_ | refine x_exit ?_ | refine x_same ?_ | refine x_other (h := ?_) | refine x_bnormal ?_ | refine x_bret ?_))
    (first | (refine' ew_callS (hc := cr_call) (hR := ?_) (h := ?_); rotate_left 1) | (refine' ew_call (hc := cr_call) (hR := ?_) (h := ?_); rotate_left 1))
    · exact refsend_calls (G := GB) ((hR.keep0 hor).keep hk2 fun b hb he => h6 b he hb) o.a o.b (Rd.keep (Rd.keep0 hd hor) hk2 fun b _ hb he => hdF b hb (h4 b he)) (by omega) hA
    rintro _ H3 ⟨rfl, hk3, Fk', hR3, hGk⟩
    have hn3 := hk3.1
    have hx3 := hk3.row hx2 (by omega) h8
    have hgo3 := hk3.row hgo2' (by omega) hb0k
    refine ⟨by (dsimp only [Mode.kept, Mode.logged, Mode.at]; (repeat' (first | exact (fun _ h => absurd h List.not_mem_nil) | (refine List.forall_mem_cons.2 ⟨?_, ?_⟩) | (refine .inl ?_; exact rfl) | (refine .inl ?_; dsimp only; decide) | (refine .inr ?_; exact hk3.cells (by simp only [aadd_block]; omega) h8) | (refine .inr ?_; exact hk3.cells (by simp only [aadd_block]; omega) hb0k)))), ?_⟩
    have hbB3 : BR H3 O1 _ o.dat := (Rd.keep (Rd.keep hbB hk2 fun b _ hb he => hFO b (h4 b he) hb) hk3 fun b _ hb he => hFO b (h5 b he) hb)
    have hd3 : BR H3 GB _ o.dat := Rd.keep (Rd.keep (Rd.keep0 hd hor) hk2 fun b _ hb he => hdF b hb (h4 b he)) hk3 fun b _ hb he => hdF b hb (h5 b he)
    repeat' (first
    | (show EW _ _ _ _ _; first | refine ew_p (h := ?_) | refine ew_bu (h := ?_) | refine ew_skip (h := ?_) | refine ew_ld (h := ?_) | (refine ew_fresh ?_; intro b hb; refine ew_nw hb (h := ?_); (try simp only [AHeap.push_next, AHeap.put_next] at hb)) | refine ew_st (h := ?_) | (refine ew_df (ht := ?_) (hf := ?_) <;> intro _) | refine ew_ar (h := ?_) | refine w_nil ?_ | refine w_nilD ?_)
    | (show EC _ _ _ _ _ _ _; first | refine k_seq ?_ | refine k_region ?_ | refine k_draw (h := ?_) | refine k_skip ?_ | refine k_ret ?_ | refine k_exit ?_ | refine k_block ?_ | refine k_true (h := ?_) | refine k_false (h := ?_))
    | (show EX _ (bodyA _ _ _) _ _ _; first | refine x_end1 (hq := ?_))
    | (show EX _ _ _ _ _; first | refine x_normal ?_ | refine x_ret ?_ | refine x_exit ?_ | refine x_same ?_ | refine x_other (h := ?_) | refine x_bnormal ?_ | refine x_bret ?_))
    (first | (refine' ew_callS (hc := cr_call) (hR := ?_) (h := ?_); rotate_left 1) | (refine' ew_call (hc := cr_call) (hR := ?_) (h := ?_); rotate_left 1))
    · exact sameBytes_calls _ hbB3 hd3
    rintro _ H4 ⟨rfl, rfl⟩
    refine ⟨by (dsimp only [Mode.kept, Mode.logged, Mode.at]; (repeat' (first | exact (fun _ h => absurd h List.not_mem_nil) | (refine List.forall_mem_cons.2 ⟨?_, ?_⟩) | (refine .inl ?_; exact rfl) | (refine .inl ?_; dsimp only; decide) | (refine .inr ?_; exact rfl)))), ?_⟩
    rw [decide_eq_true rfl]
    repeat' (first
    | (show EW _ _ _ _ _; first | refine ew_p (h := ?_) | refine ew_bu (h := ?_) | refine ew_skip (h := ?_) | refine ew_ld (h := ?_) | (refine ew_fresh ?_; intro b hb; refine ew_nw hb (h := ?_); (try simp only [AHeap.push_next, AHeap.put_next] at hb)) | refine ew_st (h := ?_) | (refine ew_df (ht := ?_) (hf := ?_) <;> intro _) | refine ew_ar (h := ?_) | refine w_nil ?_ | refine w_nilD ?_)
    | (show EC _ _ _ _ _ _ _; first | refine k_seq ?_ | refine k_region ?_ | refine k_draw (h := ?_) | refine k_skip ?_ | refine k_ret ?_ | refine k_exit ?_ | refine k_block ?_ | refine k_true (h := ?_) | refine k_false (h := ?_))
    | (show EX _ (bodyA _ _ _) _ _ _; first | refine x_end1 (hq := ?_))
    | (show EX _ _ _ _ _; first | refine x_normal ?_ | refine x_ret ?_ | refine x_exit ?_ | refine x_same ?_ | refine x_other (h := ?_) | refine x_bnormal ?_ | refine x_bret ?_))
    have tR3 := (tR.keep hk2 fun b hb => by have := t.bd b (h4 b hb); omega).keep hk3 fun b hb => by have := t.bd b (h5 b hb); omega
    (first | (refine' ew_callS (hc := cr_call) (hR := ?_) (h := ?_); rotate_left 1) | (refine' ew_call (hc := cr_call) (hR := ?_) (h := ?_); rotate_left 1))
    · exact hold_calls tR3 hdl
    rintro _ H4 ⟨rfl, hk4⟩
    have hn4 := hk4.1
    refine ⟨by (dsimp only [Mode.kept, Mode.logged, Mode.at]; (repeat' (first | exact (fun _ h => absurd h List.not_mem_nil) | (refine List.forall_mem_cons.2 ⟨?_, ?_⟩) | (refine .inl ?_; exact rfl) | (refine .inl ?_; dsimp only; decide) | (refine .inr ?_; exact hk4.cells (by simp only [aadd_block]; omega) id) | (refine .inr ?_; exact rfl)))), ?_⟩
    have hx4 := hk4.row0 hx3 (by omega)
    obtain ⟨O4, _, hO4, hO4a, hO4l, rc, vr, hg4, hv4, hle4⟩ := (tR3.keep0 hk4).br
    have hadH := hO4 _ hO4a
    repeat' (first
    | (show EW _ _ _ _ _; first | refine ew_p (h := ?_) | refine ew_bu (h := ?_) | refine ew_skip (h := ?_) | refine ew_ld (h := ?_) | (refine ew_fresh ?_; intro b hb; refine ew_nw hb (h := ?_); (try simp only [AHeap.push_next, AHeap.put_next] at hb)) | refine ew_st (h := ?_) | (refine ew_df (ht := ?_) (hf := ?_) <;> intro _) | refine ew_ar (h := ?_) | refine w_nil ?_ | refine w_nilD ?_)
    | (show EC _ _ _ _ _ _ _; first | refine k_seq ?_ | refine k_region ?_ | refine k_draw (h := ?_) | refine k_skip ?_ | refine k_ret ?_ | refine k_exit ?_ | refine k_block ?_ | refine k_true (h := ?_) | refine k_false (h := ?_))
    | (show EX _ (bodyA _ _ _) _ _ _; first | refine x_end1 (hq := ?_))
    | (show EX _ _ _ _ _; first | refine x_normal ?_ | refine x_ret ?_ | refine x_exit ?_ | refine x_same ?_ | refine x_other (h := ?_) | refine x_bnormal ?_ | refine x_bret ?_))
    refine k_loop follows (FillI H4 ad o.dat.length [(8, .bool true), (6, .slice (some (aadd ad 0)) o.dat.length (o.dat.length + 600))]) o.dat.length [(9, _), (8, _), (6, _)] (by kernel_rfl) ⟨rfl, rfl, rfl, trivial⟩ ⟨Keep.refl, 0, rc, vr, by omega, rfl, hg4, hv4, hle4⟩ ?_
    rintro n E H5 ⟨hk5, i, rc5, vr5, hi, rfl, hg5, hv5, hle5⟩
    by_cases hlt : i < o.dat.length
    · repeat' (first
    | (show EW _ _ _ _ _; first | refine ew_p (h := ?_) | refine ew_bu (h := ?_) | refine ew_skip (h := ?_) | refine ew_ld (h := ?_) | (refine ew_fresh ?_; intro b hb; refine ew_nw hb (h := ?_); (try simp only [AHeap.push_next, AHeap.put_next] at hb)) | refine ew_st (h := ?_) | (refine ew_df (ht := ?_) (hf := ?_) <;> intro _) | refine ew_ar (h := ?_) | refine w_nil ?_ | refine w_nilD ?_)
    | (show EC _ _ _ _ _ _ _; first | refine k_seq ?_ | refine k_region ?_ | refine k_draw (h := ?_) | refine k_skip ?_ | refine k_ret ?_ | refine k_exit ?_ | refine k_block ?_ | refine k_true (h := ?_) | refine k_false (h := ?_))
    | (show EX _ (bodyA _ _ _) _ _ _; first | refine x_end1 (hq := ?_))
    | (show EX _ _ _ _ _; first | refine x_normal ?_ | refine x_ret ?_ | refine x_exit ?_ | refine x_same ?_ | refine x_other (h := ?_) | refine x_bnormal ?_ | refine x_bret ?_))
      have hl5 : ad.off + 0 + (i : Int).toNat * 1 + 1 ≤ rc5.length := by omega
      refine ew_e (he := er_store (hc := setCells_el2 hg5 hv5 hl5 rfl)) (hk := Mode.kept_seq rfl) (h := ?_)
      repeat' (first
    | (show EW _ _ _ _ _; first | refine ew_p (h := ?_) | refine ew_bu (h := ?_) | refine ew_skip (h := ?_) | refine ew_ld (h := ?_) | (refine ew_fresh ?_; intro b hb; refine ew_nw hb (h := ?_); (try simp only [AHeap.push_next, AHeap.put_next] at hb)) | refine ew_st (h := ?_) | (refine ew_df (ht := ?_) (hf := ?_) <;> intro _) | refine ew_ar (h := ?_) | refine w_nil ?_ | refine w_nilD ?_)
    | (show EC _ _ _ _ _ _ _; first | refine k_seq ?_ | refine k_region ?_ | refine k_draw (h := ?_) | refine k_skip ?_ | refine k_ret ?_ | refine k_exit ?_ | refine k_block ?_ | refine k_true (h := ?_) | refine k_false (h := ?_))
    | (show EX _ (bodyA _ _ _) _ _ _; first | refine x_end1 (hq := ?_))
    | (show EX _ _ _ _ _; first | refine x_normal ?_ | refine x_ret ?_ | refine x_exit ?_ | refine x_same ?_ | refine x_other (h := ?_) | refine x_bnormal ?_ | refine x_bret ?_))
      refine x_again (n - 1) [(9, _), (8, _), (6, _)] ⟨rfl, rfl, rfl, trivial⟩ (by omega) ⟨hk5.put fun _ => rfl, i + 1, _, vr5, by omega, rfl, by rw [AHeap.put_get, if_pos rfl], hv5, ?_⟩
      rw [lset_length (by simpa [Value.cells] using hl5)]
      exact hle5
    · repeat' (first
    | (show EW _ _ _ _ _; first | refine ew_p (h := ?_) | refine ew_bu (h := ?_) | refine ew_skip (h := ?_) | refine ew_ld (h := ?_) | (refine ew_fresh ?_; intro b hb; refine ew_nw hb (h := ?_); (try simp only [AHeap.push_next, AHeap.put_next] at hb)) | refine ew_st (h := ?_) | (refine ew_df (ht := ?_) (hf := ?_) <;> intro _) | refine ew_ar (h := ?_) | refine w_nil ?_ | refine w_nilD ?_)
    | (show EC _ _ _ _ _ _ _; first | refine k_seq ?_ | refine k_region ?_ | refine k_draw (h := ?_) | refine k_skip ?_ | refine k_ret ?_ | refine k_exit ?_ | refine k_block ?_ | refine k_true (h := ?_) | refine k_false (h := ?_))
    | (show EX _ (bodyA _ _ _) _ _ _; first | refine x_end1 (hq := ?_))
    | (show EX _ _ _ _ _; first | refine x_normal ?_ | refine x_ret ?_ | refine x_exit ?_ | refine x_same ?_ | refine x_other (h := ?_) | refine x_bnormal ?_ | refine x_bret ?_))
      have hade : ¬ Fe' ad.block := fun h => (hGe _ h).elim (fun h => by have := t.bd _ (h4 _ h); omega) (by omega)
      have hadk : ¬ Fk' ad.block := fun h => (hGk _ h).elim (fun h => by have := t.bd _ (h5 _ h); omega) (by omega)
      have hx5 := hk5.row hx4 (by omega) (by have := t.bd _ t.fx; omega)
      have hn5 := hk5.1
      obtain ⟨F', hB, hG⟩ := t.next (A' := refSendP m A o.a o.b o.dat) (Fe' := Fe') (Fk' := Fk') h4 h5 h7 h8 hx5 (by rw [flight_send]; exact ((hN2.keep hk3 fun b hb he hk => (hGe b he).elim (fun h => h6 b h hk) fun h => by have := t.bd b (h5 b hk); omega).keep0 hk4).keep hk5 fun b _ hb he => hade (he ▸ hb))
        ((hR3.keep0 hk4).keep hk5 fun b hb he => hadk (he ▸ hb)) (fun b hb => (hGe b hb).imp id fun h => by omega) (fun b hb => (hGk b hb).imp id fun h => by omega) (pairD hGe hGk hN2.bound (fun b hb => by have := t.bd b (h4 b hb); omega) (fun b hb => by have := t.bd b (h5 b hb); omega) hn2 h6) (by omega)
      refine ⟨rfl, ?_, F', _, hB, hG, ?_⟩
      · exact Keep.trans (F := F) (Keep.trans (F := F) (Keep.trans (F := F) (Keep.trans (F := F) hor.no hk2 fun b _ => h4 b) hk3 fun b _ => h5 b) hk4 fun _ _ h => h.elim) hk5 fun b hb he => by have : b = ad.block := he; omega
      · unfold refSendP; split <;> simp

end Go.Ae

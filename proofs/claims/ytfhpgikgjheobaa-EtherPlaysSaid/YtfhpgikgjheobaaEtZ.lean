/- The law EtherPlays over the abstract heap: play's other kinds. No condition. -/
import Derived.Test.YtfhpgikgjheobaaEtY
set_option linter.unusedSimpArgs false
set_option linter.unusedVariables false
set_option linter.unnecessarySimpa false
set_option maxRecDepth 100000
set_option maxHeartbeats 1600000
namespace Go.Ae
open Go.Proofs
attribute [local irreducible] awC wpSeq wpS nRes aw aE acall ACalls szT isAggT zeroT byT elemSz fieldOff Program.underlying appendA copyA thenA inBlockA bodyA AHeap.push AHeap.put AHeap.cellsAt AHeap.setCells resV loadA intBin EW EC EX Nr Nc Er Cr Agree

def PlayT (H : AHeap) (F : Blks) (x : Nat) (m : Int) (A : List (Option Msg)) (o : OpD) (dv : Value) : Prop :=
  ACalls Try.prog 30 #[.pointer (some ⟨x, 0, none⟩), .agg #[.int .i64 o.kind, .int .i64 o.wh, .int .i64 o.a, .int .i64 o.b, dv]] H fun v H' => v = .bool true ∧ Keep F H H' ∧ ∃ F' A', BtR H' F' x m A' ∧ Grow F F' H ∧ A'.length ≤ A.length + 1
theorem cut_len (A : List (Option Msg)) (i : Int) : (refCutP A i).length = A.length := by unfold refCutP; split <;> simp
theorem flip_len (A : List (Option Msg)) (i bit : Int) : (refFlipP A i bit).length = A.length := by unfold refFlipP; split <;> (try split) <;> simp
theorem copy_len (A : List (Option Msg)) (i : Int) : (refCopyP A i).length ≤ A.length + 1 := by unfold refCopyP; split <;> (try split) <;> simp
theorem Keep.upto {F G : Blks} {H H1 H2 : AHeap} (h : Keep F H H1) (h' : Keep G H1 H2) (hg : ∀ i, G i → F i ∨ H.next ≤ i) : Keep F H H2 := h.trans h' fun i hi hG => (hg i hG).resolve_right (by omega)
theorem brNil {F : Blks} {H : AHeap} {z : Option Addr} {c : Nat} : BR H F (.slice z 0 c) [] := by unfold BR; exact .empty _ _
section
variable {H : AHeap} {F : Blks} {x : Nat} {m : Int} {A : List (Option Msg)} {o : OpD} {dv : Value} {e k : Nat} {Fe Fk : Blks}
theorem play2 (t : BtR H F x m A) {z : Option Addr} {n c : Nat} (hdv : dv = .slice z n c) (ha2 : o.a ≤ 9223372036854775807) (hA : A.length ≤ 2932031007401)
    (hx : H.get x = some (.row ⟨[.pointer (some ⟨e, 0, none⟩), .pointer (some ⟨k, 0, none⟩)], 92, 0, true⟩)) (hN : NetM H Fe e m (flight A)) (hR : RefM H Fk k m A) (h4 : ∀ b, Fe b → F b) (h5 : ∀ b, Fk b → F b) (h6 : ∀ b, Fe b → ¬ Fk b) (h7 : ¬ Fe x) (h8 : ¬ Fk x)
    (hc : o.kind = 2) : PlayT H F x m A o dv := by
  subst hdv
  have hxn := t.bd _ t.fx
  unfold PlayT
  refine k_open (args := [.pointer (some ⟨x, 0, none⟩), .agg #[.int .i64 o.kind, .int .i64 o.wh, .int .i64 o.a, .int .i64 o.b, .slice z n c]]) (E0 := [(0, .pointer (some ⟨x, 0, none⟩)), (1, .agg #[.int .i64 o.kind, .int .i64 o.wh, .int .i64 o.a, .int .i64 o.b, .slice z n c])]) tbl30 Try.func30 rfl follows (by kernel_rfl) Try.ntmps30 rfl rfl ?_
  repeat' (first
    | (show EW _ _ _ _ _; first | refine ew_p (h := ?_) | refine ew_bu (h := ?_) | refine ew_skip (h := ?_) | refine ew_ld (h := ?_) | (refine ew_fresh ?_; intro b hb; refine ew_nw hb (h := ?_); (try simp only [AHeap.push_next, AHeap.put_next] at hb)) | refine ew_st (h := ?_) | (refine ew_df (ht := ?_) (hf := ?_) <;> intro _) | refine ew_ar (h := ?_) | refine w_nil ?_ | refine w_nilD ?_)
    | (show EC _ _ _ _ _ _ _; first | refine k_seq ?_ | refine k_region ?_ | refine k_draw (h := ?_) | refine k_skip ?_ | refine k_ret ?_ | refine k_exit ?_ | refine k_block ?_ | refine k_true (h := ?_) | refine k_false (h := ?_))
    | (show EX _ (bodyA _ _ _) _ _ _; first | refine x_end1 (hq := ?_))
    | (show EX _ _ _ _ _; first | refine x_normal ?_ | refine x_ret ?_ | refine x_exit ?_ | refine x_same ?_ | refine x_other (h := ?_) | refine x_bnormal ?_ | refine x_bret ?_))
  rename_i b0 hb0
  obtain ⟨Ho, hHo⟩ : ∃ Ho, Ho = H.push (.row ⟨[.int .i64 o.kind, .int .i64 o.wh, .int .i64 o.a, .int .i64 o.b, .slice z n c], 72, 0, true⟩) := ⟨_, rfl⟩
  have hko : Keep No H Ho := by rw [hHo]; exact kp
  have hno : Ho.next = H.next + 1 := by rw [hHo, AHeap.push_next]
  have hgo : Ho.get b0 = some (.row ⟨[.int .i64 o.kind, .int .i64 o.wh, .int .i64 o.a, .int .i64 o.b, .slice z n c], 72, 0, true⟩) := by rw [hHo]; exact rdx
  rw [← hHo]
  obtain ⟨Hf, hHf⟩ : ∃ Hf, Hf = Ho.push (.row ⟨[.int .i64 0, .int .i64 0, .slice none 0 0], 32, 0, true⟩) := ⟨_, rfl⟩
  have hbo : b = Ho.next := by rw [hno]; exact hb
  have hkf : Keep No Ho Hf := by rw [hHf]; exact kp
  have hnf : Hf.next = Ho.next + 1 := by rw [hHf, AHeap.push_next]
  have hgf : Hf.get b = some (.row ⟨[.int .i64 0, .int .i64 0, .slice none 0 0], 32, 0, true⟩) := by rw [hHf]; exact rdx
  rw [← hHf]
  have hb0e : ¬ Fe b0 := fun h => by have := t.bd _ (h4 _ h); omega
  have hb0k : ¬ Fk b0 := fun h => by have := t.bd _ (h5 _ h); omega
  have hbe : ¬ Fe b := fun h => by have := t.bd _ (h4 _ h); omega
  have hbk : ¬ Fk b := fun h => by have := t.bd _ (h5 _ h); omega
  have hof := hko.after hkf
  have hgo1 := hkf.row0 hgo (by omega)
  have hx1 := hof.row0 hx hxn
  have hcut : flight (refCutP A o.a) = cutP (flight A) o.a := flight_cut A o.a
  (first | (refine' ew_callS (hc := cr_call) (hR := ?_) (h := ?_); rotate_left 1) | (refine' ew_call (hc := cr_call) (hR := ?_) (h := ?_); rotate_left 1))
  · exact deliverM o.a (hN.keep0 hof)
  rintro v H2 (⟨hnone, rfl, hk2⟩ | ⟨y, bb, hsome, rfl, hk2, hFbb, hbb, hgbb, Fe', hN2, hGe, hbb'⟩)
  · have hx2 := hk2.row0 hx1 (by omega)
    have hgo2 := hk2.row0 hgo1 (by omega)
    have hgf2 := hk2.row0 hgf (by omega)
    have hn2 := hk2.1
    refine ⟨by (dsimp only [Mode.kept, Mode.logged, Mode.at]; (repeat' (first | exact (fun _ h => absurd h List.not_mem_nil) | (refine List.forall_mem_cons.2 ⟨?_, ?_⟩) | (refine .inl ?_; exact rfl) | (refine .inl ?_; dsimp only; decide) | (refine .inr ?_; exact hk2.cells (by simp only [aadd_block]; omega) id)))), ?_⟩
    repeat' (first
    | (show EW _ _ _ _ _; first | refine ew_p (h := ?_) | refine ew_bu (h := ?_) | refine ew_skip (h := ?_) | refine ew_ld (h := ?_) | (refine ew_fresh ?_; intro b hb; refine ew_nw hb (h := ?_); (try simp only [AHeap.push_next, AHeap.put_next] at hb)) | refine ew_st (h := ?_) | (refine ew_df (ht := ?_) (hf := ?_) <;> intro _) | refine ew_ar (h := ?_) | refine w_nil ?_ | refine w_nilD ?_)
    | (show EC _ _ _ _ _ _ _; first | refine k_seq ?_ | refine k_region ?_ | refine k_draw (h := ?_) | refine k_skip ?_ | refine k_ret ?_ | refine k_exit ?_ | refine k_block ?_ | refine k_true (h := ?_) | refine k_false (h := ?_))
    | (show EX _ (bodyA _ _ _) _ _ _; first | refine x_end1 (hq := ?_))
    | (show EX _ _ _ _ _; first | refine x_normal ?_ | refine x_ret ?_ | refine x_exit ?_ | refine x_same ?_ | refine x_other (h := ?_) | refine x_bnormal ?_ | refine x_bret ?_))
    rename_i bf hbf0
    obtain ⟨Hw, hHw⟩ : ∃ Hw, Hw = (H2.put bf (.row ⟨[.int .i64 0, .int .i64 0, .slice none 0 0], 32, 0, true⟩)).push (.row ⟨[.int .i64 0, .int .i64 0, .slice none 0 0], 32, 0, true⟩) := ⟨_, rfl⟩
    have hkw : Keep (fun y => y = bf) H2 Hw := by rw [hHw]; exact Keep.push (F := fun y => y = bf) (Keep.put (F := fun y => y = bf) Keep.refl fun _ => rfl)
    rw [← hHw]
    (first | (refine' ew_callS (hc := cr_call) (hR := ?_) (h := ?_); rotate_left 1) | (refine' ew_call (hc := cr_call) (hR := ?_) (h := ?_); rotate_left 1))
    · exact refdeliver_calls (((hR.keep0 hof).keep0 hk2).keep hkw fun y hy he => hbk (he ▸ hy)) o.a ha2 hA
    rintro v H3 ⟨hk3, hR3, ⟨_, rfl⟩ | ⟨y, _, hsome, _⟩⟩
    case inr => rw [hnone] at hsome; cases hsome
    have hn3 := hk3.1
    have hgw : Hw.get bf = some (.row ⟨[.int .i64 0, .int .i64 0, .slice none 0 0], 32, 0, true⟩) := by rw [hHw]; exact rdx
    have hgb : Hw.get b = some (.row ⟨[.int .i64 0, .int .i64 0, .slice none 0 0], 32, 0, true⟩) := by rw [hHw]; exact rdx
    have hgow : Hw.get b0 = some (.row ⟨[.int .i64 o.kind, .int .i64 o.wh, .int .i64 o.a, .int .i64 o.b, .slice z n c], 72, 0, true⟩) := hkw.row hgo2 (by omega) (by omega)
    have hxw := hkw.row hx2 (by omega) (by omega)
    have hnw := hkw.1
    have hnw' : Hw.next = H2.next + 1 := by rw [hHw]; simp
    have hbk' : ¬ Fk b := fun h => by have := t.bd _ (h5 _ h); omega
    have hgf3 := hk3.row hgw (by omega) hbk
    have hgb3 := hk3.row hgb (by omega) hbk'
    have hgo3 := hk3.row hgow (by omega) hb0k
    have hx3 := hk3.row hxw (by omega) h8
    refine ⟨by (dsimp only [Mode.kept, Mode.logged, Mode.at]; (repeat' (first | exact (fun _ h => absurd h List.not_mem_nil) | (refine List.forall_mem_cons.2 ⟨?_, ?_⟩) | (refine .inl ?_; exact rfl) | (refine .inl ?_; dsimp only; decide) | (refine .inr ?_; exact hk3.cells (by simp only [aadd_block]; omega) h8) | (refine .inr ?_; exact hk3.cells (by simp only [aadd_block]; omega) hb0k)))), ?_⟩
    repeat' (first
    | (show EW _ _ _ _ _; first | refine ew_p (h := ?_) | refine ew_bu (h := ?_) | refine ew_skip (h := ?_) | refine ew_ld (h := ?_) | (refine ew_fresh ?_; intro b hb; refine ew_nw hb (h := ?_); (try simp only [AHeap.push_next, AHeap.put_next] at hb)) | refine ew_st (h := ?_) | (refine ew_df (ht := ?_) (hf := ?_) <;> intro _) | refine ew_ar (h := ?_) | refine w_nil ?_ | refine w_nilD ?_)
    | (show EC _ _ _ _ _ _ _; first | refine k_seq ?_ | refine k_region ?_ | refine k_draw (h := ?_) | refine k_skip ?_ | refine k_ret ?_ | refine k_exit ?_ | refine k_block ?_ | refine k_true (h := ?_) | refine k_false (h := ?_))
    | (show EX _ (bodyA _ _ _) _ _ _; first | refine x_end1 (hq := ?_))
    | (show EX _ _ _ _ _; first | refine x_normal ?_ | refine x_ret ?_ | refine x_exit ?_ | refine x_same ?_ | refine x_other (h := ?_) | refine x_bnormal ?_ | refine x_bret ?_))
    (first | (refine' ew_callS (hc := cr_call) (hR := ?_) (h := ?_); rotate_left 1) | (refine' ew_call (hc := cr_call) (hR := ?_) (h := ?_); rotate_left 1))
    · exact sameFlight_calls (F := No) (G := No) _ brNil brNil
    rintro _ H4 ⟨rfl, hk4⟩
    have hkz : Keep (fun y => y = b) H3 H4 := Keep.after (Keep.put (F := fun y => y = b) Keep.refl fun _ => rfl) hk4
    repeat' (first
    | (show EW _ _ _ _ _; first | refine ew_p (h := ?_) | refine ew_bu (h := ?_) | refine ew_skip (h := ?_) | refine ew_ld (h := ?_) | (refine ew_fresh ?_; intro b hb; refine ew_nw hb (h := ?_); (try simp only [AHeap.push_next, AHeap.put_next] at hb)) | refine ew_st (h := ?_) | (refine ew_df (ht := ?_) (hf := ?_) <;> intro _) | refine ew_ar (h := ?_) | refine w_nil ?_ | refine w_nilD ?_)
    | (show EC _ _ _ _ _ _ _; first | refine k_seq ?_ | refine k_region ?_ | refine k_draw (h := ?_) | refine k_skip ?_ | refine k_ret ?_ | refine k_exit ?_ | refine k_block ?_ | refine k_true (h := ?_) | refine k_false (h := ?_))
    | (show EX _ (bodyA _ _ _) _ _ _; first | refine x_end1 (hq := ?_))
    | (show EX _ _ _ _ _; first | refine x_normal ?_ | refine x_ret ?_ | refine x_exit ?_ | refine x_same ?_ | refine x_other (h := ?_) | refine x_bnormal ?_ | refine x_bret ?_))
    have hn4 := hkz.1
    have hkx : Keep F H H4 := (((Keep.upto (F := F) (hof.after hk2).no hkw fun i h => .inr (by omega)).upto hk3 fun i h => .inl (h5 i h))).upto hkz fun i h => .inr (by omega)
    have hx4 := hkz.row hx3 (by omega) (by omega)
    obtain ⟨F', hB, hG⟩ := t.next (A' := refCutP A o.a) (Fe' := Fe) (Fk' := Fk) h4 h5 h7 h8 hx4 (by
      rw [hcut]; unfold cutP; rw [hnone]
      exact ((((hN.keep0 hof).keep0 hk2).keep hkw fun y _ hy he => hbe (he ▸ hy)).keep hk3 fun b _ => h6 b).keep hkz fun y _ hy he => by have := t.bd _ (h4 _ hy); omega)
      (hR3.keep hkz fun y hy he => hbk' (he ▸ hy)) (fun b => .inl) (fun b => .inl) h6 (by omega)
    exact ⟨by simp, hkx, F', _, hB, hG, by rw [cut_len]; omega⟩
  · have hx2 := hk2.row hx1 (by omega) h7
    have hgo2 := hk2.row hgo1 (by omega) hb0e
    have hgf2 := hk2.row hgf (by omega) hbe
    have hn2 := hk2.1
    refine ⟨by (dsimp only [Mode.kept, Mode.logged, Mode.at]; (repeat' (first | exact (fun _ h => absurd h List.not_mem_nil) | (refine List.forall_mem_cons.2 ⟨?_, ?_⟩) | (refine .inl ?_; exact rfl) | (refine .inl ?_; dsimp only; decide) | (refine .inr ?_; exact hk2.cells (by simp only [aadd_block]; omega) h7) | (refine .inr ?_; exact hk2.cells (by simp only [aadd_block]; omega) hb0e)))), ?_⟩
    repeat' (first
    | (show EW _ _ _ _ _; first | refine ew_p (h := ?_) | refine ew_bu (h := ?_) | refine ew_skip (h := ?_) | refine ew_ld (h := ?_) | (refine ew_fresh ?_; intro b hb; refine ew_nw hb (h := ?_); (try simp only [AHeap.push_next, AHeap.put_next] at hb)) | refine ew_st (h := ?_) | (refine ew_df (ht := ?_) (hf := ?_) <;> intro _) | refine ew_ar (h := ?_) | refine w_nil ?_ | refine w_nilD ?_)
    | (show EC _ _ _ _ _ _ _; first | refine k_seq ?_ | refine k_region ?_ | refine k_draw (h := ?_) | refine k_skip ?_ | refine k_ret ?_ | refine k_exit ?_ | refine k_block ?_ | refine k_true (h := ?_) | refine k_false (h := ?_))
    | (show EX _ (bodyA _ _ _) _ _ _; first | refine x_end1 (hq := ?_))
    | (show EX _ _ _ _ _; first | refine x_normal ?_ | refine x_ret ?_ | refine x_exit ?_ | refine x_same ?_ | refine x_other (h := ?_) | refine x_bnormal ?_ | refine x_bret ?_))
    rename_i bf hbf0
    obtain ⟨Hw, hHw⟩ : ∃ Hw, Hw = (H2.put bf (.row ⟨[.int .i64 y.1, .int .i64 y.2.1, .slice (some ⟨bb, 0, none⟩) y.2.2.length y.2.2.length], 32, 0, true⟩)).push (.row ⟨[.int .i64 0, .int .i64 0, .slice none 0 0], 32, 0, true⟩) := ⟨_, rfl⟩
    have hkw : Keep (fun y => y = bf) H2 Hw := by rw [hHw]; exact Keep.push (F := fun y => y = bf) (Keep.put (F := fun y => y = bf) Keep.refl fun _ => rfl)
    have hgw : Hw.get bf = some (.row ⟨[.int .i64 y.1, .int .i64 y.2.1, .slice (some ⟨bb, 0, none⟩) y.2.2.length y.2.2.length], 32, 0, true⟩) := by rw [hHw]; exact rdx
    have hgb : Hw.get b = some (.row ⟨[.int .i64 0, .int .i64 0, .slice none 0 0], 32, 0, true⟩) := by rw [hHw]; exact rdx
    have hnw' : Hw.next = H2.next + 1 := by rw [hHw]; simp
    rw [← hHw]
    have hRf : RefM H2 Fk k m A := (hR.keep0 hof).keep hk2 fun y hy he => h6 y he hy
    (first | (refine' ew_callS (hc := cr_call) (hR := ?_) (h := ?_); rotate_left 1) | (refine' ew_call (hc := cr_call) (hR := ?_) (h := ?_); rotate_left 1))
    · exact refdeliver_calls (hRf.keep hkw fun y hy he => hbk (he ▸ hy)) o.a ha2 hA
    rintro v H3 ⟨hk3, hR3, ⟨hnone, _⟩ | ⟨y', dv', hsome', rfl, hbr⟩⟩
    case inl => rw [hnone] at hsome; cases hsome
    obtain rfl : y = y' := by rw [hsome] at hsome'; exact Option.some.inj hsome'
    have hn3 := hk3.1
    have hnw := hkw.1
    have hbbF := t.bd _ (h4 _ hFbb)
    have hgow : Hw.get b0 = some (.row ⟨[.int .i64 o.kind, .int .i64 o.wh, .int .i64 o.a, .int .i64 o.b, .slice z n c], 72, 0, true⟩) := hkw.row hgo2 (by omega) (by omega)
    have hxw := hkw.row hx2 (by omega) (by omega)
    have hbk' : ¬ Fk b := fun h => by have := t.bd _ (h5 _ h); omega
    have hgf3 := hk3.row hgw (by omega) hbk
    have hgb3 := hk3.row hgb (by omega) hbk'
    have hgo3 := hk3.row hgow (by omega) hb0k
    have hx3 := hk3.row hxw (by omega) h8
    have hbb3 := hk3.row (hkw.row hgbb (by omega) (by omega)) (by omega) (h6 _ hFbb)
    obtain ⟨zw, cw, rfl⟩ := Rd.slice hbr
    refine ⟨by (dsimp only [Mode.kept, Mode.logged, Mode.at]; (repeat' (first | exact (fun _ h => absurd h List.not_mem_nil) | (refine List.forall_mem_cons.2 ⟨?_, ?_⟩) | (refine .inl ?_; exact rfl) | (refine .inl ?_; dsimp only; decide) | (refine .inr ?_; exact hk3.cells (by simp only [aadd_block]; omega) h8) | (refine .inr ?_; exact hk3.cells (by simp only [aadd_block]; omega) hb0k)))), ?_⟩
    repeat' (first
    | (show EW _ _ _ _ _; first | refine ew_p (h := ?_) | refine ew_bu (h := ?_) | refine ew_skip (h := ?_) | refine ew_ld (h := ?_) | (refine ew_fresh ?_; intro b hb; refine ew_nw hb (h := ?_); (try simp only [AHeap.push_next, AHeap.put_next] at hb)) | refine ew_st (h := ?_) | (refine ew_df (ht := ?_) (hf := ?_) <;> intro _) | refine ew_ar (h := ?_) | refine w_nil ?_ | refine w_nilD ?_)
    | (show EC _ _ _ _ _ _ _; first | refine k_seq ?_ | refine k_region ?_ | refine k_draw (h := ?_) | refine k_skip ?_ | refine k_ret ?_ | refine k_exit ?_ | refine k_block ?_ | refine k_true (h := ?_) | refine k_false (h := ?_))
    | (show EX _ (bodyA _ _ _) _ _ _; first | refine x_end1 (hq := ?_))
    | (show EX _ _ _ _ _; first | refine x_normal ?_ | refine x_ret ?_ | refine x_exit ?_ | refine x_same ?_ | refine x_other (h := ?_) | refine x_bnormal ?_ | refine x_bret ?_))
    have hkb : Keep (fun y => y = b) H3 (H3.put b (.row ⟨[.int .i64 y.1, .int .i64 y.2.1, .slice zw y.2.2.length cw], 32, 0, true⟩)) := Keep.put (F := fun y => y = b) Keep.refl fun _ => rfl
    (first | (refine' ew_callS (hc := cr_call) (hR := ?_) (h := ?_); rotate_left 1) | (refine' ew_call (hc := cr_call) (hR := ?_) (h := ?_); rotate_left 1))
    · exact sameFlight_calls (F := fun x => x = bb) (G := Fk) _ (rd_row (hkb.row hbb3 (by omega) (by omega)) rfl (Nat.lt_of_lt_of_le (show bb < H3.next by omega) hkb.1)) (Rd.keep hbr hkb fun i _ hi he => hbk' (he ▸ hi))
    rintro _ H4 ⟨rfl, hk4⟩
    have hkz : Keep (fun y => y = b) H3 H4 := hkb.after hk4
    repeat' (first
    | (show EW _ _ _ _ _; first | refine ew_p (h := ?_) | refine ew_bu (h := ?_) | refine ew_skip (h := ?_) | refine ew_ld (h := ?_) | (refine ew_fresh ?_; intro b hb; refine ew_nw hb (h := ?_); (try simp only [AHeap.push_next, AHeap.put_next] at hb)) | refine ew_st (h := ?_) | (refine ew_df (ht := ?_) (hf := ?_) <;> intro _) | refine ew_ar (h := ?_) | refine w_nil ?_ | refine w_nilD ?_)
    | (show EC _ _ _ _ _ _ _; first | refine k_seq ?_ | refine k_region ?_ | refine k_draw (h := ?_) | refine k_skip ?_ | refine k_ret ?_ | refine k_exit ?_ | refine k_block ?_ | refine k_true (h := ?_) | refine k_false (h := ?_))
    | (show EX _ (bodyA _ _ _) _ _ _; first | refine x_end1 (hq := ?_))
    | (show EX _ _ _ _ _; first | refine x_normal ?_ | refine x_ret ?_ | refine x_exit ?_ | refine x_same ?_ | refine x_other (h := ?_) | refine x_bnormal ?_ | refine x_bret ?_))
    have hn4 := hkz.1
    have hGe' : ∀ i, Fe' i → Fe i ∨ H.next ≤ i := fun i hi => (hGe i hi).imp id fun h => by have := hof.1; omega
    have hkx : Keep F H H4 := (((Keep.upto (F := F) hof.no hk2 fun i h => .inl (h4 i h)).upto hkw fun i h => .inr (by omega)).upto hk3 fun i h => .inl (h5 i h)).upto hkz fun i h => .inr (by omega)
    have hx4 := hkz.row hx3 (by omega) (by omega)
    have hkk : ∀ i, Fe' i → ¬ Fk i := fun i hi hk => (hGe' i hi).elim (fun h => h6 i h hk) fun h => by have := t.bd _ (h5 _ hk); omega
    obtain ⟨F', hB, hG⟩ := t.next (A' := refCutP A o.a) (Fe' := Fe') (Fk' := Fk) h4 h5 h7 h8 hx4 (by
      rw [hcut]; unfold cutP; rw [hsome]
      exact ((hN2.keep hkw fun y _ hy he => (hGe y hy).elim (fun h => hbe (he ▸ h)) fun h => by have he2 : y = bf := he; omega).keep hk3 fun b _ => hkk b).keep hkz fun y _ hy he => by have := hN2.bound _ hy; omega)
      (hR3.keep hkz fun y hy he => hbk' (he ▸ hy)) hGe' (fun b => .inl) hkk (by omega)
    exact ⟨by simp, hkx, F', _, hB, hG, by rw [cut_len]; omega⟩
theorem play3 (t : BtR H F x m A) {z : Option Addr} {n c : Nat} (hdv : dv = .slice z n c) (ha2 : o.a ≤ 9223372036854775807) (hA : A.length ≤ 2932031007401)
    (hx : H.get x = some (.row ⟨[.pointer (some ⟨e, 0, none⟩), .pointer (some ⟨k, 0, none⟩)], 92, 0, true⟩)) (hN : NetM H Fe e m (flight A)) (hR : RefM H Fk k m A) (h4 : ∀ b, Fe b → F b) (h5 : ∀ b, Fk b → F b) (h6 : ∀ b, Fe b → ¬ Fk b) (h7 : ¬ Fe x) (h8 : ¬ Fk x)
    (hc : o.kind = 3) : PlayT H F x m A o dv := by
  subst hdv
  have hxn := t.bd _ t.fx
  unfold PlayT
  refine k_open (args := [.pointer (some ⟨x, 0, none⟩), .agg #[.int .i64 o.kind, .int .i64 o.wh, .int .i64 o.a, .int .i64 o.b, .slice z n c]]) (E0 := [(0, .pointer (some ⟨x, 0, none⟩)), (1, .agg #[.int .i64 o.kind, .int .i64 o.wh, .int .i64 o.a, .int .i64 o.b, .slice z n c])]) tbl30 Try.func30 rfl follows (by kernel_rfl) Try.ntmps30 rfl rfl ?_
  repeat' (first
    | (show EW _ _ _ _ _; first | refine ew_p (h := ?_) | refine ew_bu (h := ?_) | refine ew_skip (h := ?_) | refine ew_ld (h := ?_) | (refine ew_fresh ?_; intro b hb; refine ew_nw hb (h := ?_); (try simp only [AHeap.push_next, AHeap.put_next] at hb)) | refine ew_st (h := ?_) | (refine ew_df (ht := ?_) (hf := ?_) <;> intro _) | refine ew_ar (h := ?_) | refine w_nil ?_ | refine w_nilD ?_)
    | (show EC _ _ _ _ _ _ _; first | refine k_seq ?_ | refine k_region ?_ | refine k_draw (h := ?_) | refine k_skip ?_ | refine k_ret ?_ | refine k_exit ?_ | refine k_block ?_ | refine k_true (h := ?_) | refine k_false (h := ?_))
    | (show EX _ (bodyA _ _ _) _ _ _; first | refine x_end1 (hq := ?_))
    | (show EX _ _ _ _ _; first | refine x_normal ?_ | refine x_ret ?_ | refine x_exit ?_ | refine x_same ?_ | refine x_other (h := ?_) | refine x_bnormal ?_ | refine x_bret ?_))
  obtain ⟨Ho, hHo⟩ : ∃ Ho, Ho = H.push (.row ⟨[.int .i64 o.kind, .int .i64 o.wh, .int .i64 o.a, .int .i64 o.b, .slice z n c], 72, 0, true⟩) := ⟨_, rfl⟩
  have hko : Keep No H Ho := by rw [hHo]; exact kp
  have hno : Ho.next = H.next + 1 := by rw [hHo, AHeap.push_next]
  have hgo : Ho.get b = some (.row ⟨[.int .i64 o.kind, .int .i64 o.wh, .int .i64 o.a, .int .i64 o.b, .slice z n c], 72, 0, true⟩) := by rw [hHo]; exact rdx
  rw [← hHo]
  have hbe : ¬ Fe b := fun h => by have := t.bd _ (h4 _ h); omega
  have hbk : ¬ Fk b := fun h => by have := t.bd _ (h5 _ h); omega
  have hx1 := hko.row0 hx hxn
  have hcut : flight (refCutP A o.a) = cutP (flight A) o.a := flight_cut A o.a
  (first | (refine' ew_callS (hc := cr_call) (hR := ?_) (h := ?_); rotate_left 1) | (refine' ew_call (hc := cr_call) (hR := ?_) (h := ?_); rotate_left 1))
  · exact dropM o.a (hN.keep0 hko)
  rintro v H2 ⟨rfl, hk2, Fe', hN2, hGe⟩
  have hx2 := hk2.row hx1 (by omega) h7
  have hgo2 := hk2.row hgo (by omega) hbe
  have hn2 := hk2.1
  refine ⟨by (dsimp only [Mode.kept, Mode.logged, Mode.at]; (repeat' (first | exact (fun _ h => absurd h List.not_mem_nil) | (refine List.forall_mem_cons.2 ⟨?_, ?_⟩) | (refine .inl ?_; exact rfl) | (refine .inl ?_; dsimp only; decide) | (refine .inr ?_; exact hk2.cells (by simp only [aadd_block]; omega) h7) | (refine .inr ?_; exact hk2.cells (by simp only [aadd_block]; omega) hbe)))), ?_⟩
  repeat' (first
    | (show EW _ _ _ _ _; first | refine ew_p (h := ?_) | refine ew_bu (h := ?_) | refine ew_skip (h := ?_) | refine ew_ld (h := ?_) | (refine ew_fresh ?_; intro b hb; refine ew_nw hb (h := ?_); (try simp only [AHeap.push_next, AHeap.put_next] at hb)) | refine ew_st (h := ?_) | (refine ew_df (ht := ?_) (hf := ?_) <;> intro _) | refine ew_ar (h := ?_) | refine w_nil ?_ | refine w_nilD ?_)
    | (show EC _ _ _ _ _ _ _; first | refine k_seq ?_ | refine k_region ?_ | refine k_draw (h := ?_) | refine k_skip ?_ | refine k_ret ?_ | refine k_exit ?_ | refine k_block ?_ | refine k_true (h := ?_) | refine k_false (h := ?_))
    | (show EX _ (bodyA _ _ _) _ _ _; first | refine x_end1 (hq := ?_))
    | (show EX _ _ _ _ _; first | refine x_normal ?_ | refine x_ret ?_ | refine x_exit ?_ | refine x_same ?_ | refine x_other (h := ?_) | refine x_bnormal ?_ | refine x_bret ?_))
  (first | (refine' ew_callS (hc := cr_call) (hR := ?_) (h := ?_); rotate_left 1) | (refine' ew_call (hc := cr_call) (hR := ?_) (h := ?_); rotate_left 1))
  · exact refdrop_calls ((hR.keep0 hko).keep hk2 fun y hy he => h6 y he hy) o.a ha2 hA
  rintro v H3 ⟨rfl, hk3, hR3⟩
  have hn3 := hk3.1
  have hx3 := hk3.row hx2 (by omega) h8
  have hgo3 := hk3.row hgo2 (by omega) hbk
  refine ⟨by (dsimp only [Mode.kept, Mode.logged, Mode.at]; (repeat' (first | exact (fun _ h => absurd h List.not_mem_nil) | (refine List.forall_mem_cons.2 ⟨?_, ?_⟩) | (refine .inl ?_; exact rfl) | (refine .inl ?_; dsimp only; decide) | (refine .inr ?_; exact hk3.cells (by simp only [aadd_block]; omega) h8) | (refine .inr ?_; exact hk3.cells (by simp only [aadd_block]; omega) hbk)))), ?_⟩
  repeat' (first
    | (show EW _ _ _ _ _; first | refine ew_p (h := ?_) | refine ew_bu (h := ?_) | refine ew_skip (h := ?_) | refine ew_ld (h := ?_) | (refine ew_fresh ?_; intro b hb; refine ew_nw hb (h := ?_); (try simp only [AHeap.push_next, AHeap.put_next] at hb)) | refine ew_st (h := ?_) | (refine ew_df (ht := ?_) (hf := ?_) <;> intro _) | refine ew_ar (h := ?_) | refine w_nil ?_ | refine w_nilD ?_)
    | (show EC _ _ _ _ _ _ _; first | refine k_seq ?_ | refine k_region ?_ | refine k_draw (h := ?_) | refine k_skip ?_ | refine k_ret ?_ | refine k_exit ?_ | refine k_block ?_ | refine k_true (h := ?_) | refine k_false (h := ?_))
    | (show EX _ (bodyA _ _ _) _ _ _; first | refine x_end1 (hq := ?_))
    | (show EX _ _ _ _ _; first | refine x_normal ?_ | refine x_ret ?_ | refine x_exit ?_ | refine x_same ?_ | refine x_other (h := ?_) | refine x_bnormal ?_ | refine x_bret ?_))
  have hGe' : ∀ i, Fe' i → Fe i ∨ H.next ≤ i := fun i hi => (hGe i hi).imp id fun h => by have := hko.1; omega
  have hkk : ∀ i, Fe' i → ¬ Fk i := fun i hi hk => (hGe' i hi).elim (fun h => h6 i h hk) fun h => by have := t.bd _ (h5 _ hk); omega
  have hkx : Keep F H H3 := (Keep.upto (F := F) hko.no hk2 fun i h => .inl (h4 i h)).upto hk3 fun i h => .inl (h5 i h)
  obtain ⟨F', hB, hG⟩ := t.next (A' := refCutP A o.a) (Fe' := Fe') (Fk' := Fk) h4 h5 h7 h8 hx3 (by rw [hcut]; exact hN2.keep hk3 fun b _ => hkk b) hR3 hGe' (fun b => .inl) hkk (by omega)
  exact ⟨by simp, hkx, F', _, hB, hG, by rw [cut_len]; omega⟩
theorem play4 (t : BtR H F x m A) {z : Option Addr} {n c : Nat} (hdv : dv = .slice z n c) (ha2 : o.a ≤ 9223372036854775807) (hA : A.length ≤ 2932031007401)
    (hx : H.get x = some (.row ⟨[.pointer (some ⟨e, 0, none⟩), .pointer (some ⟨k, 0, none⟩)], 92, 0, true⟩)) (hN : NetM H Fe e m (flight A)) (hR : RefM H Fk k m A) (h4 : ∀ b, Fe b → F b) (h5 : ∀ b, Fk b → F b) (h6 : ∀ b, Fe b → ¬ Fk b) (h7 : ¬ Fe x) (h8 : ¬ Fk x)
    (hc : o.kind = 4) : PlayT H F x m A o dv := by
  subst hdv
  have hxn := t.bd _ t.fx
  unfold PlayT
  refine k_open (args := [.pointer (some ⟨x, 0, none⟩), .agg #[.int .i64 o.kind, .int .i64 o.wh, .int .i64 o.a, .int .i64 o.b, .slice z n c]]) (E0 := [(0, .pointer (some ⟨x, 0, none⟩)), (1, .agg #[.int .i64 o.kind, .int .i64 o.wh, .int .i64 o.a, .int .i64 o.b, .slice z n c])]) tbl30 Try.func30 rfl follows (by kernel_rfl) Try.ntmps30 rfl rfl ?_
  repeat' (first
    | (show EW _ _ _ _ _; first | refine ew_p (h := ?_) | refine ew_bu (h := ?_) | refine ew_skip (h := ?_) | refine ew_ld (h := ?_) | (refine ew_fresh ?_; intro b hb; refine ew_nw hb (h := ?_); (try simp only [AHeap.push_next, AHeap.put_next] at hb)) | refine ew_st (h := ?_) | (refine ew_df (ht := ?_) (hf := ?_) <;> intro _) | refine ew_ar (h := ?_) | refine w_nil ?_ | refine w_nilD ?_)
    | (show EC _ _ _ _ _ _ _; first | refine k_seq ?_ | refine k_region ?_ | refine k_draw (h := ?_) | refine k_skip ?_ | refine k_ret ?_ | refine k_exit ?_ | refine k_block ?_ | refine k_true (h := ?_) | refine k_false (h := ?_))
    | (show EX _ (bodyA _ _ _) _ _ _; first | refine x_end1 (hq := ?_))
    | (show EX _ _ _ _ _; first | refine x_normal ?_ | refine x_ret ?_ | refine x_exit ?_ | refine x_same ?_ | refine x_other (h := ?_) | refine x_bnormal ?_ | refine x_bret ?_))
  obtain ⟨Ho, hHo⟩ : ∃ Ho, Ho = H.push (.row ⟨[.int .i64 o.kind, .int .i64 o.wh, .int .i64 o.a, .int .i64 o.b, .slice z n c], 72, 0, true⟩) := ⟨_, rfl⟩
  have hko : Keep No H Ho := by rw [hHo]; exact kp
  have hno : Ho.next = H.next + 1 := by rw [hHo, AHeap.push_next]
  have hgo : Ho.get b = some (.row ⟨[.int .i64 o.kind, .int .i64 o.wh, .int .i64 o.a, .int .i64 o.b, .slice z n c], 72, 0, true⟩) := by rw [hHo]; exact rdx
  rw [← hHo]
  have hbe : ¬ Fe b := fun h => by have := t.bd _ (h4 _ h); omega
  have hbk : ¬ Fk b := fun h => by have := t.bd _ (h5 _ h); omega
  have hx1 := hko.row0 hx hxn
  (first | (refine' ew_callS (hc := cr_call) (hR := ?_) (h := ?_); rotate_left 1) | (refine' ew_call (hc := cr_call) (hR := ?_) (h := ?_); rotate_left 1))
  · exact copyM o.a (hN.keep0 hko)
  rintro v H2 ⟨rfl, hk2, Fe', hN2, hGe⟩
  have hx2 := hk2.row hx1 (by omega) h7
  have hgo2 := hk2.row hgo (by omega) hbe
  have hn2 := hk2.1
  refine ⟨by (dsimp only [Mode.kept, Mode.logged, Mode.at]; (repeat' (first | exact (fun _ h => absurd h List.not_mem_nil) | (refine List.forall_mem_cons.2 ⟨?_, ?_⟩) | (refine .inl ?_; exact rfl) | (refine .inl ?_; dsimp only; decide) | (refine .inr ?_; exact hk2.cells (by simp only [aadd_block]; omega) h7) | (refine .inr ?_; exact hk2.cells (by simp only [aadd_block]; omega) hbe)))), ?_⟩
  repeat' (first
    | (show EW _ _ _ _ _; first | refine ew_p (h := ?_) | refine ew_bu (h := ?_) | refine ew_skip (h := ?_) | refine ew_ld (h := ?_) | (refine ew_fresh ?_; intro b hb; refine ew_nw hb (h := ?_); (try simp only [AHeap.push_next, AHeap.put_next] at hb)) | refine ew_st (h := ?_) | (refine ew_df (ht := ?_) (hf := ?_) <;> intro _) | refine ew_ar (h := ?_) | refine w_nil ?_ | refine w_nilD ?_)
    | (show EC _ _ _ _ _ _ _; first | refine k_seq ?_ | refine k_region ?_ | refine k_draw (h := ?_) | refine k_skip ?_ | refine k_ret ?_ | refine k_exit ?_ | refine k_block ?_ | refine k_true (h := ?_) | refine k_false (h := ?_))
    | (show EX _ (bodyA _ _ _) _ _ _; first | refine x_end1 (hq := ?_))
    | (show EX _ _ _ _ _; first | refine x_normal ?_ | refine x_ret ?_ | refine x_exit ?_ | refine x_same ?_ | refine x_other (h := ?_) | refine x_bnormal ?_ | refine x_bret ?_))
  (first | (refine' ew_callS (hc := cr_call) (hR := ?_) (h := ?_); rotate_left 1) | (refine' ew_call (hc := cr_call) (hR := ?_) (h := ?_); rotate_left 1))
  · exact refcopy_calls ((hR.keep0 hko).keep hk2 fun y hy he => h6 y he hy) o.a ha2 hA
  rintro v H3 ⟨rfl, hk3, Fk', hR3, hGk⟩
  have hn3 := hk3.1
  have hx3 := hk3.row hx2 (by omega) h8
  have hgo3 := hk3.row hgo2 (by omega) hbk
  refine ⟨by (dsimp only [Mode.kept, Mode.logged, Mode.at]; (repeat' (first | exact (fun _ h => absurd h List.not_mem_nil) | (refine List.forall_mem_cons.2 ⟨?_, ?_⟩) | (refine .inl ?_; exact rfl) | (refine .inl ?_; dsimp only; decide) | (refine .inr ?_; exact hk3.cells (by simp only [aadd_block]; omega) h8) | (refine .inr ?_; exact hk3.cells (by simp only [aadd_block]; omega) hbk)))), ?_⟩
  repeat' (first
    | (show EW _ _ _ _ _; first | refine ew_p (h := ?_) | refine ew_bu (h := ?_) | refine ew_skip (h := ?_) | refine ew_ld (h := ?_) | (refine ew_fresh ?_; intro b hb; refine ew_nw hb (h := ?_); (try simp only [AHeap.push_next, AHeap.put_next] at hb)) | refine ew_st (h := ?_) | (refine ew_df (ht := ?_) (hf := ?_) <;> intro _) | refine ew_ar (h := ?_) | refine w_nil ?_ | refine w_nilD ?_)
    | (show EC _ _ _ _ _ _ _; first | refine k_seq ?_ | refine k_region ?_ | refine k_draw (h := ?_) | refine k_skip ?_ | refine k_ret ?_ | refine k_exit ?_ | refine k_block ?_ | refine k_true (h := ?_) | refine k_false (h := ?_))
    | (show EX _ (bodyA _ _ _) _ _ _; first | refine x_end1 (hq := ?_))
    | (show EX _ _ _ _ _; first | refine x_normal ?_ | refine x_ret ?_ | refine x_exit ?_ | refine x_same ?_ | refine x_other (h := ?_) | refine x_bnormal ?_ | refine x_bret ?_))
  have hGe' : ∀ i, Fe' i → Fe i ∨ H.next ≤ i := fun i hi => (hGe i hi).imp id fun h => by have := hko.1; omega
  have hGk' : ∀ i, Fk' i → Fk i ∨ H.next ≤ i := fun i hi => (hGk i hi).imp id fun h => by have := hko.1; omega
  have hkk : ∀ i, Fe' i → ¬ Fk i := fun i hi hk => (hGe' i hi).elim (fun h => h6 i h hk) fun h => by have := t.bd _ (h5 _ hk); omega
  have hkk' : ∀ i, Fe' i → ¬ Fk' i := fun i hi hk => (hGk i hk).elim (hkk i hi) fun h => by have := hN2.bound _ hi; omega
  have hkx : Keep F H H3 := (Keep.upto (F := F) hko.no hk2 fun i h => .inl (h4 i h)).upto hk3 fun i h => .inl (h5 i h)
  obtain ⟨F', hB, hG⟩ := t.next (A' := refCopyP A o.a) (Fe' := Fe') (Fk' := Fk') h4 h5 h7 h8 hx3 (by rw [flight_copy]; exact hN2.keep hk3 fun b _ => hkk b) hR3 hGe' hGk' hkk' (by omega)
  exact ⟨by simp, hkx, F', _, hB, hG, copy_len _ _⟩
theorem play5 (t : BtR H F x m A) {z : Option Addr} {n c : Nat} (hdv : dv = .slice z n c) (ha2 : o.a ≤ 9223372036854775807) (hb1 : -9223372036854775808 ≤ o.b) (hb2 : o.b ≤ 9223372036854775807) (hA : A.length ≤ 2932031007401)
    (hx : H.get x = some (.row ⟨[.pointer (some ⟨e, 0, none⟩), .pointer (some ⟨k, 0, none⟩)], 92, 0, true⟩)) (hN : NetM H Fe e m (flight A)) (hR : RefM H Fk k m A) (h4 : ∀ b, Fe b → F b) (h5 : ∀ b, Fk b → F b) (h6 : ∀ b, Fe b → ¬ Fk b) (h7 : ¬ Fe x) (h8 : ¬ Fk x)
    (hc : o.kind = 5) : PlayT H F x m A o dv := by
  subst hdv
  have hxn := t.bd _ t.fx
  unfold PlayT
  refine k_open (args := [.pointer (some ⟨x, 0, none⟩), .agg #[.int .i64 o.kind, .int .i64 o.wh, .int .i64 o.a, .int .i64 o.b, .slice z n c]]) (E0 := [(0, .pointer (some ⟨x, 0, none⟩)), (1, .agg #[.int .i64 o.kind, .int .i64 o.wh, .int .i64 o.a, .int .i64 o.b, .slice z n c])]) tbl30 Try.func30 rfl follows (by kernel_rfl) Try.ntmps30 rfl rfl ?_
  repeat' (first
    | (show EW _ _ _ _ _; first | refine ew_p (h := ?_) | refine ew_bu (h := ?_) | refine ew_skip (h := ?_) | refine ew_ld (h := ?_) | (refine ew_fresh ?_; intro b hb; refine ew_nw hb (h := ?_); (try simp only [AHeap.push_next, AHeap.put_next] at hb)) | refine ew_st (h := ?_) | (refine ew_df (ht := ?_) (hf := ?_) <;> intro _) | refine ew_ar (h := ?_) | refine w_nil ?_ | refine w_nilD ?_)
    | (show EC _ _ _ _ _ _ _; first | refine k_seq ?_ | refine k_region ?_ | refine k_draw (h := ?_) | refine k_skip ?_ | refine k_ret ?_ | refine k_exit ?_ | refine k_block ?_ | refine k_true (h := ?_) | refine k_false (h := ?_))
    | (show EX _ (bodyA _ _ _) _ _ _; first | refine x_end1 (hq := ?_))
    | (show EX _ _ _ _ _; first | refine x_normal ?_ | refine x_ret ?_ | refine x_exit ?_ | refine x_same ?_ | refine x_other (h := ?_) | refine x_bnormal ?_ | refine x_bret ?_))
  obtain ⟨Ho, hHo⟩ : ∃ Ho, Ho = H.push (.row ⟨[.int .i64 o.kind, .int .i64 o.wh, .int .i64 o.a, .int .i64 o.b, .slice z n c], 72, 0, true⟩) := ⟨_, rfl⟩
  have hko : Keep No H Ho := by rw [hHo]; exact kp
  have hno : Ho.next = H.next + 1 := by rw [hHo, AHeap.push_next]
  have hgo : Ho.get b = some (.row ⟨[.int .i64 o.kind, .int .i64 o.wh, .int .i64 o.a, .int .i64 o.b, .slice z n c], 72, 0, true⟩) := by rw [hHo]; exact rdx
  rw [← hHo]
  have hbe : ¬ Fe b := fun h => by have := t.bd _ (h4 _ h); omega
  have hbk : ¬ Fk b := fun h => by have := t.bd _ (h5 _ h); omega
  have hx1 := hko.row0 hx hxn
  (first | (refine' ew_callS (hc := cr_call) (hR := ?_) (h := ?_); rotate_left 1) | (refine' ew_call (hc := cr_call) (hR := ?_) (h := ?_); rotate_left 1))
  · exact flipM o.a o.b (hN.keep0 hko) hb1 hb2
  rintro v H2 ⟨rfl, hk2, hN2⟩
  have hx2 := hk2.row hx1 (by omega) h7
  have hgo2 := hk2.row hgo (by omega) hbe
  have hn2 := hk2.1
  refine ⟨by (dsimp only [Mode.kept, Mode.logged, Mode.at]; (repeat' (first | exact (fun _ h => absurd h List.not_mem_nil) | (refine List.forall_mem_cons.2 ⟨?_, ?_⟩) | (refine .inl ?_; exact rfl) | (refine .inl ?_; dsimp only; decide) | (refine .inr ?_; exact hk2.cells (by simp only [aadd_block]; omega) h7) | (refine .inr ?_; exact hk2.cells (by simp only [aadd_block]; omega) hbe)))), ?_⟩
  repeat' (first
    | (show EW _ _ _ _ _; first | refine ew_p (h := ?_) | refine ew_bu (h := ?_) | refine ew_skip (h := ?_) | refine ew_ld (h := ?_) | (refine ew_fresh ?_; intro b hb; refine ew_nw hb (h := ?_); (try simp only [AHeap.push_next, AHeap.put_next] at hb)) | refine ew_st (h := ?_) | (refine ew_df (ht := ?_) (hf := ?_) <;> intro _) | refine ew_ar (h := ?_) | refine w_nil ?_ | refine w_nilD ?_)
    | (show EC _ _ _ _ _ _ _; first | refine k_seq ?_ | refine k_region ?_ | refine k_draw (h := ?_) | refine k_skip ?_ | refine k_ret ?_ | refine k_exit ?_ | refine k_block ?_ | refine k_true (h := ?_) | refine k_false (h := ?_))
    | (show EX _ (bodyA _ _ _) _ _ _; first | refine x_end1 (hq := ?_))
    | (show EX _ _ _ _ _; first | refine x_normal ?_ | refine x_ret ?_ | refine x_exit ?_ | refine x_same ?_ | refine x_other (h := ?_) | refine x_bnormal ?_ | refine x_bret ?_))
  (first | (refine' ew_callS (hc := cr_call) (hR := ?_) (h := ?_); rotate_left 1) | (refine' ew_call (hc := cr_call) (hR := ?_) (h := ?_); rotate_left 1))
  · exact refflip_calls ((hR.keep0 hko).keep hk2 fun y hy he => h6 y he hy) o.a o.b ha2 hb1 hb2 hA
  rintro v H3 ⟨rfl, hk3, Fk', hR3, hGk⟩
  have hn3 := hk3.1
  have hx3 := hk3.row hx2 (by omega) h8
  have hgo3 := hk3.row hgo2 (by omega) hbk
  refine ⟨by (dsimp only [Mode.kept, Mode.logged, Mode.at]; (repeat' (first | exact (fun _ h => absurd h List.not_mem_nil) | (refine List.forall_mem_cons.2 ⟨?_, ?_⟩) | (refine .inl ?_; exact rfl) | (refine .inl ?_; dsimp only; decide) | (refine .inr ?_; exact hk3.cells (by simp only [aadd_block]; omega) h8) | (refine .inr ?_; exact hk3.cells (by simp only [aadd_block]; omega) hbk)))), ?_⟩
  repeat' (first
    | (show EW _ _ _ _ _; first | refine ew_p (h := ?_) | refine ew_bu (h := ?_) | refine ew_skip (h := ?_) | refine ew_ld (h := ?_) | (refine ew_fresh ?_; intro b hb; refine ew_nw hb (h := ?_); (try simp only [AHeap.push_next, AHeap.put_next] at hb)) | refine ew_st (h := ?_) | (refine ew_df (ht := ?_) (hf := ?_) <;> intro _) | refine ew_ar (h := ?_) | refine w_nil ?_ | refine w_nilD ?_)
    | (show EC _ _ _ _ _ _ _; first | refine k_seq ?_ | refine k_region ?_ | refine k_draw (h := ?_) | refine k_skip ?_ | refine k_ret ?_ | refine k_exit ?_ | refine k_block ?_ | refine k_true (h := ?_) | refine k_false (h := ?_))
    | (show EX _ (bodyA _ _ _) _ _ _; first | refine x_end1 (hq := ?_))
    | (show EX _ _ _ _ _; first | refine x_normal ?_ | refine x_ret ?_ | refine x_exit ?_ | refine x_same ?_ | refine x_other (h := ?_) | refine x_bnormal ?_ | refine x_bret ?_))
  have hGk' : ∀ i, Fk' i → Fk i ∨ H.next ≤ i := fun i hi => (hGk i hi).imp id fun h => by have := hko.1; omega
  have hkk' : ∀ i, Fe i → ¬ Fk' i := fun i hi hk => (hGk i hk).elim (h6 i hi) fun h => by have := hN2.bound _ hi; omega
  have hkx : Keep F H H3 := (Keep.upto (F := F) hko.no hk2 fun i h => .inl (h4 i h)).upto hk3 fun i h => .inl (h5 i h)
  obtain ⟨F', hB, hG⟩ := t.next (A' := refFlipP A o.a o.b) (Fe' := Fe) (Fk' := Fk') h4 h5 h7 h8 hx3 (by rw [flight_flip]; exact hN2.keep hk3 fun b _ => h6 b) hR3 (fun b => .inl) hGk' hkk' (by omega)
  exact ⟨by simp, hkx, F', _, hB, hG, by rw [flip_len]; omega⟩
theorem play6 (t : BtR H F x m A) {z : Option Addr} {n c : Nat} (hdv : dv = .slice z n c) (hA : A.length ≤ 2932031007401)
    (hx : H.get x = some (.row ⟨[.pointer (some ⟨e, 0, none⟩), .pointer (some ⟨k, 0, none⟩)], 92, 0, true⟩)) (hN : NetM H Fe e m (flight A)) (hR : RefM H Fk k m A) (h4 : ∀ b, Fe b → F b) (h5 : ∀ b, Fk b → F b) (h6 : ∀ b, Fe b → ¬ Fk b) (h7 : ¬ Fe x) (h8 : ¬ Fk x)
    (hc : o.kind = 6) : PlayT H F x m A o dv := by
  subst hdv
  have hxn := t.bd _ t.fx
  have hlen := hN.len
  unfold PlayT
  refine k_open (args := [.pointer (some ⟨x, 0, none⟩), .agg #[.int .i64 o.kind, .int .i64 o.wh, .int .i64 o.a, .int .i64 o.b, .slice z n c]]) (E0 := [(0, .pointer (some ⟨x, 0, none⟩)), (1, .agg #[.int .i64 o.kind, .int .i64 o.wh, .int .i64 o.a, .int .i64 o.b, .slice z n c])]) tbl30 Try.func30 rfl follows (by kernel_rfl) Try.ntmps30 rfl rfl ?_
  repeat' (first
    | (show EW _ _ _ _ _; first | refine ew_p (h := ?_) | refine ew_bu (h := ?_) | refine ew_skip (h := ?_) | refine ew_ld (h := ?_) | (refine ew_fresh ?_; intro b hb; refine ew_nw hb (h := ?_); (try simp only [AHeap.push_next, AHeap.put_next] at hb)) | refine ew_st (h := ?_) | (refine ew_df (ht := ?_) (hf := ?_) <;> intro _) | refine ew_ar (h := ?_) | refine w_nil ?_ | refine w_nilD ?_)
    | (show EC _ _ _ _ _ _ _; first | refine k_seq ?_ | refine k_region ?_ | refine k_draw (h := ?_) | refine k_skip ?_ | refine k_ret ?_ | refine k_exit ?_ | refine k_block ?_ | refine k_true (h := ?_) | refine k_false (h := ?_))
    | (show EX _ (bodyA _ _ _) _ _ _; first | refine x_end1 (hq := ?_))
    | (show EX _ _ _ _ _; first | refine x_normal ?_ | refine x_ret ?_ | refine x_exit ?_ | refine x_same ?_ | refine x_other (h := ?_) | refine x_bnormal ?_ | refine x_bret ?_))
  obtain ⟨Ho, hHo⟩ : ∃ Ho, Ho = H.push (.row ⟨[.int .i64 o.kind, .int .i64 o.wh, .int .i64 o.a, .int .i64 o.b, .slice z n c], 72, 0, true⟩) := ⟨_, rfl⟩
  have hko : Keep No H Ho := by rw [hHo]; exact kp
  have hno : Ho.next = H.next + 1 := by rw [hHo, AHeap.push_next]
  rw [← hHo]
  have hx1 := hko.row0 hx hxn
  (first | (refine' ew_callS (hc := cr_call) (hR := ?_) (h := ?_); rotate_left 1) | (refine' ew_call (hc := cr_call) (hR := ?_) (h := ?_); rotate_left 1))
  · exact listM (hN.keep0 hko)
  rintro v H2 ⟨hk2, L', hL, hLM⟩
  have hx2 := hk2.row0 hx1 (by omega)
  have hn2 := hk2.1
  have hF2 := hL.reads
  rw [hLM] at hF2
  obtain ⟨z1, c1, rfl⟩ := hF2.slice
  repeat' (first
    | (show EW _ _ _ _ _; first | refine ew_p (h := ?_) | refine ew_bu (h := ?_) | refine ew_skip (h := ?_) | refine ew_ld (h := ?_) | (refine ew_fresh ?_; intro b hb; refine ew_nw hb (h := ?_); (try simp only [AHeap.push_next, AHeap.put_next] at hb)) | refine ew_st (h := ?_) | (refine ew_df (ht := ?_) (hf := ?_) <;> intro _) | refine ew_ar (h := ?_) | refine w_nil ?_ | refine w_nilD ?_)
    | (show EC _ _ _ _ _ _ _; first | refine k_seq ?_ | refine k_region ?_ | refine k_draw (h := ?_) | refine k_skip ?_ | refine k_ret ?_ | refine k_exit ?_ | refine k_block ?_ | refine k_true (h := ?_) | refine k_false (h := ?_))
    | (show EX _ (bodyA _ _ _) _ _ _; first | refine x_end1 (hq := ?_))
    | (show EX _ _ _ _ _; first | refine x_normal ?_ | refine x_ret ?_ | refine x_exit ?_ | refine x_same ?_ | refine x_other (h := ?_) | refine x_bnormal ?_ | refine x_bret ?_))
  (first | (refine' ew_callS (hc := cr_call) (hR := ?_) (h := ?_); rotate_left 1) | (refine' ew_call (hc := cr_call) (hR := ?_) (h := ?_); rotate_left 1))
  · exact reflist_calls ((hR.keep0 hko).keep0 hk2) hA
  rintro v H3 ⟨hk3, hF3⟩
  have hn3 := hk3.1
  have hx3 := hk3.row0 hx2 (by omega)
  obtain ⟨z2, c2, rfl⟩ := hF3.slice
  repeat' (first
    | (show EW _ _ _ _ _; first | refine ew_p (h := ?_) | refine ew_bu (h := ?_) | refine ew_skip (h := ?_) | refine ew_ld (h := ?_) | (refine ew_fresh ?_; intro b hb; refine ew_nw hb (h := ?_); (try simp only [AHeap.push_next, AHeap.put_next] at hb)) | refine ew_st (h := ?_) | (refine ew_df (ht := ?_) (hf := ?_) <;> intro _) | refine ew_ar (h := ?_) | refine w_nil ?_ | refine w_nilD ?_)
    | (show EC _ _ _ _ _ _ _; first | refine k_seq ?_ | refine k_region ?_ | refine k_draw (h := ?_) | refine k_skip ?_ | refine k_ret ?_ | refine k_exit ?_ | refine k_block ?_ | refine k_true (h := ?_) | refine k_false (h := ?_))
    | (show EX _ (bodyA _ _ _) _ _ _; first | refine x_end1 (hq := ?_))
    | (show EX _ _ _ _ _; first | refine x_normal ?_ | refine x_ret ?_ | refine x_exit ?_ | refine x_same ?_ | refine x_other (h := ?_) | refine x_bnormal ?_ | refine x_bret ?_))
  (first | (refine' ew_callS (hc := cr_call) (hR := ?_) (h := ?_); rotate_left 1) | (refine' ew_call (hc := cr_call) (hR := ?_) (h := ?_); rotate_left 1))
  · exact same_calls _ (hF2.keep0 hk3) hF3 (by omega)
  rintro v H4 ⟨rfl, hk4⟩
  repeat' (first
    | (show EW _ _ _ _ _; first | refine ew_p (h := ?_) | refine ew_bu (h := ?_) | refine ew_skip (h := ?_) | refine ew_ld (h := ?_) | (refine ew_fresh ?_; intro b hb; refine ew_nw hb (h := ?_); (try simp only [AHeap.push_next, AHeap.put_next] at hb)) | refine ew_st (h := ?_) | (refine ew_df (ht := ?_) (hf := ?_) <;> intro _) | refine ew_ar (h := ?_) | refine w_nil ?_ | refine w_nilD ?_)
    | (show EC _ _ _ _ _ _ _; first | refine k_seq ?_ | refine k_region ?_ | refine k_draw (h := ?_) | refine k_skip ?_ | refine k_ret ?_ | refine k_exit ?_ | refine k_block ?_ | refine k_true (h := ?_) | refine k_false (h := ?_))
    | (show EX _ (bodyA _ _ _) _ _ _; first | refine x_end1 (hq := ?_))
    | (show EX _ _ _ _ _; first | refine x_normal ?_ | refine x_ret ?_ | refine x_exit ?_ | refine x_same ?_ | refine x_other (h := ?_) | refine x_bnormal ?_ | refine x_bret ?_))
  have hkx : Keep No H H4 := ((hko.after hk2).after hk3).after hk4
  exact ⟨by simp, hkx.no, F, A, t.keep0 hkx, Grow.refl, by omega⟩
theorem play0 (t : BtR H F x m A) {z : Option Addr} {n c : Nat} (hdv : dv = .slice z n c)
    (hx : H.get x = some (.row ⟨[.pointer (some ⟨e, 0, none⟩), .pointer (some ⟨k, 0, none⟩)], 92, 0, true⟩))
    (hc1 : o.kind ≠ 1) (hc2 : o.kind ≠ 2) (hc3 : o.kind ≠ 3) (hc4 : o.kind ≠ 4) (hc5 : o.kind ≠ 5) (hc6 : o.kind ≠ 6) : PlayT H F x m A o dv := by
  subst hdv
  have hxn := t.bd _ t.fx
  unfold PlayT
  refine k_open (args := [.pointer (some ⟨x, 0, none⟩), .agg #[.int .i64 o.kind, .int .i64 o.wh, .int .i64 o.a, .int .i64 o.b, .slice z n c]]) (E0 := [(0, .pointer (some ⟨x, 0, none⟩)), (1, .agg #[.int .i64 o.kind, .int .i64 o.wh, .int .i64 o.a, .int .i64 o.b, .slice z n c])]) tbl30 Try.func30 rfl follows (by kernel_rfl) Try.ntmps30 rfl rfl ?_
  repeat' (first
    | (show EW _ _ _ _ _; first | refine ew_p (h := ?_) | refine ew_bu (h := ?_) | refine ew_skip (h := ?_) | refine ew_ld (h := ?_) | (refine ew_fresh ?_; intro b hb; refine ew_nw hb (h := ?_); (try simp only [AHeap.push_next, AHeap.put_next] at hb)) | refine ew_st (h := ?_) | (refine ew_df (ht := ?_) (hf := ?_) <;> intro _) | refine ew_ar (h := ?_) | refine w_nil ?_ | refine w_nilD ?_)
    | (show EC _ _ _ _ _ _ _; first | refine k_seq ?_ | refine k_region ?_ | refine k_draw (h := ?_) | refine k_skip ?_ | refine k_ret ?_ | refine k_exit ?_ | refine k_block ?_ | refine k_true (h := ?_) | refine k_false (h := ?_))
    | (show EX _ (bodyA _ _ _) _ _ _; first | refine x_end1 (hq := ?_))
    | (show EX _ _ _ _ _; first | refine x_normal ?_ | refine x_ret ?_ | refine x_exit ?_ | refine x_same ?_ | refine x_other (h := ?_) | refine x_bnormal ?_ | refine x_bret ?_))
  have hkb : Keep No H (H.push (.row ⟨[.int .i64 o.kind, .int .i64 o.wh, .int .i64 o.a, .int .i64 o.b, .slice z n c], 72, 0, true⟩)) := by exact kp
  exact ⟨rfl, hkb.no, F, A, t.keep0 hkb, Grow.refl, by omega⟩
theorem play_calls (t : BtR H F x m A) (o : OpD) {GB : Blks} {dv : Value} (hd : BR H GB dv o.dat) (hdF : ∀ b, GB b → ¬ F b) (hdl : o.dat.length ≤ 140737488351232)
    (ha1 : -9223372036854775808 ≤ o.a) (ha2 : o.a ≤ 9223372036854775807) (hb1 : -9223372036854775808 ≤ o.b) (hb2 : o.b ≤ 9223372036854775807) (hA : A.length ≤ 2932031007401) : PlayT H F x m A o dv := by
  by_cases hc1 : o.kind = 1
  · exact play1 t o hd hdF hdl ha1 ha2 hb1 hb2 hA hc1
  obtain ⟨z, c, rfl⟩ := Rd.slice hd
  rcases t.st with h1 | ⟨e, k, Fe, Fk, hx, hN, hR, h4, h5, h6, h7, h8⟩
  · have hxn := t.bd _ t.fx
    unfold PlayT
    refine k_open (args := [.pointer (some ⟨x, 0, none⟩), .agg #[.int .i64 o.kind, .int .i64 o.wh, .int .i64 o.a, .int .i64 o.b, .slice z o.dat.length c]]) (E0 := [(0, .pointer (some ⟨x, 0, none⟩)), (1, .agg #[.int .i64 o.kind, .int .i64 o.wh, .int .i64 o.a, .int .i64 o.b, .slice z o.dat.length c])]) tbl30 Try.func30 rfl follows (by kernel_rfl) Try.ntmps30 rfl rfl ?_
    repeat' (first
    | (show EW _ _ _ _ _; first | refine ew_p (h := ?_) | refine ew_bu (h := ?_) | refine ew_skip (h := ?_) | refine ew_ld (h := ?_) | (refine ew_fresh ?_; intro b hb; refine ew_nw hb (h := ?_); (try simp only [AHeap.push_next, AHeap.put_next] at hb)) | refine ew_st (h := ?_) | (refine ew_df (ht := ?_) (hf := ?_) <;> intro _) | refine ew_ar (h := ?_) | refine ew_n (hn := r_pnil) (h := ?_) | refine w_nil ?_ | refine w_nilD ?_)
    | (show EC _ _ _ _ _ _ _; first | refine k_seq ?_ | refine k_region ?_ | refine k_draw (h := ?_) | refine k_skip ?_ | refine k_ret ?_ | refine k_exit ?_ | refine k_block ?_ | refine k_true (h := ?_) | refine k_false (h := ?_))
    | (show EX _ (bodyA _ _ _) _ _ _; first | refine x_end1 (hq := ?_))
    | (show EX _ _ _ _ _; first | refine x_normal ?_ | refine x_ret ?_ | refine x_exit ?_ | refine x_same ?_ | refine x_other (h := ?_) | refine x_bnormal ?_ | refine x_bret ?_))
    have hkb : Keep No H (H.push (.row ⟨[.int .i64 o.kind, .int .i64 o.wh, .int .i64 o.a, .int .i64 o.b, .slice z o.dat.length c], 72, 0, true⟩)) := by exact kp
    exact ⟨rfl, hkb.no, F, A, t.keep0 hkb, Grow.refl, by omega⟩
  by_cases hc2 : o.kind = 2
  · exact play2 t rfl ha2 hA hx hN hR h4 h5 h6 h7 h8 hc2
  by_cases hc3 : o.kind = 3
  · exact play3 t rfl ha2 hA hx hN hR h4 h5 h6 h7 h8 hc3
  by_cases hc4 : o.kind = 4
  · exact play4 t rfl ha2 hA hx hN hR h4 h5 h6 h7 h8 hc4
  by_cases hc5 : o.kind = 5
  · exact play5 t rfl ha2 hb1 hb2 hA hx hN hR h4 h5 h6 h7 h8 hc5
  by_cases hc6 : o.kind = 6
  · exact play6 t rfl hA hx hN hR h4 h5 h6 h7 h8 hc6
  exact play0 t rfl hx hc1 hc2 hc3 hc4 hc5 hc6
end

end Go.Ae

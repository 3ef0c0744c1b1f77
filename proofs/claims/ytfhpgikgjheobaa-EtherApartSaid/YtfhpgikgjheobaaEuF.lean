/- eddykept's book over the abstract heap: Bytes, Hold. No condition. -/
import Derived.Test.YtfhpgikgjheobaaEuE
import Derived.Test.YtfhpgikgjheobaaEuB
set_option linter.unusedSimpArgs false
set_option linter.unusedVariables false
set_option linter.unnecessarySimpa false
set_option maxRecDepth 100000
set_option maxHeartbeats 800000
namespace Go.Ae
open Go.Proofs
attribute [local irreducible] awC wpSeq wpS nRes aw aE acall ACalls szT isAggT zeroT byT elemSz fieldOff Program.underlying appendA copyA thenA inBlockA bodyA AHeap.push AHeap.put AHeap.cellsAt AHeap.setCells resV loadA intBin EW EC EX Nr Nc Er Cr Agree

def tbl39 : Tbl := [(4, [0, 1, 2, 3, 4, 5, 6, 7, 8, 9, 10, 11, 12, 13, 14, 15], [0, 1, 3, 7, 0, 31, 63, 0, 128, 384, 896, 0, 3968, 8064, 16383, 32767]), (9, [0, 1, 2, 3, 4, 5, 6, 7, 8, 9, 10, 11, 12, 13, 14, 15], [0, 1, 3, 7, 0, 31, 63, 0, 128, 384, 896, 0, 3968, 8064, 16383, 32767])]
def tbl25 : Tbl := [(1, [0, 1, 2, 3, 4, 5, 6, 7, 8, 9, 10, 11, 12], [0, 0, 2, 6, 14, 0, 0, 96, 224, 510, 1023, 2047, 4095])]
def tbl24 : Tbl := []
/-- The book, as others see it: so many lists have come. -/
structure Kb (H : AHeap) (c : Col) (k cnt : Nat) : Prop where
  st : ∃ o t w n m l s ps es, H.get k = some (.row ⟨bkC false o t w n m l s, 61, 0, true⟩) ∧ Bp H c k (six o t w n m l) (six (ps.map (·.1)) (ps.map (·.2)) (es.map We.sl) (es.map We.nv) (es.map mkV) (es.map lfV)) ∧ Dt H c ps es ∧
    ps.length + 2 * es.length ≤ 2 * cnt ∧ 0 ≤ s ∧ s ≤ cnt
theorem Kb.keep {H H' : AHeap} {c : Col} {k cnt : Nat} {G : Blks} (h : Kb H c k cnt) (hk : Keep G H H') (hG : ∀ b, G b → c b = 0) : Kb H' c k cnt := by
  obtain ⟨o, t, w, n, m, l, s, ps, es, h1, h2, h3, h4⟩ := h.st
  exact ⟨o, t, w, n, m, l, s, ps, es, hk.row h1 h2.kn (fun hg => by have := hG k hg; have := h2.ck; omega), h2.keep hk fun b hb => .inl (hG b hb), h3.move hk (fun b hb hg => by have := hG b hg; omega) fun _ _ => rfl, h4⟩
theorem Kb.cb {H : AHeap} {c : Col} {k cnt : Nat} (h : Kb H c k cnt) : ∀ b, c b ≠ 0 → b < H.next := by
  obtain ⟨o, t, w, n, m, l, s, ps, es, h1, h2, _⟩ := h.st
  exact h2.cb

theorem row1 {H : AHeap} {F : Blks} {e n i : Nat} {sv v : Value} {cells : List Value} (h : Opn H F e 1 sv n cells) (hi : cells[i]? = some v) : ∃ ad q, sv = .slice (some ad) n q ∧ F ad.block ∧ ad.block < H.next ∧ H.cellsAt (aadd ad ((i : Int).toNat * 1)) 1 = some [v] := by
  have hl := h.rd.length
  have hil := (List.getElem?_eq_some_iff.1 hi).1
  have hr := h.rd
  obtain ⟨z, q, hz⟩ := hr.slice
  subst hz
  obtain ⟨ad, q', h1, _, _, _⟩ := hr.at (i := i) (by omega)
  simp only [Value.slice.injEq, true_and] at h1
  obtain ⟨rfl, rfl⟩ := h1
  obtain ⟨g1, g2, g3⟩ := rd_at hr (by omega) hi
  exact ⟨ad, q, rfl, g1, g2, g3⟩
section
variable {H : AHeap} {c : Col} {k : Nat} {o t w n m l : Value} {s : Int} {ps : List (Value × Value)} {es : List We}
def HbI (H0 : AHeap) (k : Nat) (v : Nat) (rest : Env) (len : Nat) (n : Nat) (E : Env) (H : AHeap) : Prop := H0 = H ∧ ∃ i : Nat, n + i = len ∧ E = (v, .int .i64 i) :: rest
theorem holdBytes_calls (hrow : H.get k = some (.row ⟨bkC false o t w n m l s, 61, 0, true⟩)) (hp : Bp H c k (six o t w n m l) (six (ps.map (·.1)) (ps.map (·.2)) (es.map We.sl) (es.map We.nv) (es.map mkV) (es.map lfV))) (hd : Dt H c ps es) (hl : ps.length + 2 * es.length ≤ 1000000) :
    ACalls Try.prog 39 #[.pointer (some ⟨k, 0, none⟩)] H fun v H' => v = .bool true ∧ H' = H := by
  have hkn := hp.kn
  have o1 : Opn H (fun b => c b = 1) 29 1 o ps.length (ps.map (·.1)) := by have h := hp.parts 1 (by decide) (by decide); rw [show (six (ps.map (·.1)) (ps.map (·.2)) (es.map We.sl) (es.map We.nv) (es.map mkV) (es.map lfV) 1).length = ps.length by simp [six]] at h; exact h
  have o2 : Opn H (fun b => c b = 2) 29 1 t ps.length (ps.map (·.2)) := by have h := hp.parts 2 (by decide) (by decide); rw [show (six (ps.map (·.1)) (ps.map (·.2)) (es.map We.sl) (es.map We.nv) (es.map mkV) (es.map lfV) 2).length = ps.length by simp [six]] at h; exact h
  have o3 : Opn H (fun b => c b = 3) 29 1 w es.length (es.map We.sl) := by have h := hp.parts 3 (by decide) (by decide); rw [show (six (ps.map (·.1)) (ps.map (·.2)) (es.map We.sl) (es.map We.nv) (es.map mkV) (es.map lfV) 3).length = es.length by simp [six]] at h; exact h
  have o4 : Opn H (fun b => c b = 4) 29 1 n es.length (es.map We.nv) := by have h := hp.parts 4 (by decide) (by decide); rw [show (six (ps.map (·.1)) (ps.map (·.2)) (es.map We.sl) (es.map We.nv) (es.map mkV) (es.map lfV) 4).length = es.length by simp [six]] at h; exact h
  obtain ⟨z1, q1, e1⟩ := o1.rd.slice
  obtain ⟨z3, q3, e3⟩ := o3.rd.slice
  subst e1 e3
  refine k_open (args := [.pointer (some ⟨k, 0, none⟩)]) (E0 := [(0, .pointer (some ⟨k, 0, none⟩))]) tbl39 Try.func39 rfl follows (by kernel_rfl) Try.ntmps39 rfl rfl ?_
  repeat' (first
    | (show EW _ _ _ _ _; first | refine ew_p (h := ?_) | refine ew_ld (h := ?_) | (refine ew_df (ht := ?_) (hf := ?_) <;> intro _) | refine ew_ar (h := ?_) | refine w_nil ?_ | refine w_nilD ?_)
    | (show EC _ _ _ _ _ _ _; first | refine k_seq ?_ | refine k_region ?_ | refine k_draw (h := ?_) | refine k_skip ?_ | refine k_ret ?_ | refine k_exit ?_ | refine k_block ?_ | refine k_true (h := ?_) | refine k_false (h := ?_))
    | (show EX _ (bodyA _ _ _) _ _ _; first | refine x_end1 (hq := ?_))
    | (show EX _ _ _ _ _; first | refine x_normal ?_ | refine x_ret ?_ | refine x_exit ?_ | refine x_same ?_ | refine x_other (h := ?_) | refine x_bnormal ?_ | refine x_bret ?_))
  refine k_loop follows (HbI H k 3 [(0, .pointer (some ⟨k, 0, none⟩))] ps.length) ps.length [(3, _), (0, _)] (by kernel_rfl) ⟨rfl, rfl, trivial⟩ ⟨rfl, 0, by omega, rfl⟩ ?_
  rintro n' E H1 ⟨rfl, i, hi, rfl⟩
  by_cases hlt : i < ps.length
  · obtain ⟨p, hpi⟩ : ∃ p, ps[i]? = some p := ⟨ps[i], List.getElem?_eq_getElem hlt⟩
    obtain ⟨bs, b1, b2, b3⟩ := hd.pr p (List.mem_of_getElem? hpi)
    obtain ⟨x1, y1, ex1⟩ := Rd.slice b1
    obtain ⟨x2, y2, ex2⟩ := Rd.slice b2
    obtain ⟨ad1, u1, w1, _, g1, g2⟩ := row1 o1 (i := i) (v := p.1) (by rw [List.getElem?_map, hpi]; rfl)
    obtain ⟨ad2, u2, w2, _, g3, g4⟩ := row1 o2 (i := i) (v := p.2) (by rw [List.getElem?_map, hpi]; rfl)
    simp only [Value.slice.injEq, true_and] at w1
    obtain ⟨rfl, rfl⟩ := w1
    subst w2
    rw [ex1] at g2 b1
    rw [ex2] at g4 b2
    repeat' (first
    | (show EW _ _ _ _ _; first | refine ew_p (h := ?_) | refine ew_ld (h := ?_) | (refine ew_df (ht := ?_) (hf := ?_) <;> intro _) | refine ew_ar (h := ?_) | refine w_nil ?_ | refine w_nilD ?_)
    | (show EC _ _ _ _ _ _ _; first | refine k_seq ?_ | refine k_region ?_ | refine k_draw (h := ?_) | refine k_skip ?_ | refine k_ret ?_ | refine k_exit ?_ | refine k_block ?_ | refine k_true (h := ?_) | refine k_false (h := ?_))
    | (show EX _ (bodyA _ _ _) _ _ _; first | refine x_end1 (hq := ?_))
    | (show EX _ _ _ _ _; first | refine x_normal ?_ | refine x_ret ?_ | refine x_exit ?_ | refine x_same ?_ | refine x_other (h := ?_) | refine x_bnormal ?_ | refine x_bret ?_))
    (first | (refine' ew_callS (hc := cr_call) (hR := ?_) (h := ?_); rotate_left 1) | (refine' ew_call (hc := cr_call) (hR := ?_) (h := ?_); rotate_left 1))
    · exact ksame_calls _ b1 b2 (by omega)
    rintro _ H2 ⟨rfl, rfl⟩
    rw [decide_eq_true rfl]
    refine ⟨by (dsimp only [Mode.kept, Mode.logged, Mode.at]; (repeat' (first | exact (fun _ h => absurd h List.not_mem_nil) | (refine List.forall_mem_cons.2 ⟨?_, ?_⟩) | (refine .inl ?_; exact rfl) | (refine .inl ?_; dsimp only; decide) | (refine .inr ?_; exact rfl)))), ?_⟩
    repeat' (first
    | (show EW _ _ _ _ _; first | refine ew_p (h := ?_) | refine ew_ld (h := ?_) | (refine ew_df (ht := ?_) (hf := ?_) <;> intro _) | refine ew_ar (h := ?_) | refine w_nil ?_ | refine w_nilD ?_)
    | (show EC _ _ _ _ _ _ _; first | refine k_seq ?_ | refine k_region ?_ | refine k_draw (h := ?_) | refine k_skip ?_ | refine k_ret ?_ | refine k_exit ?_ | refine k_block ?_ | refine k_true (h := ?_) | refine k_false (h := ?_))
    | (show EX _ (bodyA _ _ _) _ _ _; first | refine x_end1 (hq := ?_))
    | (show EX _ _ _ _ _; first | refine x_normal ?_ | refine x_ret ?_ | refine x_exit ?_ | refine x_same ?_ | refine x_other (h := ?_) | refine x_bnormal ?_ | refine x_bret ?_))
    exact x_again (n' - 1) [(3, _), (0, _)] ⟨rfl, rfl, trivial⟩ (by omega) ⟨rfl, i + 1, by omega, rfl⟩
  · repeat' (first
    | (show EW _ _ _ _ _; first | refine ew_p (h := ?_) | refine ew_ld (h := ?_) | (refine ew_df (ht := ?_) (hf := ?_) <;> intro _) | refine ew_ar (h := ?_) | refine w_nil ?_ | refine w_nilD ?_)
    | (show EC _ _ _ _ _ _ _; first | refine k_seq ?_ | refine k_region ?_ | refine k_draw (h := ?_) | refine k_skip ?_ | refine k_ret ?_ | refine k_exit ?_ | refine k_block ?_ | refine k_true (h := ?_) | refine k_false (h := ?_))
    | (show EX _ (bodyA _ _ _) _ _ _; first | refine x_end1 (hq := ?_))
    | (show EX _ _ _ _ _; first | refine x_normal ?_ | refine x_ret ?_ | refine x_exit ?_ | refine x_same ?_ | refine x_other (h := ?_) | refine x_bnormal ?_ | refine x_bret ?_))
    refine k_loop follows (HbI H k 4 [(0, .pointer (some ⟨k, 0, none⟩))] es.length) es.length [(4, _), (0, _)] (by kernel_rfl) ⟨rfl, rfl, trivial⟩ ⟨rfl, 0, by omega, rfl⟩ ?_
    rintro n2 E H1 ⟨rfl, j, hj, rfl⟩
    by_cases hlt2 : j < es.length
    · obtain ⟨e, he⟩ : ∃ e, es[j]? = some e := ⟨es[j], List.getElem?_eq_getElem hlt2⟩
      have hwe := hd.en e (List.mem_of_getElem? he)
      have hlen := hwe.len
      have b1 : BR H (fun b => b = e.blk) e.sl e.bs := rd_row hwe.row rfl hwe.lt
      have b2 := hwe.nv
      obtain ⟨x2, y2, ex2⟩ := Rd.slice b2
      obtain ⟨ad1, u1, w1, _, g1, g2⟩ := row1 o3 (i := j) (v := e.sl) (by rw [List.getElem?_map, he]; rfl)
      obtain ⟨ad2, u2, w2, _, g3, g4⟩ := row1 o4 (i := j) (v := e.nv) (by rw [List.getElem?_map, he]; rfl)
      simp only [Value.slice.injEq, true_and] at w1
      obtain ⟨rfl, rfl⟩ := w1
      subst w2
      rw [ex2] at g4 b2
      have g2' : H.cellsAt (aadd ad1 ((j : Int).toNat * 1)) 1 = some [.slice (some ⟨e.blk, 0, none⟩) e.bs.length e.bs.length] := g2
      have b1' : BR H (fun b => b = e.blk) (.slice (some ⟨e.blk, 0, none⟩) e.bs.length e.bs.length) e.bs := b1
      clear g2 b1
      repeat' (first
    | (show EW _ _ _ _ _; first | refine ew_p (h := ?_) | refine ew_ld (h := ?_) | (refine ew_df (ht := ?_) (hf := ?_) <;> intro _) | refine ew_ar (h := ?_) | refine w_nil ?_ | refine w_nilD ?_)
    | (show EC _ _ _ _ _ _ _; first | refine k_seq ?_ | refine k_region ?_ | refine k_draw (h := ?_) | refine k_skip ?_ | refine k_ret ?_ | refine k_exit ?_ | refine k_block ?_ | refine k_true (h := ?_) | refine k_false (h := ?_))
    | (show EX _ (bodyA _ _ _) _ _ _; first | refine x_end1 (hq := ?_))
    | (show EX _ _ _ _ _; first | refine x_normal ?_ | refine x_ret ?_ | refine x_exit ?_ | refine x_same ?_ | refine x_other (h := ?_) | refine x_bnormal ?_ | refine x_bret ?_))
      (first | (refine' ew_callS (hc := cr_call) (hR := ?_) (h := ?_); rotate_left 1) | (refine' ew_call (hc := cr_call) (hR := ?_) (h := ?_); rotate_left 1))
      · exact ksame_calls _ b1' b2 (by omega)
      rintro _ H2 ⟨rfl, rfl⟩
      rw [decide_eq_true rfl]
      refine ⟨by (dsimp only [Mode.kept, Mode.logged, Mode.at]; (repeat' (first | exact (fun _ h => absurd h List.not_mem_nil) | (refine List.forall_mem_cons.2 ⟨?_, ?_⟩) | (refine .inl ?_; exact rfl) | (refine .inl ?_; dsimp only; decide) | (refine .inr ?_; exact rfl)))), ?_⟩
      repeat' (first
    | (show EW _ _ _ _ _; first | refine ew_p (h := ?_) | refine ew_ld (h := ?_) | (refine ew_df (ht := ?_) (hf := ?_) <;> intro _) | refine ew_ar (h := ?_) | refine w_nil ?_ | refine w_nilD ?_)
    | (show EC _ _ _ _ _ _ _; first | refine k_seq ?_ | refine k_region ?_ | refine k_draw (h := ?_) | refine k_skip ?_ | refine k_ret ?_ | refine k_exit ?_ | refine k_block ?_ | refine k_true (h := ?_) | refine k_false (h := ?_))
    | (show EX _ (bodyA _ _ _) _ _ _; first | refine x_end1 (hq := ?_))
    | (show EX _ _ _ _ _; first | refine x_normal ?_ | refine x_ret ?_ | refine x_exit ?_ | refine x_same ?_ | refine x_other (h := ?_) | refine x_bnormal ?_ | refine x_bret ?_))
      exact x_again (n2 - 1) [(4, _), (0, _)] ⟨rfl, rfl, trivial⟩ (by omega) ⟨rfl, j + 1, by omega, rfl⟩
    · repeat' (first
    | (show EW _ _ _ _ _; first | refine ew_p (h := ?_) | refine ew_ld (h := ?_) | (refine ew_df (ht := ?_) (hf := ?_) <;> intro _) | refine ew_ar (h := ?_) | refine w_nil ?_ | refine w_nilD ?_)
    | (show EC _ _ _ _ _ _ _; first | refine k_seq ?_ | refine k_region ?_ | refine k_draw (h := ?_) | refine k_skip ?_ | refine k_ret ?_ | refine k_exit ?_ | refine k_block ?_ | refine k_true (h := ?_) | refine k_false (h := ?_))
    | (show EX _ (bodyA _ _ _) _ _ _; first | refine x_end1 (hq := ?_))
    | (show EX _ _ _ _ _; first | refine x_normal ?_ | refine x_ret ?_ | refine x_exit ?_ | refine x_same ?_ | refine x_other (h := ?_) | refine x_bnormal ?_ | refine x_bret ?_))
      exact ⟨rfl, rfl⟩
end
theorem hold_book {H : AHeap} {c : Col} {k cnt : Nat} (h : Kb H c k cnt) (hc : cnt ≤ 400000) : ACalls Try.prog 24 #[.pointer (some ⟨k, 0, none⟩)] H fun v H' => v = .bool true ∧ H' = H := by
  obtain ⟨o, t, w, n, m, l, s, ps, es, hrow, hp, hd, hl, _⟩ := h.st
  refine k_open (args := [.pointer (some ⟨k, 0, none⟩)]) (E0 := [(0, .pointer (some ⟨k, 0, none⟩))]) tbl24 Try.func24 rfl follows (by kernel_rfl) Try.ntmps24 rfl rfl ?_
  repeat' (first
    | (show EW _ _ _ _ _; first | refine ew_p (h := ?_) | refine ew_skip (h := ?_) | refine ew_ld (h := ?_) | refine w_nil ?_)
    | (show EC _ _ _ _ _ _ _; first | refine k_seq ?_ | refine k_region ?_ | refine k_skip ?_ | refine k_ret ?_ | refine k_exit ?_ | refine k_block ?_ | refine k_true (h := ?_) | refine k_false (h := ?_))
    | (show EX _ (bodyA _ _ _) _ _ _; first | refine x_end1 (hq := ?_))
    | (show EX _ _ _ _ _; first | refine x_normal ?_ | refine x_ret ?_ | refine x_exit ?_ | refine x_same ?_ | refine x_other (h := ?_) | refine x_bnormal ?_ | refine x_bret ?_))
  (first | (refine' ew_callS (hc := cr_call) (hR := ?_) (h := ?_); rotate_left 1) | (refine' ew_call (hc := cr_call) (hR := ?_) (h := ?_); rotate_left 1))
  · exact holdBytes_calls hrow hp hd (by omega)
  rintro _ _ ⟨rfl, rfl⟩
  repeat' (first
    | (show EW _ _ _ _ _; first | refine ew_p (h := ?_) | refine ew_skip (h := ?_) | refine ew_ld (h := ?_) | refine w_nil ?_)
    | (show EC _ _ _ _ _ _ _; first | refine k_seq ?_ | refine k_region ?_ | refine k_skip ?_ | refine k_ret ?_ | refine k_exit ?_ | refine k_block ?_ | refine k_true (h := ?_) | refine k_false (h := ?_))
    | (show EX _ (bodyA _ _ _) _ _ _; first | refine x_end1 (hq := ?_))
    | (show EX _ _ _ _ _; first | refine x_normal ?_ | refine x_ret ?_ | refine x_exit ?_ | refine x_same ?_ | refine x_other (h := ?_) | refine x_bnormal ?_ | refine x_bret ?_))
  (first | (refine' ew_callS (hc := cr_call) (hR := ?_) (h := ?_); rotate_left 1) | (refine' ew_call (hc := cr_call) (hR := ?_) (h := ?_); rotate_left 1))
  · exact hold40_calls hrow
  rintro _ _ ⟨rfl, rfl⟩
  repeat' (first
    | (show EW _ _ _ _ _; first | refine ew_p (h := ?_) | refine ew_skip (h := ?_) | refine ew_ld (h := ?_) | refine w_nil ?_)
    | (show EC _ _ _ _ _ _ _; first | refine k_seq ?_ | refine k_region ?_ | refine k_skip ?_ | refine k_ret ?_ | refine k_exit ?_ | refine k_block ?_ | refine k_true (h := ?_) | refine k_false (h := ?_))
    | (show EX _ (bodyA _ _ _) _ _ _; first | refine x_end1 (hq := ?_))
    | (show EX _ _ _ _ _; first | refine x_normal ?_ | refine x_ret ?_ | refine x_exit ?_ | refine x_same ?_ | refine x_other (h := ?_) | refine x_bnormal ?_ | refine x_bret ?_))
  (first | (refine' ew_callS (hc := cr_call) (hR := ?_) (h := ?_); rotate_left 1) | (refine' ew_call (hc := cr_call) (hR := ?_) (h := ?_); rotate_left 1))
  · exact hold41_calls hrow
  rintro _ _ ⟨rfl, rfl⟩
  repeat' (first
    | (show EW _ _ _ _ _; first | refine ew_p (h := ?_) | refine ew_skip (h := ?_) | refine ew_ld (h := ?_) | refine w_nil ?_)
    | (show EC _ _ _ _ _ _ _; first | refine k_seq ?_ | refine k_region ?_ | refine k_skip ?_ | refine k_ret ?_ | refine k_exit ?_ | refine k_block ?_ | refine k_true (h := ?_) | refine k_false (h := ?_))
    | (show EX _ (bodyA _ _ _) _ _ _; first | refine x_end1 (hq := ?_))
    | (show EX _ _ _ _ _; first | refine x_normal ?_ | refine x_ret ?_ | refine x_exit ?_ | refine x_same ?_ | refine x_other (h := ?_) | refine x_bnormal ?_ | refine x_bret ?_))
  (first | (refine' ew_callS (hc := cr_call) (hR := ?_) (h := ?_); rotate_left 1) | (refine' ew_call (hc := cr_call) (hR := ?_) (h := ?_); rotate_left 1))
  · exact hold42_calls hrow
  rintro _ _ ⟨rfl, rfl⟩
  repeat' (first
    | (show EW _ _ _ _ _; first | refine ew_p (h := ?_) | refine ew_skip (h := ?_) | refine ew_ld (h := ?_) | refine w_nil ?_)
    | (show EC _ _ _ _ _ _ _; first | refine k_seq ?_ | refine k_region ?_ | refine k_skip ?_ | refine k_ret ?_ | refine k_exit ?_ | refine k_block ?_ | refine k_true (h := ?_) | refine k_false (h := ?_))
    | (show EX _ (bodyA _ _ _) _ _ _; first | refine x_end1 (hq := ?_))
    | (show EX _ _ _ _ _; first | refine x_normal ?_ | refine x_ret ?_ | refine x_exit ?_ | refine x_same ?_ | refine x_other (h := ?_) | refine x_bnormal ?_ | refine x_bret ?_))
  (first | (refine' ew_callS (hc := cr_call) (hR := ?_) (h := ?_); rotate_left 1) | (refine' ew_call (hc := cr_call) (hR := ?_) (h := ?_); rotate_left 1))
  · exact hold43_calls hrow
  rintro _ _ ⟨rfl, rfl⟩
  repeat' (first
    | (show EW _ _ _ _ _; first | refine ew_p (h := ?_) | refine ew_skip (h := ?_) | refine ew_ld (h := ?_) | refine w_nil ?_)
    | (show EC _ _ _ _ _ _ _; first | refine k_seq ?_ | refine k_region ?_ | refine k_skip ?_ | refine k_ret ?_ | refine k_exit ?_ | refine k_block ?_ | refine k_true (h := ?_) | refine k_false (h := ?_))
    | (show EX _ (bodyA _ _ _) _ _ _; first | refine x_end1 (hq := ?_))
    | (show EX _ _ _ _ _; first | refine x_normal ?_ | refine x_ret ?_ | refine x_exit ?_ | refine x_same ?_ | refine x_other (h := ?_) | refine x_bnormal ?_ | refine x_bret ?_))
  (first | (refine' ew_callS (hc := cr_call) (hR := ?_) (h := ?_); rotate_left 1) | (refine' ew_call (hc := cr_call) (hR := ?_) (h := ?_); rotate_left 1))
  · exact hold44_calls hrow
  rintro _ _ ⟨rfl, rfl⟩
  repeat' (first
    | (show EW _ _ _ _ _; first | refine ew_p (h := ?_) | refine ew_skip (h := ?_) | refine ew_ld (h := ?_) | refine w_nil ?_)
    | (show EC _ _ _ _ _ _ _; first | refine k_seq ?_ | refine k_region ?_ | refine k_skip ?_ | refine k_ret ?_ | refine k_exit ?_ | refine k_block ?_ | refine k_true (h := ?_) | refine k_false (h := ?_))
    | (show EX _ (bodyA _ _ _) _ _ _; first | refine x_end1 (hq := ?_))
    | (show EX _ _ _ _ _; first | refine x_normal ?_ | refine x_ret ?_ | refine x_exit ?_ | refine x_same ?_ | refine x_other (h := ?_) | refine x_bnormal ?_ | refine x_bret ?_))
  (first | (refine' ew_callS (hc := cr_call) (hR := ?_) (h := ?_); rotate_left 1) | (refine' ew_call (hc := cr_call) (hR := ?_) (h := ?_); rotate_left 1))
  · exact hold45_calls hrow
  rintro _ _ ⟨rfl, rfl⟩
  repeat' (first
    | (show EW _ _ _ _ _; first | refine ew_p (h := ?_) | refine ew_skip (h := ?_) | refine ew_ld (h := ?_) | refine w_nil ?_)
    | (show EC _ _ _ _ _ _ _; first | refine k_seq ?_ | refine k_region ?_ | refine k_skip ?_ | refine k_ret ?_ | refine k_exit ?_ | refine k_block ?_ | refine k_true (h := ?_) | refine k_false (h := ?_))
    | (show EX _ (bodyA _ _ _) _ _ _; first | refine x_end1 (hq := ?_))
    | (show EX _ _ _ _ _; first | refine x_normal ?_ | refine x_ret ?_ | refine x_exit ?_ | refine x_same ?_ | refine x_other (h := ?_) | refine x_bnormal ?_ | refine x_bret ?_))
  (first | (refine' ew_callS (hc := cr_call) (hR := ?_) (h := ?_); rotate_left 1) | (refine' ew_call (hc := cr_call) (hR := ?_) (h := ?_); rotate_left 1))
  · exact hold46_calls hrow
  rintro _ _ ⟨rfl, rfl⟩
  repeat' (first
    | (show EW _ _ _ _ _; first | refine ew_p (h := ?_) | refine ew_skip (h := ?_) | refine ew_ld (h := ?_) | refine w_nil ?_)
    | (show EC _ _ _ _ _ _ _; first | refine k_seq ?_ | refine k_region ?_ | refine k_skip ?_ | refine k_ret ?_ | refine k_exit ?_ | refine k_block ?_ | refine k_true (h := ?_) | refine k_false (h := ?_))
    | (show EX _ (bodyA _ _ _) _ _ _; first | refine x_end1 (hq := ?_))
    | (show EX _ _ _ _ _; first | refine x_normal ?_ | refine x_ret ?_ | refine x_exit ?_ | refine x_same ?_ | refine x_other (h := ?_) | refine x_bnormal ?_ | refine x_bret ?_))
  (first | (refine' ew_callS (hc := cr_call) (hR := ?_) (h := ?_); rotate_left 1) | (refine' ew_call (hc := cr_call) (hR := ?_) (h := ?_); rotate_left 1))
  · exact hold47_calls hrow
  rintro _ _ ⟨rfl, rfl⟩
  repeat' (first
    | (show EW _ _ _ _ _; first | refine ew_p (h := ?_) | refine ew_skip (h := ?_) | refine ew_ld (h := ?_) | refine w_nil ?_)
    | (show EC _ _ _ _ _ _ _; first | refine k_seq ?_ | refine k_region ?_ | refine k_skip ?_ | refine k_ret ?_ | refine k_exit ?_ | refine k_block ?_ | refine k_true (h := ?_) | refine k_false (h := ?_))
    | (show EX _ (bodyA _ _ _) _ _ _; first | refine x_end1 (hq := ?_))
    | (show EX _ _ _ _ _; first | refine x_normal ?_ | refine x_ret ?_ | refine x_exit ?_ | refine x_same ?_ | refine x_other (h := ?_) | refine x_bnormal ?_ | refine x_bret ?_))
  (first | (refine' ew_callS (hc := cr_call) (hR := ?_) (h := ?_); rotate_left 1) | (refine' ew_call (hc := cr_call) (hR := ?_) (h := ?_); rotate_left 1))
  · exact hold48_calls hrow
  rintro _ _ ⟨rfl, rfl⟩
  repeat' (first
    | (show EW _ _ _ _ _; first | refine ew_p (h := ?_) | refine ew_skip (h := ?_) | refine ew_ld (h := ?_) | refine w_nil ?_)
    | (show EC _ _ _ _ _ _ _; first | refine k_seq ?_ | refine k_region ?_ | refine k_skip ?_ | refine k_ret ?_ | refine k_exit ?_ | refine k_block ?_ | refine k_true (h := ?_) | refine k_false (h := ?_))
    | (show EX _ (bodyA _ _ _) _ _ _; first | refine x_end1 (hq := ?_))
    | (show EX _ _ _ _ _; first | refine x_normal ?_ | refine x_ret ?_ | refine x_exit ?_ | refine x_same ?_ | refine x_other (h := ?_) | refine x_bnormal ?_ | refine x_bret ?_))
  (first | (refine' ew_callS (hc := cr_call) (hR := ?_) (h := ?_); rotate_left 1) | (refine' ew_call (hc := cr_call) (hR := ?_) (h := ?_); rotate_left 1))
  · exact hold49_calls hrow
  rintro _ _ ⟨rfl, rfl⟩
  repeat' (first
    | (show EW _ _ _ _ _; first | refine ew_p (h := ?_) | refine ew_skip (h := ?_) | refine ew_ld (h := ?_) | refine w_nil ?_)
    | (show EC _ _ _ _ _ _ _; first | refine k_seq ?_ | refine k_region ?_ | refine k_skip ?_ | refine k_ret ?_ | refine k_exit ?_ | refine k_block ?_ | refine k_true (h := ?_) | refine k_false (h := ?_))
    | (show EX _ (bodyA _ _ _) _ _ _; first | refine x_end1 (hq := ?_))
    | (show EX _ _ _ _ _; first | refine x_normal ?_ | refine x_ret ?_ | refine x_exit ?_ | refine x_same ?_ | refine x_other (h := ?_) | refine x_bnormal ?_ | refine x_bret ?_))
  (first | (refine' ew_callS (hc := cr_call) (hR := ?_) (h := ?_); rotate_left 1) | (refine' ew_call (hc := cr_call) (hR := ?_) (h := ?_); rotate_left 1))
  · exact hold50_calls hrow
  rintro _ _ ⟨rfl, rfl⟩
  repeat' (first
    | (show EW _ _ _ _ _; first | refine ew_p (h := ?_) | refine ew_skip (h := ?_) | refine ew_ld (h := ?_) | refine w_nil ?_)
    | (show EC _ _ _ _ _ _ _; first | refine k_seq ?_ | refine k_region ?_ | refine k_skip ?_ | refine k_ret ?_ | refine k_exit ?_ | refine k_block ?_ | refine k_true (h := ?_) | refine k_false (h := ?_))
    | (show EX _ (bodyA _ _ _) _ _ _; first | refine x_end1 (hq := ?_))
    | (show EX _ _ _ _ _; first | refine x_normal ?_ | refine x_ret ?_ | refine x_exit ?_ | refine x_same ?_ | refine x_other (h := ?_) | refine x_bnormal ?_ | refine x_bret ?_))
  (first | (refine' ew_callS (hc := cr_call) (hR := ?_) (h := ?_); rotate_left 1) | (refine' ew_call (hc := cr_call) (hR := ?_) (h := ?_); rotate_left 1))
  · exact hold51_calls hrow
  rintro _ _ ⟨rfl, rfl⟩
  repeat' (first
    | (show EW _ _ _ _ _; first | refine ew_p (h := ?_) | refine ew_skip (h := ?_) | refine ew_ld (h := ?_) | refine w_nil ?_)
    | (show EC _ _ _ _ _ _ _; first | refine k_seq ?_ | refine k_region ?_ | refine k_skip ?_ | refine k_ret ?_ | refine k_exit ?_ | refine k_block ?_ | refine k_true (h := ?_) | refine k_false (h := ?_))
    | (show EX _ (bodyA _ _ _) _ _ _; first | refine x_end1 (hq := ?_))
    | (show EX _ _ _ _ _; first | refine x_normal ?_ | refine x_ret ?_ | refine x_exit ?_ | refine x_same ?_ | refine x_other (h := ?_) | refine x_bnormal ?_ | refine x_bret ?_))
  (first | (refine' ew_callS (hc := cr_call) (hR := ?_) (h := ?_); rotate_left 1) | (refine' ew_call (hc := cr_call) (hR := ?_) (h := ?_); rotate_left 1))
  · exact hold52_calls hrow
  rintro _ _ ⟨rfl, rfl⟩
  repeat' (first
    | (show EW _ _ _ _ _; first | refine ew_p (h := ?_) | refine ew_skip (h := ?_) | refine ew_ld (h := ?_) | refine w_nil ?_)
    | (show EC _ _ _ _ _ _ _; first | refine k_seq ?_ | refine k_region ?_ | refine k_skip ?_ | refine k_ret ?_ | refine k_exit ?_ | refine k_block ?_ | refine k_true (h := ?_) | refine k_false (h := ?_))
    | (show EX _ (bodyA _ _ _) _ _ _; first | refine x_end1 (hq := ?_))
    | (show EX _ _ _ _ _; first | refine x_normal ?_ | refine x_ret ?_ | refine x_exit ?_ | refine x_same ?_ | refine x_other (h := ?_) | refine x_bnormal ?_ | refine x_bret ?_))
  (first | (refine' ew_callS (hc := cr_call) (hR := ?_) (h := ?_); rotate_left 1) | (refine' ew_call (hc := cr_call) (hR := ?_) (h := ?_); rotate_left 1))
  · exact hold53_calls hrow
  rintro _ _ ⟨rfl, rfl⟩
  repeat' (first
    | (show EW _ _ _ _ _; first | refine ew_p (h := ?_) | refine ew_skip (h := ?_) | refine ew_ld (h := ?_) | refine w_nil ?_)
    | (show EC _ _ _ _ _ _ _; first | refine k_seq ?_ | refine k_region ?_ | refine k_skip ?_ | refine k_ret ?_ | refine k_exit ?_ | refine k_block ?_ | refine k_true (h := ?_) | refine k_false (h := ?_))
    | (show EX _ (bodyA _ _ _) _ _ _; first | refine x_end1 (hq := ?_))
    | (show EX _ _ _ _ _; first | refine x_normal ?_ | refine x_ret ?_ | refine x_exit ?_ | refine x_same ?_ | refine x_other (h := ?_) | refine x_bnormal ?_ | refine x_bret ?_))
  exact ⟨rfl, rfl⟩

end Go.Ae

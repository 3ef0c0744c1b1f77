/- The law EtherApart over the abstract heap: the whole. No condition. -/
import Derived.Test.YtfhpgikgjheobaaEuH
set_option linter.unusedSimpArgs false
set_option linter.unusedVariables false
set_option linter.unnecessarySimpa false
set_option maxRecDepth 100000
set_option maxHeartbeats 1600000
namespace Go.Ae
open Go.Proofs
attribute [local irreducible] awC wpSeq wpS nRes aw aE acall ACalls szT isAggT zeroT byT elemSz fieldOff Program.underlying appendA copyA thenA inBlockA bodyA AHeap.push AHeap.put AHeap.cellsAt AHeap.setCells resV loadA intBin EW EC EX Nr Nc Er Cr Agree

def tbl9 : Tbl := [(30, [0, 1, 2, 3, 4, 5, 6], [0, 0, 0, 6, 14, 31, 63])]
/-- One cell of a list's row is written. -/
theorem Opn.setc {H : AHeap} {F : Blks} {e k n q c vr : Nat} {ad : Addr} {rc cells : List Value} {v : Value} (hF : F ad.block) (hlt : ad.block < H.next) (hv : verOf ad = vr) (hle : ad.off + n * k ≤ rc.length) (ht : (rc.drop ad.off).take (n * k) = cells)
    (ho : c = n ∨ c = openCap + k ∧ ad.off + n * k = rc.length) (hq : q < n * k) :
    Opn (H.put ad.block (.row ⟨lset rc (ad.off + q) [v], e, vr, true⟩)) F e k (.slice (some ad) n c) n (lset cells q [v]) := by
  have hl : (lset rc (ad.off + q) [v]).length = rc.length := lset_length (by simp; omega)
  refine .inr ⟨ad, c, ⟨lset rc (ad.off + q) [v], e, vr, true⟩, rfl, hF, by simpa using hlt, by rw [AHeap.put_get, if_pos rfl], hv, rfl, by dsimp only; omega, ?_, rfl, ho.imp id fun h => ⟨h.1, by dsimp only; omega⟩⟩
  rw [← ht]
  have := lset_mid (l := rc) (vs := [v]) (o := ad.off) (q := q) (n := n * k) (k := 1) hq rfl (by omega)
  simpa only [Nat.mul_one] using this
theorem slr_keep {α : Type} {k b : Nat} {Re : AHeap → List Value → α → Prop} {H H' : AHeap} {cs : List Value} {xs : List α} (hRe : ∀ {H H' : AHeap} {cs : List Value} {x : α}, Re H cs x → Keep No H H' → Re H' cs x) (h : SlR k b Re H cs xs) (hk : Keep No H H') : SlR k b Re H' cs xs := by
  obtain ⟨v, cells, rfl, h1, h2, h3⟩ := h
  exact ⟨v, cells, rfl, h1.keep0 hk, h2, fun i x hx => hRe (h3 i x hx) hk⟩
/-- An empty book. -/
theorem Kb.new {H : AHeap} {b : Nat} (hg : H.get b = some (.row ⟨bkC false (.slice none 0 0) (.slice none 0 0) (.slice none 0 0) (.slice none 0 0) (.slice none 0 0) (.slice none 0 0) 0, 61, 0, true⟩)) (hb : b < H.next) : Kb H (fun y => if y = b then 9 else 0) b 0 := by
  refine ⟨⟨_, _, _, _, _, _, 0, [], [], hg, ⟨hb, if_pos rfl, fun y hy => ?_, fun a h1 h6 => ?_⟩, ⟨by simp, by simp, by simp⟩, by simp, by omega, by omega⟩⟩
  · by_cases h : y = b
    · omega
    · exact absurd (if_neg h) hy
  · have hc : a = 1 ∨ a = 2 ∨ a = 3 ∨ a = 4 ∨ a = 5 ∨ a = 6 := by omega
    rcases hc with rfl | rfl | rfl | rfl | rfl | rfl <;> exact Opn.nil
theorem setCells_c {H : AHeap} {ad : Addr} {rc : List Value} {e : TypeId} {vr a b : Nat} {v : Value} (hg : H.get ad.block = some (.row ⟨rc, e, vr, true⟩)) (hv : verOf ad = vr) (hle : ad.off + (a + b) < rc.length) (h1 : v.oneCell' = true) :
    H.setCells (aadd (aadd ad a) b) [v] = some (H.put ad.block (.row ⟨lset rc (ad.off + (a + b)) [v], e, vr, true⟩)) := by
  have := setCells_of (ad := aadd (aadd ad a) b) (vs := [v]) hg hv rfl (by simp; omega) (by simp [h1])
  rw [this]
  simp [Nat.add_assoc]
/-- Between two rounds. -/
structure Apt (H0 H : AHeap) (F W : Blks) (e k : Nat) (c : Col) (cnt : Nat) (vw : Value) (M : List Msg) : Prop where
  kp : Keep No H0 H
  net : NetM H F e 3 M
  bk : Kb H c k cnt
  was : FlR H W vw M
  wb : ∀ b, W b → b < H.next ∧ c b = 0 ∧ ¬ F b
  fc : ∀ b, F b → c b = 0 ∧ H0.next ≤ b
  cc : ∀ b, c b ≠ 0 → H0.next ≤ b
  len : M.length ≤ 41
theorem Kb.mono {H : AHeap} {c : Col} {k n m : Nat} (h : Kb H c k n) (hn : n ≤ m) : Kb H c k m := by
  obtain ⟨o, t, w, n', m', l, s, ps, es, h1, h2, h3, h4, h5, h6⟩ := h.st
  exact ⟨⟨o, t, w, n', m', l, s, ps, es, h1, h2, h3, by omega, h5, by omega⟩⟩
/-- Within a round: the packets of a list come to the book, one by one. H1: where the round began. -/
structure Inn (H1 H : AHeap) (c0 c : Col) (k cnt0 : Nat) (vl : Value) (L : List Pk) (O : Blks) (j : Nat) : Prop where
  kp : Keep (fun b => c0 b ≠ 0) H1 H
  bk : Kb H c k (cnt0 + j)
  co : ∀ b, b < H1.next → (c b = 0 ↔ c0 b = 0)
  lst : ∃ cells, Opn H O 32 3 vl L.length cells ∧ ∀ i p, L[i]? = some p → cells[i * 3 + 2]? = some p.dv
  lo : ∀ b, O b → H1.next ≤ b ∧ b < H.next ∧ c b = 0
  rem : ∀ i p, j ≤ i → L[i]? = some p → H.get p.blk = some (.row ⟨bytesV p.data, 5, 0, true⟩) ∧ c p.blk = 0 ∧ p.blk < H.next ∧ H1.next ≤ p.blk ∧ ¬ O p.blk
def InI (H1 : AHeap) (c0 : Col) (k cnt0 : Nat) (vl : Value) (L : List Pk) (O : Blks) (rest : Env) (n : Nat) (E : Env) (H : AHeap) : Prop :=
  ∃ (j : Nat) (c : Col), n + j = L.length ∧ E = (11, .int .i64 j) :: (10, vl) :: rest ∧ Inn H1 H c0 c k cnt0 vl L O j
theorem cells1 {L : List Pk} : ∀ {i : Nat} {p : Pk}, L[i]? = some p → (flCells L)[i * 3 + 2]? = some p.dv := by
  intro i p h
  have h1 := flCells_at h
  have h2 : (((flCells L).drop (i * 3)).take 3)[2]? = some p.dv := by rw [h1]; rfl
  rw [List.getElem?_take, if_pos (by omega), List.getElem?_drop] at h2
  exact h2
def ApI (H0 : AHeap) (v1 : Value) (e k T : Nat) (n : Nat) (E : Env) (H : AHeap) : Prop :=
  ∃ (i : Nat) (F W : Blks) (c : Col) (vw : Value) (M : List Msg), n + i = T ∧ E = [(9, .int .i64 i), (8, .pointer (some ⟨k, 0, none⟩)), (7, vw), (5, .pointer (some ⟨e, 0, none⟩)), (1, v1)] ∧ Apt H0 H F W e k c (257 * i) vw M ∧ i ≤ 30
theorem apart_calls (H : AHeap) (v0 v1 : Value) (ds : List (List UInt8)) (ns : List Int) (r0 : SlR 1 24 ByR H [v0] ds) (r1 : SlR 1 8 (IntR .i64) H [v1] ns) :
    ACalls Try.prog 9 #[v0, v1] H fun v H' => v = .bool true := by
  obtain ⟨z1, q1, rfl, w1⟩ := r1.slice
  have hrb : reachBytes = 140737488351232 := rfl
  rw [hrb] at w1
  refine k_open (args := [v0, .slice z1 ns.length q1]) (E0 := [(0, v0), (1, .slice z1 ns.length q1)]) tbl9 Try.func9 rfl follows (by kernel_rfl) Try.ntmps9 rfl rfl ?_
  repeat' (first
    | (show EW _ _ _ _ _; first | refine ew_p (h := ?_) | refine ew_bu (h := ?_) | refine ew_skip (h := ?_) | refine ew_ld (h := ?_) | (refine ew_fresh ?_; intro b hb; refine ew_nw hb (h := ?_); (try simp only [AHeap.push_next, AHeap.put_next] at hb)) | refine ew_st (h := ?_) | (refine ew_df (ht := ?_) (hf := ?_) <;> intro _) | refine ew_ar (h := ?_) | refine w_nil ?_ | refine w_nilD ?_)
    | (show EC _ _ _ _ _ _ _; first | refine k_seq ?_ | refine k_region ?_ | refine k_draw (h := ?_) | refine k_skip ?_ | refine k_ret ?_ | refine k_exit ?_ | refine k_block ?_ | refine k_true (h := ?_) | refine k_false (h := ?_))
    | (show EX _ (bodyA _ _ _) _ _ _; first | refine x_end1 (hq := ?_))
    | (show EX _ _ _ _ _; first | refine x_normal ?_ | refine x_ret ?_ | refine x_exit ?_ | refine x_same ?_ | refine x_other (h := ?_) | refine x_bnormal ?_ | refine x_bret ?_))
  (first | (refine' ew_callS (hc := cr_call) (hR := ?_) (h := ?_); rotate_left 1) | (refine' ew_call (hc := cr_call) (hR := ?_) (h := ?_); rotate_left 1))
  · exact works_calls _
  rintro _ H1 ⟨rfl, hk1⟩
  repeat' (first
    | (show EW _ _ _ _ _; first | refine ew_p (h := ?_) | refine ew_bu (h := ?_) | refine ew_skip (h := ?_) | refine ew_ld (h := ?_) | (refine ew_fresh ?_; intro b hb; refine ew_nw hb (h := ?_); (try simp only [AHeap.push_next, AHeap.put_next] at hb)) | refine ew_st (h := ?_) | (refine ew_df (ht := ?_) (hf := ?_) <;> intro _) | refine ew_ar (h := ?_) | refine w_nil ?_ | refine w_nilD ?_)
    | (show EC _ _ _ _ _ _ _; first | refine k_seq ?_ | refine k_region ?_ | refine k_draw (h := ?_) | refine k_skip ?_ | refine k_ret ?_ | refine k_exit ?_ | refine k_block ?_ | refine k_true (h := ?_) | refine k_false (h := ?_))
    | (show EX _ (bodyA _ _ _) _ _ _; first | refine x_end1 (hq := ?_))
    | (show EX _ _ _ _ _; first | refine x_normal ?_ | refine x_ret ?_ | refine x_exit ?_ | refine x_same ?_ | refine x_other (h := ?_) | refine x_bnormal ?_ | refine x_bret ?_))
  (first | (refine' ew_callS (hc := cr_call) (hR := ?_) (h := ?_); rotate_left 1) | (refine' ew_call (hc := cr_call) (hR := ?_) (h := ?_); rotate_left 1))
  · exact made_calls _ (slr_keep ByR.keep r0 hk1)
  rintro _ H2 ⟨hk2, e, Fa, rfl, hN2, hF2⟩
  obtain ⟨M0, hM0⟩ : ∃ M, M = madeM ds (min ds.length 40) := ⟨_, rfl⟩
  have hM40 : M0.length ≤ 40 := by have := madeM_len ds (min ds.length 40); rw [hM0]; omega
  rw [← hM0] at hN2
  clear hM0
  have hn1 := hk1.1
  have hn2 := hk2.1
  repeat' (first
    | (show EW _ _ _ _ _; first | refine ew_p (h := ?_) | refine ew_bu (h := ?_) | refine ew_skip (h := ?_) | refine ew_ld (h := ?_) | (refine ew_fresh ?_; intro b hb; refine ew_nw hb (h := ?_); (try simp only [AHeap.push_next, AHeap.put_next] at hb)) | refine ew_st (h := ?_) | (refine ew_df (ht := ?_) (hf := ?_) <;> intro _) | refine ew_ar (h := ?_) | refine w_nil ?_ | refine w_nilD ?_)
    | (show EC _ _ _ _ _ _ _; first | refine k_seq ?_ | refine k_region ?_ | refine k_draw (h := ?_) | refine k_skip ?_ | refine k_ret ?_ | refine k_exit ?_ | refine k_block ?_ | refine k_true (h := ?_) | refine k_false (h := ?_))
    | (show EX _ (bodyA _ _ _) _ _ _; first | refine x_end1 (hq := ?_))
    | (show EX _ _ _ _ _; first | refine x_normal ?_ | refine x_ret ?_ | refine x_exit ?_ | refine x_same ?_ | refine x_other (h := ?_) | refine x_bnormal ?_ | refine x_bret ?_))
  (first | (refine' ew_callS (hc := cr_call) (hR := ?_) (h := ?_); rotate_left 1) | (refine' ew_call (hc := cr_call) (hR := ?_) (h := ?_); rotate_left 1))
  · exact copyM 0 hN2
  rintro _ H3 ⟨rfl, hk3, F, hN3, hG3⟩
  have hF3 : ∀ b, F b → H.next ≤ b := fun b hb => (hG3 b hb).elim (fun h => by have := hF2 b h; omega) fun h => by omega
  have hk03 : Keep No H H3 := (hk1.after hk2).own hk3 fun b hb => by have := hF2 b hb; omega
  have hcp : (copyP M0 0).2.length ≤ 41 := by unfold copyP; split <;> (try split) <;> simp <;> omega
  have hcq : ((copyP M0 0).1 = 0 ↔ 0 < (copyP M0 0).2.length) := by
    unfold copyP
    cases M0 with
    | nil => simp [atI]
    | cons y M0 =>
      have : atI (y :: M0) 0 = some y := rfl
      rw [this]
      have h5 : ¬ (y :: M0).length = 256 := by omega
      simp only [h5, if_false]
      simp
  obtain ⟨xr, hxr⟩ : ∃ xr, xr = (copyP M0 0).1 := ⟨_, rfl⟩
  obtain ⟨M, hM⟩ : ∃ M, M = (copyP M0 0).2 := ⟨_, rfl⟩
  rw [← hxr, ← hM] at hcq
  rw [← hM] at hN3 hcp
  rw [← hxr]
  clear hxr hM hN2 hM40
  repeat' (first
    | (show EW _ _ _ _ _; first | refine ew_p (h := ?_) | refine ew_bu (h := ?_) | refine ew_skip (h := ?_) | refine ew_ld (h := ?_) | (refine ew_fresh ?_; intro b hb; refine ew_nw hb (h := ?_); (try simp only [AHeap.push_next, AHeap.put_next] at hb)) | refine ew_st (h := ?_) | (refine ew_df (ht := ?_) (hf := ?_) <;> intro _) | refine ew_ar (h := ?_) | refine w_nil ?_ | refine w_nilD ?_)
    | (show EC _ _ _ _ _ _ _; first | refine k_seq ?_ | refine k_region ?_ | refine k_draw (h := ?_) | refine k_skip ?_ | refine k_ret ?_ | refine k_exit ?_ | refine k_block ?_ | refine k_true (h := ?_) | refine k_false (h := ?_))
    | (show EX _ (bodyA _ _ _) _ _ _; first | refine x_end1 (hq := ?_))
    | (show EX _ _ _ _ _; first | refine x_normal ?_ | refine x_ret ?_ | refine x_exit ?_ | refine x_same ?_ | refine x_other (h := ?_) | refine x_bnormal ?_ | refine x_bret ?_))
  (first | (refine' ew_callS (hc := cr_call) (hR := ?_) (h := ?_); rotate_left 1) | (refine' ew_call (hc := cr_call) (hR := ?_) (h := ?_); rotate_left 1))
  · exact listM hN3
  rintro l4 H4 ⟨hk4, L4, hL4, hm4⟩
  have r4 := hL4.reads
  rw [hm4] at r4
  have hN4 := hN3.keep0 hk4
  have hn3 := hk03.1
  have hn4 := hk4.1
  repeat' (first
    | (show EW _ _ _ _ _; first | refine ew_p (h := ?_) | refine ew_bu (h := ?_) | refine ew_skip (h := ?_) | refine ew_ld (h := ?_) | (refine ew_fresh ?_; intro b hb; refine ew_nw hb (h := ?_); (try simp only [AHeap.push_next, AHeap.put_next] at hb)) | refine ew_st (h := ?_) | (refine ew_df (ht := ?_) (hf := ?_) <;> intro _) | refine ew_ar (h := ?_) | refine w_nil ?_ | refine w_nilD ?_)
    | (show EC _ _ _ _ _ _ _; first | refine k_seq ?_ | refine k_region ?_ | refine k_draw (h := ?_) | refine k_skip ?_ | refine k_ret ?_ | refine k_exit ?_ | refine k_block ?_ | refine k_true (h := ?_) | refine k_false (h := ?_))
    | (show EX _ (bodyA _ _ _) _ _ _; first | refine x_end1 (hq := ?_))
    | (show EX _ _ _ _ _; first | refine x_normal ?_ | refine x_ret ?_ | refine x_exit ?_ | refine x_same ?_ | refine x_other (h := ?_) | refine x_bnormal ?_ | refine x_bret ?_))
  (first | (refine' ew_callS (hc := cr_call) (hR := ?_) (h := ?_); rotate_left 1) | (refine' ew_call (hc := cr_call) (hR := ?_) (h := ?_); rotate_left 1))
  · exact copies_calls _ r4 (by omega) hN3.sizes
  rintro vw H5 ⟨hk5, r5⟩
  have hN5 := hN4.keep0 hk5
  have hn5 := hk5.1
  obtain ⟨zw, qw, rfl⟩ := r5.slice
  repeat' (first
    | (show EW _ _ _ _ _; first | refine ew_n (hn := r_bin (hr := by exact ib_eql)) (h := ?_) | refine ew_n (hn := r_bin (hr := by exact ib_gtr)) (h := ?_) | refine ew_p (h := ?_) | refine ew_bu (h := ?_) | refine ew_skip (h := ?_) | refine ew_ld (h := ?_) | (refine ew_fresh ?_; intro b hb; refine ew_nw hb (h := ?_); (try simp only [AHeap.push_next, AHeap.put_next] at hb)) | refine ew_st (h := ?_) | (refine ew_df (ht := ?_) (hf := ?_) <;> intro _) | refine ew_ar (h := ?_) | refine w_nil ?_ | refine w_nilD ?_)
    | (show EC _ _ _ _ _ _ _; first | refine k_seq ?_ | refine k_region ?_ | refine k_draw (h := ?_) | refine k_skip ?_ | refine k_ret ?_ | refine k_exit ?_ | refine k_block ?_ | refine k_true (h := ?_) | refine k_false (h := ?_))
    | (show EX _ (bodyA _ _ _) _ _ _; first | refine x_end1 (hq := ?_))
    | (show EX _ _ _ _ _; first | refine x_normal ?_ | refine x_ret ?_ | refine x_exit ?_ | refine x_same ?_ | refine x_other (h := ?_) | refine x_bnormal ?_ | refine x_bret ?_))
  have hbq : (!(decide (xr = 0) == decide ((M.length : Int) > 0))) = false := by
    by_cases h : xr = 0
    · have := hcq.1 h
      rw [decide_eq_true h, decide_eq_true (by omega)]; rfl
    · have h' : ¬ 0 < M.length := fun h' => h (hcq.2 h')
      rw [decide_eq_false h, decide_eq_false (by omega)]; rfl
  rw [hbq]
  clear hbq hcq
  refine k_false (h := ?_)
  refine k_skip ?_
  refine x_normal ?_
  refine k_seq ?_
  refine k_region ?_
  refine ew_n (hn := r_build (bkC false (.slice none 0 0) (.slice none 0 0) (.slice none 0 0) (.slice none 0 0) (.slice none 0 0) (.slice none 0 0) 0)) (h := ?_)
  refine ew_fresh ?_
  intro k hk
  refine ew_n (hn := r_box hk (bkC false (.slice none 0 0) (.slice none 0 0) (.slice none 0 0) (.slice none 0 0) (.slice none 0 0) (.slice none 0 0) 0)) (h := ?_)
  obtain ⟨H6, hH6⟩ : ∃ H6, H6 = H5.push (.row ⟨bkC false (.slice none 0 0) (.slice none 0 0) (.slice none 0 0) (.slice none 0 0) (.slice none 0 0) (.slice none 0 0) 0, 61, 0, true⟩) := ⟨_, rfl⟩
  have hk6 : Keep No H5 H6 := by rw [hH6]; exact kp
  have hg6 : H6.get k = some (.row ⟨bkC false (.slice none 0 0) (.slice none 0 0) (.slice none 0 0) (.slice none 0 0) (.slice none 0 0) (.slice none 0 0) 0, 61, 0, true⟩) := by rw [hH6]; exact rdx
  have hn6 : H6.next = H5.next + 1 := by rw [hH6]; simp
  rw [← hH6]
  clear hH6
  have hb6 := Kb.new hg6 (by omega)
  have h0 : Apt H H6 F (New H4 H5) e k (fun y => if y = k then 9 else 0) 0 (.slice zw M.length qw) M := by
    have hFb := hN5.bound
    refine ⟨((hk03.after hk4).after hk5).after hk6, hN5.keep0 hk6, hb6, r5.keep0 hk6, fun b hb => ⟨by have := hb.2; omega, if_neg (by have := hb.2; omega), fun h => by have := hN4.bound b h; have := hb.1; omega⟩, fun b hb => ⟨if_neg (by have := hFb b hb; omega), hF3 b hb⟩, fun b hb => ?_, hcp⟩
    by_cases h : b = k
    · omega
    · exact absurd (if_neg h) hb
  repeat' (first
    | (show EW _ _ _ _ _; first | refine ew_p (h := ?_) | refine ew_bu (h := ?_) | refine ew_skip (h := ?_) | refine ew_ld (h := ?_) | (refine ew_fresh ?_; intro b hb; refine ew_nw hb (h := ?_); (try simp only [AHeap.push_next, AHeap.put_next] at hb)) | refine ew_st (h := ?_) | (refine ew_df (ht := ?_) (hf := ?_) <;> intro _) | refine ew_ar (h := ?_) | refine w_nil ?_ | refine w_nilD ?_)
    | (show EC _ _ _ _ _ _ _; first | refine k_seq ?_ | refine k_region ?_ | refine k_draw (h := ?_) | refine k_skip ?_ | refine k_ret ?_ | refine k_exit ?_ | refine k_block ?_ | refine k_true (h := ?_) | refine k_false (h := ?_))
    | (show EX _ (bodyA _ _ _) _ _ _; first | refine x_end1 (hq := ?_))
    | (show EX _ _ _ _ _; first | refine x_normal ?_ | refine x_ret ?_ | refine x_exit ?_ | refine x_same ?_ | refine x_other (h := ?_) | refine x_bnormal ?_ | refine x_bret ?_))
  refine k_loop follows (ApI H (.slice z1 ns.length q1) e k ns.length) ns.length [(9, _), (8, _), (7, _), (5, _), (1, _)] (by kernel_rfl) ⟨rfl, rfl, rfl, rfl, rfl, trivial⟩ ⟨0, F, _, _, _, M, by omega, rfl, h0, by omega⟩ ?_
  clear h0 hb6 hg6 hn6 hk6 hk r5 hN5 r4 hL4 hN4 hk5 hk4 hn5 hn4 hcp hN3 hk03 hn3 hF3 hG3 hk3 hn2 hn1 hF2 hk2 hk1 hm4 L4 r0
  clear H1 H2 H3 H4 H5 H6 F Fa zw qw M M0 l4 xr ds
  rintro n' E H1 ⟨i, F, W, c, vw, M, hi, rfl, t, hi30⟩
  obtain ⟨zw, qw, rfl⟩ := t.was.slice
  have hkp := t.kp
  have hn1 := hkp.1
  have hMl := t.len
  have hms := t.net.sizes
  by_cases hgo : i < ns.length ∧ i < 30
  · obtain ⟨hlt, hl30⟩ := hgo
    obtain ⟨nx, hnx⟩ : ∃ nx, ns[i]? = some nx := ⟨ns[i], List.getElem?_eq_getElem hlt⟩
    repeat' (first
    | (show EW _ _ _ _ _; first | refine ew_p (h := ?_) | refine ew_bu (h := ?_) | refine ew_skip (h := ?_) | refine ew_ld (h := ?_) | (refine ew_fresh ?_; intro b hb; refine ew_nw hb (h := ?_); (try simp only [AHeap.push_next, AHeap.put_next] at hb)) | refine ew_st (h := ?_) | (refine ew_df (ht := ?_) (hf := ?_) <;> intro _) | refine ew_ar (h := ?_) | refine w_nil ?_ | refine w_nilD ?_)
    | (show EC _ _ _ _ _ _ _; first | refine k_seq ?_ | refine k_region ?_ | refine k_draw (h := ?_) | refine k_skip ?_ | refine k_ret ?_ | refine k_exit ?_ | refine k_block ?_ | refine k_true (h := ?_) | refine k_false (h := ?_))
    | (show EX _ (bodyA _ _ _) _ _ _; first | refine x_end1 (hq := ?_))
    | (show EX _ _ _ _ _; first | refine x_normal ?_ | refine x_ret ?_ | refine x_exit ?_ | refine x_same ?_ | refine x_other (h := ?_) | refine x_bnormal ?_ | refine x_bret ?_))
    (first | (refine' ew_callS (hc := cr_call) (hR := ?_) (h := ?_); rotate_left 1) | (refine' ew_call (hc := cr_call) (hR := ?_) (h := ?_); rotate_left 1))
    · exact lownM t.net
    rintro vl H2 ⟨hk2, L, O, hL, hLM⟩
    have hn2 := hk2.1
    have rl := hL.reads
    rw [hLM] at rl
    obtain ⟨zl, ql, rfl⟩ := rl.slice
    have tw := t.was.keep0 hk2
    repeat' (first
    | (show EW _ _ _ _ _; first | refine ew_p (h := ?_) | refine ew_bu (h := ?_) | refine ew_skip (h := ?_) | refine ew_ld (h := ?_) | (refine ew_fresh ?_; intro b hb; refine ew_nw hb (h := ?_); (try simp only [AHeap.push_next, AHeap.put_next] at hb)) | refine ew_st (h := ?_) | (refine ew_df (ht := ?_) (hf := ?_) <;> intro _) | refine ew_ar (h := ?_) | refine w_nil ?_ | refine w_nilD ?_)
    | (show EC _ _ _ _ _ _ _; first | refine k_seq ?_ | refine k_region ?_ | refine k_draw (h := ?_) | refine k_skip ?_ | refine k_ret ?_ | refine k_exit ?_ | refine k_block ?_ | refine k_true (h := ?_) | refine k_false (h := ?_))
    | (show EX _ (bodyA _ _ _) _ _ _; first | refine x_end1 (hq := ?_))
    | (show EX _ _ _ _ _; first | refine x_normal ?_ | refine x_ret ?_ | refine x_exit ?_ | refine x_same ?_ | refine x_other (h := ?_) | refine x_bnormal ?_ | refine x_bret ?_))
    (first | (refine' ew_callS (hc := cr_call) (hR := ?_) (h := ?_); rotate_left 1) | (refine' ew_call (hc := cr_call) (hR := ?_) (h := ?_); rotate_left 1))
    · exact same_calls _ rl tw (by omega)
    rintro _ H3 ⟨rfl, hk3⟩
    rw [decide_eq_true rfl]
    have hn3 := hk3.1
    have hk23 := hk2.after hk3
    repeat' (first
    | (show EW _ _ _ _ _; first | refine ew_p (h := ?_) | refine ew_bu (h := ?_) | refine ew_skip (h := ?_) | refine ew_ld (h := ?_) | (refine ew_fresh ?_; intro b hb; refine ew_nw hb (h := ?_); (try simp only [AHeap.push_next, AHeap.put_next] at hb)) | refine ew_st (h := ?_) | (refine ew_df (ht := ?_) (hf := ?_) <;> intro _) | refine ew_ar (h := ?_) | refine w_nil ?_ | refine w_nilD ?_)
    | (show EC _ _ _ _ _ _ _; first | refine k_seq ?_ | refine k_region ?_ | refine k_draw (h := ?_) | refine k_skip ?_ | refine k_ret ?_ | refine k_exit ?_ | refine k_block ?_ | refine k_true (h := ?_) | refine k_false (h := ?_))
    | (show EX _ (bodyA _ _ _) _ _ _; first | refine x_end1 (hq := ?_))
    | (show EX _ _ _ _ _; first | refine x_normal ?_ | refine x_ret ?_ | refine x_exit ?_ | refine x_same ?_ | refine x_other (h := ?_) | refine x_bnormal ?_ | refine x_bret ?_))
    (first | (refine' ew_callS (hc := cr_call) (hR := ?_) (h := ?_); rotate_left 1) | (refine' ew_call (hc := cr_call) (hR := ?_) (h := ?_); rotate_left 1))
    · exact hold_book (t.bk.keep hk23 fun _ h => h.elim) (by omega)
    rintro _ H4 ⟨rfl, rfl⟩
    repeat' (first
    | (show EW _ _ _ _ _; first | refine ew_p (h := ?_) | refine ew_bu (h := ?_) | refine ew_skip (h := ?_) | refine ew_ld (h := ?_) | (refine ew_fresh ?_; intro b hb; refine ew_nw hb (h := ?_); (try simp only [AHeap.push_next, AHeap.put_next] at hb)) | refine ew_st (h := ?_) | (refine ew_df (ht := ?_) (hf := ?_) <;> intro _) | refine ew_ar (h := ?_) | refine w_nil ?_ | refine w_nilD ?_)
    | (show EC _ _ _ _ _ _ _; first | refine k_seq ?_ | refine k_region ?_ | refine k_draw (h := ?_) | refine k_skip ?_ | refine k_ret ?_ | refine k_exit ?_ | refine k_block ?_ | refine k_true (h := ?_) | refine k_false (h := ?_))
    | (show EX _ (bodyA _ _ _) _ _ _; first | refine x_end1 (hq := ?_))
    | (show EX _ _ _ _ _; first | refine x_normal ?_ | refine x_ret ?_ | refine x_exit ?_ | refine x_same ?_ | refine x_other (h := ?_) | refine x_bnormal ?_ | refine x_bret ?_))
    have hL4 := hL.keep0 hk3
    have hcb := t.bk.cb
    have hLl : L.length = M.length := by rw [← hLM]; simp
    have i0 : Inn H1 H4 c c k (257 * i) (.slice zl M.length ql) L O 0 := by
      refine ⟨hk23.no, t.bk.keep hk23 fun _ h => h.elim, fun _ _ => Iff.rfl, ⟨_, hL4.opn, fun i p h => cells1 h⟩, fun b hb => ⟨(hL4.ob b hb).1, (hL4.ob b hb).2, ?_⟩, fun i p _ hp => ?_⟩
      · by_cases h : c b = 0
        · exact h
        · have := hcb b h; have := (hL4.ob b hb).1; omega
      · obtain ⟨g1, g2, g3, g4⟩ := hL4.data p (List.mem_of_getElem? hp)
        refine ⟨g1, ?_, g3, g2, g4⟩
        by_cases h : c p.blk = 0
        · exact h
        · have := hcb _ h; omega
    refine k_loop follows (InI H1 c k (257 * i) (.slice zl M.length ql) L O [(9, .int .i64 i), (8, .pointer (some ⟨k, 0, none⟩)), (7, .slice zw M.length qw), (5, .pointer (some ⟨e, 0, none⟩)), (1, .slice z1 ns.length q1)]) L.length [(11, _), (10, _), (9, _), (8, _), (7, _), (5, _), (1, _)] (by kernel_rfl) ⟨rfl, rfl, rfl, rfl, rfl, rfl, rfl, trivial⟩ ⟨0, c, by omega, rfl, i0⟩ ?_
    clear i0 hL4 rl tw
    have hnd := hL.nd
    clear hL hk23 hk2 hk3 hn2 hn3 H2
    clear H4
    rintro n2 E H5 ⟨j, c2, hj, rfl, u⟩
    have hn5 := u.kp.1
    by_cases hlt2 : j < L.length
    · obtain ⟨p, hp⟩ : ∃ p, L[j]? = some p := ⟨L[j], List.getElem?_eq_getElem hlt2⟩
      obtain ⟨cells, hopn, hdv⟩ := u.lst
      obtain ⟨adl, cl, rc, vr, hvl, hOl, hll, hgl, hvrl, hlel, htl, hol⟩ := hopn.at_row (by omega)
      simp only [Value.slice.injEq] at hvl
      obtain ⟨rfl, _, rfl⟩ := hvl
      have hpl : p.data.length ≤ 32776 := hms p.msg (by rw [← hLM]; exact List.mem_map_of_mem (List.mem_of_getElem? hp))
      have hpc : H5.cellsAt (aadd (aadd adl ((j : Int).toNat * 3)) 2) 1 = some [.slice (some ⟨p.blk, 0, none⟩) p.data.length p.data.length] := by
        have h1 := hdv j p hp
        rw [← htl, List.getElem?_take, if_pos (by omega), List.getElem?_drop] at h1
        refine cellsAt_of (ad := aadd (aadd adl ((j : Int).toNat * 3)) 2) hgl hvrl (by simp; omega) ?_
        simp only [aadd_off, Int.toNat_natCast]
        rw [List.drop_eq_getElem_cons (by omega), List.take_succ_cons, List.take_zero]
        have h2 := (List.getElem?_eq_some_iff.1 h1).2
        simp only [← Nat.add_assoc] at h2 ⊢
        rw [h2]
        rfl
      obtain ⟨g1, g2, g3, g4, g5⟩ := u.rem j p (Nat.le_refl _) hp
      rw [hLl] at hlt2
      repeat' (first
    | (show EW _ _ _ _ _; first | refine ew_p (h := ?_) | refine ew_bu (h := ?_) | refine ew_skip (h := ?_) | refine ew_ld (h := ?_) | (refine ew_fresh ?_; intro b hb; refine ew_nw hb (h := ?_); (try simp only [AHeap.push_next, AHeap.put_next] at hb)) | refine ew_st (h := ?_) | (refine ew_df (ht := ?_) (hf := ?_) <;> intro _) | refine ew_ar (h := ?_) | refine w_nil ?_ | refine w_nilD ?_)
    | (show EC _ _ _ _ _ _ _; first | refine k_seq ?_ | refine k_region ?_ | refine k_draw (h := ?_) | refine k_skip ?_ | refine k_ret ?_ | refine k_exit ?_ | refine k_block ?_ | refine k_true (h := ?_) | refine k_false (h := ?_))
    | (show EX _ (bodyA _ _ _) _ _ _; first | refine x_end1 (hq := ?_))
    | (show EX _ _ _ _ _; first | refine x_normal ?_ | refine x_ret ?_ | refine x_exit ?_ | refine x_same ?_ | refine x_other (h := ?_) | refine x_bnormal ?_ | refine x_bret ?_))
      (first | (refine' ew_callS (hc := cr_call) (hR := ?_) (h := ?_); rotate_left 1) | (refine' ew_call (hc := cr_call) (hR := ?_) (h := ?_); rotate_left 1))
      · exact bytes_book u.bk (by omega) g1 g3 g2 hpl (by omega) (by omega)
      rintro _ H6 ⟨rfl, c3, hb6, hk6, hc6⟩
      have hn6 := hk6.1
      have hOne : ∀ b, O b → ¬ (c2 b ≠ 0 ∨ b = p.blk) := fun b hb h => h.elim (fun h => h (u.lo b hb).2.2) fun h => g5 (h ▸ hb)
      have hgl6 := hk6.row hgl hll (hOne _ hOl)
      repeat' (first
    | (show EW _ _ _ _ _; first | refine ew_p (h := ?_) | refine ew_bu (h := ?_) | refine ew_skip (h := ?_) | refine ew_ld (h := ?_) | (refine ew_fresh ?_; intro b hb; refine ew_nw hb (h := ?_); (try simp only [AHeap.push_next, AHeap.put_next] at hb)) | (refine ew_df (ht := ?_) (hf := ?_) <;> intro _) | refine ew_ar (h := ?_) | refine w_nil ?_ | refine w_nilD ?_)
    | (show EC _ _ _ _ _ _ _; first | refine k_seq ?_ | refine k_region ?_ | refine k_draw (h := ?_) | refine k_skip ?_ | refine k_ret ?_ | refine k_exit ?_ | refine k_block ?_ | refine k_true (h := ?_) | refine k_false (h := ?_))
    | (show EX _ (bodyA _ _ _) _ _ _; first | refine x_end1 (hq := ?_))
    | (show EX _ _ _ _ _; first | refine x_normal ?_ | refine x_ret ?_ | refine x_exit ?_ | refine x_same ?_ | refine x_other (h := ?_) | refine x_bnormal ?_ | refine x_bret ?_))
      have hqn : (j : Int).toNat * 3 + 1 < L.length * 3 := by rw [Int.toNat_natCast, hLl]; omega
      refine ew_e (he := er_store (hc := setCells_c (a := (j : Int).toNat * 3) (b := 1) hgl6 hvrl (by omega) rfl)) (hk := Mode.kept_seq rfl) (h := ?_)
      repeat' (first
    | (show EW _ _ _ _ _; first | refine ew_p (h := ?_) | refine ew_bu (h := ?_) | refine ew_skip (h := ?_) | refine ew_ld (h := ?_) | (refine ew_fresh ?_; intro b hb; refine ew_nw hb (h := ?_); (try simp only [AHeap.push_next, AHeap.put_next] at hb)) | (refine ew_df (ht := ?_) (hf := ?_) <;> intro _) | refine ew_ar (h := ?_) | refine w_nil ?_ | refine w_nilD ?_)
    | (show EC _ _ _ _ _ _ _; first | refine k_seq ?_ | refine k_region ?_ | refine k_draw (h := ?_) | refine k_skip ?_ | refine k_ret ?_ | refine k_exit ?_ | refine k_block ?_ | refine k_true (h := ?_) | refine k_false (h := ?_))
    | (show EX _ (bodyA _ _ _) _ _ _; first | refine x_end1 (hq := ?_))
    | (show EX _ _ _ _ _; first | refine x_normal ?_ | refine x_ret ?_ | refine x_exit ?_ | refine x_same ?_ | refine x_other (h := ?_) | refine x_bnormal ?_ | refine x_bret ?_))
      have hopn7 := Opn.setc (H := H6) (F := O) (e := 32) (v := .int .i64 99) hOl (show adl.block < H6.next by omega) hvrl hlel htl hol hqn
      have hkp : Keep (fun b => b = adl.block) H6 (H6.put adl.block (.row ⟨lset rc (adl.off + ((j : Int).toNat * 3 + 1)) [.int .i64 99], 32, vr, true⟩)) := Keep.put (F := fun b => b = adl.block) Keep.refl fun _ => rfl
      have hal0 : c3 adl.block = 0 := (hc6 _ hll fun h => g5 (h ▸ hOl)).2 (u.lo _ hOl).2.2
      rw [hLl] at hopn7
      refine x_again (n2 - 1) [(11, _), (10, _), (9, _), (8, _), (7, _), (5, _), (1, _)] ⟨rfl, rfl, rfl, rfl, rfl, rfl, rfl, trivial⟩ (by omega) ⟨j + 1, c3, by omega, rfl, ?_, ?_, ?_, ?_, ?_, ?_⟩
      · refine (u.kp.trans hk6 fun b hb h => ?_).trans hkp fun b hb h => ?_
        · rcases h with h | h
          · exact fun h0 => h ((u.co b hb).2 h0)
          · omega
        · have h' : b = adl.block := h
          have := (u.lo _ hOl).1
          omega
      · exact hb6.keep hkp fun b hb => by have hb' : b = adl.block := hb; rw [hb']; exact hal0
      · intro b hb
        rw [hc6 b (by omega) (by omega)]
        exact u.co b hb
      · refine ⟨_, by rw [hLl]; exact hopn7, fun i' p' hp' => ?_⟩
        have hil := (List.getElem?_eq_some_iff.1 hp').1
        rw [lset_get (by have := hopn.rd.length; simp; omega), Int.toNat_natCast]
        simp only [List.length_singleton]
        by_cases h1 : i' * 3 + 2 < j * 3 + 1
        · rw [if_pos h1]; exact hdv i' p' hp'
        · rw [if_neg h1, if_neg (by omega)]; exact hdv i' p' hp'
      · intro b hb
        have h1 := u.lo b hb
        exact ⟨h1.1, by simp only [AHeap.put_next]; omega, (hc6 b h1.2.1 fun h => g5 (h ▸ hb)).2 h1.2.2⟩
      · intro i' p' hi' hp'
        obtain ⟨f1, f2, f3, f4, f5⟩ := u.rem i' p' (by omega) hp'
        have hne : p'.blk ≠ p.blk := by
          intro h
          have h1 : (L.map Pk.blk)[i']? = some p'.blk := by rw [List.getElem?_map, hp']; rfl
          have h2 : (L.map Pk.blk)[j]? = some p.blk := by rw [List.getElem?_map, hp]; rfl
          rw [h, ← h2] at h1
          have := (List.getElem?_inj (by simp; exact (List.getElem?_eq_some_iff.1 hp').1) hnd).1 h1
          omega
        refine ⟨hkp.row (hk6.row f1 f3 fun h => h.elim (fun h => h f2) hne) (by omega) (fun h => ?_), (hc6 _ f3 hne).2 f2, by simp only [AHeap.put_next]; omega, f4, f5⟩
        have h' : p'.blk = adl.block := h
        exact f5 (h' ▸ hOl)
    · obtain ⟨cells, hopn, hdv⟩ := u.lst
      rw [hLl] at hlt2 hopn
      have hjM : j = M.length := by omega
      repeat' (first
    | (show EW _ _ _ _ _; first | refine ew_p (h := ?_) | refine ew_bu (h := ?_) | refine ew_skip (h := ?_) | refine ew_ld (h := ?_) | (refine ew_fresh ?_; intro b hb; refine ew_nw hb (h := ?_); (try simp only [AHeap.push_next, AHeap.put_next] at hb)) | refine ew_st (h := ?_) | (refine ew_df (ht := ?_) (hf := ?_) <;> intro _) | refine ew_ar (h := ?_) | refine w_nil ?_ | refine w_nilD ?_)
    | (show EC _ _ _ _ _ _ _; first | refine k_seq ?_ | refine k_region ?_ | refine k_draw (h := ?_) | refine k_skip ?_ | refine k_ret ?_ | refine k_exit ?_ | refine k_block ?_ | refine k_true (h := ?_) | refine k_false (h := ?_))
    | (show EX _ (bodyA _ _ _) _ _ _; first | refine x_end1 (hq := ?_))
    | (show EX _ _ _ _ _; first | refine x_normal ?_ | refine x_ret ?_ | refine x_exit ?_ | refine x_same ?_ | refine x_other (h := ?_) | refine x_bnormal ?_ | refine x_bret ?_))
      obtain ⟨Hx, hHx⟩ : ∃ Hx, Hx = H5.push (.row ⟨[.int .i64 98, .int .i64 0, .slice none 0 0, .int .i64 98, .int .i64 0, .slice none 0 0], 32, 0, true⟩) := ⟨_, rfl⟩
      have hkx : Keep No H5 Hx := by rw [hHx]; exact kp
      have hxn : Hx.next = H5.next + 1 := by rw [hHx]; simp
      have hxb : Hx.get b = some (.row ⟨[.int .i64 98, .int .i64 0, .slice none 0 0, .int .i64 98, .int .i64 0, .slice none 0 0], 32, 0, true⟩) := by rw [hHx]; exact rdx
      rw [← hHx]
      obtain ⟨sv6, H6, a6, o6, k6, _, _⟩ := Opn.snoc T36 (hopn.keep0 hkx) (x := .slice (some ⟨b, 0, none⟩) 2 2) (m := 2) (news := [.int .i64 98, .int .i64 0, .slice none 0 0, .int .i64 98, .int .i64 0, .slice none 0 0]) (src_of (by decide) (m := 6) rfl (cellsAt_of (ad := ⟨b, 0, none⟩) hxb rfl (by simp) rfl)) (by decide) rfl rfl (by omega)
      obtain ⟨z6, q6, rfl⟩ := o6.rd.slice
      have hn6 := k6.1
      refine ew_appX (hR := a6) (h := ?_)
      have hk56 : Keep O H5 H6 := hkx.no.trans k6 fun _ _ h => h
      have hkp6 : Keep (fun b => c b ≠ 0) H1 H6 := u.kp.trans hk56 fun b hb h => by have := (u.lo b h).1; omega
      have hb6 : Kb H6 c2 k (257 * i + j) := u.bk.keep hk56 fun b hb => (u.lo b hb).2.2
      have hN6 := t.net.keep hkp6 fun b _ hb h => h (t.fc b hb).1
      have tw6 := t.was.keep hkp6 fun b _ hb h => h (t.wb b hb).2.1
      clear hkx hxb hHx k6 a6 o6 hopn hdv
      repeat' (first
    | (show EW _ _ _ _ _; first | refine ew_p (h := ?_) | refine ew_bu (h := ?_) | refine ew_skip (h := ?_) | refine ew_ld (h := ?_) | (refine ew_fresh ?_; intro b hb; refine ew_nw hb (h := ?_); (try simp only [AHeap.push_next, AHeap.put_next] at hb)) | refine ew_st (h := ?_) | (refine ew_df (ht := ?_) (hf := ?_) <;> intro _) | refine ew_ar (h := ?_) | refine w_nil ?_ | refine w_nilD ?_)
    | (show EC _ _ _ _ _ _ _; first | refine k_seq ?_ | refine k_region ?_ | refine k_draw (h := ?_) | refine k_skip ?_ | refine k_ret ?_ | refine k_exit ?_ | refine k_block ?_ | refine k_true (h := ?_) | refine k_false (h := ?_))
    | (show EX _ (bodyA _ _ _) _ _ _; first | refine x_end1 (hq := ?_))
    | (show EX _ _ _ _ _; first | refine x_normal ?_ | refine x_ret ?_ | refine x_exit ?_ | refine x_same ?_ | refine x_other (h := ?_) | refine x_bnormal ?_ | refine x_bret ?_))
      (first | (refine' ew_callS (hc := cr_call) (hR := ?_) (h := ?_); rotate_left 1) | (refine' ew_call (hc := cr_call) (hR := ?_) (h := ?_); rotate_left 1))
      · exact hold_book hb6 (by omega)
      rintro _ H7 ⟨rfl, rfl⟩
      repeat' (first
    | (show EW _ _ _ _ _; first | refine ew_p (h := ?_) | refine ew_bu (h := ?_) | refine ew_skip (h := ?_) | refine ew_ld (h := ?_) | (refine ew_fresh ?_; intro b hb; refine ew_nw hb (h := ?_); (try simp only [AHeap.push_next, AHeap.put_next] at hb)) | refine ew_st (h := ?_) | (refine ew_df (ht := ?_) (hf := ?_) <;> intro _) | refine ew_ar (h := ?_) | refine w_nil ?_ | refine w_nilD ?_)
    | (show EC _ _ _ _ _ _ _; first | refine k_seq ?_ | refine k_region ?_ | refine k_draw (h := ?_) | refine k_skip ?_ | refine k_ret ?_ | refine k_exit ?_ | refine k_block ?_ | refine k_true (h := ?_) | refine k_false (h := ?_))
    | (show EX _ (bodyA _ _ _) _ _ _; first | refine x_end1 (hq := ?_))
    | (show EX _ _ _ _ _; first | refine x_normal ?_ | refine x_ret ?_ | refine x_exit ?_ | refine x_same ?_ | refine x_other (h := ?_) | refine x_bnormal ?_ | refine x_bret ?_))
      (first | (refine' ew_callS (hc := cr_call) (hR := ?_) (h := ?_); rotate_left 1) | (refine' ew_call (hc := cr_call) (hR := ?_) (h := ?_); rotate_left 1))
      · exact listM hN6
      rintro l8 H8 ⟨hk8, L8, hL8, hm8⟩
      have r8 := hL8.reads
      rw [hm8] at r8
      have hn8 := hk8.1
      repeat' (first
    | (show EW _ _ _ _ _; first | refine ew_p (h := ?_) | refine ew_bu (h := ?_) | refine ew_skip (h := ?_) | refine ew_ld (h := ?_) | (refine ew_fresh ?_; intro b hb; refine ew_nw hb (h := ?_); (try simp only [AHeap.push_next, AHeap.put_next] at hb)) | refine ew_st (h := ?_) | (refine ew_df (ht := ?_) (hf := ?_) <;> intro _) | refine ew_ar (h := ?_) | refine w_nil ?_ | refine w_nilD ?_)
    | (show EC _ _ _ _ _ _ _; first | refine k_seq ?_ | refine k_region ?_ | refine k_draw (h := ?_) | refine k_skip ?_ | refine k_ret ?_ | refine k_exit ?_ | refine k_block ?_ | refine k_true (h := ?_) | refine k_false (h := ?_))
    | (show EX _ (bodyA _ _ _) _ _ _; first | refine x_end1 (hq := ?_))
    | (show EX _ _ _ _ _; first | refine x_normal ?_ | refine x_ret ?_ | refine x_exit ?_ | refine x_same ?_ | refine x_other (h := ?_) | refine x_bnormal ?_ | refine x_bret ?_))
      (first | (refine' ew_callS (hc := cr_call) (hR := ?_) (h := ?_); rotate_left 1) | (refine' ew_call (hc := cr_call) (hR := ?_) (h := ?_); rotate_left 1))
      · exact same_calls _ r8 (tw6.keep0 hk8) (by omega)
      rintro _ H9 ⟨rfl, hk9⟩
      rw [decide_eq_true rfl]
      have hn9 := hk9.1
      have hkp9 : Keep (fun b => c b ≠ 0) H1 H9 := (hkp6.after hk8).after hk9
      have hb9 := (hb6.keep hk8 fun _ h => h.elim).keep hk9 fun _ h => h.elim
      have hN9 := (hN6.keep0 hk8).keep0 hk9
      have tw9 := (tw6.keep0 hk8).keep0 hk9
      clear hkp6 hb6 hN6 tw6 hL8 r8 hk56 hm8
      obtain ⟨ad1, q1', as1, hv1, hlt1, hcl1, has1, _⟩ := SlR.at r1 hnx
      simp only [Value.slice.injEq, true_and] at hv1
      obtain ⟨rfl, rfl⟩ := hv1
      rw [has1] at hcl1
      have hkH9 : Keep No H H9 := hkp.trans hkp9 fun b hb h => by have := t.cc b h; omega
      have hcl9 : H9.cellsAt (aadd ad1 ((i : Int).toNat * 1)) 1 = some [.int .i64 nx] := (hkH9.cells (ad := aadd ad1 ((i : Int).toNat * 1)) (by simpa using hlt1) id).trans hcl1
      repeat' (first
    | (show EW _ _ _ _ _; first | refine ew_p (h := ?_) | refine ew_bu (h := ?_) | refine ew_skip (h := ?_) | refine ew_ld (h := ?_) | (refine ew_fresh ?_; intro b hb; refine ew_nw hb (h := ?_); (try simp only [AHeap.push_next, AHeap.put_next] at hb)) | refine ew_st (h := ?_) | (refine ew_df (ht := ?_) (hf := ?_) <;> intro _) | refine ew_ar (h := ?_) | refine w_nil ?_ | refine w_nilD ?_)
    | (show EC _ _ _ _ _ _ _; first | refine k_seq ?_ | refine k_region ?_ | refine k_draw (h := ?_) | refine k_skip ?_ | refine k_ret ?_ | refine k_exit ?_ | refine k_block ?_ | refine k_true (h := ?_) | refine k_false (h := ?_))
    | (show EX _ (bodyA _ _ _) _ _ _; first | refine x_end1 (hq := ?_))
    | (show EX _ _ _ _ _; first | refine x_normal ?_ | refine x_ret ?_ | refine x_exit ?_ | refine x_same ?_ | refine x_other (h := ?_) | refine x_bnormal ?_ | refine x_bret ?_))
      (first | (refine' ew_callS (hc := cr_call) (hR := ?_) (h := ?_); rotate_left 1) | (refine' ew_call (hc := cr_call) (hR := ?_) (h := ?_); rotate_left 1))
      · exact mod_calls nx _ _ (by omega)
      rintro _ H10 ⟨rfl, rfl⟩
      have hdr := modI_range nx ((M.length : Int) + 1) (by omega)
      generalize modI nx ((M.length : Int) + 1) = d at hdr ⊢
      obtain ⟨dn, rfl⟩ : ∃ n : Nat, d = n := ⟨d.toNat, by omega⟩
      have hFb := t.net.bound
      have hf2 : ∀ b, F b → c2 b = 0 := fun b hb => (u.co b (hFb b hb)).2 (t.fc b hb).1
      have hcc2 : ∀ b, c2 b ≠ 0 → H.next ≤ b := fun b hb => by
        by_cases h : b < H1.next
        · exact t.cc b fun h0 => hb ((u.co b h).2 h0)
        · omega
      repeat' (first
    | (show EW _ _ _ _ _; first | refine ew_p (h := ?_) | refine ew_bu (h := ?_) | refine ew_skip (h := ?_) | refine ew_ld (h := ?_) | (refine ew_fresh ?_; intro b hb; refine ew_nw hb (h := ?_); (try simp only [AHeap.push_next, AHeap.put_next] at hb)) | refine ew_st (h := ?_) | (refine ew_df (ht := ?_) (hf := ?_) <;> intro _) | refine ew_ar (h := ?_) | refine w_nil ?_ | refine w_nilD ?_)
    | (show EC _ _ _ _ _ _ _; first | refine k_seq ?_ | refine k_region ?_ | refine k_draw (h := ?_) | refine k_skip ?_ | refine k_ret ?_ | refine k_exit ?_ | refine k_block ?_ | refine k_true (h := ?_) | refine k_false (h := ?_))
    | (show EX _ (bodyA _ _ _) _ _ _; first | refine x_end1 (hq := ?_))
    | (show EX _ _ _ _ _; first | refine x_normal ?_ | refine x_ret ?_ | refine x_exit ?_ | refine x_same ?_ | refine x_other (h := ?_) | refine x_bnormal ?_ | refine x_bret ?_))
      (first | (refine' ew_callS (hc := cr_call) (hR := ?_) (h := ?_); rotate_left 1) | (refine' ew_call (hc := cr_call) (hR := ?_) (h := ?_); rotate_left 1))
      · exact deliverM (dn : Int) hN9
      rintro _ H11 (⟨hnone, rfl, hk11⟩ | ⟨x, bb, hsome, rfl, hk11, hFbb, hbbl, hgbb, F', hN11, hG11, hbbF⟩)
      · have hdM : ¬ (dn : Int) < M.length := fun h => by
          rw [atI_nat, List.getElem?_eq_none_iff] at hnone
          omega
        have hn11 := hk11.1
        repeat' (first
    | (show EW _ _ _ _ _; first | refine ew_p (h := ?_) | refine ew_bu (h := ?_) | refine ew_skip (h := ?_) | refine ew_ld (h := ?_) | (refine ew_fresh ?_; intro b hb; refine ew_nw hb (h := ?_); (try simp only [AHeap.push_next, AHeap.put_next] at hb)) | refine ew_st (h := ?_) | (refine ew_df (ht := ?_) (hf := ?_) <;> intro _) | refine ew_ar (h := ?_) | refine w_nil ?_ | refine w_nilD ?_)
    | (show EC _ _ _ _ _ _ _; first | refine k_seq ?_ | refine k_region ?_ | refine k_draw (h := ?_) | refine k_skip ?_ | refine k_ret ?_ | refine k_exit ?_ | refine k_block ?_ | refine k_true (h := ?_) | refine k_false (h := ?_))
    | (show EX _ (bodyA _ _ _) _ _ _; first | refine x_end1 (hq := ?_))
    | (show EX _ _ _ _ _; first | refine x_normal ?_ | refine x_ret ?_ | refine x_exit ?_ | refine x_same ?_ | refine x_other (h := ?_) | refine x_bnormal ?_ | refine x_bret ?_))
        obtain ⟨Hq, hHq⟩ : ∃ Hq, Hq = (H11.push (.row ⟨[.int .i64 0, .int .i64 0, .slice none 0 0], 32, 0, true⟩)).put b (.row ⟨[.int .i64 0, .int .i64 0, .slice none 0 0], 32, 0, true⟩) := ⟨_, rfl⟩
        have hkq : Keep No H11 Hq := by rw [hHq]; exact kp
        rw [← hHq]
        have hk9q := hk11.after hkq
        have hbq := (hb9.keep hk9q fun _ h => h.elim).mono (show 257 * i + j ≤ 257 * (i + 1) by omega)
        (first | (refine' ew_callS (hc := cr_call) (hR := ?_) (h := ?_); rotate_left 1) | (refine' ew_call (hc := cr_call) (hR := ?_) (h := ?_); rotate_left 1))
        · exact hold_book hbq (by omega)
        rintro _ _ ⟨rfl, rfl⟩
        repeat' (first
    | (show EW _ _ _ _ _; first | refine ew_p (h := ?_) | refine ew_bu (h := ?_) | refine ew_skip (h := ?_) | refine ew_ld (h := ?_) | (refine ew_fresh ?_; intro b hb; refine ew_nw hb (h := ?_); (try simp only [AHeap.push_next, AHeap.put_next] at hb)) | refine ew_st (h := ?_) | (refine ew_df (ht := ?_) (hf := ?_) <;> intro _) | refine ew_ar (h := ?_) | refine w_nil ?_ | refine w_nilD ?_)
    | (show EC _ _ _ _ _ _ _; first | refine k_seq ?_ | refine k_region ?_ | refine k_draw (h := ?_) | refine k_skip ?_ | refine k_ret ?_ | refine k_exit ?_ | refine k_block ?_ | refine k_true (h := ?_) | refine k_false (h := ?_))
    | (show EX _ (bodyA _ _ _) _ _ _; first | refine x_end1 (hq := ?_))
    | (show EX _ _ _ _ _; first | refine x_normal ?_ | refine x_ret ?_ | refine x_exit ?_ | refine x_same ?_ | refine x_other (h := ?_) | refine x_bnormal ?_ | refine x_bret ?_))
        refine x_again (n' - 1) [(9, _), (8, _), (7, _), (5, _), (1, _)] ⟨rfl, rfl, rfl, rfl, rfl, trivial⟩ (by omega) ⟨i + 1, F, W, c2, _, M, by omega, rfl, ⟨hkH9.after hk9q, hN9.keep0 hk9q, hbq, tw9.keep0 hk9q, fun b hb => ?_, fun b hb => ⟨hf2 b hb, (t.fc b hb).2⟩, hcc2, hMl⟩, by omega⟩
        have h1 := t.wb b hb
        exact ⟨by have := hk9q.1; omega, (u.co b h1.1).2 h1.2.1, h1.2.2⟩
      · have hdM := (atI_some hsome).2
        rw [atI_nat] at hsome
        have hn11 := hk11.1
        have hxs := hms x (List.mem_of_getElem? hsome)
        have hbb1 := hFb _ hFbb
        have tw11 := tw9.keep hk11 fun b _ hb h => (t.wb b hb).2.2 h
        obtain ⟨adw, cw, zx, cx, hvw, hlw, hw3, _, hbx⟩ := tw11.at4 hsome
        simp only [Value.slice.injEq, true_and] at hvw
        obtain ⟨rfl, rfl⟩ := hvw
        repeat' (first
    | (show EW _ _ _ _ _; first | refine ew_p (h := ?_) | refine ew_bu (h := ?_) | refine ew_skip (h := ?_) | refine ew_ld (h := ?_) | (refine ew_fresh ?_; intro b hb; refine ew_nw hb (h := ?_); (try simp only [AHeap.push_next, AHeap.put_next] at hb)) | refine ew_st (h := ?_) | (refine ew_df (ht := ?_) (hf := ?_) <;> intro _) | refine ew_ar (h := ?_) | refine w_nil ?_ | refine w_nilD ?_)
    | (show EC _ _ _ _ _ _ _; first | refine k_seq ?_ | refine k_region ?_ | refine k_draw (h := ?_) | refine k_skip ?_ | refine k_ret ?_ | refine k_exit ?_ | refine k_block ?_ | refine k_true (h := ?_) | refine k_false (h := ?_))
    | (show EX _ (bodyA _ _ _) _ _ _; first | refine x_end1 (hq := ?_))
    | (show EX _ _ _ _ _; first | refine x_normal ?_ | refine x_ret ?_ | refine x_exit ?_ | refine x_same ?_ | refine x_other (h := ?_) | refine x_bnormal ?_ | refine x_bret ?_))
        obtain ⟨Hq, hHq⟩ : ∃ Hq, Hq = (H11.push (.row ⟨[.int .i64 0, .int .i64 0, .slice none 0 0], 32, 0, true⟩)).put b (.row ⟨[.int .i64 x.1, .int .i64 x.2.1, .slice (some ⟨bb, 0, none⟩) x.2.2.length x.2.2.length], 32, 0, true⟩) := ⟨_, rfl⟩
        have hkq : Keep No H11 Hq := by rw [hHq]; exact kp
        have hqb : Hq.get b = some (.row ⟨[.int .i64 x.1, .int .i64 x.2.1, .slice (some ⟨bb, 0, none⟩) x.2.2.length x.2.2.length], 32, 0, true⟩) := by rw [hHq]; exact rdx
        have hqn : Hq.next = H11.next + 1 := by rw [hHq]; simp
        rw [← hHq]
        have hxw := hk11.1
        (first | (refine' ew_callS (hc := cr_call) (hR := ?_) (h := ?_); rotate_left 1) | (refine' ew_call (hc := cr_call) (hR := ?_) (h := ?_); rotate_left 1))
        · exact sameFlight_calls (F := fun y => y = bb) (G := W) _ (rd_row (hkq.row0 hgbb (by omega)) rfl (show bb < Hq.next by omega)) (Rd.keep0 hbx hkq)
        rintro _ H12 ⟨rfl, hk12⟩
        rw [decide_eq_true ⟨rfl, rfl, rfl⟩]
        have hkq12 := hkq.after hk12
        have hn12 := hk12.1
        refine ⟨by (dsimp only [Mode.kept, Mode.logged, Mode.at]; (repeat' (first | exact (fun _ h => absurd h List.not_mem_nil) | (refine List.forall_mem_cons.2 ⟨?_, ?_⟩) | (refine .inl ?_; exact rfl) | (refine .inl ?_; dsimp only; decide) | (refine .inr ?_; exact hk12.cells (by simp only [aadd_block]; omega) id)))), ?_⟩
        have hqb12 := hk12.row0 hqb (by omega)
        have hb12 : Kb H12 c2 k (257 * i + j) := (hb9.keep hk11 hf2).keep hkq12 fun _ h => h.elim
        have hg12 := hkq12.row0 hgbb (by omega)
        repeat' (first
    | (show EW _ _ _ _ _; first | refine ew_p (h := ?_) | refine ew_bu (h := ?_) | refine ew_skip (h := ?_) | refine ew_ld (h := ?_) | (refine ew_fresh ?_; intro b hb; refine ew_nw hb (h := ?_); (try simp only [AHeap.push_next, AHeap.put_next] at hb)) | refine ew_st (h := ?_) | (refine ew_df (ht := ?_) (hf := ?_) <;> intro _) | refine ew_ar (h := ?_) | refine w_nil ?_ | refine w_nilD ?_)
    | (show EC _ _ _ _ _ _ _; first | refine k_seq ?_ | refine k_region ?_ | refine k_draw (h := ?_) | refine k_skip ?_ | refine k_ret ?_ | refine k_exit ?_ | refine k_block ?_ | refine k_true (h := ?_) | refine k_false (h := ?_))
    | (show EX _ (bodyA _ _ _) _ _ _; first | refine x_end1 (hq := ?_))
    | (show EX _ _ _ _ _; first | refine x_normal ?_ | refine x_ret ?_ | refine x_exit ?_ | refine x_same ?_ | refine x_other (h := ?_) | refine x_bnormal ?_ | refine x_bret ?_))
        (first | (refine' ew_callS (hc := cr_call) (hR := ?_) (h := ?_); rotate_left 1) | (refine' ew_call (hc := cr_call) (hR := ?_) (h := ?_); rotate_left 1))
        · exact bytes_book hb12 (by omega) hg12 (by omega) (hf2 _ hFbb) hxs (by omega) (by omega)
        rintro _ H13 ⟨rfl, c3, hb13, hk13, hc13⟩
        have hn13 := hk13.1
        have hF2 : ∀ y, F' y → c2 y = 0 ∧ H.next ≤ y := fun y hy => by
          rcases hG11 y hy with h | h
          · exact ⟨hf2 y h, (t.fc y h).2⟩
          · refine ⟨?_, by omega⟩
            by_cases h0 : c2 y = 0
            · exact h0
            · have := hb9.cb y h0; omega
        have hFb' := hN11.bound
        have hN13 := (hN11.keep0 hkq12).keep hk13 fun y _ hy h => h.elim (fun h => h (hF2 y hy).1) fun h => hbbF (h ▸ hy)
        have hkH13 : Keep No H H13 := ((hkH9.own hk11 fun y hy => (t.fc y hy).2).after hkq12).own hk13 fun y hy => hy.elim (hcc2 y) fun h => by rw [h]; exact (t.fc _ hFbb).2
        have hF3 : ∀ y, F' y → c3 y = 0 := fun y hy => (hc13 y (by have := hFb' y hy; omega) fun h => hbbF (h ▸ hy)).2 (hF2 y hy).1
        repeat' (first
    | (show EW _ _ _ _ _; first | refine ew_p (h := ?_) | refine ew_bu (h := ?_) | refine ew_skip (h := ?_) | refine ew_ld (h := ?_) | (refine ew_fresh ?_; intro b hb; refine ew_nw hb (h := ?_); (try simp only [AHeap.push_next, AHeap.put_next] at hb)) | refine ew_st (h := ?_) | (refine ew_df (ht := ?_) (hf := ?_) <;> intro _) | refine ew_ar (h := ?_) | refine w_nil ?_ | refine w_nilD ?_)
    | (show EC _ _ _ _ _ _ _; first | refine k_seq ?_ | refine k_region ?_ | refine k_draw (h := ?_) | refine k_skip ?_ | refine k_ret ?_ | refine k_exit ?_ | refine k_block ?_ | refine k_true (h := ?_) | refine k_false (h := ?_))
    | (show EX _ (bodyA _ _ _) _ _ _; first | refine x_end1 (hq := ?_))
    | (show EX _ _ _ _ _; first | refine x_normal ?_ | refine x_ret ?_ | refine x_exit ?_ | refine x_same ?_ | refine x_other (h := ?_) | refine x_bnormal ?_ | refine x_bret ?_))
        (first | (refine' ew_callS (hc := cr_call) (hR := ?_) (h := ?_); rotate_left 1) | (refine' ew_call (hc := cr_call) (hR := ?_) (h := ?_); rotate_left 1))
        · exact listM hN13
        rintro l14 H14 ⟨hk14, L14, hL14, hm14⟩
        have r14 := hL14.reads
        rw [hm14] at r14
        have hn14 := hk14.1
        have hle : (M.eraseIdx (dn : Int).toNat).length ≤ M.length := (List.eraseIdx_sublist _ _).length_le
        repeat' (first
    | (show EW _ _ _ _ _; first | refine ew_p (h := ?_) | refine ew_bu (h := ?_) | refine ew_skip (h := ?_) | refine ew_ld (h := ?_) | (refine ew_fresh ?_; intro b hb; refine ew_nw hb (h := ?_); (try simp only [AHeap.push_next, AHeap.put_next] at hb)) | refine ew_st (h := ?_) | (refine ew_df (ht := ?_) (hf := ?_) <;> intro _) | refine ew_ar (h := ?_) | refine w_nil ?_ | refine w_nilD ?_)
    | (show EC _ _ _ _ _ _ _; first | refine k_seq ?_ | refine k_region ?_ | refine k_draw (h := ?_) | refine k_skip ?_ | refine k_ret ?_ | refine k_exit ?_ | refine k_block ?_ | refine k_true (h := ?_) | refine k_false (h := ?_))
    | (show EX _ (bodyA _ _ _) _ _ _; first | refine x_end1 (hq := ?_))
    | (show EX _ _ _ _ _; first | refine x_normal ?_ | refine x_ret ?_ | refine x_exit ?_ | refine x_same ?_ | refine x_other (h := ?_) | refine x_bnormal ?_ | refine x_bret ?_))
        (first | (refine' ew_callS (hc := cr_call) (hR := ?_) (h := ?_); rotate_left 1) | (refine' ew_call (hc := cr_call) (hR := ?_) (h := ?_); rotate_left 1))
        · exact copies_calls _ r14 (by omega) hN13.sizes
        rintro vw' H15 ⟨hk15, r15⟩
        have hn15 := hk15.1
        have hk35 := hk14.after hk15
        have hb15 := (hb13.keep hk35 fun _ h => h.elim).mono (show 257 * i + j + 1 ≤ 257 * (i + 1) by omega)
        repeat' (first
    | (show EW _ _ _ _ _; first | refine ew_p (h := ?_) | refine ew_bu (h := ?_) | refine ew_skip (h := ?_) | refine ew_ld (h := ?_) | (refine ew_fresh ?_; intro b hb; refine ew_nw hb (h := ?_); (try simp only [AHeap.push_next, AHeap.put_next] at hb)) | refine ew_st (h := ?_) | (refine ew_df (ht := ?_) (hf := ?_) <;> intro _) | refine ew_ar (h := ?_) | refine w_nil ?_ | refine w_nilD ?_)
    | (show EC _ _ _ _ _ _ _; first | refine k_seq ?_ | refine k_region ?_ | refine k_draw (h := ?_) | refine k_skip ?_ | refine k_ret ?_ | refine k_exit ?_ | refine k_block ?_ | refine k_true (h := ?_) | refine k_false (h := ?_))
    | (show EX _ (bodyA _ _ _) _ _ _; first | refine x_end1 (hq := ?_))
    | (show EX _ _ _ _ _; first | refine x_normal ?_ | refine x_ret ?_ | refine x_exit ?_ | refine x_same ?_ | refine x_other (h := ?_) | refine x_bnormal ?_ | refine x_bret ?_))
        (first | (refine' ew_callS (hc := cr_call) (hR := ?_) (h := ?_); rotate_left 1) | (refine' ew_call (hc := cr_call) (hR := ?_) (h := ?_); rotate_left 1))
        · exact hold_book hb15 (by omega)
        rintro _ H16 ⟨rfl, rfl⟩
        repeat' (first
    | (show EW _ _ _ _ _; first | refine ew_p (h := ?_) | refine ew_bu (h := ?_) | refine ew_skip (h := ?_) | refine ew_ld (h := ?_) | (refine ew_fresh ?_; intro b hb; refine ew_nw hb (h := ?_); (try simp only [AHeap.push_next, AHeap.put_next] at hb)) | refine ew_st (h := ?_) | (refine ew_df (ht := ?_) (hf := ?_) <;> intro _) | refine ew_ar (h := ?_) | refine w_nil ?_ | refine w_nilD ?_)
    | (show EC _ _ _ _ _ _ _; first | refine k_seq ?_ | refine k_region ?_ | refine k_draw (h := ?_) | refine k_skip ?_ | refine k_ret ?_ | refine k_exit ?_ | refine k_block ?_ | refine k_true (h := ?_) | refine k_false (h := ?_))
    | (show EX _ (bodyA _ _ _) _ _ _; first | refine x_end1 (hq := ?_))
    | (show EX _ _ _ _ _; first | refine x_normal ?_ | refine x_ret ?_ | refine x_exit ?_ | refine x_same ?_ | refine x_other (h := ?_) | refine x_bnormal ?_ | refine x_bret ?_))
        refine x_again (n' - 1) [(9, _), (8, _), (7, _), (5, _), (1, _)] ⟨rfl, rfl, rfl, rfl, rfl, trivial⟩ (by omega) ⟨i + 1, F', New H14 H16, c3, _, _, by omega, rfl, ⟨hkH13.after hk35, hN13.keep0 hk35, hb15, r15, fun y hy => ?_, fun y hy => ⟨hF3 y hy, (hF2 y hy).2⟩, fun y hy => ?_, by omega⟩, by omega⟩
        · have h1 := hy.1
          have h2 := hy.2
          refine ⟨h2, ?_, fun h => by have := hFb' y h; omega⟩
          by_cases h0 : c3 y = 0
          · exact h0
          · have := hb13.cb y h0; omega
        · by_cases h : y < H12.next
          · by_cases he : y = bb
            · rw [he]; exact (t.fc _ hFbb).2
            · exact hcc2 y fun h0 => hy ((hc13 y h he).2 h0)
          · have := hkH9.1; omega
  · by_cases hlt : i < ns.length
    all_goals (
      repeat' (first
    | (show EW _ _ _ _ _; first | refine ew_p (h := ?_) | refine ew_bu (h := ?_) | refine ew_skip (h := ?_) | refine ew_ld (h := ?_) | (refine ew_fresh ?_; intro b hb; refine ew_nw hb (h := ?_); (try simp only [AHeap.push_next, AHeap.put_next] at hb)) | refine ew_st (h := ?_) | (refine ew_df (ht := ?_) (hf := ?_) <;> intro _) | refine ew_ar (h := ?_) | refine w_nil ?_ | refine w_nilD ?_)
    | (show EC _ _ _ _ _ _ _; first | refine k_seq ?_ | refine k_region ?_ | refine k_draw (h := ?_) | refine k_skip ?_ | refine k_ret ?_ | refine k_exit ?_ | refine k_block ?_ | refine k_true (h := ?_) | refine k_false (h := ?_))
    | (show EX _ (bodyA _ _ _) _ _ _; first | refine x_end1 (hq := ?_))
    | (show EX _ _ _ _ _; first | refine x_normal ?_ | refine x_ret ?_ | refine x_exit ?_ | refine x_same ?_ | refine x_other (h := ?_) | refine x_bnormal ?_ | refine x_bret ?_))
      (first | (refine' ew_callS (hc := cr_call) (hR := ?_) (h := ?_); rotate_left 1) | (refine' ew_call (hc := cr_call) (hR := ?_) (h := ?_); rotate_left 1))
      · exact hold_book t.bk (by omega)
      rintro _ _ ⟨rfl, rfl⟩
      repeat' (first
    | (show EW _ _ _ _ _; first | refine ew_p (h := ?_) | refine ew_bu (h := ?_) | refine ew_skip (h := ?_) | refine ew_ld (h := ?_) | (refine ew_fresh ?_; intro b hb; refine ew_nw hb (h := ?_); (try simp only [AHeap.push_next, AHeap.put_next] at hb)) | refine ew_st (h := ?_) | (refine ew_df (ht := ?_) (hf := ?_) <;> intro _) | refine ew_ar (h := ?_) | refine w_nil ?_ | refine w_nilD ?_)
    | (show EC _ _ _ _ _ _ _; first | refine k_seq ?_ | refine k_region ?_ | refine k_draw (h := ?_) | refine k_skip ?_ | refine k_ret ?_ | refine k_exit ?_ | refine k_block ?_ | refine k_true (h := ?_) | refine k_false (h := ?_))
    | (show EX _ (bodyA _ _ _) _ _ _; first | refine x_end1 (hq := ?_))
    | (show EX _ _ _ _ _; first | refine x_normal ?_ | refine x_ret ?_ | refine x_exit ?_ | refine x_same ?_ | refine x_other (h := ?_) | refine x_bnormal ?_ | refine x_bret ?_))
      (first | (refine' ew_callS (hc := cr_call) (hR := ?_) (h := ?_); rotate_left 1) | (refine' ew_call (hc := cr_call) (hR := ?_) (h := ?_); rotate_left 1))
      · exact listM t.net
      rintro l4 H4 ⟨hk4, L4, hL4, hm4⟩
      have r4 := hL4.reads
      rw [hm4] at r4
      repeat' (first
    | (show EW _ _ _ _ _; first | refine ew_p (h := ?_) | refine ew_bu (h := ?_) | refine ew_skip (h := ?_) | refine ew_ld (h := ?_) | (refine ew_fresh ?_; intro b hb; refine ew_nw hb (h := ?_); (try simp only [AHeap.push_next, AHeap.put_next] at hb)) | refine ew_st (h := ?_) | (refine ew_df (ht := ?_) (hf := ?_) <;> intro _) | refine ew_ar (h := ?_) | refine w_nil ?_ | refine w_nilD ?_)
    | (show EC _ _ _ _ _ _ _; first | refine k_seq ?_ | refine k_region ?_ | refine k_draw (h := ?_) | refine k_skip ?_ | refine k_ret ?_ | refine k_exit ?_ | refine k_block ?_ | refine k_true (h := ?_) | refine k_false (h := ?_))
    | (show EX _ (bodyA _ _ _) _ _ _; first | refine x_end1 (hq := ?_))
    | (show EX _ _ _ _ _; first | refine x_normal ?_ | refine x_ret ?_ | refine x_exit ?_ | refine x_same ?_ | refine x_other (h := ?_) | refine x_bnormal ?_ | refine x_bret ?_))
      (first | (refine' ew_callS (hc := cr_call) (hR := ?_) (h := ?_); rotate_left 1) | (refine' ew_call (hc := cr_call) (hR := ?_) (h := ?_); rotate_left 1))
      · exact same_calls _ r4 (t.was.keep0 hk4) (by omega)
      rintro _ H5 ⟨rfl, hk5⟩
      rw [decide_eq_true rfl]
      repeat' (first
    | (show EW _ _ _ _ _; first | refine ew_p (h := ?_) | refine ew_bu (h := ?_) | refine ew_skip (h := ?_) | refine ew_ld (h := ?_) | (refine ew_fresh ?_; intro b hb; refine ew_nw hb (h := ?_); (try simp only [AHeap.push_next, AHeap.put_next] at hb)) | refine ew_st (h := ?_) | (refine ew_df (ht := ?_) (hf := ?_) <;> intro _) | refine ew_ar (h := ?_) | refine w_nil ?_ | refine w_nilD ?_)
    | (show EC _ _ _ _ _ _ _; first | refine k_seq ?_ | refine k_region ?_ | refine k_draw (h := ?_) | refine k_skip ?_ | refine k_ret ?_ | refine k_exit ?_ | refine k_block ?_ | refine k_true (h := ?_) | refine k_false (h := ?_))
    | (show EX _ (bodyA _ _ _) _ _ _; first | refine x_end1 (hq := ?_))
    | (show EX _ _ _ _ _; first | refine x_normal ?_ | refine x_ret ?_ | refine x_exit ?_ | refine x_same ?_ | refine x_other (h := ?_) | refine x_bnormal ?_ | refine x_bret ?_))
      rfl)

end Go.Ae

/- eddykept's book over the abstract heap: a list comes. No condition. -/
import Derived.Test.YtfhpgikgjheobaaEuF
set_option linter.unusedSimpArgs false
set_option linter.unusedVariables false
set_option linter.unnecessarySimpa false
set_option maxRecDepth 100000
set_option maxHeartbeats 800000
namespace Go.Ae
open Go.Proofs
attribute [local irreducible] awC wpSeq wpS nRes aw aE acall ACalls szT isAggT zeroT byT elemSz fieldOff Program.underlying appendA copyA thenA inBlockA bodyA AHeap.push AHeap.put AHeap.cellsAt AHeap.setCells resV loadA intBin EW EC EX Nr Nc Er Cr Agree

theorem lens6 {ps : List (Value × Value)} {a b c d : List Value} {n : Nat} (h3 : a.length = n) (h4 : b.length = n) (h5 : c.length = n) (h6 : d.length = n) (i : Nat) (h : 3 ≤ i) : (six (ps.map (·.1)) (ps.map (·.2)) a b c d i).length = n := by
  unfold six
  rw [if_neg (by omega), if_neg (by omega)]
  split
  · exact h3
  · split
    · exact h4
    · split
      · exact h5
      · exact h6
/-- What comes of a list that is handed to the book. -/
def ByP (H : AHeap) (c : Col) (k cnt blk : Nat) (v : Value) (H' : AHeap) : Prop :=
  v = .tuple #[] ∧ ∃ c', Kb H' c' k (cnt + 1) ∧ Keep (fun b => c b ≠ 0 ∨ b = blk) H H' ∧ ∀ b, b < H.next → b ≠ blk → (c' b = 0 ↔ c b = 0)
theorem bytes_book {H : AHeap} {c : Col} {k cnt blk : Nat} {bs : List UInt8} {mk : Int} (hkb : Kb H c k cnt) (hcnt : cnt ≤ 300000) (hg : H.get blk = some (.row ⟨bytesV bs, 5, 0, true⟩)) (hblt : blk < H.next) (hc0 : c blk = 0) (hlen : bs.length ≤ 32776) (hm0 : 0 ≤ mk) (hm1 : mk ≤ 1000000) :
    ACalls Try.prog 25 #[.pointer (some ⟨k, 0, none⟩), .slice (some ⟨blk, 0, none⟩) bs.length bs.length, .int .i64 mk] H (ByP H c k cnt blk) := by
  obtain ⟨o, t, w, n, m, l, s, ps, es, hrow, hp, hd, hl, hs0, hs1⟩ := hkb.st
  obtain ⟨c0, hc0'⟩ : ∃ c0 : Col, c0 = fun b => if b = blk then 8 else c b := ⟨_, rfl⟩
  have c0e : c0 blk = 8 := by rw [hc0']; exact if_pos rfl
  have c0o : ∀ b, b ≠ blk → c0 b = c b := fun b hb => by rw [hc0']; exact if_neg hb
  have hkne : k ≠ blk := fun h => by have := hp.ck; rw [h, hc0] at this; omega
  have hp0 : Bp H c0 k (six o t w n m l) (six (ps.map (·.1)) (ps.map (·.2)) (es.map We.sl) (es.map We.nv) (es.map mkV) (es.map lfV)) :=
    hp.move (G := No) Keep.refl (fun _ _ _ h => h) (fun b h1 h6 => c0o b fun he => by rw [he, hc0] at h1; omega) (by rw [c0o k hkne]; exact hp.ck) fun b hb => by
      by_cases he : b = blk
      · omega
      · rw [c0o b he] at hb; exact hp.cb b hb
  have hd0 : Dt H c0 ps es := hd.move (G := No) Keep.refl (fun _ _ h => h) fun b hb => c0o b fun he => by rw [he, hc0] at hb; omega
  have hne : ∀ e ∈ es, e.blk ≠ blk := fun e he h => by have := (hd.en e he).col; rw [h, hc0] at this; omega
  have hkn := hp.kn
  have hck := hp0.ck
  refine k_open (args := [.pointer (some ⟨k, 0, none⟩), .slice (some ⟨blk, 0, none⟩) bs.length bs.length, .int .i64 mk]) (E0 := [(0, .pointer (some ⟨k, 0, none⟩)), (1, .slice (some ⟨blk, 0, none⟩) bs.length bs.length), (2, .int .i64 mk)]) tbl25 Try.func25 rfl follows (by kernel_rfl) Try.ntmps25 rfl rfl ?_
  repeat' (first
    | (show EW _ _ _ _ _; first | refine ew_p (h := ?_) | refine ew_skip (h := ?_) | refine ew_ld (h := ?_) | (refine ew_fresh ?_; intro b hb; refine ew_nw hb (h := ?_); (try simp only [AHeap.push_next, AHeap.put_next] at hb)) | (refine ew_df (ht := ?_) (hf := ?_) <;> intro _) | refine ew_ar (h := ?_) | refine w_nil ?_ | refine w_nilD ?_)
    | (show EC _ _ _ _ _ _ _; first | refine k_seq ?_ | refine k_region ?_ | refine k_draw (h := ?_) | refine k_skip ?_ | refine k_ret ?_ | refine k_exit ?_ | refine k_block ?_ | refine k_true (h := ?_) | refine k_false (h := ?_))
    | (show EX _ (bodyA _ _ _) _ _ _; first | refine x_end0 (hq := ?_))
    | (show EX _ _ _ _ _; first | refine x_normal ?_ | refine x_ret ?_ | refine x_exit ?_ | refine x_same ?_ | refine x_other (h := ?_) | refine x_bnormal ?_ | refine x_bret ?_))
  have kk0 : Keep (fun b => c b ≠ 0 ∨ b = blk) H H := Keep.refl
  have co0 : ∀ b, b < H.next → b ≠ blk → c0 b = c b := fun b _ hb => c0o b hb
  have kk0 : Keep (fun b => c b ≠ 0 ∨ b = blk) H H := Keep.refl
  have co0 : ∀ b, b < H.next → b ≠ blk → c0 b = c b := fun b _ hb => c0o b hb
  have kk0 : Keep (fun b => c b ≠ 0 ∨ b = blk) H H := Keep.refl
  have co0 : ∀ b, b < H.next → b ≠ blk → c0 b = c b := fun b _ hb => c0o b hb
  obtain ⟨v3, Ha3, z3, q3, ap3, e3, k3, n3, c3, hc3, hz3, p3⟩ := hp0.app1 (P := Try.prog) (a := 3) (e := 29) (v := .slice (some ⟨blk, 0, none⟩) bs.length bs.length) (by decide) (by decide) T23e rfl (by simp [six]; omega)
  rw [six3, six3] at p3
  rw [show (six (ps.map (·.1)) (ps.map (·.2)) (es.map We.sl) (es.map We.nv) (es.map mkV) (es.map lfV) 3).length = es.length by simp [six]] at e3
  subst e3
  rw [← hb] at ap3
  refine ew_appX (hR := ap3) (hk := by (first | exact Mode.kept_seq rfl | (dsimp only [Mode.kept, Mode.logged, Mode.at]; (repeat' (first | exact (fun _ h => absurd h List.not_mem_nil) | (refine List.forall_mem_cons.2 ⟨?_, ?_⟩) | (refine .inl ?_; exact rfl) | (refine .inl ?_; dsimp only; decide))); done))) (h := ?_)
  have ra3 := k3.row hrow (by omega) (by show ¬ c0 k = 3; omega)
  repeat' (first
    | (show EW _ _ _ _ _; first | refine ew_p (h := ?_) | refine ew_skip (h := ?_) | refine ew_ld (h := ?_) | (refine ew_fresh ?_; intro b hb; refine ew_nw hb (h := ?_); (try simp only [AHeap.push_next, AHeap.put_next] at hb)) | (refine ew_df (ht := ?_) (hf := ?_) <;> intro _) | refine ew_ar (h := ?_) | refine w_nil ?_ | refine w_nilD ?_)
    | (show EC _ _ _ _ _ _ _; first | refine k_seq ?_ | refine k_region ?_ | refine k_draw (h := ?_) | refine k_skip ?_ | refine k_ret ?_ | refine k_exit ?_ | refine k_block ?_ | refine k_true (h := ?_) | refine k_false (h := ?_))
    | (show EX _ (bodyA _ _ _) _ _ _; first | refine x_end0 (hq := ?_))
    | (show EX _ _ _ _ _; first | refine x_normal ?_ | refine x_ret ?_ | refine x_exit ?_ | refine x_same ?_ | refine x_other (h := ?_) | refine x_bnormal ?_ | refine x_bret ?_))
  obtain ⟨Hb3, hHb3⟩ : ∃ X, X = Ha3.put k (.row ⟨bkC false o t (.slice z3 (es.length + 1) q3) n m l s, 61, 0, true⟩) := ⟨_, rfl⟩
  have kb3 : Keep (fun b => b = k) Ha3 Hb3 := by rw [hHb3]; exact Keep.put (F := fun b => b = k) Keep.refl fun _ => rfl
  refine ew_bk (c' := bkC false o t (.slice z3 (es.length + 1) q3) n m l s) (h := ?_)
  rw [← hHb3]
  have rb3 : Hb3.get k = some (.row ⟨bkC false o t (.slice z3 (es.length + 1) q3) n m l s, 61, 0, true⟩) := by rw [hHb3]; exact rdx
  have hck3 : c3 k = 9 := p3.ck
  have hp3 : Bp Hb3 c3 k (six o t (.slice z3 (es.length + 1) q3) n m l) (six (ps.map (·.1)) (ps.map (·.2)) ((es.map We.sl) ++ [.slice (some ⟨blk, 0, none⟩) bs.length bs.length]) (es.map We.nv) (es.map mkV) (es.map lfV)) := p3.keep kb3 fun b hb => .inr (by have hb' : b = k := hb; rw [hb', hck3]; omega)
  have nb3 := kb3.1
  have kab3 : Keep (fun b => c0 b = 3 ∨ b = k) H Hb3 := (k3.weak fun b _ h => .inl h).trans kb3 fun b _ h => .inr h
  have hd3 : Dt Hb3 c3 ps es := hd0.move kab3 (fun b hb h => by rcases h with h | h; exact absurd h (by omega); rw [h] at hb; omega) fun b hb => hc3 b (hp0.cb b (by omega))
  have ce3 : c3 blk = 8 := by rw [hc3 blk (by omega)]; exact c0e
  have gb3 := kab3.row hg (by omega) (by rintro (h | h) <;> omega)
  have kk3 : Keep (fun b => c b ≠ 0 ∨ b = blk) H Hb3 := kk0.trans kab3 fun b hb h => by
    by_cases he : b = blk
    · exact .inr he
    · refine .inl fun h0 => ?_
      rcases h with h | h
      · rw [co0 b hb he] at h; omega
      · rw [h] at h0; rw [c0o k hkne] at hck; omega
  have co3 : ∀ b, b < H.next → b ≠ blk → c3 b = c b := fun b hb he => by rw [hc3 b (by omega)]; exact co0 b hb he
  clear k3 p3 ap3 ra3 hHb3
  repeat' (first
    | (show EW _ _ _ _ _; first | refine ew_p (h := ?_) | refine ew_skip (h := ?_) | refine ew_ld (h := ?_) | (refine ew_fresh ?_; intro b hb; refine ew_nw hb (h := ?_); (try simp only [AHeap.push_next, AHeap.put_next] at hb)) | (refine ew_df (ht := ?_) (hf := ?_) <;> intro _) | refine ew_ar (h := ?_) | refine w_nil ?_ | refine w_nilD ?_)
    | (show EC _ _ _ _ _ _ _; first | refine k_seq ?_ | refine k_region ?_ | refine k_draw (h := ?_) | refine k_skip ?_ | refine k_ret ?_ | refine k_exit ?_ | refine k_block ?_ | refine k_true (h := ?_) | refine k_false (h := ?_))
    | (show EX _ (bodyA _ _ _) _ _ _; first | refine x_end0 (hq := ?_))
    | (show EX _ _ _ _ _; first | refine x_normal ?_ | refine x_ret ?_ | refine x_exit ?_ | refine x_same ?_ | refine x_other (h := ?_) | refine x_bnormal ?_ | refine x_bret ?_))
  obtain ⟨Hc, hHc⟩ : ∃ Hc, Hc = Hb3.push (.row ⟨[], 5, 0, true⟩) := ⟨_, rfl⟩
  have kc : Keep No Hb3 Hc := by rw [hHc]; exact kp
  have nc : Hc.next = Hb3.next + 1 := by rw [hHc]; simp
  have gc : Hc.get b = some (.row ⟨[], 5, 0, true⟩) := by rw [hHc]; exact rdx
  rw [← hHc]
  have bl : BR Hc (fun y => y = blk) (.slice (some ⟨blk, 0, none⟩) bs.length bs.length) bs := rd_row (kc.row0 gb3 (by omega)) rfl (by omega)
  obtain ⟨nv, H5c, a5c, o5c, k5c⟩ := app_own (O := fun y => y = b) (n := 0) (ls := []) (.inr ⟨⟨b, 0, none⟩, 0, ⟨[], 5, 0, true⟩, rfl, rfl, by show b < Hc.next; omega, gc, rfl, rfl, by simp, rfl, rfl, .inl rfl⟩) bl (by omega)
  simp only [Nat.zero_add, List.nil_append] at a5c o5c
  obtain ⟨znv, qnv, rfl⟩ := o5c.rd.slice
  have n5c := k5c.1
  have k35 : Keep No Hb3 H5c := kc.own k5c fun y hy => by have hy' : y = b := hy; omega
  refine ew_appX (hR := a5c) (hk := ?_) (h := ?_)
  · (dsimp only [Mode.kept, Mode.logged, Mode.at]; (repeat' (first | exact (fun _ h => absurd h List.not_mem_nil) | (refine List.forall_mem_cons.2 ⟨?_, ?_⟩) | (refine .inl ?_; exact rfl) | (refine .inl ?_; dsimp only; decide) | (refine .inr ?_; exact k35.cells (by simp only [aadd_block]; omega) id))))
  obtain ⟨c5c, hc5c⟩ : ∃ c5c, c5c = recol c3 Hb3 H5c 7 := ⟨_, rfl⟩
  have hp5c := hp3.recol k35 (fun _ h => h.elim) 7
  have hd5c := hd3.recol k35 (fun _ _ h => h) hp3.cb 7
  rw [← hc5c] at hp5c hd5c
  have rb5c := k35.row0 rb3 (by omega)
  have gb5c := k35.row0 gb3 (by omega)
  have hc5oc : ∀ y, y < Hb3.next → c5c y = c3 y := fun y hy => by rw [hc5c]; exact recol_old hy
  have ce5c : c5c blk = 8 := by rw [hc5oc blk (by omega)]; exact ce3
  have hck5c : c5c k = 9 := hp5c.ck
  have kk5c := kk3.after k35
  have co5c : ∀ y, y < H.next → y ≠ blk → c5c y = c y := fun y hy he => by rw [hc5oc y (by omega)]; exact co3 y hy he
  have nv5c : BR H5c (fun y => c5c y = 7) (.slice znv bs.length qnv) bs := by
    have h1 := o5c.rd
    unfold BR
    refine h1.weak fun y hy hf => ?_
    rw [hc5c]
    refine if_pos ⟨?_, hy⟩
    rcases hf with hf | hf
    · have hy1 : y = b := hf
      omega
    · have := hf.1; omega
  clear a5c o5c bl gc hHc
  repeat' (first
    | (show EW _ _ _ _ _; first | refine ew_p (h := ?_) | refine ew_skip (h := ?_) | refine ew_ld (h := ?_) | (refine ew_fresh ?_; intro b hb; refine ew_nw hb (h := ?_); (try simp only [AHeap.push_next, AHeap.put_next] at hb)) | (refine ew_df (ht := ?_) (hf := ?_) <;> intro _) | refine ew_ar (h := ?_) | refine w_nil ?_ | refine w_nilD ?_)
    | (show EC _ _ _ _ _ _ _; first | refine k_seq ?_ | refine k_region ?_ | refine k_draw (h := ?_) | refine k_skip ?_ | refine k_ret ?_ | refine k_exit ?_ | refine k_block ?_ | refine k_true (h := ?_) | refine k_false (h := ?_))
    | (show EX _ (bodyA _ _ _) _ _ _; first | refine x_end0 (hq := ?_))
    | (show EX _ _ _ _ _; first | refine x_normal ?_ | refine x_ret ?_ | refine x_exit ?_ | refine x_same ?_ | refine x_other (h := ?_) | refine x_bnormal ?_ | refine x_bret ?_))
  obtain ⟨v4, Ha4, z4, q4, ap4, e4, k4, n4, c4, hc4, hz4, p4⟩ := hp5c.app1 (P := Try.prog) (a := 4) (e := 29) (v := .slice znv bs.length qnv) (by decide) (by decide) T23f rfl (by simp [six]; omega)
  rw [six4, six4] at p4
  rw [show (six (ps.map (·.1)) (ps.map (·.2)) ((es.map We.sl) ++ [.slice (some ⟨blk, 0, none⟩) bs.length bs.length]) (es.map We.nv) (es.map mkV) (es.map lfV) 4).length = es.length by simp [six]] at e4
  subst e4
  rw [← hb] at ap4
  refine ew_appX (hR := ap4) (hk := by (first | exact Mode.kept_seq rfl | (dsimp only [Mode.kept, Mode.logged, Mode.at]; (repeat' (first | exact (fun _ h => absurd h List.not_mem_nil) | (refine List.forall_mem_cons.2 ⟨?_, ?_⟩) | (refine .inl ?_; exact rfl) | (refine .inl ?_; dsimp only; decide))); done))) (h := ?_)
  have ra4 := k4.row rb5c (by omega) (by show ¬ c5c k = 4; omega)
  repeat' (first
    | (show EW _ _ _ _ _; first | refine ew_p (h := ?_) | refine ew_skip (h := ?_) | refine ew_ld (h := ?_) | (refine ew_fresh ?_; intro b hb; refine ew_nw hb (h := ?_); (try simp only [AHeap.push_next, AHeap.put_next] at hb)) | (refine ew_df (ht := ?_) (hf := ?_) <;> intro _) | refine ew_ar (h := ?_) | refine w_nil ?_ | refine w_nilD ?_)
    | (show EC _ _ _ _ _ _ _; first | refine k_seq ?_ | refine k_region ?_ | refine k_draw (h := ?_) | refine k_skip ?_ | refine k_ret ?_ | refine k_exit ?_ | refine k_block ?_ | refine k_true (h := ?_) | refine k_false (h := ?_))
    | (show EX _ (bodyA _ _ _) _ _ _; first | refine x_end0 (hq := ?_))
    | (show EX _ _ _ _ _; first | refine x_normal ?_ | refine x_ret ?_ | refine x_exit ?_ | refine x_same ?_ | refine x_other (h := ?_) | refine x_bnormal ?_ | refine x_bret ?_))
  obtain ⟨Hb4, hHb4⟩ : ∃ X, X = Ha4.put k (.row ⟨bkC false o t (.slice z3 (es.length + 1) q3) (.slice z4 (es.length + 1) q4) m l s, 61, 0, true⟩) := ⟨_, rfl⟩
  have kb4 : Keep (fun b => b = k) Ha4 Hb4 := by rw [hHb4]; exact Keep.put (F := fun b => b = k) Keep.refl fun _ => rfl
  refine ew_bk (c' := bkC false o t (.slice z3 (es.length + 1) q3) (.slice z4 (es.length + 1) q4) m l s) (h := ?_)
  rw [← hHb4]
  have rb4 : Hb4.get k = some (.row ⟨bkC false o t (.slice z3 (es.length + 1) q3) (.slice z4 (es.length + 1) q4) m l s, 61, 0, true⟩) := by rw [hHb4]; exact rdx
  have hck4 : c4 k = 9 := p4.ck
  have hp4 : Bp Hb4 c4 k (six o t (.slice z3 (es.length + 1) q3) (.slice z4 (es.length + 1) q4) m l) (six (ps.map (·.1)) (ps.map (·.2)) ((es.map We.sl) ++ [.slice (some ⟨blk, 0, none⟩) bs.length bs.length]) ((es.map We.nv) ++ [.slice znv bs.length qnv]) (es.map mkV) (es.map lfV)) := p4.keep kb4 fun b hb => .inr (by have hb' : b = k := hb; rw [hb', hck4]; omega)
  have nb4 := kb4.1
  have kab4 : Keep (fun b => c5c b = 4 ∨ b = k) H5c Hb4 := (k4.weak fun b _ h => .inl h).trans kb4 fun b _ h => .inr h
  have hd4 : Dt Hb4 c4 ps es := hd5c.move kab4 (fun b hb h => by rcases h with h | h; exact absurd h (by omega); rw [h] at hb; omega) fun b hb => hc4 b (hp5c.cb b (by omega))
  have ce4 : c4 blk = 8 := by rw [hc4 blk (by omega)]; exact ce5c
  have gb4 := kab4.row gb5c (by omega) (by rintro (h | h) <;> omega)
  have kk4 : Keep (fun b => c b ≠ 0 ∨ b = blk) H Hb4 := kk5c.trans kab4 fun b hb h => by
    by_cases he : b = blk
    · exact .inr he
    · refine .inl fun h0 => ?_
      rcases h with h | h
      · rw [co5c b hb he] at h; omega
      · rw [h] at h0; rw [c0o k hkne] at hck; omega
  have co4 : ∀ b, b < H.next → b ≠ blk → c4 b = c b := fun b hb he => by rw [hc4 b (by omega)]; exact co5c b hb he
  have nv4 := br_move nv5c kab4 (fun b hb h => by rcases h with h | h; exact absurd h (by omega); rw [h] at hb; omega) fun b hb => (hc4 b (hp5c.cb b (by omega))).trans hb
  clear k4 p4 ap4 ra4 hHb4
  repeat' (first
    | (show EW _ _ _ _ _; first | refine ew_p (h := ?_) | refine ew_skip (h := ?_) | refine ew_ld (h := ?_) | (refine ew_fresh ?_; intro b hb; refine ew_nw hb (h := ?_); (try simp only [AHeap.push_next, AHeap.put_next] at hb)) | (refine ew_df (ht := ?_) (hf := ?_) <;> intro _) | refine ew_ar (h := ?_) | refine w_nil ?_ | refine w_nilD ?_)
    | (show EC _ _ _ _ _ _ _; first | refine k_seq ?_ | refine k_region ?_ | refine k_draw (h := ?_) | refine k_skip ?_ | refine k_ret ?_ | refine k_exit ?_ | refine k_block ?_ | refine k_true (h := ?_) | refine k_false (h := ?_))
    | (show EX _ (bodyA _ _ _) _ _ _; first | refine x_end0 (hq := ?_))
    | (show EX _ _ _ _ _; first | refine x_normal ?_ | refine x_ret ?_ | refine x_exit ?_ | refine x_same ?_ | refine x_other (h := ?_) | refine x_bnormal ?_ | refine x_bret ?_))
  obtain ⟨v5, Ha5, z5, q5, ap5, e5, k5, n5, c5, hc5, hz5, p5⟩ := hp4.app1 (P := Try.prog) (a := 5) (e := 3) (v := .int .i64 mk) (by decide) (by decide) T42e rfl (by simp [six]; omega)
  rw [six5, six5] at p5
  rw [show (six (ps.map (·.1)) (ps.map (·.2)) ((es.map We.sl) ++ [.slice (some ⟨blk, 0, none⟩) bs.length bs.length]) ((es.map We.nv) ++ [.slice znv bs.length qnv]) (es.map mkV) (es.map lfV) 5).length = es.length by simp [six]] at e5
  subst e5
  rw [← hb] at ap5
  refine ew_appX (hR := ap5) (hk := by (first | exact Mode.kept_seq rfl | (dsimp only [Mode.kept, Mode.logged, Mode.at]; (repeat' (first | exact (fun _ h => absurd h List.not_mem_nil) | (refine List.forall_mem_cons.2 ⟨?_, ?_⟩) | (refine .inl ?_; exact rfl) | (refine .inl ?_; dsimp only; decide))); done))) (h := ?_)
  have ra5 := k5.row rb4 (by omega) (by show ¬ c4 k = 5; omega)
  repeat' (first
    | (show EW _ _ _ _ _; first | refine ew_p (h := ?_) | refine ew_skip (h := ?_) | refine ew_ld (h := ?_) | (refine ew_fresh ?_; intro b hb; refine ew_nw hb (h := ?_); (try simp only [AHeap.push_next, AHeap.put_next] at hb)) | (refine ew_df (ht := ?_) (hf := ?_) <;> intro _) | refine ew_ar (h := ?_) | refine w_nil ?_ | refine w_nilD ?_)
    | (show EC _ _ _ _ _ _ _; first | refine k_seq ?_ | refine k_region ?_ | refine k_draw (h := ?_) | refine k_skip ?_ | refine k_ret ?_ | refine k_exit ?_ | refine k_block ?_ | refine k_true (h := ?_) | refine k_false (h := ?_))
    | (show EX _ (bodyA _ _ _) _ _ _; first | refine x_end0 (hq := ?_))
    | (show EX _ _ _ _ _; first | refine x_normal ?_ | refine x_ret ?_ | refine x_exit ?_ | refine x_same ?_ | refine x_other (h := ?_) | refine x_bnormal ?_ | refine x_bret ?_))
  obtain ⟨Hb5, hHb5⟩ : ∃ X, X = Ha5.put k (.row ⟨bkC false o t (.slice z3 (es.length + 1) q3) (.slice z4 (es.length + 1) q4) (.slice z5 (es.length + 1) q5) l s, 61, 0, true⟩) := ⟨_, rfl⟩
  have kb5 : Keep (fun b => b = k) Ha5 Hb5 := by rw [hHb5]; exact Keep.put (F := fun b => b = k) Keep.refl fun _ => rfl
  refine ew_bk (c' := bkC false o t (.slice z3 (es.length + 1) q3) (.slice z4 (es.length + 1) q4) (.slice z5 (es.length + 1) q5) l s) (h := ?_)
  rw [← hHb5]
  have rb5 : Hb5.get k = some (.row ⟨bkC false o t (.slice z3 (es.length + 1) q3) (.slice z4 (es.length + 1) q4) (.slice z5 (es.length + 1) q5) l s, 61, 0, true⟩) := by rw [hHb5]; exact rdx
  have hck5 : c5 k = 9 := p5.ck
  have hp5 : Bp Hb5 c5 k (six o t (.slice z3 (es.length + 1) q3) (.slice z4 (es.length + 1) q4) (.slice z5 (es.length + 1) q5) l) (six (ps.map (·.1)) (ps.map (·.2)) ((es.map We.sl) ++ [.slice (some ⟨blk, 0, none⟩) bs.length bs.length]) ((es.map We.nv) ++ [.slice znv bs.length qnv]) ((es.map mkV) ++ [.int .i64 mk]) (es.map lfV)) := p5.keep kb5 fun b hb => .inr (by have hb' : b = k := hb; rw [hb', hck5]; omega)
  have nb5 := kb5.1
  have kab5 : Keep (fun b => c4 b = 5 ∨ b = k) Hb4 Hb5 := (k5.weak fun b _ h => .inl h).trans kb5 fun b _ h => .inr h
  have hd5 : Dt Hb5 c5 ps es := hd4.move kab5 (fun b hb h => by rcases h with h | h; exact absurd h (by omega); rw [h] at hb; omega) fun b hb => hc5 b (hp4.cb b (by omega))
  have ce5 : c5 blk = 8 := by rw [hc5 blk (by omega)]; exact ce4
  have gb5 := kab5.row gb4 (by omega) (by rintro (h | h) <;> omega)
  have kk5 : Keep (fun b => c b ≠ 0 ∨ b = blk) H Hb5 := kk4.trans kab5 fun b hb h => by
    by_cases he : b = blk
    · exact .inr he
    · refine .inl fun h0 => ?_
      rcases h with h | h
      · rw [co4 b hb he] at h; omega
      · rw [h] at h0; rw [c0o k hkne] at hck; omega
  have co5 : ∀ b, b < H.next → b ≠ blk → c5 b = c b := fun b hb he => by rw [hc5 b (by omega)]; exact co4 b hb he
  have nv5 := br_move nv4 kab5 (fun b hb h => by rcases h with h | h; exact absurd h (by omega); rw [h] at hb; omega) fun b hb => (hc5 b (hp4.cb b (by omega))).trans hb
  clear k5 p5 ap5 ra5 hHb5
  repeat' (first
    | (show EW _ _ _ _ _; first | refine ew_p (h := ?_) | refine ew_skip (h := ?_) | refine ew_ld (h := ?_) | (refine ew_fresh ?_; intro b hb; refine ew_nw hb (h := ?_); (try simp only [AHeap.push_next, AHeap.put_next] at hb)) | (refine ew_df (ht := ?_) (hf := ?_) <;> intro _) | refine ew_ar (h := ?_) | refine w_nil ?_ | refine w_nilD ?_)
    | (show EC _ _ _ _ _ _ _; first | refine k_seq ?_ | refine k_region ?_ | refine k_draw (h := ?_) | refine k_skip ?_ | refine k_ret ?_ | refine k_exit ?_ | refine k_block ?_ | refine k_true (h := ?_) | refine k_false (h := ?_))
    | (show EX _ (bodyA _ _ _) _ _ _; first | refine x_end0 (hq := ?_))
    | (show EX _ _ _ _ _; first | refine x_normal ?_ | refine x_ret ?_ | refine x_exit ?_ | refine x_same ?_ | refine x_other (h := ?_) | refine x_bnormal ?_ | refine x_bret ?_))
  · obtain ⟨Hs, hHs⟩ : ∃ X, X = Hb5.put k (.row ⟨bkC false o t (.slice z3 (es.length + 1) q3) (.slice z4 (es.length + 1) q4) (.slice z5 (es.length + 1) q5) l (s + 1), 61, 0, true⟩) := ⟨_, rfl⟩
    have ks : Keep (fun b => b = k) Hb5 Hs := by rw [hHs]; exact Keep.put (F := fun b => b = k) Keep.refl fun _ => rfl
    refine ew_bk (c' := bkC false o t (.slice z3 (es.length + 1) q3) (.slice z4 (es.length + 1) q4) (.slice z5 (es.length + 1) q5) l (s + 1)) (h := ?_)
    rw [← hHs]
    have rs : Hs.get k = some (.row ⟨bkC false o t (.slice z3 (es.length + 1) q3) (.slice z4 (es.length + 1) q4) (.slice z5 (es.length + 1) q5) l (s + 1), 61, 0, true⟩) := by rw [hHs]; exact rdx
    have hps := hp5.keep ks fun b hb => .inr (by have hb' : b = k := hb; rw [hb', hck5]; omega)
    have hds : Dt Hs c5 ps es := hd5.move ks (fun b hb h => by have h' : b = k := h; rw [h'] at hb; omega) fun _ _ => rfl
    have gbs := ks.row gb5 (by omega) (by omega)
    have ns := ks.1
    have nvs := br_move nv5 ks (fun b hb h => by have h' : b = k := h; rw [h'] at hb; omega) (c' := c5) fun _ h => h
    have kks : Keep (fun b => c b ≠ 0 ∨ b = blk) H Hs := kk5.trans ks fun b hb h => by
      have h' : b = k := h
      rw [h']
      refine .inl fun h0 => ?_
      rw [c0o k hkne] at hck; omega
    have hcks := hck5
    clear hHs
    repeat' (first
    | (show EW _ _ _ _ _; first | refine ew_p (h := ?_) | refine ew_skip (h := ?_) | refine ew_ld (h := ?_) | (refine ew_fresh ?_; intro b hb; refine ew_nw hb (h := ?_); (try simp only [AHeap.push_next, AHeap.put_next] at hb)) | (refine ew_df (ht := ?_) (hf := ?_) <;> intro _) | refine ew_ar (h := ?_) | refine w_nil ?_ | refine w_nilD ?_)
    | (show EC _ _ _ _ _ _ _; first | refine k_seq ?_ | refine k_region ?_ | refine k_draw (h := ?_) | refine k_skip ?_ | refine k_ret ?_ | refine k_exit ?_ | refine k_block ?_ | refine k_true (h := ?_) | refine k_false (h := ?_))
    | (show EX _ (bodyA _ _ _) _ _ _; first | refine x_end0 (hq := ?_))
    | (show EX _ _ _ _ _; first | refine x_normal ?_ | refine x_ret ?_ | refine x_exit ?_ | refine x_same ?_ | refine x_other (h := ?_) | refine x_bnormal ?_ | refine x_bret ?_))
    obtain ⟨v6, Ha6, z6, q6, ap6, e6, k6, n6, c6, hc6, hz6, p6⟩ := hps.app1 (P := Try.prog) (a := 6) (e := 3) (v := .int .i64 (1 + s / 2 % 8 + 1)) (by decide) (by decide) T42f rfl (by simp [six]; omega)
    replace p6 := p6.six6
    rw [show (six (ps.map (·.1)) (ps.map (·.2)) ((es.map We.sl) ++ [.slice (some ⟨blk, 0, none⟩) bs.length bs.length]) ((es.map We.nv) ++ [.slice znv bs.length qnv]) ((es.map mkV) ++ [.int .i64 mk]) (es.map lfV) 6).length = es.length by simp [six]] at e6
    subst e6
    rw [← hb] at ap6
    refine ew_appX (hR := ap6) (hk := by (first | exact Mode.kept_seq rfl | (dsimp only [Mode.kept, Mode.logged, Mode.at]; (repeat' (first | exact (fun _ h => absurd h List.not_mem_nil) | (refine List.forall_mem_cons.2 ⟨?_, ?_⟩) | (refine .inl ?_; exact rfl) | (refine .inl ?_; dsimp only; decide))); done))) (h := ?_)
    have ra6 := k6.row rs (by omega) (by show ¬ c5 k = 6; omega)
    repeat' (first
    | (show EW _ _ _ _ _; first | refine ew_p (h := ?_) | refine ew_skip (h := ?_) | refine ew_ld (h := ?_) | (refine ew_fresh ?_; intro b hb; refine ew_nw hb (h := ?_); (try simp only [AHeap.push_next, AHeap.put_next] at hb)) | (refine ew_df (ht := ?_) (hf := ?_) <;> intro _) | refine ew_ar (h := ?_) | refine w_nil ?_ | refine w_nilD ?_)
    | (show EC _ _ _ _ _ _ _; first | refine k_seq ?_ | refine k_region ?_ | refine k_draw (h := ?_) | refine k_skip ?_ | refine k_ret ?_ | refine k_exit ?_ | refine k_block ?_ | refine k_true (h := ?_) | refine k_false (h := ?_))
    | (show EX _ (bodyA _ _ _) _ _ _; first | refine x_end0 (hq := ?_))
    | (show EX _ _ _ _ _; first | refine x_normal ?_ | refine x_ret ?_ | refine x_exit ?_ | refine x_same ?_ | refine x_other (h := ?_) | refine x_bnormal ?_ | refine x_bret ?_))
    obtain ⟨Hb6, hHb6⟩ : ∃ X, X = Ha6.put k (.row ⟨bkC false o t (.slice z3 (es.length + 1) q3) (.slice z4 (es.length + 1) q4) (.slice z5 (es.length + 1) q5) (.slice z6 (es.length + 1) q6) (s + 1), 61, 0, true⟩) := ⟨_, rfl⟩
    have kb6 : Keep (fun b => b = k) Ha6 Hb6 := by rw [hHb6]; exact Keep.put (F := fun b => b = k) Keep.refl fun _ => rfl
    refine ew_bk (c' := bkC false o t (.slice z3 (es.length + 1) q3) (.slice z4 (es.length + 1) q4) (.slice z5 (es.length + 1) q5) (.slice z6 (es.length + 1) q6) (s + 1)) (h := ?_)
    rw [← hHb6]
    have rb6 : Hb6.get k = some (.row ⟨bkC false o t (.slice z3 (es.length + 1) q3) (.slice z4 (es.length + 1) q4) (.slice z5 (es.length + 1) q5) (.slice z6 (es.length + 1) q6) (s + 1), 61, 0, true⟩) := by rw [hHb6]; exact rdx
    have hck6 : c6 k = 9 := p6.ck
    have hp6 : Bp Hb6 c6 k (six o t (.slice z3 (es.length + 1) q3) (.slice z4 (es.length + 1) q4) (.slice z5 (es.length + 1) q5) (.slice z6 (es.length + 1) q6)) (six (ps.map (·.1)) (ps.map (·.2)) ((es.map We.sl) ++ [.slice (some ⟨blk, 0, none⟩) bs.length bs.length]) ((es.map We.nv) ++ [.slice znv bs.length qnv]) ((es.map mkV) ++ [.int .i64 mk]) ((es.map lfV) ++ [.int .i64 (1 + s / 2 % 8 + 1)])) := p6.keep kb6 fun b hb => .inr (by have hb' : b = k := hb; rw [hb', hck6]; omega)
    have nb6 := kb6.1
    have kab6 : Keep (fun b => c5 b = 6 ∨ b = k) Hs Hb6 := (k6.weak fun b _ h => .inl h).trans kb6 fun b _ h => .inr h
    have hd6 : Dt Hb6 c6 ps es := hds.move kab6 (fun b hb h => by rcases h with h | h; exact absurd h (by omega); rw [h] at hb; omega) fun b hb => hc6 b (hps.cb b (by omega))
    have ce6 : c6 blk = 8 := by rw [hc6 blk (by omega)]; exact ce5
    have gb6 := kab6.row gbs (by omega) (by rintro (h | h) <;> omega)
    have kk6 : Keep (fun b => c b ≠ 0 ∨ b = blk) H Hb6 := kks.trans kab6 fun b hb h => by
      by_cases he : b = blk
      · exact .inr he
      · refine .inl fun h0 => ?_
        rcases h with h | h
        · rw [co5 b hb he] at h; omega
        · rw [h] at h0; rw [c0o k hkne] at hck; omega
    have co6 : ∀ b, b < H.next → b ≠ blk → c6 b = c b := fun b hb he => by rw [hc6 b (by omega)]; exact co5 b hb he
    have nv6 := br_move nvs kab6 (fun b hb h => by rcases h with h | h; exact absurd h (by omega); rw [h] at hb; omega) fun b hb => (hc6 b (hps.cb b (by omega))).trans hb
    clear k6 p6 ap6 ra6 hHb6
    repeat' (first
    | (show EW _ _ _ _ _; first | refine ew_p (h := ?_) | refine ew_skip (h := ?_) | refine ew_ld (h := ?_) | (refine ew_fresh ?_; intro b hb; refine ew_nw hb (h := ?_); (try simp only [AHeap.push_next, AHeap.put_next] at hb)) | (refine ew_df (ht := ?_) (hf := ?_) <;> intro _) | refine ew_ar (h := ?_) | refine w_nil ?_ | refine w_nilD ?_)
    | (show EC _ _ _ _ _ _ _; first | refine k_seq ?_ | refine k_region ?_ | refine k_draw (h := ?_) | refine k_skip ?_ | refine k_ret ?_ | refine k_exit ?_ | refine k_block ?_ | refine k_true (h := ?_) | refine k_false (h := ?_))
    | (show EX _ (bodyA _ _ _) _ _ _; first | refine x_end0 (hq := ?_))
    | (show EX _ _ _ _ _; first | refine x_normal ?_ | refine x_ret ?_ | refine x_exit ?_ | refine x_same ?_ | refine x_other (h := ?_) | refine x_bnormal ?_ | refine x_bret ?_))
    have dtf : Dt Hb6 c6 ps (es ++ [⟨blk, bs, .slice znv bs.length qnv, mk, 1 + s / 2 % 8 + 1⟩]) := by
      refine ⟨hd6.pr, fun e he => ?_, ?_⟩
      · rcases List.mem_append.1 he with he | he
        · exact hd6.en e he
        · obtain rfl := List.mem_singleton.1 he
          exact ⟨gb6, by show blk < _; omega, ce6, hlen, nv6, hm0, hm1, by show 1 ≤ 1 + s / 2 % 8 + 1; omega, by show 1 + s / 2 % 8 + 1 ≤ 9; omega⟩
      · rw [List.map_append, List.nodup_append]
        refine ⟨hd6.nd, by simp, fun a ha b hb => ?_⟩
        obtain ⟨e, he, rfl⟩ := List.mem_map.1 ha
        simp only [List.map_cons, List.map_nil, List.mem_singleton] at hb
        rw [hb]
        exact hne e he
    (first | (refine' ew_callS (hc := cr_call) (hR := ?_) (h := ?_); rotate_left 1) | (refine' ew_call (hc := cr_call) (hR := ?_) (h := ?_); rotate_left 1))
    · refine turn_calls (ps := ps) (es := es ++ [⟨blk, bs, .slice znv bs.length qnv, mk, 1 + s / 2 % 8 + 1⟩]) rb6 ?_ dtf (by simp; omega)
      simp only [List.map_append, List.map_cons, List.map_nil]
      exact hp6
    rintro _ H7 ⟨rfl, c7, o7, t7, w7, n7, m7, l7, ps7, es7, rw7, bp7, dt7, k7, col7, len7⟩
    repeat' (first
    | (show EW _ _ _ _ _; first | refine ew_p (h := ?_) | refine ew_skip (h := ?_) | refine ew_ld (h := ?_) | (refine ew_fresh ?_; intro b hb; refine ew_nw hb (h := ?_); (try simp only [AHeap.push_next, AHeap.put_next] at hb)) | (refine ew_df (ht := ?_) (hf := ?_) <;> intro _) | refine ew_ar (h := ?_) | refine w_nil ?_ | refine w_nilD ?_)
    | (show EC _ _ _ _ _ _ _; first | refine k_seq ?_ | refine k_region ?_ | refine k_draw (h := ?_) | refine k_skip ?_ | refine k_ret ?_ | refine k_exit ?_ | refine k_block ?_ | refine k_true (h := ?_) | refine k_false (h := ?_))
    | (show EX _ (bodyA _ _ _) _ _ _; first | refine x_end0 (hq := ?_))
    | (show EX _ _ _ _ _; first | refine x_normal ?_ | refine x_ret ?_ | refine x_exit ?_ | refine x_same ?_ | refine x_other (h := ?_) | refine x_bnormal ?_ | refine x_bret ?_))
    simp only [List.length_append, List.length_singleton] at len7
    refine ⟨rfl, c7, ⟨⟨o7, t7, w7, n7, m7, l7, _, ps7, es7, rw7, bp7, dt7, by omega, by omega, by omega⟩⟩, kk6.trans k7 fun b hb h => ?_, fun b hb he => ?_⟩
    · by_cases he : b = blk
      · exact .inr he
      · refine .inl fun h0 => h ?_
        rw [co6 b hb he]
        exact h0
    · rw [col7 b (by omega), co6 b hb he]
  · obtain ⟨Hs, hHs⟩ : ∃ X, X = Hb5.put k (.row ⟨bkC false o t (.slice z3 (es.length + 1) q3) (.slice z4 (es.length + 1) q4) (.slice z5 (es.length + 1) q5) l (s + 1), 61, 0, true⟩) := ⟨_, rfl⟩
    have ks : Keep (fun b => b = k) Hb5 Hs := by rw [hHs]; exact Keep.put (F := fun b => b = k) Keep.refl fun _ => rfl
    refine ew_bk (c' := bkC false o t (.slice z3 (es.length + 1) q3) (.slice z4 (es.length + 1) q4) (.slice z5 (es.length + 1) q5) l (s + 1)) (h := ?_)
    rw [← hHs]
    have rs : Hs.get k = some (.row ⟨bkC false o t (.slice z3 (es.length + 1) q3) (.slice z4 (es.length + 1) q4) (.slice z5 (es.length + 1) q5) l (s + 1), 61, 0, true⟩) := by rw [hHs]; exact rdx
    have hps := hp5.keep ks fun b hb => .inr (by have hb' : b = k := hb; rw [hb', hck5]; omega)
    have hds : Dt Hs c5 ps es := hd5.move ks (fun b hb h => by have h' : b = k := h; rw [h'] at hb; omega) fun _ _ => rfl
    have gbs := ks.row gb5 (by omega) (by omega)
    have ns := ks.1
    have nvs := br_move nv5 ks (fun b hb h => by have h' : b = k := h; rw [h'] at hb; omega) (c' := c5) fun _ h => h
    have kks : Keep (fun b => c b ≠ 0 ∨ b = blk) H Hs := kk5.trans ks fun b hb h => by
      have h' : b = k := h
      rw [h']
      refine .inl fun h0 => ?_
      rw [c0o k hkne] at hck; omega
    have hcks := hck5
    clear hHs
    repeat' (first
    | (show EW _ _ _ _ _; first | refine ew_p (h := ?_) | refine ew_skip (h := ?_) | refine ew_ld (h := ?_) | (refine ew_fresh ?_; intro b hb; refine ew_nw hb (h := ?_); (try simp only [AHeap.push_next, AHeap.put_next] at hb)) | (refine ew_df (ht := ?_) (hf := ?_) <;> intro _) | refine ew_ar (h := ?_) | refine w_nil ?_ | refine w_nilD ?_)
    | (show EC _ _ _ _ _ _ _; first | refine k_seq ?_ | refine k_region ?_ | refine k_draw (h := ?_) | refine k_skip ?_ | refine k_ret ?_ | refine k_exit ?_ | refine k_block ?_ | refine k_true (h := ?_) | refine k_false (h := ?_))
    | (show EX _ (bodyA _ _ _) _ _ _; first | refine x_end0 (hq := ?_))
    | (show EX _ _ _ _ _; first | refine x_normal ?_ | refine x_ret ?_ | refine x_exit ?_ | refine x_same ?_ | refine x_other (h := ?_) | refine x_bnormal ?_ | refine x_bret ?_))
    obtain ⟨v6, Ha6, z6, q6, ap6, e6, k6, n6, c6, hc6, hz6, p6⟩ := hps.app1 (P := Try.prog) (a := 6) (e := 3) (v := .int .i64 (0 + 1)) (by decide) (by decide) T42f rfl (by simp [six]; omega)
    replace p6 := p6.six6
    rw [show (six (ps.map (·.1)) (ps.map (·.2)) ((es.map We.sl) ++ [.slice (some ⟨blk, 0, none⟩) bs.length bs.length]) ((es.map We.nv) ++ [.slice znv bs.length qnv]) ((es.map mkV) ++ [.int .i64 mk]) (es.map lfV) 6).length = es.length by simp [six]] at e6
    subst e6
    rw [← hb] at ap6
    refine ew_appX (hR := ap6) (hk := by (first | exact Mode.kept_seq rfl | (dsimp only [Mode.kept, Mode.logged, Mode.at]; (repeat' (first | exact (fun _ h => absurd h List.not_mem_nil) | (refine List.forall_mem_cons.2 ⟨?_, ?_⟩) | (refine .inl ?_; exact rfl) | (refine .inl ?_; dsimp only; decide))); done))) (h := ?_)
    have ra6 := k6.row rs (by omega) (by show ¬ c5 k = 6; omega)
    repeat' (first
    | (show EW _ _ _ _ _; first | refine ew_p (h := ?_) | refine ew_skip (h := ?_) | refine ew_ld (h := ?_) | (refine ew_fresh ?_; intro b hb; refine ew_nw hb (h := ?_); (try simp only [AHeap.push_next, AHeap.put_next] at hb)) | (refine ew_df (ht := ?_) (hf := ?_) <;> intro _) | refine ew_ar (h := ?_) | refine w_nil ?_ | refine w_nilD ?_)
    | (show EC _ _ _ _ _ _ _; first | refine k_seq ?_ | refine k_region ?_ | refine k_draw (h := ?_) | refine k_skip ?_ | refine k_ret ?_ | refine k_exit ?_ | refine k_block ?_ | refine k_true (h := ?_) | refine k_false (h := ?_))
    | (show EX _ (bodyA _ _ _) _ _ _; first | refine x_end0 (hq := ?_))
    | (show EX _ _ _ _ _; first | refine x_normal ?_ | refine x_ret ?_ | refine x_exit ?_ | refine x_same ?_ | refine x_other (h := ?_) | refine x_bnormal ?_ | refine x_bret ?_))
    obtain ⟨Hb6, hHb6⟩ : ∃ X, X = Ha6.put k (.row ⟨bkC false o t (.slice z3 (es.length + 1) q3) (.slice z4 (es.length + 1) q4) (.slice z5 (es.length + 1) q5) (.slice z6 (es.length + 1) q6) (s + 1), 61, 0, true⟩) := ⟨_, rfl⟩
    have kb6 : Keep (fun b => b = k) Ha6 Hb6 := by rw [hHb6]; exact Keep.put (F := fun b => b = k) Keep.refl fun _ => rfl
    refine ew_bk (c' := bkC false o t (.slice z3 (es.length + 1) q3) (.slice z4 (es.length + 1) q4) (.slice z5 (es.length + 1) q5) (.slice z6 (es.length + 1) q6) (s + 1)) (h := ?_)
    rw [← hHb6]
    have rb6 : Hb6.get k = some (.row ⟨bkC false o t (.slice z3 (es.length + 1) q3) (.slice z4 (es.length + 1) q4) (.slice z5 (es.length + 1) q5) (.slice z6 (es.length + 1) q6) (s + 1), 61, 0, true⟩) := by rw [hHb6]; exact rdx
    have hck6 : c6 k = 9 := p6.ck
    have hp6 : Bp Hb6 c6 k (six o t (.slice z3 (es.length + 1) q3) (.slice z4 (es.length + 1) q4) (.slice z5 (es.length + 1) q5) (.slice z6 (es.length + 1) q6)) (six (ps.map (·.1)) (ps.map (·.2)) ((es.map We.sl) ++ [.slice (some ⟨blk, 0, none⟩) bs.length bs.length]) ((es.map We.nv) ++ [.slice znv bs.length qnv]) ((es.map mkV) ++ [.int .i64 mk]) ((es.map lfV) ++ [.int .i64 (0 + 1)])) := p6.keep kb6 fun b hb => .inr (by have hb' : b = k := hb; rw [hb', hck6]; omega)
    have nb6 := kb6.1
    have kab6 : Keep (fun b => c5 b = 6 ∨ b = k) Hs Hb6 := (k6.weak fun b _ h => .inl h).trans kb6 fun b _ h => .inr h
    have hd6 : Dt Hb6 c6 ps es := hds.move kab6 (fun b hb h => by rcases h with h | h; exact absurd h (by omega); rw [h] at hb; omega) fun b hb => hc6 b (hps.cb b (by omega))
    have ce6 : c6 blk = 8 := by rw [hc6 blk (by omega)]; exact ce5
    have gb6 := kab6.row gbs (by omega) (by rintro (h | h) <;> omega)
    have kk6 : Keep (fun b => c b ≠ 0 ∨ b = blk) H Hb6 := kks.trans kab6 fun b hb h => by
      by_cases he : b = blk
      · exact .inr he
      · refine .inl fun h0 => ?_
        rcases h with h | h
        · rw [co5 b hb he] at h; omega
        · rw [h] at h0; rw [c0o k hkne] at hck; omega
    have co6 : ∀ b, b < H.next → b ≠ blk → c6 b = c b := fun b hb he => by rw [hc6 b (by omega)]; exact co5 b hb he
    have nv6 := br_move nvs kab6 (fun b hb h => by rcases h with h | h; exact absurd h (by omega); rw [h] at hb; omega) fun b hb => (hc6 b (hps.cb b (by omega))).trans hb
    clear k6 p6 ap6 ra6 hHb6
    repeat' (first
    | (show EW _ _ _ _ _; first | refine ew_p (h := ?_) | refine ew_skip (h := ?_) | refine ew_ld (h := ?_) | (refine ew_fresh ?_; intro b hb; refine ew_nw hb (h := ?_); (try simp only [AHeap.push_next, AHeap.put_next] at hb)) | (refine ew_df (ht := ?_) (hf := ?_) <;> intro _) | refine ew_ar (h := ?_) | refine w_nil ?_ | refine w_nilD ?_)
    | (show EC _ _ _ _ _ _ _; first | refine k_seq ?_ | refine k_region ?_ | refine k_draw (h := ?_) | refine k_skip ?_ | refine k_ret ?_ | refine k_exit ?_ | refine k_block ?_ | refine k_true (h := ?_) | refine k_false (h := ?_))
    | (show EX _ (bodyA _ _ _) _ _ _; first | refine x_end0 (hq := ?_))
    | (show EX _ _ _ _ _; first | refine x_normal ?_ | refine x_ret ?_ | refine x_exit ?_ | refine x_same ?_ | refine x_other (h := ?_) | refine x_bnormal ?_ | refine x_bret ?_))
    have dtf : Dt Hb6 c6 ps (es ++ [⟨blk, bs, .slice znv bs.length qnv, mk, 0 + 1⟩]) := by
      refine ⟨hd6.pr, fun e he => ?_, ?_⟩
      · rcases List.mem_append.1 he with he | he
        · exact hd6.en e he
        · obtain rfl := List.mem_singleton.1 he
          exact ⟨gb6, by show blk < _; omega, ce6, hlen, nv6, hm0, hm1, by show 1 ≤ 0 + 1; omega, by show 0 + 1 ≤ 9; omega⟩
      · rw [List.map_append, List.nodup_append]
        refine ⟨hd6.nd, by simp, fun a ha b hb => ?_⟩
        obtain ⟨e, he, rfl⟩ := List.mem_map.1 ha
        simp only [List.map_cons, List.map_nil, List.mem_singleton] at hb
        rw [hb]
        exact hne e he
    (first | (refine' ew_callS (hc := cr_call) (hR := ?_) (h := ?_); rotate_left 1) | (refine' ew_call (hc := cr_call) (hR := ?_) (h := ?_); rotate_left 1))
    · refine turn_calls (ps := ps) (es := es ++ [⟨blk, bs, .slice znv bs.length qnv, mk, 0 + 1⟩]) rb6 ?_ dtf (by simp; omega)
      simp only [List.map_append, List.map_cons, List.map_nil]
      exact hp6
    rintro _ H7 ⟨rfl, c7, o7, t7, w7, n7, m7, l7, ps7, es7, rw7, bp7, dt7, k7, col7, len7⟩
    repeat' (first
    | (show EW _ _ _ _ _; first | refine ew_p (h := ?_) | refine ew_skip (h := ?_) | refine ew_ld (h := ?_) | (refine ew_fresh ?_; intro b hb; refine ew_nw hb (h := ?_); (try simp only [AHeap.push_next, AHeap.put_next] at hb)) | (refine ew_df (ht := ?_) (hf := ?_) <;> intro _) | refine ew_ar (h := ?_) | refine w_nil ?_ | refine w_nilD ?_)
    | (show EC _ _ _ _ _ _ _; first | refine k_seq ?_ | refine k_region ?_ | refine k_draw (h := ?_) | refine k_skip ?_ | refine k_ret ?_ | refine k_exit ?_ | refine k_block ?_ | refine k_true (h := ?_) | refine k_false (h := ?_))
    | (show EX _ (bodyA _ _ _) _ _ _; first | refine x_end0 (hq := ?_))
    | (show EX _ _ _ _ _; first | refine x_normal ?_ | refine x_ret ?_ | refine x_exit ?_ | refine x_same ?_ | refine x_other (h := ?_) | refine x_bnormal ?_ | refine x_bret ?_))
    simp only [List.length_append, List.length_singleton] at len7
    refine ⟨rfl, c7, ⟨⟨o7, t7, w7, n7, m7, l7, _, ps7, es7, rw7, bp7, dt7, by omega, by omega, by omega⟩⟩, kk6.trans k7 fun b hb h => ?_, fun b hb he => ?_⟩
    · by_cases he : b = blk
      · exact .inr he
      · refine .inl fun h0 => h ?_
        rw [co6 b hb he]
        exact h0
    · rw [col7 b (by omega), co6 b hb he]

end Go.Ae

/- strings.Builder: what is written into it. No condition. -/
import Derived.Test.YtmibkoadjehdaaaGreatDoorKy17
set_option linter.unusedVariables false
set_option linter.unusedSimpArgs false
set_option linter.unusedSimpArgs false
set_option linter.unusedVariables false
set_option linter.unnecessarySimpa false
set_option maxRecDepth 100000
set_option maxHeartbeats 800000
namespace Go.Ae
open Go.Proofs
attribute [local irreducible] awC wpSeq wpS nRes aw aE acall ACalls szT isAggT zeroT byT elemSz fieldOff Program.underlying appendA copyA thenA inBlockA bodyA AHeap.push AHeap.put AHeap.cellsAt AHeap.setCells resV loadA intBin EW EC EX Nr Nc Er Cr Agree
def tbl120 : Tbl := []
def tbl77 : Tbl := []
def tbl91 : Tbl := []
def tbl81 : Tbl := [(1, [0, 1, 2, 3, 5, 6, 7, 8, 9, 4, 10, 11], [0, 1, 3, 7, 15, 0, 32, 96, 224, 480, 1023, 2047])]
theorem cc_calls {H : AHeap} {b : Nat} {a sl : Value} (hg : H.get b = some (.row ⟨[a, sl], 172, 0, true⟩)) (ha : a = .pointer none ∨ a = .pointer (some ⟨b, 0, none⟩)) :
    ACalls Tryz.prog 120 #[.pointer (some ⟨b, 0, none⟩)] H fun v H' => v = .tuple #[] ∧ H' = H.put b (.row ⟨[.pointer (some ⟨b, 0, none⟩), sl], 172, 0, true⟩) := by
  refine k_open (args := [.pointer (some ⟨b, 0, none⟩)]) (E0 := [(0, .pointer (some ⟨b, 0, none⟩))]) tbl120 Tryz.func120 rfl follows (by kernel_rfl) Tryz.ntmps120 rfl rfl ?_
  have hrow : H.rowAt ⟨b, 0, none⟩ = some ⟨[a, sl], 172, 0, true⟩ := by simp [AHeap.rowAt, hg]
  rcases ha with rfl | rfl
  · repeat' (first
    | (show EW _ _ _ _ _; first | refine ew_n (hn := r_nil2) (h := ?_) | refine ew_conv (hn := rc_uptr Tryz.underlying170 Tryz.underlying305 sz172 (hr := hrow) (hl := by simp)) (h := ?_) | refine ew_conv (hn := rc_uptr' Tryz.underlying305 Tryz.underlying170 sz172 (hr := hrow) (hl := by simp)) (h := ?_) | refine ew_e (he := er_noesc (hn := ne156)) (hk := Mode.kept_seq rfl) (h := ?_) | refine ew_p (h := ?_) | refine ew_ld (h := ?_) | refine ew_ci (h := ?_) | refine ew_conv (hn := r_conv_br (h := by first | assumption | (apply Rd.keep0; (focus assumption); exact kp))) (h := ?_) | refine ew_st (h := ?_) | (refine ew_df (ht := ?_) (hf := ?_) <;> intro _) | refine w_nil ?_)
    | (show EC _ _ _ _ _ _ _; first | refine k_seq ?_ | refine k_region ?_ | refine k_skip ?_ | refine k_ret ?_ | refine k_exit ?_ | refine k_block ?_ | refine k_true (h := ?_) | refine k_false (h := ?_))
    | (show EX _ (bodyA _ _ _) _ _ _; first | refine x_end0 (hq := ?_))
    | (show EX _ _ _ _ _; first | refine x_normal ?_ | refine x_ret ?_ | refine x_exit ?_ | refine x_same ?_ | refine x_other (h := ?_) | refine x_bnormal ?_ | refine x_bret ?_))
    exact ⟨rfl, rfl⟩
  · repeat' (first
    | (show EW _ _ _ _ _; first | refine ew_n (hn := r_neA (b := true) (he := by simp [eqA, eqlNil, ptrEq, sz172])) (h := ?_) | refine ew_p (h := ?_) | refine ew_ld (h := ?_) | refine ew_ci (h := ?_) | refine ew_conv (hn := r_conv_br (h := by first | assumption | (apply Rd.keep0; (focus assumption); exact kp))) (h := ?_) | refine ew_st (h := ?_) | (refine ew_df (ht := ?_) (hf := ?_) <;> intro _) | refine w_nil ?_)
    | (show EC _ _ _ _ _ _ _; first | refine k_seq ?_ | refine k_region ?_ | refine k_skip ?_ | refine k_ret ?_ | refine k_exit ?_ | refine k_block ?_ | refine k_true (h := ?_) | refine k_false (h := ?_))
    | (show EX _ (bodyA _ _ _) _ _ _; first | refine x_end0 (hq := ?_))
    | (show EX _ _ _ _ _; first | refine x_normal ?_ | refine x_ret ?_ | refine x_exit ?_ | refine x_same ?_ | refine x_other (h := ?_) | refine x_bnormal ?_ | refine x_bret ?_))
    exact ⟨rfl, (put_self hg).symm⟩
theorem Opn.cap1 {H : AHeap} {F : Blks} {e k n : Nat} {sv : Value} {cells : List Value} (h : Opn H F e k sv n cells) (hn : n ≤ openCap) : ∃ z c, sv = .slice z n c ∧ n ≤ c := by
  rcases h with ⟨rfl, rfl, _⟩ | ⟨ad, c, r, rfl, _, _, _, _, _, hle, _, _, ho⟩
  · exact ⟨_, _, rfl, Nat.le_refl _⟩
  · refine ⟨_, _, rfl, ?_⟩
    rcases ho with rfl | ⟨rfl, h⟩
    · exact Nat.le_refl _
    · omega
theorem T108s : AppT Tryz.prog 108 9 5 0 0 := ⟨Tryz.underlying108, ⟨_, Tryz.underlying9, rfl⟩, sz5, by5, ⟨_, ze5⟩⟩
theorem T108b : AppT Tryz.prog 108 108 5 0 0 := ⟨Tryz.underlying108, ⟨_, Tryz.underlying108, rfl⟩, sz5, by5, ⟨_, ze5⟩⟩
theorem src_str {H : AHeap} (s : List UInt8) : srcA H (0 + 1) (.string (strB s)) = some (s.length, bytesV s) := by
  simp only [srcA, Nat.zero_add, if_true, strB_size]
  simp [strB, bytesV]
theorem src_byte {H : AHeap} {b : Nat} {x : UInt8} {e : TypeId} (h : H.get b = some (.row ⟨[.int .u8 (x.toNat : Int)], e, 0, true⟩)) : srcA H (0 + 1) (.slice (some ⟨b, 0, none⟩) 1 1) = some ([x].length, bytesV [x]) := by
  have : H.cellsAt ⟨b, 0, none⟩ 1 = some [.int .u8 (x.toNat : Int)] := cellsAt_of h rfl (by simp) rfl
  simp [srcA, this, bytesV]
/-- append(bytes of one's own, bytes...) -/
theorem app_bu {H : AHeap} {X : Blks} {u : TypeId} {sl x : Value} {bs s : List UInt8} (T : AppT Tryz.prog 108 u 5 0 0) (ho : Opn H X 5 1 sl bs.length (bytesV bs)) (hz : bs = [] → sl = .slice none 0 0) (hx : srcA H (0 + 1) x = some (s.length, bytesV s)) (hL : bs.length + s.length ≤ 140737488355328) :
    ∃ sl' H', appendA Tryz.prog H 108 u sl x = some (sl', H') ∧ Opn H' (Or X (New H H')) 5 1 sl' (bs ++ s).length (bytesV (bs ++ s)) ∧ (bs ++ s = [] → sl' = .slice none 0 0) ∧ Keep X H H' := by
  by_cases h0 : s = []
  · subst h0
    obtain ⟨z, c, rfl, hc⟩ := ho.cap1 (by unfold openCap; omega)
    exact ⟨_, _, app_none T hx hc, by simpa using ho.weak fun b hb => .inl hb, by simpa using hz, Keep.refl⟩
  · obtain ⟨sl', H', h1, h2, h3, _⟩ := Opn.snoc T ho hx (by simpa using h0) (by simp) (by simp [bytesV, Value.oneCell']) (by omega)
    exact ⟨sl', H', h1, by rw [bytesV_append, List.length_append]; exact h2, by simp [h0], h3⟩
/-- A builder in row b that holds these bytes; its memory is of X. -/
def Bu (H : AHeap) (b : Nat) (X : Blks) (bs : List UInt8) : Prop :=
  ∃ a sl, H.get b = some (.row ⟨[a, sl], 172, 0, true⟩) ∧ (a = .pointer none ∨ a = .pointer (some ⟨b, 0, none⟩)) ∧ Opn H X 5 1 sl bs.length (bytesV bs) ∧ (bs = [] → sl = .slice none 0 0) ∧ b < H.next ∧ ¬ X b
def BuF (b : Nat) (X : Blks) : Blks := fun i => i = b ∨ X i
theorem Bu.new {H : AHeap} {b : Nat} {X : Blks} (hb : b = H.next) (hX : ¬ X b) : Bu (H.push (.row ⟨[.pointer none, .slice none 0 0], 172, 0, true⟩)) b X [] :=
  ⟨_, _, by rw [AHeap.push_get, if_pos hb], .inl rfl, Opn.nil, fun _ => rfl, by rw [AHeap.push_next]; omega, hX⟩
theorem Bu.keep {H H' : AHeap} {b : Nat} {X G : Blks} {bs : List UInt8} (h : Bu H b X bs) (hk : Keep G H H') (hb : ¬ G b) (hd : ∀ i, i < H.next → X i → ¬ G i) : Bu H' b X bs := by
  obtain ⟨a, sl, h1, h2, h3, h4, h5, h6⟩ := h
  exact ⟨a, sl, hk.get h1 h5 hb, h2, h3.keep hk fun i hi hX _ => hd i hi hX, h4, Nat.lt_of_lt_of_le h5 hk.1, h6⟩
theorem Bu.keep0 {H H' : AHeap} {b : Nat} {X : Blks} {bs : List UInt8} (h : Bu H b X bs) (hk : Keep No H H') : Bu H' b X bs := h.keep hk id fun _ _ _ h => h
/-- What is common to the writes: the row of the builder is written behind an append. -/
theorem bu_store {H H2 : AHeap} {b : Nat} {X : Blks} {sl' : Value} {bs : List UInt8} (hb : b < H.next) (hXb : ¬ X b) (hX : ∀ i, H.next ≤ i → X i) (hk : Keep (BuF b X) H H2)
    (h2 : Opn H2 (Or X (New H H2)) 5 1 sl' bs.length (bytesV bs)) (h3 : bs = [] → sl' = .slice none 0 0) : Bu (H2.put b (.row ⟨[.pointer (some ⟨b, 0, none⟩), sl'], 172, 0, true⟩)) b X bs ∧ Keep (BuF b X) H (H2.put b (.row ⟨[.pointer (some ⟨b, 0, none⟩), sl'], 172, 0, true⟩)) := by
  have hw : ∀ i, Or X (New H H2) i → X i := fun i h => h.elim id fun h => hX i h.1
  refine ⟨⟨_, _, by rw [AHeap.put_get, if_pos rfl], .inr rfl, (h2.weak hw).keep (G := fun i => i = b) (Keep.refl.put fun _ => rfl) (fun i _ hXi _ he => hXb (he ▸ hXi)), h3, by rw [AHeap.put_next]; have := hk.1; omega, hXb⟩, hk.put fun _ => .inl rfl⟩
theorem BuF.trans {H H1 H2 : AHeap} {b : Nat} {X : Blks} (h : Keep (BuF b X) H H1) (h' : Keep (BuF b X) H1 H2) : Keep (BuF b X) H H2 := h.trans h' fun _ _ h => h
/-- b.WriteString(s) -/
theorem ws_calls {H : AHeap} {q : Nat} {X : Blks} {bs : List UInt8} (s : List UInt8) (hb : Bu H q X bs) (hX : ∀ i, H.next ≤ i → X i) (hL : bs.length + s.length ≤ 140737488355328) :
    ACalls Tryz.prog 77 #[.pointer (some ⟨q, 0, none⟩), .string (strB s)] H fun v H' => v = .tuple #[.int .i64 (s.length : Int), .nilIface] ∧ Bu H' q X (bs ++ s) ∧ Keep (BuF q X) H H' := by
  obtain ⟨a, sl, h1, h2, h3, h4, h5, h6⟩ := hb
  refine k_open (args := [.pointer (some ⟨q, 0, none⟩), .string (strB s)]) (E0 := [(0, .pointer (some ⟨q, 0, none⟩)), (1, .string (strB s))]) tbl77 Tryz.func77 rfl follows (by kernel_rfl) Tryz.ntmps77 rfl rfl ?_
  repeat' (first
    | (show EW _ _ _ _ _; first | refine ew_p (h := ?_) | refine ew_ld (h := ?_) | refine ew_st (h := ?_) | refine w_nil ?_)
    | (show EC _ _ _ _ _ _ _; first | refine k_seq ?_ | refine k_region ?_ | refine k_skip ?_ | refine k_ret ?_ | refine k_exit ?_ | refine k_block ?_ | refine k_true (h := ?_) | refine k_false (h := ?_))
    | (show EX _ (bodyA _ _ _) _ _ _; first | refine x_end2 (hq := ?_))
    | (show EX _ _ _ _ _; first | refine x_normal ?_ | refine x_ret ?_ | refine x_exit ?_ | refine x_same ?_ | refine x_other (h := ?_) | refine x_bnormal ?_ | refine x_bret ?_))
  refine ew_callS (hc := cr_call) (hR := cc_calls h1 h2) (h := ?_)
  rintro _ _ ⟨rfl, rfl⟩
  generalize hH1 : H.put q (.row ⟨[.pointer (some ⟨q, 0, none⟩), sl], 172, 0, true⟩) = H1
  have k1 : Keep (fun i => i = q) H H1 := by subst hH1; exact Keep.refl.put fun _ => rfl
  have n1 : H1.next = H.next := by subst hH1; exact AHeap.put_next ..
  have g1 : H1.get q = some (.row ⟨[.pointer (some ⟨q, 0, none⟩), sl], 172, 0, true⟩) := by subst hH1; rw [AHeap.put_get, if_pos rfl]
  have o1 : Opn H1 X 5 1 sl bs.length (bytesV bs) := h3.keep k1 fun i _ hXi _ he => h6 (he ▸ hXi)
  clear hH1
  repeat' (first
    | (show EW _ _ _ _ _; first | refine ew_p (h := ?_) | refine ew_ld (h := ?_) | refine ew_st (h := ?_) | refine w_nil ?_)
    | (show EC _ _ _ _ _ _ _; first | refine k_seq ?_ | refine k_region ?_ | refine k_skip ?_ | refine k_ret ?_ | refine k_exit ?_ | refine k_block ?_ | refine k_true (h := ?_) | refine k_false (h := ?_))
    | (show EX _ (bodyA _ _ _) _ _ _; first | refine x_end2 (hq := ?_))
    | (show EX _ _ _ _ _; first | refine x_normal ?_ | refine x_ret ?_ | refine x_exit ?_ | refine x_same ?_ | refine x_other (h := ?_) | refine x_bnormal ?_ | refine x_bret ?_))
  refine ew_appS (R := fun v H2 => Opn H2 (Or X (New H1 H2)) 5 1 v (bs ++ s).length (bytesV (bs ++ s)) ∧ (bs ++ s = [] → v = .slice none 0 0) ∧ Keep X H1 H2) (hR := app_bu T108s o1 h4 (src_str s) hL) (h := ?_)
  rintro sl' H2 ⟨a1, a2, a3⟩
  obtain ⟨z, c, rfl, _⟩ := a1.cap1 (by simp only [List.length_append]; unfold openCap; omega)
  have g2 : H2.get q = some (.row ⟨[.pointer (some ⟨q, 0, none⟩), sl], 172, 0, true⟩) := a3.get g1 (by omega) h6
  obtain ⟨c1, c2⟩ := bu_store (H := H1) (by omega) h6 (fun i hi => hX i (by omega)) (a3.weak fun _ _ h => .inr h) a1 a2
  repeat' (first
    | (show EW _ _ _ _ _; first | refine ew_p (h := ?_) | refine ew_ld (h := ?_) | refine ew_st (h := ?_) | refine w_nil ?_)
    | (show EC _ _ _ _ _ _ _; first | refine k_seq ?_ | refine k_region ?_ | refine k_skip ?_ | refine k_ret ?_ | refine k_exit ?_ | refine k_block ?_ | refine k_true (h := ?_) | refine k_false (h := ?_))
    | (show EX _ (bodyA _ _ _) _ _ _; first | refine x_end2 (hq := ?_))
    | (show EX _ _ _ _ _; first | refine x_normal ?_ | refine x_ret ?_ | refine x_exit ?_ | refine x_same ?_ | refine x_other (h := ?_) | refine x_bnormal ?_ | refine x_bret ?_))
  refine ⟨by rw [strB_size], c1, BuF.trans (k1.weak fun _ _ h => .inl h) c2⟩
/-- b.WriteByte(x) -/
theorem wb_calls {H : AHeap} {q : Nat} {X : Blks} {bs : List UInt8} (x : UInt8) (hb : Bu H q X bs) (hX : ∀ i, H.next ≤ i → X i) (hL : bs.length + 1 ≤ 140737488355328) :
    ACalls Tryz.prog 91 #[.pointer (some ⟨q, 0, none⟩), .int .u8 (x.toNat : Int)] H fun v H' => v = .nilIface ∧ Bu H' q X (bs ++ [x]) ∧ Keep (BuF q X) H H' := by
  obtain ⟨a, sl, h1, h2, h3, h4, h5, h6⟩ := hb
  refine k_open (args := [.pointer (some ⟨q, 0, none⟩), .int .u8 (x.toNat : Int)]) (E0 := [(0, .pointer (some ⟨q, 0, none⟩)), (1, .int .u8 (x.toNat : Int))]) tbl91 Tryz.func91 rfl follows (by kernel_rfl) Tryz.ntmps91 rfl rfl ?_
  repeat' (first
    | (show EW _ _ _ _ _; first | refine ew_p (h := ?_) | refine ew_ld (h := ?_) | (refine ew_fresh ?_; intro b hb; refine ew_nw hb (h := ?_); (try simp only [AHeap.push_next, AHeap.put_next] at hb)) | refine ew_st (h := ?_) | refine w_nil ?_)
    | (show EC _ _ _ _ _ _ _; first | refine k_seq ?_ | refine k_region ?_ | refine k_skip ?_ | refine k_ret ?_ | refine k_exit ?_ | refine k_block ?_ | refine k_true (h := ?_) | refine k_false (h := ?_))
    | (show EX _ (bodyA _ _ _) _ _ _; first | refine x_end1 (hq := ?_))
    | (show EX _ _ _ _ _; first | refine x_normal ?_ | refine x_ret ?_ | refine x_exit ?_ | refine x_same ?_ | refine x_other (h := ?_) | refine x_bnormal ?_ | refine x_bret ?_))
  refine ew_callS (hc := cr_call) (hR := cc_calls h1 h2) (h := ?_)
  rintro _ _ ⟨rfl, rfl⟩
  generalize hH1 : H.put q (.row ⟨[.pointer (some ⟨q, 0, none⟩), sl], 172, 0, true⟩) = H1
  have k1 : Keep (fun i => i = q) H H1 := by subst hH1; exact Keep.refl.put fun _ => rfl
  have n1 : H1.next = H.next := by subst hH1; exact AHeap.put_next ..
  have g1 : H1.get q = some (.row ⟨[.pointer (some ⟨q, 0, none⟩), sl], 172, 0, true⟩) := by subst hH1; rw [AHeap.put_get, if_pos rfl]
  have o1 : Opn H1 X 5 1 sl bs.length (bytesV bs) := h3.keep k1 fun i _ hXi _ he => h6 (he ▸ hXi)
  clear hH1
  repeat' (first
    | (show EW _ _ _ _ _; first | refine ew_p (h := ?_) | refine ew_ld (h := ?_) | (refine ew_fresh ?_; intro b hb; refine ew_nw hb (h := ?_); (try simp only [AHeap.push_next, AHeap.put_next] at hb)) | refine ew_st (h := ?_) | refine w_nil ?_)
    | (show EC _ _ _ _ _ _ _; first | refine k_seq ?_ | refine k_region ?_ | refine k_skip ?_ | refine k_ret ?_ | refine k_exit ?_ | refine k_block ?_ | refine k_true (h := ?_) | refine k_false (h := ?_))
    | (show EX _ (bodyA _ _ _) _ _ _; first | refine x_end1 (hq := ?_))
    | (show EX _ _ _ _ _; first | refine x_normal ?_ | refine x_ret ?_ | refine x_exit ?_ | refine x_same ?_ | refine x_other (h := ?_) | refine x_bnormal ?_ | refine x_bret ?_))
  generalize hHp : H1.push (.row ⟨[.int .u8 (x.toNat : Int)], 5, 0, true⟩) = Hp
  have kp : Keep No H1 Hp := by subst hHp; exact Keep.refl.push
  have np : Hp.next = H1.next + 1 := by subst hHp; exact AHeap.push_next ..
  have gp : Hp.get b = some (.row ⟨[.int .u8 (x.toNat : Int)], 5, 0, true⟩) := by subst hHp; rw [AHeap.push_get, if_pos hb]
  have op := o1.keep0 kp
  have g2 : Hp.get q = _ := kp.get0 g1 (by omega)
  clear hHp
  refine ew_appS (R := fun v H2 => Opn H2 (Or X (New Hp H2)) 5 1 v (bs ++ [x]).length (bytesV (bs ++ [x])) ∧ (bs ++ [x] = [] → v = .slice none 0 0) ∧ Keep X Hp H2) (hR := app_bu T108b op h4 (src_byte gp) hL) (h := ?_)
  rintro sl' H2 ⟨a1, a2, a3⟩
  obtain ⟨z, c, rfl, _⟩ := a1.cap1 (by simp only [List.length_append, List.length_cons, List.length_nil]; unfold openCap; omega)
  have g3 : H2.get q = some (.row ⟨[.pointer (some ⟨q, 0, none⟩), sl], 172, 0, true⟩) := a3.get g2 (by omega) h6
  obtain ⟨c1, c2⟩ := bu_store (H := Hp) (by omega) h6 (fun i hi => hX i (by omega)) (a3.weak fun _ _ h => .inr h) a1 a2
  repeat' (first
    | (show EW _ _ _ _ _; first | refine ew_p (h := ?_) | refine ew_ld (h := ?_) | (refine ew_fresh ?_; intro b hb; refine ew_nw hb (h := ?_); (try simp only [AHeap.push_next, AHeap.put_next] at hb)) | refine ew_st (h := ?_) | refine w_nil ?_)
    | (show EC _ _ _ _ _ _ _; first | refine k_seq ?_ | refine k_region ?_ | refine k_skip ?_ | refine k_ret ?_ | refine k_exit ?_ | refine k_block ?_ | refine k_true (h := ?_) | refine k_false (h := ?_))
    | (show EX _ (bodyA _ _ _) _ _ _; first | refine x_end1 (hq := ?_))
    | (show EX _ _ _ _ _; first | refine x_normal ?_ | refine x_ret ?_ | refine x_exit ?_ | refine x_same ?_ | refine x_other (h := ?_) | refine x_bnormal ?_ | refine x_bret ?_))
  exact ⟨rfl, c1, BuF.trans (k1.weak fun _ _ h => .inl h) (BuF.trans kp.no c2)⟩
theorem ew_ek {P : Program} {N : Nat} {m m' : Mode} {E : Env} {H H' : AHeap} {v : Value} {d' : Option Nat} {op : Op} {ty : TypeId} {p : String} {af : Array Edge} {g : Option (Nat × Bool)} (hm : m.head = some (⟨d', op, ty, p, af, g⟩, m') := by exact rfl) (hw : wantE m.ops E g = some true := by exact rfl)
    (hd : bltO d' N = true := by exact rfl) (he : Er P N E H ⟨d', op, ty, p, af, g⟩ v H') (hk : m.kept H' := by (first | exact Mode.kept_seq rfl | (dsimp only [Mode.kept, Mode.logged, Mode.at]; (repeat' (first | exact (fun _ h => absurd h List.not_mem_nil) | (refine List.forall_mem_cons.2 ⟨?_, ?_⟩) | (refine .inl ?_; exact rfl) | (refine .inl ?_; dsimp only; decide))); done))) (h : EW P N m' (putO d' v E) H') : EW P N m E H := ew_e hm hw hd he hk h
theorem ew_e0 {P : Program} {N : Nat} {m m' : Mode} {E : Env} {H : AHeap} {v : Value} {d' : Option Nat} {op : Op} {ty : TypeId} {p : String} {af : Array Edge} {g : Option (Nat × Bool)} (hm : m.head = some (⟨d', op, ty, p, af, g⟩, m') := by exact rfl) (hw : wantE m.ops E g = some true := by exact rfl)
    (hd : bltO d' N = true := by exact rfl) (he : Er P N E H ⟨d', op, ty, p, af, g⟩ v H) (hk : m.kept H := by first | exact Mode.kept_seq rfl | (dsimp only [Mode.kept, Mode.logged, Mode.at]; (repeat' (first | exact (fun _ h => absurd h List.not_mem_nil) | (refine List.forall_mem_cons.2 ⟨?_, ?_⟩) | (refine .inl ?_; exact rfl) | (refine .inr ?_; exact rfl))); done)) (h : EW P N m' (putO d' v E) H) : EW P N m E H := ew_e hm hw hd he hk h
/-- b.String() -/
theorem st_calls {H : AHeap} {q : Nat} {X : Blks} {bs : List UInt8} (hb : Bu H q X bs) (hL : bs.length ≤ 140737488355328) :
    ACalls Tryz.prog 81 #[.pointer (some ⟨q, 0, none⟩)] H fun v H' => v = .string (strB bs) ∧ Keep X H H' := by
  obtain ⟨a, sl, h1, h2, h3, h4, h5, h6⟩ := hb
  refine k_open (args := [.pointer (some ⟨q, 0, none⟩)]) (E0 := [(0, .pointer (some ⟨q, 0, none⟩))]) tbl81 Tryz.func81 rfl follows (by kernel_rfl) Tryz.ntmps81 rfl rfl ?_
  by_cases h0 : bs = []
  · have e1 := h4 h0
    subst h0 e1
    repeat' (first
    | (show EW _ _ _ _ _; first | refine ew_e0 (he := er_sdata0) (h := ?_) | refine ew_ek (he := er_ustr0) (h := ?_) | refine ew_p (h := ?_) | refine ew_ld (h := ?_) | refine w_nil ?_ | refine w_nilD ?_)
    | (show EC _ _ _ _ _ _ _; first | refine k_seq ?_ | refine k_region ?_ | refine k_draw (h := ?_) | refine k_skip ?_ | refine k_ret ?_ | refine k_exit ?_ | refine k_block ?_ | refine k_true (h := ?_) | refine k_false (h := ?_))
    | (show EX _ (bodyA _ _ _) _ _ _; first | refine x_end1 (hq := ?_))
    | (show EX _ _ _ _ _; first | refine x_normal ?_ | refine x_ret ?_ | refine x_exit ?_ | refine x_same ?_ | refine x_other (h := ?_) | refine x_bnormal ?_ | refine x_bret ?_))
    exact ⟨rfl, Keep.refl⟩
  · obtain ⟨ad, c, rc, vr, rfl, c1, c2, c3, c4, c5, c6, c7⟩ := h3.at_row (by simpa using h0)
    rw [Nat.mul_one] at c5 c6 c7
    have hlen : bs.length ≠ 0 := by simpa using h0
    have hc : c ≠ 0 := by rcases c7 with h | h <;> omega
    have hcells : H.cellsAt ad bs.length = some (bytesV bs) := cellsAt_of c3 c4 c5 c6
    have hrow : H.rowAt ad = some ⟨rc, 5, vr, true⟩ := by simp [AHeap.rowAt, c3, c4]
    repeat' (first
    | (show EW _ _ _ _ _; first | refine ew_e0 (he := er_sdata (h0 := ⟨hlen, hc⟩)) (h := ?_) | refine ew_ek (he := er_ustr (hn := rfl) (h0 := h0) (hr := hrow) (he := ⟨rfl, rfl⟩) (hlt := by omega) (hb := hcells)) (h := ?_) | refine ew_p (h := ?_) | refine ew_ld (h := ?_) | refine w_nil ?_ | refine w_nilD ?_)
    | (show EC _ _ _ _ _ _ _; first | refine k_seq ?_ | refine k_region ?_ | refine k_draw (h := ?_) | refine k_skip ?_ | refine k_ret ?_ | refine k_exit ?_ | refine k_block ?_ | refine k_true (h := ?_) | refine k_false (h := ?_))
    | (show EX _ (bodyA _ _ _) _ _ _; first | refine x_end1 (hq := ?_))
    | (show EX _ _ _ _ _; first | refine x_normal ?_ | refine x_ret ?_ | refine x_exit ?_ | refine x_same ?_ | refine x_other (h := ?_) | refine x_bnormal ?_ | refine x_bret ?_))
    exact ⟨rfl, Keep.refl.put fun _ => c1⟩
end Go.Ae

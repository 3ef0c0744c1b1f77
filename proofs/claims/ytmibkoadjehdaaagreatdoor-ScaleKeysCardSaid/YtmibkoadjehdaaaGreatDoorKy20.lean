/- Texts that are laid out byte by byte: quoted (scale), plain, wordy, joined (expr). No condition. -/
import Derived.Test.YtmibkoadjehdaaaGreatDoorKy18
import Derived.Test.YtmibkoadjehdaaaGreatDoorKy19
set_option linter.unusedVariables false
set_option linter.unusedSimpArgs false
set_option linter.unusedSimpArgs false
set_option linter.unusedVariables false
set_option linter.unnecessarySimpa false
set_option maxRecDepth 100000
set_option maxHeartbeats 400000
namespace Go.Ae
open Go.Proofs
attribute [local irreducible] awC wpSeq wpS nRes aw aE acall ACalls szT isAggT zeroT byT elemSz fieldOff Program.underlying appendA copyA thenA inBlockA bodyA AHeap.push AHeap.put AHeap.cellsAt AHeap.setCells resV loadA intBin EW EC EX Nr Nc Er Cr Agree
def tbl103 : Tbl := []
def tbl94 : Tbl := []
def tbl90 : Tbl := []
def tbl45 : Tbl := []
theorem row_byte {H : AHeap} {r i : Nat} {s : List UInt8} {e : TypeId} {rw' : Bool} (hg : H.get r = some (.row ⟨bytesV s, e, 0, rw'⟩)) (hi : i < s.length) : H.cellsAt (aadd ⟨r, 0, none⟩ ((i : Int).toNat * 1)) 1 = some [.int .u8 (s[i].toNat : Int)] := by
  rw [Int.toNat_natCast, Nat.mul_one]
  refine cellsAt_of hg rfl (by simp; omega) ?_
  simp only [aadd, Nat.zero_add]
  rw [List.drop_eq_getElem_cons (by simpa using hi)]
  simp [bytesV]
def hexD (n : Nat) : UInt8 := if n < 10 then UInt8.ofNat (48 + n) else UInt8.ofNat (87 + n)
/-- A byte as a text's form has it. -/
def qByte (c : UInt8) : List UInt8 :=
  if c.toNat = 34 ∨ c.toNat = 92 then [92, c] else if c.toNat = 10 then [92, 110] else if c.toNat = 9 then [92, 116] else if 32 ≤ c.toNat ∧ c.toNat ≤ 126 then [c] else [92, 120, hexD (c.toNat / 16), hexD (c.toNat % 16)]
theorem qByte_len (c : UInt8) : (qByte c).length ≤ 4 := by unfold qByte; split <;> (try split) <;> (try split) <;> (try split) <;> simp
def quoteB (s : List UInt8) : List UInt8 := [34] ++ s.flatMap qByte ++ [34]
theorem flat_len {f : UInt8 → List UInt8} {k : Nat} (h : ∀ c, (f c).length ≤ k) : ∀ s : List UInt8, (s.flatMap f).length ≤ k * s.length
  | [] => by simp
  | c :: s => by
    have := flat_len h s
    have := h c
    simp only [List.flatMap_cons, List.length_append, List.length_cons, Nat.mul_add, Nat.mul_one]
    omega
theorem flat_take {f : UInt8 → List UInt8} {s : List UInt8} {i : Nat} (hi : i < s.length) : (s.take (i + 1)).flatMap f = (s.take i).flatMap f ++ f s[i] := by
  rw [List.take_succ_eq_append_getElem hi, List.flatMap_append]
  simp
theorem hex_get {n : Nat} (hn : n < 16) : ([48, 49, 50, 51, 52, 53, 54, 55, 56, 57, 97, 98, 99, 100, 101, 102] : List UInt8)[n]? = some (hexD n) := by
  have : ∀ m : Fin 16, ([48, 49, 50, 51, 52, 53, 54, 55, 56, 57, 97, 98, 99, 100, 101, 102] : List UInt8)[m.val]? = some (hexD m.val) := by decide
  exact this ⟨n, hn⟩
theorem shr4 (c : UInt8) : (c.toNat : Int).fdiv (2 ^ min (Int.toNat 4) IntKind.u8.bits) = ((c.toNat / 16 : Nat) : Int) := by
  have : (2 : Int) ^ min (Int.toNat 4) IntKind.u8.bits = 16 := by decide
  rw [this, Int.fdiv_eq_ediv_of_nonneg _ (by omega)]
  omega
theorem and15 (c : UInt8) : intBin .and .u8 (c.toNat : Int) 15 = some (.int .u8 ((c.toNat % 16 : Nat) : Int)) := by
  have : ∀ c : UInt8, intBin .and .u8 (c.toNat : Int) 15 = some (.int .u8 ((c.toNat % 16 : Nat) : Int)) := by
    intro c
    have key : ∀ m : Fin 256, intBin .and .u8 (m.val : Int) 15 = some (.int .u8 ((m.val % 16 : Nat) : Int)) := by
      intro m
      simp only [intBin]
      have h8 : ∀ m : Fin 256, (BitVec.ofInt 8 (m.val : Int) &&& BitVec.ofInt 8 15).toNat = m.val % 16 := by decide
      have h9 : IntKind.u8.bits = 8 := rfl
      rw [h9, h8 m, wrap8_in]
      · omega
      · omega
    exact key ⟨c.toNat, c.toNat_lt⟩
  exact this c
theorem Bu.weak {H : AHeap} {b : Nat} {X Y : Blks} {bs : List UInt8} (h : Bu H b X bs) (hw : ∀ i, i < H.next → X i → Y i) (hY : ¬ Y b) : Bu H b Y bs := by
  obtain ⟨a, sl, h1, h2, h3, h4, h5, h6⟩ := h
  refine ⟨a, sl, h1, h2, ?_, h4, h5, hY⟩
  rcases h3 with h | ⟨ad, c, r, e, hF, hlt, rest⟩
  · exact .inl h
  · exact .inr ⟨ad, c, r, e, hw _ hlt hF, hlt, rest⟩
def QX (q r : Nat) : Blks := fun i => q < i ∧ i ≠ r
def QI (H0 : AHeap) (q r k : Nat) (s : List UInt8) (n : Nat) (E : Env) (H : AHeap) : Prop :=
  Keep No H0 H ∧ H0.next ≤ q ∧ q < r ∧ r < H.next ∧ H.get r = some (.row ⟨bytesV s, 5, 0, true⟩) ∧ ∃ i : Nat, n + i = s.length ∧ Bu H q (QX q r) ([34] ++ (s.take i).flatMap qByte) ∧
    E = [(10, .int .i64 i), (9, .int .i64 s.length), (8, .slice (some ⟨r, 0, none⟩) s.length k), (3, .pointer (some ⟨q, 0, none⟩))]
theorem Keep.bu {H0 H H' : AHeap} {q : Nat} {X : Blks} (h : Keep No H0 H) (h' : Keep (BuF q X) H H') (hq : H0.next ≤ q) (hX : ∀ i, X i → q ≤ i) : Keep No H0 H' :=
  h.trans h' fun i hi hf => by
    exfalso
    rcases hf with hf | hf
    · omega
    · have := hX i hf; omega
theorem QI.next {H0 H H' : AHeap} {q r k n i : Nat} {s : List UInt8} (hk : Keep No H0 H) (hq0 : H0.next ≤ q) (hqr : q < r) (hr : r < H.next) (hg : H.get r = some (.row ⟨bytesV s, 5, 0, true⟩)) (hlt : i < s.length) (hn : n + i = s.length)
    (hb : Bu H' q (QX q r) (([34] ++ (s.take i).flatMap qByte) ++ qByte s[i])) (hk' : Keep (BuF q (QX q r)) H H') :
    QI H0 q r k s (n - 1) [(10, .int .i64 ((i : Int) + 1)), (9, .int .i64 s.length), (8, .slice (some ⟨r, 0, none⟩) s.length k), (3, .pointer (some ⟨q, 0, none⟩))] H' := by
  refine ⟨hk.bu hk' hq0 fun i h => Nat.le_of_lt h.1, hq0, hqr, Nat.lt_of_lt_of_le hr hk'.1, hk'.get hg hr ?_, i + 1, by omega, ?_, rfl⟩
  · rintro (h | h)
    · omega
    · exact h.2 rfl
  · rw [flat_take hlt, ← List.append_assoc]; exact hb
theorem quoted_keep {H : AHeap} (s : List UInt8) (hs : s.length ≤ 1000000) : ACalls Tryz.prog 103 #[.string (strB s)] H fun v H' => v = .string (strB (quoteB s)) ∧ flatV v = true ∧ Keep No H H' := by
  have hop : s.length < openCap := by unfold openCap; omega
  refine k_open (args := [.string (strB s)]) (E0 := [(0, .string (strB s))]) tbl103 Tryz.func103 rfl follows (by kernel_rfl) Tryz.ntmps103 rfl rfl ?_
  repeat' (first
    | (show EW _ _ _ _ _; first | refine ew_p (h := ?_) | refine ew_skip (h := ?_) | refine ew_ld (h := ?_) | refine ew_ci (h := ?_) | refine ew_conv (hn := r_conv_br (h := by first | assumption | (apply Rd.keep0; (focus assumption); exact kp))) (h := ?_) | (refine ew_fresh ?_; intro b hb; refine ew_nw hb (h := ?_); (try simp only [AHeap.push_next, AHeap.put_next] at hb)) | (refine ew_df (ht := ?_) (hf := ?_) <;> intro _) | refine ew_ar (h := ?_) | refine w_nil ?_)
    | (show EC _ _ _ _ _ _ _; first | refine k_seq ?_ | refine k_region ?_ | refine k_skip ?_ | refine k_ret ?_ | refine k_exit ?_ | refine k_block ?_ | refine k_true (h := ?_) | refine k_false (h := ?_))
    | (show EX _ (bodyA _ _ _) _ _ _; first | refine x_end1 (hq := ?_))
    | (show EX _ _ _ _ _; first | refine x_normal ?_ | refine x_ret ?_ | refine x_exit ?_ | refine x_same ?_ | refine x_other (h := ?_) | refine x_bnormal ?_ | refine x_bret ?_))
  have hbu := Bu.new (X := fun i => b < i) hb (fun h => absurd h (Nat.lt_irrefl _))
  have k0 : Keep No H (H.push (.row ⟨[.pointer none, .slice none 0 0], 172, 0, true⟩)) := Keep.refl.push
  have n0 : (H.push (.row ⟨[.pointer none, .slice none 0 0], 172, 0, true⟩)).next = H.next + 1 := AHeap.push_next ..
  generalize H.push (.row ⟨[.pointer none, .slice none 0 0], 172, 0, true⟩) = H1 at hbu k0 n0 ⊢
  refine ew_callS (hc := cr_call) (hR := wb_calls 34 hbu (fun i hi => by show b < i; omega) (by simp)) (h := ?_)
  rintro _ H2 ⟨rfl, hb2, k2⟩
  have n2 := k2.1
  repeat' (first
    | (show EW _ _ _ _ _; first | refine ew_p (h := ?_) | refine ew_skip (h := ?_) | refine ew_ld (h := ?_) | refine ew_ci (h := ?_) | refine ew_conv (hn := r_conv_br (h := by first | assumption | (apply Rd.keep0; (focus assumption); exact kp))) (h := ?_) | (refine ew_fresh ?_; intro b hb; refine ew_nw hb (h := ?_); (try simp only [AHeap.push_next, AHeap.put_next] at hb)) | (refine ew_df (ht := ?_) (hf := ?_) <;> intro _) | refine ew_ar (h := ?_) | (refine ew_fresh ?_; intro r hr; refine ew_conv (hn := r_bytes hr (hl := hop)) (h := ?_)) | refine w_nil ?_)
    | (show EC _ _ _ _ _ _ _; first | refine k_seq ?_ | refine k_region ?_ | refine k_skip ?_ | refine k_ret ?_ | refine k_exit ?_ | refine k_block ?_ | refine k_true (h := ?_) | refine k_false (h := ?_))
    | (show EX _ (bodyA _ _ _) _ _ _; first | refine x_end1 (hq := ?_))
    | (show EX _ _ _ _ _; first | refine x_normal ?_ | refine x_ret ?_ | refine x_exit ?_ | refine x_same ?_ | refine x_other (h := ?_) | refine x_bnormal ?_ | refine x_bret ?_))
  have kr : Keep No H2 (H2.push (.row ⟨bytesV s, 5, 0, true⟩)) := Keep.refl.push
  have nr : (H2.push (.row ⟨bytesV s, 5, 0, true⟩)).next = H2.next + 1 := AHeap.push_next ..
  have gr : (H2.push (.row ⟨bytesV s, 5, 0, true⟩)).get r = some (.row ⟨bytesV s, 5, 0, true⟩) := by rw [AHeap.push_get, if_pos hr]
  have hb3 := (hb2.weak (Y := QX b r) (fun i hi h => ⟨h, by omega⟩) (fun h => absurd h.1 (Nat.lt_irrefl _))).keep0 kr
  generalize H2.push (.row ⟨bytesV s, 5, 0, true⟩) = H3 at hb3 kr nr gr ⊢
  refine k_loop follows (QI H b r (openCap + 1) s) s.length [(10, _), (9, _), (8, _), (3, _)] (by kernel_rfl) ⟨rfl, rfl, rfl, rfl, trivial⟩ ⟨(k0.bu k2 (by omega) fun i h => Nat.le_of_lt h).after kr, by omega, by omega, by omega, gr, 0, by omega, by simpa using hb3, rfl⟩ ?_
  clear hb3 hb2 hbu gr kr k0 k2 hr
  rintro n E H4 ⟨hk, hq0, hqr, hr4, hg4, i, hi, hb4, rfl⟩
  have hfl := flat_len qByte_len (s.take i)
  rw [List.length_take] at hfl
  by_cases hlt : i < s.length
  · have hcell := row_byte hg4 hlt
    obtain ⟨c, hc0⟩ : ∃ c, c = s[i] := ⟨_, rfl⟩
    rw [← hc0] at hcell
    repeat' (first
    | (show EW _ _ _ _ _; first | refine ew_p (h := ?_) | refine ew_skip (h := ?_) | refine ew_ld (h := ?_) | refine ew_ci (h := ?_) | refine ew_conv (hn := r_conv_br (h := by first | assumption | (apply Rd.keep0; (focus assumption); exact kp))) (h := ?_) | (refine ew_fresh ?_; intro b hb; refine ew_nw hb (h := ?_); (try simp only [AHeap.push_next, AHeap.put_next] at hb)) | (refine ew_df (ht := ?_) (hf := ?_) <;> intro _) | refine ew_ar (h := ?_) | refine w_nil ?_)
    | (show EC _ _ _ _ _ _ _; first | refine k_seq ?_ | refine k_region ?_ | refine k_skip ?_ | refine k_ret ?_ | refine k_exit ?_ | refine k_block ?_ | refine k_true (h := ?_) | refine k_false (h := ?_))
    | (show EX _ (bodyA _ _ _) _ _ _; first | refine x_end1 (hq := ?_))
    | (show EX _ _ _ _ _; first | refine x_normal ?_ | refine x_ret ?_ | refine x_exit ?_ | refine x_same ?_ | refine x_other (h := ?_) | refine x_bnormal ?_ | refine x_bret ?_))
    · refine ew_callS (hc := cr_call) (hR := wb_calls 92 hb4 (fun i hi => by show b < i ∧ i ≠ r; omega) (by simp only [List.length_append, List.length_cons, List.length_nil]; omega)) (h := ?_)
      rintro _ Ha0 ⟨rfl, ha0, ka0⟩
      have na0 := ka0.1
      repeat' (first
    | (show EW _ _ _ _ _; first | refine ew_p (h := ?_) | refine ew_skip (h := ?_) | refine ew_ld (h := ?_) | refine ew_ci (h := ?_) | refine ew_conv (hn := r_conv_br (h := by first | assumption | (apply Rd.keep0; (focus assumption); exact kp))) (h := ?_) | (refine ew_fresh ?_; intro b hb; refine ew_nw hb (h := ?_); (try simp only [AHeap.push_next, AHeap.put_next] at hb)) | (refine ew_df (ht := ?_) (hf := ?_) <;> intro _) | refine ew_ar (h := ?_) | refine w_nil ?_)
    | (show EC _ _ _ _ _ _ _; first | refine k_seq ?_ | refine k_region ?_ | refine k_skip ?_ | refine k_ret ?_ | refine k_exit ?_ | refine k_block ?_ | refine k_true (h := ?_) | refine k_false (h := ?_))
    | (show EX _ (bodyA _ _ _) _ _ _; first | refine x_end1 (hq := ?_))
    | (show EX _ _ _ _ _; first | refine x_normal ?_ | refine x_ret ?_ | refine x_exit ?_ | refine x_same ?_ | refine x_other (h := ?_) | refine x_bnormal ?_ | refine x_bret ?_))
      refine ew_callS (hc := cr_call) (hR := wb_calls c ha0 (fun i hi => by show b < i ∧ i ≠ r; omega) (by simp only [List.length_append, List.length_cons, List.length_nil]; omega)) (h := ?_)
      rintro _ Ha1 ⟨rfl, ha1, ka1⟩
      have na1 := ka1.1
      repeat' (first
    | (show EW _ _ _ _ _; first | refine ew_p (h := ?_) | refine ew_skip (h := ?_) | refine ew_ld (h := ?_) | refine ew_ci (h := ?_) | refine ew_conv (hn := r_conv_br (h := by first | assumption | (apply Rd.keep0; (focus assumption); exact kp))) (h := ?_) | (refine ew_fresh ?_; intro b hb; refine ew_nw hb (h := ?_); (try simp only [AHeap.push_next, AHeap.put_next] at hb)) | (refine ew_df (ht := ?_) (hf := ?_) <;> intro _) | refine ew_ar (h := ?_) | refine w_nil ?_)
    | (show EC _ _ _ _ _ _ _; first | refine k_seq ?_ | refine k_region ?_ | refine k_skip ?_ | refine k_ret ?_ | refine k_exit ?_ | refine k_block ?_ | refine k_true (h := ?_) | refine k_false (h := ?_))
    | (show EX _ (bodyA _ _ _) _ _ _; first | refine x_end1 (hq := ?_))
    | (show EX _ _ _ _ _; first | refine x_normal ?_ | refine x_ret ?_ | refine x_exit ?_ | refine x_same ?_ | refine x_other (h := ?_) | refine x_bnormal ?_ | refine x_bret ?_))
      have hqb : qByte s[i] = [92, c] := by rw [← hc0]; unfold qByte; exact if_pos (by omega)
      exact x_again (n - 1) [(10, _), (9, _), (8, _), (3, _)] ⟨rfl, rfl, rfl, rfl, trivial⟩ (by omega) (QI.next hk hq0 hqr hr4 hg4 hlt hi (by rw [hqb]; simpa using ha1) (BuF.trans (ka0) ka1))
    · refine ew_callS (hc := cr_call) (hR := wb_calls 92 hb4 (fun i hi => by show b < i ∧ i ≠ r; omega) (by simp only [List.length_append, List.length_cons, List.length_nil]; omega)) (h := ?_)
      rintro _ Ha0 ⟨rfl, ha0, ka0⟩
      have na0 := ka0.1
      repeat' (first
    | (show EW _ _ _ _ _; first | refine ew_p (h := ?_) | refine ew_skip (h := ?_) | refine ew_ld (h := ?_) | refine ew_ci (h := ?_) | refine ew_conv (hn := r_conv_br (h := by first | assumption | (apply Rd.keep0; (focus assumption); exact kp))) (h := ?_) | (refine ew_fresh ?_; intro b hb; refine ew_nw hb (h := ?_); (try simp only [AHeap.push_next, AHeap.put_next] at hb)) | (refine ew_df (ht := ?_) (hf := ?_) <;> intro _) | refine ew_ar (h := ?_) | refine w_nil ?_)
    | (show EC _ _ _ _ _ _ _; first | refine k_seq ?_ | refine k_region ?_ | refine k_skip ?_ | refine k_ret ?_ | refine k_exit ?_ | refine k_block ?_ | refine k_true (h := ?_) | refine k_false (h := ?_))
    | (show EX _ (bodyA _ _ _) _ _ _; first | refine x_end1 (hq := ?_))
    | (show EX _ _ _ _ _; first | refine x_normal ?_ | refine x_ret ?_ | refine x_exit ?_ | refine x_same ?_ | refine x_other (h := ?_) | refine x_bnormal ?_ | refine x_bret ?_))
      refine ew_callS (hc := cr_call) (hR := wb_calls c ha0 (fun i hi => by show b < i ∧ i ≠ r; omega) (by simp only [List.length_append, List.length_cons, List.length_nil]; omega)) (h := ?_)
      rintro _ Ha1 ⟨rfl, ha1, ka1⟩
      have na1 := ka1.1
      repeat' (first
    | (show EW _ _ _ _ _; first | refine ew_p (h := ?_) | refine ew_skip (h := ?_) | refine ew_ld (h := ?_) | refine ew_ci (h := ?_) | refine ew_conv (hn := r_conv_br (h := by first | assumption | (apply Rd.keep0; (focus assumption); exact kp))) (h := ?_) | (refine ew_fresh ?_; intro b hb; refine ew_nw hb (h := ?_); (try simp only [AHeap.push_next, AHeap.put_next] at hb)) | (refine ew_df (ht := ?_) (hf := ?_) <;> intro _) | refine ew_ar (h := ?_) | refine w_nil ?_)
    | (show EC _ _ _ _ _ _ _; first | refine k_seq ?_ | refine k_region ?_ | refine k_skip ?_ | refine k_ret ?_ | refine k_exit ?_ | refine k_block ?_ | refine k_true (h := ?_) | refine k_false (h := ?_))
    | (show EX _ (bodyA _ _ _) _ _ _; first | refine x_end1 (hq := ?_))
    | (show EX _ _ _ _ _; first | refine x_normal ?_ | refine x_ret ?_ | refine x_exit ?_ | refine x_same ?_ | refine x_other (h := ?_) | refine x_bnormal ?_ | refine x_bret ?_))
      have hqb : qByte s[i] = [92, c] := by rw [← hc0]; unfold qByte; exact if_pos (by omega)
      exact x_again (n - 1) [(10, _), (9, _), (8, _), (3, _)] ⟨rfl, rfl, rfl, rfl, trivial⟩ (by omega) (QI.next hk hq0 hqr hr4 hg4 hlt hi (by rw [hqb]; simpa using ha1) (BuF.trans (ka0) ka1))
    · refine ew_callS (hc := cr_call) (hR := ws_calls [92, 110] hb4 (fun i hi => by show b < i ∧ i ≠ r; omega) (by simp only [List.length_append, List.length_cons, List.length_nil]; omega)) (h := ?_)
      rintro _ Ha0 ⟨rfl, ha0, ka0⟩
      have na0 := ka0.1
      repeat' (first
    | (show EW _ _ _ _ _; first | refine ew_p (h := ?_) | refine ew_skip (h := ?_) | refine ew_ld (h := ?_) | refine ew_ci (h := ?_) | refine ew_conv (hn := r_conv_br (h := by first | assumption | (apply Rd.keep0; (focus assumption); exact kp))) (h := ?_) | (refine ew_fresh ?_; intro b hb; refine ew_nw hb (h := ?_); (try simp only [AHeap.push_next, AHeap.put_next] at hb)) | (refine ew_df (ht := ?_) (hf := ?_) <;> intro _) | refine ew_ar (h := ?_) | refine w_nil ?_)
    | (show EC _ _ _ _ _ _ _; first | refine k_seq ?_ | refine k_region ?_ | refine k_skip ?_ | refine k_ret ?_ | refine k_exit ?_ | refine k_block ?_ | refine k_true (h := ?_) | refine k_false (h := ?_))
    | (show EX _ (bodyA _ _ _) _ _ _; first | refine x_end1 (hq := ?_))
    | (show EX _ _ _ _ _; first | refine x_normal ?_ | refine x_ret ?_ | refine x_exit ?_ | refine x_same ?_ | refine x_other (h := ?_) | refine x_bnormal ?_ | refine x_bret ?_))
      have hqb : qByte s[i] = [92, 110] := by rw [← hc0]; unfold qByte; rw [if_neg (by omega)]; exact if_pos (by omega)
      exact x_again (n - 1) [(10, _), (9, _), (8, _), (3, _)] ⟨rfl, rfl, rfl, rfl, trivial⟩ (by omega) (QI.next hk hq0 hqr hr4 hg4 hlt hi (by rw [hqb]; simpa using ha0) (ka0))
    · refine ew_callS (hc := cr_call) (hR := ws_calls [92, 116] hb4 (fun i hi => by show b < i ∧ i ≠ r; omega) (by simp only [List.length_append, List.length_cons, List.length_nil]; omega)) (h := ?_)
      rintro _ Ha0 ⟨rfl, ha0, ka0⟩
      have na0 := ka0.1
      repeat' (first
    | (show EW _ _ _ _ _; first | refine ew_p (h := ?_) | refine ew_skip (h := ?_) | refine ew_ld (h := ?_) | refine ew_ci (h := ?_) | refine ew_conv (hn := r_conv_br (h := by first | assumption | (apply Rd.keep0; (focus assumption); exact kp))) (h := ?_) | (refine ew_fresh ?_; intro b hb; refine ew_nw hb (h := ?_); (try simp only [AHeap.push_next, AHeap.put_next] at hb)) | (refine ew_df (ht := ?_) (hf := ?_) <;> intro _) | refine ew_ar (h := ?_) | refine w_nil ?_)
    | (show EC _ _ _ _ _ _ _; first | refine k_seq ?_ | refine k_region ?_ | refine k_skip ?_ | refine k_ret ?_ | refine k_exit ?_ | refine k_block ?_ | refine k_true (h := ?_) | refine k_false (h := ?_))
    | (show EX _ (bodyA _ _ _) _ _ _; first | refine x_end1 (hq := ?_))
    | (show EX _ _ _ _ _; first | refine x_normal ?_ | refine x_ret ?_ | refine x_exit ?_ | refine x_same ?_ | refine x_other (h := ?_) | refine x_bnormal ?_ | refine x_bret ?_))
      have hqb : qByte s[i] = [92, 116] := by rw [← hc0]; unfold qByte; rw [if_neg (by omega), if_neg (by omega)]; exact if_pos (by omega)
      exact x_again (n - 1) [(10, _), (9, _), (8, _), (3, _)] ⟨rfl, rfl, rfl, rfl, trivial⟩ (by omega) (QI.next hk hq0 hqr hr4 hg4 hlt hi (by rw [hqb]; simpa using ha0) (ka0))
    · refine ew_callS (hc := cr_call) (hR := wb_calls c hb4 (fun i hi => by show b < i ∧ i ≠ r; omega) (by simp only [List.length_append, List.length_cons, List.length_nil]; omega)) (h := ?_)
      rintro _ Ha0 ⟨rfl, ha0, ka0⟩
      have na0 := ka0.1
      repeat' (first
    | (show EW _ _ _ _ _; first | refine ew_p (h := ?_) | refine ew_skip (h := ?_) | refine ew_ld (h := ?_) | refine ew_ci (h := ?_) | refine ew_conv (hn := r_conv_br (h := by first | assumption | (apply Rd.keep0; (focus assumption); exact kp))) (h := ?_) | (refine ew_fresh ?_; intro b hb; refine ew_nw hb (h := ?_); (try simp only [AHeap.push_next, AHeap.put_next] at hb)) | (refine ew_df (ht := ?_) (hf := ?_) <;> intro _) | refine ew_ar (h := ?_) | refine w_nil ?_)
    | (show EC _ _ _ _ _ _ _; first | refine k_seq ?_ | refine k_region ?_ | refine k_skip ?_ | refine k_ret ?_ | refine k_exit ?_ | refine k_block ?_ | refine k_true (h := ?_) | refine k_false (h := ?_))
    | (show EX _ (bodyA _ _ _) _ _ _; first | refine x_end1 (hq := ?_))
    | (show EX _ _ _ _ _; first | refine x_normal ?_ | refine x_ret ?_ | refine x_exit ?_ | refine x_same ?_ | refine x_other (h := ?_) | refine x_bnormal ?_ | refine x_bret ?_))
      have hqb : qByte s[i] = [c] := by rw [← hc0]; unfold qByte; rw [if_neg (by omega), if_neg (by omega), if_neg (by omega)]; exact if_pos (by omega)
      exact x_again (n - 1) [(10, _), (9, _), (8, _), (3, _)] ⟨rfl, rfl, rfl, rfl, trivial⟩ (by omega) (QI.next hk hq0 hqr hr4 hg4 hlt hi (by rw [hqb]; simpa using ha0) (ka0))
    · refine ew_callS (hc := cr_call) (hR := ws_calls [92, 120] hb4 (fun i hi => by show b < i ∧ i ≠ r; omega) (by simp only [List.length_append, List.length_cons, List.length_nil]; omega)) (h := ?_)
      rintro _ Ha0 ⟨rfl, ha0, ka0⟩
      have na0 := ka0.1
      repeat' (first
    | (show EW _ _ _ _ _; first | refine ew_n (hn := r_strix (hi := shr4 c) (hb := hex_get (by have := c.toNat_lt; omega))) (h := ?_) | refine ew_n (hn := r_bin (hr := and15 c)) (h := ?_) | refine ew_n (hn := r_strix (hi := rfl) (hb := hex_get (n := c.toNat % 16) (by omega))) (h := ?_) | refine ew_p (h := ?_) | refine ew_skip (h := ?_) | refine ew_ld (h := ?_) | refine ew_ci (h := ?_) | refine ew_conv (hn := r_conv_br (h := by first | assumption | (apply Rd.keep0; (focus assumption); exact kp))) (h := ?_) | (refine ew_fresh ?_; intro b hb; refine ew_nw hb (h := ?_); (try simp only [AHeap.push_next, AHeap.put_next] at hb)) | (refine ew_df (ht := ?_) (hf := ?_) <;> intro _) | refine ew_ar (h := ?_) | refine w_nil ?_)
    | (show EC _ _ _ _ _ _ _; first | refine k_seq ?_ | refine k_region ?_ | refine k_skip ?_ | refine k_ret ?_ | refine k_exit ?_ | refine k_block ?_ | refine k_true (h := ?_) | refine k_false (h := ?_))
    | (show EX _ (bodyA _ _ _) _ _ _; first | refine x_end1 (hq := ?_))
    | (show EX _ _ _ _ _; first | refine x_normal ?_ | refine x_ret ?_ | refine x_exit ?_ | refine x_same ?_ | refine x_other (h := ?_) | refine x_bnormal ?_ | refine x_bret ?_))
      refine ew_callS (hc := cr_call) (hR := wb_calls (hexD (c.toNat / 16)) ha0 (fun i hi => by show b < i ∧ i ≠ r; omega) (by simp only [List.length_append, List.length_cons, List.length_nil]; omega)) (h := ?_)
      rintro _ Ha1 ⟨rfl, ha1, ka1⟩
      have na1 := ka1.1
      repeat' (first
    | (show EW _ _ _ _ _; first | refine ew_n (hn := r_strix (hi := shr4 c) (hb := hex_get (by have := c.toNat_lt; omega))) (h := ?_) | refine ew_n (hn := r_bin (hr := and15 c)) (h := ?_) | refine ew_n (hn := r_strix (hi := rfl) (hb := hex_get (n := c.toNat % 16) (by omega))) (h := ?_) | refine ew_p (h := ?_) | refine ew_skip (h := ?_) | refine ew_ld (h := ?_) | refine ew_ci (h := ?_) | refine ew_conv (hn := r_conv_br (h := by first | assumption | (apply Rd.keep0; (focus assumption); exact kp))) (h := ?_) | (refine ew_fresh ?_; intro b hb; refine ew_nw hb (h := ?_); (try simp only [AHeap.push_next, AHeap.put_next] at hb)) | (refine ew_df (ht := ?_) (hf := ?_) <;> intro _) | refine ew_ar (h := ?_) | refine w_nil ?_)
    | (show EC _ _ _ _ _ _ _; first | refine k_seq ?_ | refine k_region ?_ | refine k_skip ?_ | refine k_ret ?_ | refine k_exit ?_ | refine k_block ?_ | refine k_true (h := ?_) | refine k_false (h := ?_))
    | (show EX _ (bodyA _ _ _) _ _ _; first | refine x_end1 (hq := ?_))
    | (show EX _ _ _ _ _; first | refine x_normal ?_ | refine x_ret ?_ | refine x_exit ?_ | refine x_same ?_ | refine x_other (h := ?_) | refine x_bnormal ?_ | refine x_bret ?_))
      refine ew_callS (hc := cr_call) (hR := wb_calls (hexD (c.toNat % 16)) ha1 (fun i hi => by show b < i ∧ i ≠ r; omega) (by simp only [List.length_append, List.length_cons, List.length_nil]; omega)) (h := ?_)
      rintro _ Ha2 ⟨rfl, ha2, ka2⟩
      have na2 := ka2.1
      repeat' (first
    | (show EW _ _ _ _ _; first | refine ew_p (h := ?_) | refine ew_skip (h := ?_) | refine ew_ld (h := ?_) | refine ew_ci (h := ?_) | refine ew_conv (hn := r_conv_br (h := by first | assumption | (apply Rd.keep0; (focus assumption); exact kp))) (h := ?_) | (refine ew_fresh ?_; intro b hb; refine ew_nw hb (h := ?_); (try simp only [AHeap.push_next, AHeap.put_next] at hb)) | (refine ew_df (ht := ?_) (hf := ?_) <;> intro _) | refine ew_ar (h := ?_) | refine w_nil ?_)
    | (show EC _ _ _ _ _ _ _; first | refine k_seq ?_ | refine k_region ?_ | refine k_skip ?_ | refine k_ret ?_ | refine k_exit ?_ | refine k_block ?_ | refine k_true (h := ?_) | refine k_false (h := ?_))
    | (show EX _ (bodyA _ _ _) _ _ _; first | refine x_end1 (hq := ?_))
    | (show EX _ _ _ _ _; first | refine x_normal ?_ | refine x_ret ?_ | refine x_exit ?_ | refine x_same ?_ | refine x_other (h := ?_) | refine x_bnormal ?_ | refine x_bret ?_))
      have hqb : qByte s[i] = [92, 120, hexD (c.toNat / 16), hexD (c.toNat % 16)] := by rw [← hc0]; unfold qByte; rw [if_neg (by omega), if_neg (by omega), if_neg (by omega)]; exact if_neg (by omega)
      exact x_again (n - 1) [(10, _), (9, _), (8, _), (3, _)] ⟨rfl, rfl, rfl, rfl, trivial⟩ (by omega) (QI.next hk hq0 hqr hr4 hg4 hlt hi (by rw [hqb]; simpa using ha2) (BuF.trans (BuF.trans (ka0) ka1) ka2))
    · refine ew_callS (hc := cr_call) (hR := ws_calls [92, 120] hb4 (fun i hi => by show b < i ∧ i ≠ r; omega) (by simp only [List.length_append, List.length_cons, List.length_nil]; omega)) (h := ?_)
      rintro _ Ha0 ⟨rfl, ha0, ka0⟩
      have na0 := ka0.1
      repeat' (first
    | (show EW _ _ _ _ _; first | refine ew_n (hn := r_strix (hi := shr4 c) (hb := hex_get (by have := c.toNat_lt; omega))) (h := ?_) | refine ew_n (hn := r_bin (hr := and15 c)) (h := ?_) | refine ew_n (hn := r_strix (hi := rfl) (hb := hex_get (n := c.toNat % 16) (by omega))) (h := ?_) | refine ew_p (h := ?_) | refine ew_skip (h := ?_) | refine ew_ld (h := ?_) | refine ew_ci (h := ?_) | refine ew_conv (hn := r_conv_br (h := by first | assumption | (apply Rd.keep0; (focus assumption); exact kp))) (h := ?_) | (refine ew_fresh ?_; intro b hb; refine ew_nw hb (h := ?_); (try simp only [AHeap.push_next, AHeap.put_next] at hb)) | (refine ew_df (ht := ?_) (hf := ?_) <;> intro _) | refine ew_ar (h := ?_) | refine w_nil ?_)
    | (show EC _ _ _ _ _ _ _; first | refine k_seq ?_ | refine k_region ?_ | refine k_skip ?_ | refine k_ret ?_ | refine k_exit ?_ | refine k_block ?_ | refine k_true (h := ?_) | refine k_false (h := ?_))
    | (show EX _ (bodyA _ _ _) _ _ _; first | refine x_end1 (hq := ?_))
    | (show EX _ _ _ _ _; first | refine x_normal ?_ | refine x_ret ?_ | refine x_exit ?_ | refine x_same ?_ | refine x_other (h := ?_) | refine x_bnormal ?_ | refine x_bret ?_))
      refine ew_callS (hc := cr_call) (hR := wb_calls (hexD (c.toNat / 16)) ha0 (fun i hi => by show b < i ∧ i ≠ r; omega) (by simp only [List.length_append, List.length_cons, List.length_nil]; omega)) (h := ?_)
      rintro _ Ha1 ⟨rfl, ha1, ka1⟩
      have na1 := ka1.1
      repeat' (first
    | (show EW _ _ _ _ _; first | refine ew_n (hn := r_strix (hi := shr4 c) (hb := hex_get (by have := c.toNat_lt; omega))) (h := ?_) | refine ew_n (hn := r_bin (hr := and15 c)) (h := ?_) | refine ew_n (hn := r_strix (hi := rfl) (hb := hex_get (n := c.toNat % 16) (by omega))) (h := ?_) | refine ew_p (h := ?_) | refine ew_skip (h := ?_) | refine ew_ld (h := ?_) | refine ew_ci (h := ?_) | refine ew_conv (hn := r_conv_br (h := by first | assumption | (apply Rd.keep0; (focus assumption); exact kp))) (h := ?_) | (refine ew_fresh ?_; intro b hb; refine ew_nw hb (h := ?_); (try simp only [AHeap.push_next, AHeap.put_next] at hb)) | (refine ew_df (ht := ?_) (hf := ?_) <;> intro _) | refine ew_ar (h := ?_) | refine w_nil ?_)
    | (show EC _ _ _ _ _ _ _; first | refine k_seq ?_ | refine k_region ?_ | refine k_skip ?_ | refine k_ret ?_ | refine k_exit ?_ | refine k_block ?_ | refine k_true (h := ?_) | refine k_false (h := ?_))
    | (show EX _ (bodyA _ _ _) _ _ _; first | refine x_end1 (hq := ?_))
    | (show EX _ _ _ _ _; first | refine x_normal ?_ | refine x_ret ?_ | refine x_exit ?_ | refine x_same ?_ | refine x_other (h := ?_) | refine x_bnormal ?_ | refine x_bret ?_))
      refine ew_callS (hc := cr_call) (hR := wb_calls (hexD (c.toNat % 16)) ha1 (fun i hi => by show b < i ∧ i ≠ r; omega) (by simp only [List.length_append, List.length_cons, List.length_nil]; omega)) (h := ?_)
      rintro _ Ha2 ⟨rfl, ha2, ka2⟩
      have na2 := ka2.1
      repeat' (first
    | (show EW _ _ _ _ _; first | refine ew_p (h := ?_) | refine ew_skip (h := ?_) | refine ew_ld (h := ?_) | refine ew_ci (h := ?_) | refine ew_conv (hn := r_conv_br (h := by first | assumption | (apply Rd.keep0; (focus assumption); exact kp))) (h := ?_) | (refine ew_fresh ?_; intro b hb; refine ew_nw hb (h := ?_); (try simp only [AHeap.push_next, AHeap.put_next] at hb)) | (refine ew_df (ht := ?_) (hf := ?_) <;> intro _) | refine ew_ar (h := ?_) | refine w_nil ?_)
    | (show EC _ _ _ _ _ _ _; first | refine k_seq ?_ | refine k_region ?_ | refine k_skip ?_ | refine k_ret ?_ | refine k_exit ?_ | refine k_block ?_ | refine k_true (h := ?_) | refine k_false (h := ?_))
    | (show EX _ (bodyA _ _ _) _ _ _; first | refine x_end1 (hq := ?_))
    | (show EX _ _ _ _ _; first | refine x_normal ?_ | refine x_ret ?_ | refine x_exit ?_ | refine x_same ?_ | refine x_other (h := ?_) | refine x_bnormal ?_ | refine x_bret ?_))
      have hqb : qByte s[i] = [92, 120, hexD (c.toNat / 16), hexD (c.toNat % 16)] := by rw [← hc0]; unfold qByte; rw [if_neg (by omega), if_neg (by omega), if_neg (by omega)]; exact if_neg (by omega)
      exact x_again (n - 1) [(10, _), (9, _), (8, _), (3, _)] ⟨rfl, rfl, rfl, rfl, trivial⟩ (by omega) (QI.next hk hq0 hqr hr4 hg4 hlt hi (by rw [hqb]; simpa using ha2) (BuF.trans (BuF.trans (ka0) ka1) ka2))
  · obtain rfl : i = s.length := by omega
    rw [List.take_length] at hb4 hfl
    repeat' (first
    | (show EW _ _ _ _ _; first | refine ew_p (h := ?_) | refine ew_skip (h := ?_) | refine ew_ld (h := ?_) | refine ew_ci (h := ?_) | refine ew_conv (hn := r_conv_br (h := by first | assumption | (apply Rd.keep0; (focus assumption); exact kp))) (h := ?_) | (refine ew_fresh ?_; intro b hb; refine ew_nw hb (h := ?_); (try simp only [AHeap.push_next, AHeap.put_next] at hb)) | (refine ew_df (ht := ?_) (hf := ?_) <;> intro _) | refine ew_ar (h := ?_) | refine w_nil ?_)
    | (show EC _ _ _ _ _ _ _; first | refine k_seq ?_ | refine k_region ?_ | refine k_skip ?_ | refine k_ret ?_ | refine k_exit ?_ | refine k_block ?_ | refine k_true (h := ?_) | refine k_false (h := ?_))
    | (show EX _ (bodyA _ _ _) _ _ _; first | refine x_end1 (hq := ?_))
    | (show EX _ _ _ _ _; first | refine x_normal ?_ | refine x_ret ?_ | refine x_exit ?_ | refine x_same ?_ | refine x_other (h := ?_) | refine x_bnormal ?_ | refine x_bret ?_))
    refine ew_callS (hc := cr_call) (hR := wb_calls 34 hb4 (fun i hi => by show b < i ∧ i ≠ r; omega) (by simp only [List.length_append, List.length_cons, List.length_nil]; omega)) (h := ?_)
    rintro _ H5 ⟨rfl, hb5, k5⟩
    have n5 := k5.1
    repeat' (first
    | (show EW _ _ _ _ _; first | refine ew_p (h := ?_) | refine ew_skip (h := ?_) | refine ew_ld (h := ?_) | refine ew_ci (h := ?_) | refine ew_conv (hn := r_conv_br (h := by first | assumption | (apply Rd.keep0; (focus assumption); exact kp))) (h := ?_) | (refine ew_fresh ?_; intro b hb; refine ew_nw hb (h := ?_); (try simp only [AHeap.push_next, AHeap.put_next] at hb)) | (refine ew_df (ht := ?_) (hf := ?_) <;> intro _) | refine ew_ar (h := ?_) | refine w_nil ?_)
    | (show EC _ _ _ _ _ _ _; first | refine k_seq ?_ | refine k_region ?_ | refine k_skip ?_ | refine k_ret ?_ | refine k_exit ?_ | refine k_block ?_ | refine k_true (h := ?_) | refine k_false (h := ?_))
    | (show EX _ (bodyA _ _ _) _ _ _; first | refine x_end1 (hq := ?_))
    | (show EX _ _ _ _ _; first | refine x_normal ?_ | refine x_ret ?_ | refine x_exit ?_ | refine x_same ?_ | refine x_other (h := ?_) | refine x_bnormal ?_ | refine x_bret ?_))
    refine ew_callS (hc := cr_call) (hR := st_calls hb5 (by simp only [List.length_append, List.length_cons, List.length_nil]; omega)) (h := ?_)
    rintro _ H6 ⟨rfl, k6⟩
    repeat' (first
    | (show EW _ _ _ _ _; first | refine ew_p (h := ?_) | refine ew_skip (h := ?_) | refine ew_ld (h := ?_) | refine ew_ci (h := ?_) | refine ew_conv (hn := r_conv_br (h := by first | assumption | (apply Rd.keep0; (focus assumption); exact kp))) (h := ?_) | (refine ew_fresh ?_; intro b hb; refine ew_nw hb (h := ?_); (try simp only [AHeap.push_next, AHeap.put_next] at hb)) | (refine ew_df (ht := ?_) (hf := ?_) <;> intro _) | refine ew_ar (h := ?_) | refine w_nil ?_)
    | (show EC _ _ _ _ _ _ _; first | refine k_seq ?_ | refine k_region ?_ | refine k_skip ?_ | refine k_ret ?_ | refine k_exit ?_ | refine k_block ?_ | refine k_true (h := ?_) | refine k_false (h := ?_))
    | (show EX _ (bodyA _ _ _) _ _ _; first | refine x_end1 (hq := ?_))
    | (show EX _ _ _ _ _; first | refine x_normal ?_ | refine x_ret ?_ | refine x_exit ?_ | refine x_same ?_ | refine x_other (h := ?_) | refine x_bnormal ?_ | refine x_bret ?_))
    exact ⟨rfl, rfl, (hk.bu k5 hq0 fun i h => Nat.le_of_lt h.1).bu (q := b) (k6.weak fun _ _ h => .inr h) hq0 fun i h => Nat.le_of_lt h.1⟩
theorem quoted_calls {H : AHeap} (s : List UInt8) (hs : s.length ≤ 1000000) : ACalls Tryz.prog 103 #[.string (strB s)] H fun v H' => v = .string (strB (quoteB s)) ∧ H' = H := (quoted_keep s hs).forget
/-! plain -/
def pByte (c : UInt8) : List UInt8 := if 128 ≤ c.toNat then [92, 120, hexD (c.toNat / 16), hexD (c.toNat % 16)] else [c]
theorem pByte_len (c : UInt8) : (pByte c).length ≤ 4 := by unfold pByte; split <;> simp
def PX (q : Nat) : Blks := fun i => q < i
def PI (H0 : AHeap) (q : Nat) (s : List UInt8) (n : Nat) (E : Env) (H : AHeap) : Prop :=
  Keep No H0 H ∧ H0.next ≤ q ∧ q < H.next ∧ ∃ i : Nat, n + i = s.length ∧ Bu H q (PX q) ((s.take i).flatMap pByte) ∧
    E = [(8, .int .i64 i), (7, .int .i64 s.length), (0, .string (strB s)), (3, .pointer (some ⟨q, 0, none⟩))]
theorem PI.next {H0 H H' : AHeap} {q n i : Nat} {s : List UInt8} (hk : Keep No H0 H) (hq0 : H0.next ≤ q) (hr : q < H.next) (hlt : i < s.length) (hn : n + i = s.length)
    (hb : Bu H' q (PX q) ((s.take i).flatMap pByte ++ pByte s[i])) (hk' : Keep (BuF q (PX q)) H H') :
    PI H0 q s (n - 1) [(8, .int .i64 ((i : Int) + 1)), (7, .int .i64 s.length), (0, .string (strB s)), (3, .pointer (some ⟨q, 0, none⟩))] H' :=
  ⟨hk.bu hk' hq0 fun i h => Nat.le_of_lt h, hq0, Nat.lt_of_lt_of_le hr hk'.1, i + 1, by omega, by rw [flat_take hlt]; exact hb, rfl⟩
theorem plain_calls {H : AHeap} (s : List UInt8) (hs : s.length ≤ 1000000) : ACalls Tryz.prog 94 #[.string (strB s)] H fun v H' => v = .string (strB (s.flatMap pByte)) ∧ H' = H := by
  refine ACalls.forget ?_
  refine k_open (args := [.string (strB s)]) (E0 := [(0, .string (strB s))]) tbl94 Tryz.func94 rfl follows (by kernel_rfl) Tryz.ntmps94 rfl rfl ?_
  repeat' (first
    | (show EW _ _ _ _ _; first | refine ew_p (h := ?_) | (refine ew_fresh ?_; intro b hb; refine ew_nw hb (h := ?_); (try simp only [AHeap.push_next, AHeap.put_next] at hb)) | (refine ew_df (ht := ?_) (hf := ?_) <;> intro _) | refine ew_ar (h := ?_) | refine w_nil ?_)
    | (show EC _ _ _ _ _ _ _; first | refine k_seq ?_ | refine k_region ?_ | refine k_skip ?_ | refine k_ret ?_ | refine k_exit ?_ | refine k_block ?_ | refine k_true (h := ?_) | refine k_false (h := ?_))
    | (show EX _ (bodyA _ _ _) _ _ _; first | refine x_end1 (hq := ?_))
    | (show EX _ _ _ _ _; first | refine x_normal ?_ | refine x_ret ?_ | refine x_exit ?_ | refine x_same ?_ | refine x_other (h := ?_) | refine x_bnormal ?_ | refine x_bret ?_))
  have hbu := Bu.new (X := PX b) hb (fun h => absurd h (Nat.lt_irrefl _))
  have k0 : Keep No H (H.push (.row ⟨[.pointer none, .slice none 0 0], 172, 0, true⟩)) := Keep.refl.push
  have n0 : (H.push (.row ⟨[.pointer none, .slice none 0 0], 172, 0, true⟩)).next = H.next + 1 := AHeap.push_next ..
  generalize H.push (.row ⟨[.pointer none, .slice none 0 0], 172, 0, true⟩) = H1 at hbu k0 n0 ⊢
  rw [strB_size]
  refine k_loop follows (PI H b s) s.length [(8, _), (7, _), (0, _), (3, _)] (by kernel_rfl) ⟨rfl, rfl, rfl, rfl, trivial⟩ ⟨k0, by omega, by omega, 0, by omega, by simpa using hbu, rfl⟩ ?_
  clear hbu k0
  rintro n E H4 ⟨hk, hq0, hq4, i, hi, hb4, rfl⟩
  have hfl := flat_len pByte_len (s.take i)
  rw [List.length_take] at hfl
  by_cases hlt : i < s.length
  · obtain ⟨c, hc0⟩ : ∃ c, c = s[i] := ⟨_, rfl⟩
    have hcell : s[i]? = some c := by rw [hc0, List.getElem?_eq_getElem hlt]
    repeat' (first
    | (show EW _ _ _ _ _; first | refine ew_p (h := ?_) | (refine ew_fresh ?_; intro b hb; refine ew_nw hb (h := ?_); (try simp only [AHeap.push_next, AHeap.put_next] at hb)) | (refine ew_df (ht := ?_) (hf := ?_) <;> intro _) | refine ew_ar (h := ?_) | refine ew_p2 (h := ?_) | (refine ew_df2 (ht := ?_) (hf := ?_) <;> intro _) | refine w_nil ?_)
    | (show EC _ _ _ _ _ _ _; first | refine k_seq ?_ | refine k_region ?_ | refine k_skip ?_ | refine k_ret ?_ | refine k_exit ?_ | refine k_block ?_ | refine k_true (h := ?_) | refine k_false (h := ?_))
    | (show EX _ (bodyA _ _ _) _ _ _; first | refine x_end1 (hq := ?_))
    | (show EX _ _ _ _ _; first | refine x_normal ?_ | refine x_ret ?_ | refine x_exit ?_ | refine x_same ?_ | refine x_other (h := ?_) | refine x_bnormal ?_ | refine x_bret ?_))
    · refine ew_callS (hc := cr_call) (hR := ws_calls [92, 120] hb4 (fun i hi => by show b < i; omega) (by first | omega | (simp only [List.length_append, List.length_cons, List.length_nil]; omega))) (h := ?_)
      rintro _ Ha0 ⟨rfl, ha0, ka0⟩
      have na0 := ka0.1
      repeat' (first
    | (show EW _ _ _ _ _; first | refine ew_n (hn := r_strix (hi := shr4 c) (hb := hex_get (by have := c.toNat_lt; omega))) (h := ?_) | refine ew_n (hn := r_bin (hr := and15 c)) (h := ?_) | refine ew_n (hn := r_strix (hi := rfl) (hb := hex_get (n := c.toNat % 16) (by omega))) (h := ?_) | refine ew_p (h := ?_) | (refine ew_fresh ?_; intro b hb; refine ew_nw hb (h := ?_); (try simp only [AHeap.push_next, AHeap.put_next] at hb)) | (refine ew_df (ht := ?_) (hf := ?_) <;> intro _) | refine ew_ar (h := ?_) | refine w_nil ?_)
    | (show EC _ _ _ _ _ _ _; first | refine k_seq ?_ | refine k_region ?_ | refine k_skip ?_ | refine k_ret ?_ | refine k_exit ?_ | refine k_block ?_ | refine k_true (h := ?_) | refine k_false (h := ?_))
    | (show EX _ (bodyA _ _ _) _ _ _; first | refine x_end1 (hq := ?_))
    | (show EX _ _ _ _ _; first | refine x_normal ?_ | refine x_ret ?_ | refine x_exit ?_ | refine x_same ?_ | refine x_other (h := ?_) | refine x_bnormal ?_ | refine x_bret ?_))
      refine ew_callS (hc := cr_call) (hR := wb_calls (hexD (c.toNat / 16)) ha0 (fun i hi => by show b < i; omega) (by first | omega | (simp only [List.length_append, List.length_cons, List.length_nil]; omega))) (h := ?_)
      rintro _ Ha1 ⟨rfl, ha1, ka1⟩
      have na1 := ka1.1
      repeat' (first
    | (show EW _ _ _ _ _; first | refine ew_n (hn := r_strix (hi := shr4 c) (hb := hex_get (by have := c.toNat_lt; omega))) (h := ?_) | refine ew_n (hn := r_bin (hr := and15 c)) (h := ?_) | refine ew_n (hn := r_strix (hi := rfl) (hb := hex_get (n := c.toNat % 16) (by omega))) (h := ?_) | refine ew_p (h := ?_) | (refine ew_fresh ?_; intro b hb; refine ew_nw hb (h := ?_); (try simp only [AHeap.push_next, AHeap.put_next] at hb)) | (refine ew_df (ht := ?_) (hf := ?_) <;> intro _) | refine ew_ar (h := ?_) | refine w_nil ?_)
    | (show EC _ _ _ _ _ _ _; first | refine k_seq ?_ | refine k_region ?_ | refine k_skip ?_ | refine k_ret ?_ | refine k_exit ?_ | refine k_block ?_ | refine k_true (h := ?_) | refine k_false (h := ?_))
    | (show EX _ (bodyA _ _ _) _ _ _; first | refine x_end1 (hq := ?_))
    | (show EX _ _ _ _ _; first | refine x_normal ?_ | refine x_ret ?_ | refine x_exit ?_ | refine x_same ?_ | refine x_other (h := ?_) | refine x_bnormal ?_ | refine x_bret ?_))
      refine ew_callS (hc := cr_call) (hR := wb_calls (hexD (c.toNat % 16)) ha1 (fun i hi => by show b < i; omega) (by first | omega | (simp only [List.length_append, List.length_cons, List.length_nil]; omega))) (h := ?_)
      rintro _ Ha2 ⟨rfl, ha2, ka2⟩
      have na2 := ka2.1
      repeat' (first
    | (show EW _ _ _ _ _; first | refine ew_p (h := ?_) | (refine ew_fresh ?_; intro b hb; refine ew_nw hb (h := ?_); (try simp only [AHeap.push_next, AHeap.put_next] at hb)) | (refine ew_df (ht := ?_) (hf := ?_) <;> intro _) | refine ew_ar (h := ?_) | refine w_nil ?_)
    | (show EC _ _ _ _ _ _ _; first | refine k_seq ?_ | refine k_region ?_ | refine k_skip ?_ | refine k_ret ?_ | refine k_exit ?_ | refine k_block ?_ | refine k_true (h := ?_) | refine k_false (h := ?_))
    | (show EX _ (bodyA _ _ _) _ _ _; first | refine x_end1 (hq := ?_))
    | (show EX _ _ _ _ _; first | refine x_normal ?_ | refine x_ret ?_ | refine x_exit ?_ | refine x_same ?_ | refine x_other (h := ?_) | refine x_bnormal ?_ | refine x_bret ?_))
      have hqb : pByte s[i] = [92, 120, hexD (c.toNat / 16), hexD (c.toNat % 16)] := by rw [← hc0]; unfold pByte; exact if_pos (by omega)
      exact x_again (n - 1) [(8, _), (7, _), (0, _), (3, _)] ⟨rfl, rfl, rfl, rfl, trivial⟩ (by omega) (PI.next hk hq0 hq4 hlt hi (by rw [hqb]; simpa using ha2) (BuF.trans (BuF.trans (ka0) ka1) ka2))
    · refine ew_callS (hc := cr_call) (hR := wb_calls c hb4 (fun i hi => by show b < i; omega) (by first | omega | (simp only [List.length_append, List.length_cons, List.length_nil]; omega))) (h := ?_)
      rintro _ Ha0 ⟨rfl, ha0, ka0⟩
      have na0 := ka0.1
      repeat' (first
    | (show EW _ _ _ _ _; first | refine ew_p (h := ?_) | (refine ew_fresh ?_; intro b hb; refine ew_nw hb (h := ?_); (try simp only [AHeap.push_next, AHeap.put_next] at hb)) | (refine ew_df (ht := ?_) (hf := ?_) <;> intro _) | refine ew_ar (h := ?_) | refine w_nil ?_)
    | (show EC _ _ _ _ _ _ _; first | refine k_seq ?_ | refine k_region ?_ | refine k_skip ?_ | refine k_ret ?_ | refine k_exit ?_ | refine k_block ?_ | refine k_true (h := ?_) | refine k_false (h := ?_))
    | (show EX _ (bodyA _ _ _) _ _ _; first | refine x_end1 (hq := ?_))
    | (show EX _ _ _ _ _; first | refine x_normal ?_ | refine x_ret ?_ | refine x_exit ?_ | refine x_same ?_ | refine x_other (h := ?_) | refine x_bnormal ?_ | refine x_bret ?_))
      have hqb : pByte s[i] = [c] := by rw [← hc0]; unfold pByte; exact if_neg (by omega)
      exact x_again (n - 1) [(8, _), (7, _), (0, _), (3, _)] ⟨rfl, rfl, rfl, rfl, trivial⟩ (by omega) (PI.next hk hq0 hq4 hlt hi (by rw [hqb]; simpa using ha0) (ka0))
  · obtain rfl : i = s.length := by omega
    rw [List.take_length] at hb4 hfl
    repeat' (first
    | (show EW _ _ _ _ _; first | refine ew_p (h := ?_) | (refine ew_fresh ?_; intro b hb; refine ew_nw hb (h := ?_); (try simp only [AHeap.push_next, AHeap.put_next] at hb)) | (refine ew_df (ht := ?_) (hf := ?_) <;> intro _) | refine ew_ar (h := ?_) | refine w_nil ?_)
    | (show EC _ _ _ _ _ _ _; first | refine k_seq ?_ | refine k_region ?_ | refine k_skip ?_ | refine k_ret ?_ | refine k_exit ?_ | refine k_block ?_ | refine k_true (h := ?_) | refine k_false (h := ?_))
    | (show EX _ (bodyA _ _ _) _ _ _; first | refine x_end1 (hq := ?_))
    | (show EX _ _ _ _ _; first | refine x_normal ?_ | refine x_ret ?_ | refine x_exit ?_ | refine x_same ?_ | refine x_other (h := ?_) | refine x_bnormal ?_ | refine x_bret ?_))
    refine ew_callS (hc := cr_call) (hR := st_calls hb4 (by omega)) (h := ?_)
    rintro _ H6 ⟨rfl, k6⟩
    repeat' (first
    | (show EW _ _ _ _ _; first | refine ew_p (h := ?_) | (refine ew_fresh ?_; intro b hb; refine ew_nw hb (h := ?_); (try simp only [AHeap.push_next, AHeap.put_next] at hb)) | (refine ew_df (ht := ?_) (hf := ?_) <;> intro _) | refine ew_ar (h := ?_) | refine w_nil ?_)
    | (show EC _ _ _ _ _ _ _; first | refine k_seq ?_ | refine k_region ?_ | refine k_skip ?_ | refine k_ret ?_ | refine k_exit ?_ | refine k_block ?_ | refine k_true (h := ?_) | refine k_false (h := ?_))
    | (show EX _ (bodyA _ _ _) _ _ _; first | refine x_end1 (hq := ?_))
    | (show EX _ _ _ _ _; first | refine x_normal ?_ | refine x_ret ?_ | refine x_exit ?_ | refine x_same ?_ | refine x_other (h := ?_) | refine x_bnormal ?_ | refine x_bret ?_))
    exact ⟨rfl, rfl, hk.bu (q := b) (k6.weak fun _ _ h => .inr h) hq0 fun i h => Nat.le_of_lt h⟩
/-! wordy -/
def wordyB : List UInt8 → Bool
  | [] => false
  | c :: _ => 97 ≤ c.toNat && c.toNat ≤ 122
theorem wordy_calls {H : AHeap} (s : List UInt8) : ACalls Tryz.prog 90 #[.string (strB s)] H fun v H' => v = .bool (wordyB s) ∧ H' = H := by
  refine k_open (args := [.string (strB s)]) (E0 := [(0, .string (strB s))]) tbl90 Tryz.func90 rfl follows (by kernel_rfl) Tryz.ntmps90 rfl rfl ?_
  cases s with
  | nil =>
    repeat' (first
    | (show EW _ _ _ _ _; first | refine ew_p (h := ?_) | refine ew_skip (h := ?_) | (refine ew_df (ht := ?_) (hf := ?_) <;> intro _) | refine ew_p2 (h := ?_) | (refine ew_df2 (ht := ?_) (hf := ?_) <;> intro _) | refine w_nil ?_)
    | (show EC _ _ _ _ _ _ _; first | refine k_seq ?_ | refine k_region ?_ | refine k_skip ?_ | refine k_ret ?_ | refine k_exit ?_ | refine k_block ?_ | refine k_true (h := ?_) | refine k_false (h := ?_))
    | (show EX _ (bodyA _ _ _) _ _ _; first | refine x_end1 (hq := ?_))
    | (show EX _ _ _ _ _; first | refine x_normal ?_ | refine x_ret ?_ | refine x_exit ?_ | refine x_same ?_ | refine x_other (h := ?_) | refine x_bnormal ?_ | refine x_bret ?_))
    · exact absurd rfl ‹¬ _›
    · exact ⟨rfl, rfl⟩
  | cons c s =>
    have h0 : (c :: s)[0]? = some c := rfl
    repeat' (first
    | (show EW _ _ _ _ _; first | refine ew_n (hn := r_strix (j := 0) (hi := rfl) (hb := h0)) (h := ?_) | refine ew_p (h := ?_) | refine ew_skip (h := ?_) | (refine ew_df (ht := ?_) (hf := ?_) <;> intro _) | refine w_nil ?_)
    | (show EC _ _ _ _ _ _ _; first | refine k_seq ?_ | refine k_region ?_ | refine k_skip ?_ | refine k_ret ?_ | refine k_exit ?_ | refine k_block ?_ | refine k_true (h := ?_) | refine k_false (h := ?_))
    | (show EX _ (bodyA _ _ _) _ _ _; first | refine x_end1 (hq := ?_))
    | (show EX _ _ _ _ _; first | refine x_normal ?_ | refine x_ret ?_ | refine x_exit ?_ | refine x_same ?_ | refine x_other (h := ?_) | refine x_bnormal ?_ | refine x_bret ?_))
    · exact ⟨by have h1 : 97 ≤ c.toNat := by omega
                have h2 : c.toNat ≤ 122 := by omega
                simp [wordyB, h1, h2], rfl⟩
    · exact ⟨by have h2 : ¬ c.toNat ≤ 122 := by omega
                simp [wordyB, h2], rfl⟩
    · exact ⟨by have h2 : ¬ 97 ≤ c.toNat := by omega
                simp [wordyB, h2], rfl⟩
    · exact absurd (List.cons_ne_nil _ _) ‹_›
/-! joined -/
def joinP (ss : List (List UInt8)) (i : Nat) : List UInt8 := (List.range i).flatMap fun j => (if 0 < j ∧ wordyB (ss.getD (j - 1) []) = true ∧ wordyB (ss.getD j []) = true then [32] else []) ++ ss.getD j []
theorem joinP_succ (ss : List (List UInt8)) (i : Nat) : joinP ss (i + 1) = joinP ss i ++ ((if 0 < i ∧ wordyB (ss.getD (i - 1) []) = true ∧ wordyB (ss.getD i []) = true then [32] else []) ++ ss.getD i []) := by
  simp [joinP, List.range_succ]
theorem joinP_le (ss : List (List UInt8)) {i j : Nat} (h : i ≤ j) : (joinP ss i).length ≤ (joinP ss j).length := by
  induction h with
  | refl => exact Nat.le_refl _
  | step _ ih => rw [joinP_succ, List.length_append]; omega
def joinB (ss : List (List UInt8)) : List UInt8 := joinP ss ss.length
def JI (H0 : AHeap) (q : Nat) (F : Blks) (l : Value) (ss : List (List UInt8)) (n : Nat) (E : Env) (H : AHeap) : Prop :=
  Keep No H0 H ∧ q < H.next ∧ ∃ i : Nat, n + i = ss.length ∧ Bu H q (PX q) (joinP ss i) ∧
    E = [(8, .int .i64 i), (7, .int .i64 ss.length), (6, l), (0, l), (3, .pointer (some ⟨q, 0, none⟩))]
theorem joined_calls {H : AHeap} {F : Blks} {l : Value} {ss : List (List UInt8)} (hl : SR2 H F l ss) (hs : ss.length ≤ 1000000) (hj : (joinB ss).length ≤ 1000000) : ACalls Tryz.prog 45 #[l] H fun v H' => v = .string (strB (joinB ss)) ∧ H' = H := by
  refine ACalls.forget ?_
  obtain ⟨zd, cd, rfl⟩ := Rd.slice hl
  refine k_open (args := [.slice zd ss.length cd]) (E0 := [(0, .slice zd ss.length cd)]) tbl45 Tryz.func45 rfl follows (by kernel_rfl) Tryz.ntmps45 rfl rfl ?_
  repeat' (first
    | (show EW _ _ _ _ _; first | refine ew_p (h := ?_) | refine ew_skip (h := ?_) | refine ew_ld (h := ?_) | (refine ew_fresh ?_; intro b hb; refine ew_nw hb (h := ?_); (try simp only [AHeap.push_next, AHeap.put_next] at hb)) | (refine ew_df (ht := ?_) (hf := ?_) <;> intro _) | refine ew_ar (h := ?_) | refine w_nil ?_)
    | (show EC _ _ _ _ _ _ _; first | refine k_seq ?_ | refine k_region ?_ | refine k_skip ?_ | refine k_ret ?_ | refine k_exit ?_ | refine k_block ?_ | refine k_true (h := ?_) | refine k_false (h := ?_))
    | (show EX _ (bodyA _ _ _) _ _ _; first | refine x_end1 (hq := ?_))
    | (show EX _ _ _ _ _; first | refine x_normal ?_ | refine x_ret ?_ | refine x_exit ?_ | refine x_same ?_ | refine x_other (h := ?_) | refine x_bnormal ?_ | refine x_bret ?_))
  have hbu := Bu.new (X := PX b) hb (fun h => absurd h (Nat.lt_irrefl _))
  have k0 : Keep No H (H.push (.row ⟨[.pointer none, .slice none 0 0], 172, 0, true⟩)) := Keep.refl.push
  have n0 : (H.push (.row ⟨[.pointer none, .slice none 0 0], 172, 0, true⟩)).next = H.next + 1 := AHeap.push_next ..
  generalize H.push (.row ⟨[.pointer none, .slice none 0 0], 172, 0, true⟩) = H1 at hbu k0 n0 ⊢
  refine k_loop follows (JI H b F (.slice zd ss.length cd) ss) ss.length [(8, _), (7, _), (6, _), (0, _), (3, _)] (by kernel_rfl) ⟨rfl, rfl, rfl, rfl, rfl, trivial⟩ ⟨k0, by omega, 0, by omega, by simpa [joinP] using hbu, rfl⟩ ?_
  clear hbu k0
  rintro n E H4 ⟨hk, hq4, i, hi, hb4, rfl⟩
  by_cases hlt : i < ss.length
  · have hle := joinP_le ss (show i + 1 ≤ ss.length from hlt)
    rw [show joinP ss ss.length = joinB ss from rfl] at hle
    have hsu := joinP_succ ss i
    rw [hsu, List.length_append, List.length_append] at hle
    obtain ⟨ad, c, hv, hF, hadl, hcell⟩ := SR2.at (Rd.keep0 hl hk) hlt
    simp only [Value.slice.injEq, true_and] at hv
    obtain ⟨rfl, rfl⟩ := hv
    have hgd : ss.getD i [] = ss[i] := by simp [List.getD_eq_getElem?_getD, List.getElem?_eq_getElem hlt]
    rw [hgd] at hsu hle
    by_cases hi0 : 0 < i
    · obtain ⟨_, _, hv, _, _, hcell2⟩ := SR2.at (i := i - 1) (Rd.keep0 hl hk) (by omega)
      simp only [Value.slice.injEq, true_and, Option.some.injEq] at hv
      obtain ⟨rfl, _⟩ := hv
      have hci : ((i - 1 : Nat) : Int) = (i : Int) - 1 := by omega
      rw [hci] at hcell2
      have hgd2 : ss.getD (i - 1) [] = ss[i - 1] := by simp [List.getD_eq_getElem?_getD, List.getElem?_eq_getElem (show i - 1 < ss.length by omega)]
      rw [hgd2] at hsu hle
      cases hw1 : wordyB ss[i - 1] with
      | true =>
        cases hw2 : wordyB ss[i] with
        | true =>
          repeat' (first
    | (show EW _ _ _ _ _; first | refine ew_p (h := ?_) | refine ew_skip (h := ?_) | refine ew_ld (h := ?_) | (refine ew_fresh ?_; intro b hb; refine ew_nw hb (h := ?_); (try simp only [AHeap.push_next, AHeap.put_next] at hb)) | (refine ew_df (ht := ?_) (hf := ?_) <;> intro _) | refine ew_ar (h := ?_) | (refine ew_callS (hc := cr_call) (hR := wordy_calls _) (h := ?_); rintro _ _ ⟨rfl, rfl⟩; try rw [hw1]; try rw [hw2]) | refine w_nil ?_)
    | (show EC _ _ _ _ _ _ _; first | refine k_seq ?_ | refine k_region ?_ | refine k_skip ?_ | refine k_ret ?_ | refine k_exit ?_ | refine k_block ?_ | refine k_true (h := ?_) | refine k_false (h := ?_))
    | (show EX _ (bodyA _ _ _) _ _ _; first | refine x_end1 (hq := ?_))
    | (show EX _ _ _ _ _; first | refine x_normal ?_ | refine x_ret ?_ | refine x_exit ?_ | refine x_same ?_ | refine x_other (h := ?_) | refine x_bnormal ?_ | refine x_bret ?_))
          rw [hw2]
          repeat' (first
    | (show EW _ _ _ _ _; first | refine ew_p (h := ?_) | refine ew_skip (h := ?_) | refine ew_ld (h := ?_) | (refine ew_fresh ?_; intro b hb; refine ew_nw hb (h := ?_); (try simp only [AHeap.push_next, AHeap.put_next] at hb)) | (refine ew_df (ht := ?_) (hf := ?_) <;> intro _) | refine ew_ar (h := ?_) | refine w_nil ?_)
    | (show EC _ _ _ _ _ _ _; first | refine k_seq ?_ | refine k_region ?_ | refine k_skip ?_ | refine k_ret ?_ | refine k_exit ?_ | refine k_block ?_ | refine k_true (h := ?_) | refine k_false (h := ?_))
    | (show EX _ (bodyA _ _ _) _ _ _; first | refine x_end1 (hq := ?_))
    | (show EX _ _ _ _ _; first | refine x_normal ?_ | refine x_ret ?_ | refine x_exit ?_ | refine x_same ?_ | refine x_other (h := ?_) | refine x_bnormal ?_ | refine x_bret ?_))
          refine ew_callS (hc := cr_call) (hR := wb_calls 32 hb4 (fun i hi => by show b < i; omega) (by omega)) (h := ?_)
          rintro _ H5 ⟨rfl, hb5, k5⟩
          have n5 := k5.1
          repeat' (first
    | (show EW _ _ _ _ _; first | refine ew_p (h := ?_) | refine ew_skip (h := ?_) | refine ew_ld (h := ?_) | (refine ew_fresh ?_; intro b hb; refine ew_nw hb (h := ?_); (try simp only [AHeap.push_next, AHeap.put_next] at hb)) | (refine ew_df (ht := ?_) (hf := ?_) <;> intro _) | refine ew_ar (h := ?_) | refine w_nil ?_)
    | (show EC _ _ _ _ _ _ _; first | refine k_seq ?_ | refine k_region ?_ | refine k_skip ?_ | refine k_ret ?_ | refine k_exit ?_ | refine k_block ?_ | refine k_true (h := ?_) | refine k_false (h := ?_))
    | (show EX _ (bodyA _ _ _) _ _ _; first | refine x_end1 (hq := ?_))
    | (show EX _ _ _ _ _; first | refine x_normal ?_ | refine x_ret ?_ | refine x_exit ?_ | refine x_same ?_ | refine x_other (h := ?_) | refine x_bnormal ?_ | refine x_bret ?_))
          refine ew_callS (hc := cr_call) (hR := ws_calls ss[i] hb5 (fun i hi => by show b < i; omega) (by first | omega | (simp only [List.length_append, List.length_cons, List.length_nil]; omega))) (h := ?_)
          rintro _ H6 ⟨rfl, hb6, k6⟩
          have n6 := k6.1
          repeat' (first
    | (show EW _ _ _ _ _; first | refine ew_p (h := ?_) | refine ew_skip (h := ?_) | refine ew_ld (h := ?_) | (refine ew_fresh ?_; intro b hb; refine ew_nw hb (h := ?_); (try simp only [AHeap.push_next, AHeap.put_next] at hb)) | (refine ew_df (ht := ?_) (hf := ?_) <;> intro _) | refine ew_ar (h := ?_) | refine w_nil ?_)
    | (show EC _ _ _ _ _ _ _; first | refine k_seq ?_ | refine k_region ?_ | refine k_skip ?_ | refine k_ret ?_ | refine k_exit ?_ | refine k_block ?_ | refine k_true (h := ?_) | refine k_false (h := ?_))
    | (show EX _ (bodyA _ _ _) _ _ _; first | refine x_end1 (hq := ?_))
    | (show EX _ _ _ _ _; first | refine x_normal ?_ | refine x_ret ?_ | refine x_exit ?_ | refine x_same ?_ | refine x_other (h := ?_) | refine x_bnormal ?_ | refine x_bret ?_))
          exact x_again (n - 1) [(8, _), (7, _), (6, _), (0, _), (3, _)] ⟨rfl, rfl, rfl, rfl, rfl, trivial⟩ (by omega) ⟨hk.bu (BuF.trans (k5) k6) (by omega) fun i h => Nat.le_of_lt h, by omega, i + 1, by omega, by rw [hsu]; simpa [hi0, hw1, hw2] using hb6, rfl⟩
        | false =>
          repeat' (first
    | (show EW _ _ _ _ _; first | refine ew_p (h := ?_) | refine ew_skip (h := ?_) | refine ew_ld (h := ?_) | (refine ew_fresh ?_; intro b hb; refine ew_nw hb (h := ?_); (try simp only [AHeap.push_next, AHeap.put_next] at hb)) | (refine ew_df (ht := ?_) (hf := ?_) <;> intro _) | refine ew_ar (h := ?_) | (refine ew_callS (hc := cr_call) (hR := wordy_calls _) (h := ?_); rintro _ _ ⟨rfl, rfl⟩; try rw [hw1]; try rw [hw2]) | refine w_nil ?_)
    | (show EC _ _ _ _ _ _ _; first | refine k_seq ?_ | refine k_region ?_ | refine k_skip ?_ | refine k_ret ?_ | refine k_exit ?_ | refine k_block ?_ | refine k_true (h := ?_) | refine k_false (h := ?_))
    | (show EX _ (bodyA _ _ _) _ _ _; first | refine x_end1 (hq := ?_))
    | (show EX _ _ _ _ _; first | refine x_normal ?_ | refine x_ret ?_ | refine x_exit ?_ | refine x_same ?_ | refine x_other (h := ?_) | refine x_bnormal ?_ | refine x_bret ?_))
          rw [hw2]
          repeat' (first
    | (show EW _ _ _ _ _; first | refine ew_p (h := ?_) | refine ew_skip (h := ?_) | refine ew_ld (h := ?_) | (refine ew_fresh ?_; intro b hb; refine ew_nw hb (h := ?_); (try simp only [AHeap.push_next, AHeap.put_next] at hb)) | (refine ew_df (ht := ?_) (hf := ?_) <;> intro _) | refine ew_ar (h := ?_) | refine w_nil ?_)
    | (show EC _ _ _ _ _ _ _; first | refine k_seq ?_ | refine k_region ?_ | refine k_skip ?_ | refine k_ret ?_ | refine k_exit ?_ | refine k_block ?_ | refine k_true (h := ?_) | refine k_false (h := ?_))
    | (show EX _ (bodyA _ _ _) _ _ _; first | refine x_end1 (hq := ?_))
    | (show EX _ _ _ _ _; first | refine x_normal ?_ | refine x_ret ?_ | refine x_exit ?_ | refine x_same ?_ | refine x_other (h := ?_) | refine x_bnormal ?_ | refine x_bret ?_))
          refine ew_callS (hc := cr_call) (hR := ws_calls ss[i] hb4 (fun i hi => by show b < i; omega) (by first | omega | (simp only [List.length_append, List.length_cons, List.length_nil]; omega))) (h := ?_)
          rintro _ H6 ⟨rfl, hb6, k6⟩
          have n6 := k6.1
          repeat' (first
    | (show EW _ _ _ _ _; first | refine ew_p (h := ?_) | refine ew_skip (h := ?_) | refine ew_ld (h := ?_) | (refine ew_fresh ?_; intro b hb; refine ew_nw hb (h := ?_); (try simp only [AHeap.push_next, AHeap.put_next] at hb)) | (refine ew_df (ht := ?_) (hf := ?_) <;> intro _) | refine ew_ar (h := ?_) | refine w_nil ?_)
    | (show EC _ _ _ _ _ _ _; first | refine k_seq ?_ | refine k_region ?_ | refine k_skip ?_ | refine k_ret ?_ | refine k_exit ?_ | refine k_block ?_ | refine k_true (h := ?_) | refine k_false (h := ?_))
    | (show EX _ (bodyA _ _ _) _ _ _; first | refine x_end1 (hq := ?_))
    | (show EX _ _ _ _ _; first | refine x_normal ?_ | refine x_ret ?_ | refine x_exit ?_ | refine x_same ?_ | refine x_other (h := ?_) | refine x_bnormal ?_ | refine x_bret ?_))
          exact x_again (n - 1) [(8, _), (7, _), (6, _), (0, _), (3, _)] ⟨rfl, rfl, rfl, rfl, rfl, trivial⟩ (by omega) ⟨hk.bu (k6) (by omega) fun i h => Nat.le_of_lt h, by omega, i + 1, by omega, by rw [hsu]; simpa [hi0, hw1, hw2] using hb6, rfl⟩
      | false =>
        have hw2 : True := trivial
        repeat' (first
    | (show EW _ _ _ _ _; first | refine ew_p (h := ?_) | refine ew_skip (h := ?_) | refine ew_ld (h := ?_) | (refine ew_fresh ?_; intro b hb; refine ew_nw hb (h := ?_); (try simp only [AHeap.push_next, AHeap.put_next] at hb)) | (refine ew_df (ht := ?_) (hf := ?_) <;> intro _) | refine ew_ar (h := ?_) | (refine ew_callS (hc := cr_call) (hR := wordy_calls _) (h := ?_); rintro _ _ ⟨rfl, rfl⟩; try rw [hw1]; try rw [hw2]) | refine w_nil ?_)
    | (show EC _ _ _ _ _ _ _; first | refine k_seq ?_ | refine k_region ?_ | refine k_skip ?_ | refine k_ret ?_ | refine k_exit ?_ | refine k_block ?_ | refine k_true (h := ?_) | refine k_false (h := ?_))
    | (show EX _ (bodyA _ _ _) _ _ _; first | refine x_end1 (hq := ?_))
    | (show EX _ _ _ _ _; first | refine x_normal ?_ | refine x_ret ?_ | refine x_exit ?_ | refine x_same ?_ | refine x_other (h := ?_) | refine x_bnormal ?_ | refine x_bret ?_))
        refine ew_callS (hc := cr_call) (hR := ws_calls ss[i] hb4 (fun i hi => by show b < i; omega) (by first | omega | (simp only [List.length_append, List.length_cons, List.length_nil]; omega))) (h := ?_)
        rintro _ H6 ⟨rfl, hb6, k6⟩
        have n6 := k6.1
        repeat' (first
    | (show EW _ _ _ _ _; first | refine ew_p (h := ?_) | refine ew_skip (h := ?_) | refine ew_ld (h := ?_) | (refine ew_fresh ?_; intro b hb; refine ew_nw hb (h := ?_); (try simp only [AHeap.push_next, AHeap.put_next] at hb)) | (refine ew_df (ht := ?_) (hf := ?_) <;> intro _) | refine ew_ar (h := ?_) | refine w_nil ?_)
    | (show EC _ _ _ _ _ _ _; first | refine k_seq ?_ | refine k_region ?_ | refine k_skip ?_ | refine k_ret ?_ | refine k_exit ?_ | refine k_block ?_ | refine k_true (h := ?_) | refine k_false (h := ?_))
    | (show EX _ (bodyA _ _ _) _ _ _; first | refine x_end1 (hq := ?_))
    | (show EX _ _ _ _ _; first | refine x_normal ?_ | refine x_ret ?_ | refine x_exit ?_ | refine x_same ?_ | refine x_other (h := ?_) | refine x_bnormal ?_ | refine x_bret ?_))
        exact x_again (n - 1) [(8, _), (7, _), (6, _), (0, _), (3, _)] ⟨rfl, rfl, rfl, rfl, rfl, trivial⟩ (by omega) ⟨hk.bu (k6) (by omega) fun i h => Nat.le_of_lt h, by omega, i + 1, by omega, by rw [hsu]; simpa [hi0, hw1] using hb6, rfl⟩
    · have hw1 : True := trivial
      have hw2 : True := trivial
      repeat' (first
    | (show EW _ _ _ _ _; first | refine ew_p (h := ?_) | refine ew_skip (h := ?_) | refine ew_ld (h := ?_) | (refine ew_fresh ?_; intro b hb; refine ew_nw hb (h := ?_); (try simp only [AHeap.push_next, AHeap.put_next] at hb)) | (refine ew_df (ht := ?_) (hf := ?_) <;> intro _) | refine ew_ar (h := ?_) | (refine ew_callS (hc := cr_call) (hR := wordy_calls _) (h := ?_); rintro _ _ ⟨rfl, rfl⟩; try rw [hw1]; try rw [hw2]) | refine w_nil ?_)
    | (show EC _ _ _ _ _ _ _; first | refine k_seq ?_ | refine k_region ?_ | refine k_skip ?_ | refine k_ret ?_ | refine k_exit ?_ | refine k_block ?_ | refine k_true (h := ?_) | refine k_false (h := ?_))
    | (show EX _ (bodyA _ _ _) _ _ _; first | refine x_end1 (hq := ?_))
    | (show EX _ _ _ _ _; first | refine x_normal ?_ | refine x_ret ?_ | refine x_exit ?_ | refine x_same ?_ | refine x_other (h := ?_) | refine x_bnormal ?_ | refine x_bret ?_))
      refine ew_callS (hc := cr_call) (hR := ws_calls ss[i] hb4 (fun i hi => by show b < i; omega) (by first | omega | (simp only [List.length_append, List.length_cons, List.length_nil]; omega))) (h := ?_)
      rintro _ H6 ⟨rfl, hb6, k6⟩
      have n6 := k6.1
      repeat' (first
    | (show EW _ _ _ _ _; first | refine ew_p (h := ?_) | refine ew_skip (h := ?_) | refine ew_ld (h := ?_) | (refine ew_fresh ?_; intro b hb; refine ew_nw hb (h := ?_); (try simp only [AHeap.push_next, AHeap.put_next] at hb)) | (refine ew_df (ht := ?_) (hf := ?_) <;> intro _) | refine ew_ar (h := ?_) | refine w_nil ?_)
    | (show EC _ _ _ _ _ _ _; first | refine k_seq ?_ | refine k_region ?_ | refine k_skip ?_ | refine k_ret ?_ | refine k_exit ?_ | refine k_block ?_ | refine k_true (h := ?_) | refine k_false (h := ?_))
    | (show EX _ (bodyA _ _ _) _ _ _; first | refine x_end1 (hq := ?_))
    | (show EX _ _ _ _ _; first | refine x_normal ?_ | refine x_ret ?_ | refine x_exit ?_ | refine x_same ?_ | refine x_other (h := ?_) | refine x_bnormal ?_ | refine x_bret ?_))
      exact x_again (n - 1) [(8, _), (7, _), (6, _), (0, _), (3, _)] ⟨rfl, rfl, rfl, rfl, rfl, trivial⟩ (by omega) ⟨hk.bu (k6) (by omega) fun i h => Nat.le_of_lt h, by omega, i + 1, by omega, by rw [hsu]; simpa [hi0] using hb6, rfl⟩
  · obtain rfl : i = ss.length := by omega
    repeat' (first
    | (show EW _ _ _ _ _; first | refine ew_p (h := ?_) | refine ew_skip (h := ?_) | refine ew_ld (h := ?_) | (refine ew_fresh ?_; intro b hb; refine ew_nw hb (h := ?_); (try simp only [AHeap.push_next, AHeap.put_next] at hb)) | (refine ew_df (ht := ?_) (hf := ?_) <;> intro _) | refine ew_ar (h := ?_) | refine w_nil ?_)
    | (show EC _ _ _ _ _ _ _; first | refine k_seq ?_ | refine k_region ?_ | refine k_skip ?_ | refine k_ret ?_ | refine k_exit ?_ | refine k_block ?_ | refine k_true (h := ?_) | refine k_false (h := ?_))
    | (show EX _ (bodyA _ _ _) _ _ _; first | refine x_end1 (hq := ?_))
    | (show EX _ _ _ _ _; first | refine x_normal ?_ | refine x_ret ?_ | refine x_exit ?_ | refine x_same ?_ | refine x_other (h := ?_) | refine x_bnormal ?_ | refine x_bret ?_))
    refine ew_callS (hc := cr_call) (hR := st_calls hb4 (Nat.le_trans (show (joinP ss ss.length).length ≤ 1000000 from hj) (by omega))) (h := ?_)
    rintro _ H6 ⟨rfl, k6⟩
    repeat' (first
    | (show EW _ _ _ _ _; first | refine ew_p (h := ?_) | refine ew_skip (h := ?_) | refine ew_ld (h := ?_) | (refine ew_fresh ?_; intro b hb; refine ew_nw hb (h := ?_); (try simp only [AHeap.push_next, AHeap.put_next] at hb)) | (refine ew_df (ht := ?_) (hf := ?_) <;> intro _) | refine ew_ar (h := ?_) | refine w_nil ?_)
    | (show EC _ _ _ _ _ _ _; first | refine k_seq ?_ | refine k_region ?_ | refine k_skip ?_ | refine k_ret ?_ | refine k_exit ?_ | refine k_block ?_ | refine k_true (h := ?_) | refine k_false (h := ?_))
    | (show EX _ (bodyA _ _ _) _ _ _; first | refine x_end1 (hq := ?_))
    | (show EX _ _ _ _ _; first | refine x_normal ?_ | refine x_ret ?_ | refine x_exit ?_ | refine x_same ?_ | refine x_other (h := ?_) | refine x_bnormal ?_ | refine x_bret ?_))
    exact ⟨rfl, rfl, hk.bu (q := b) (k6.weak fun _ _ h => .inr h) (by omega) fun i h => Nat.le_of_lt h⟩
end Go.Ae

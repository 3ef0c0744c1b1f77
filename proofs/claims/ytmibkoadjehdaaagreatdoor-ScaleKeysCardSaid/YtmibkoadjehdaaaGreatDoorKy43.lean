/- unicode/utf8.AppendRune and strings.Builder.WriteRune of a rune that is one. Conditions: the rune is at most 0x10FFFF and no surrogate. -/
import Derived.Test.YtmibkoadjehdaaaGreatDoorKy18
import Derived.Lib.RuneBytes
set_option linter.unusedVariables false
set_option linter.unusedSimpArgs false
set_option linter.unusedSimpArgs false
set_option linter.unusedVariables false
set_option linter.unnecessarySimpa false
set_option maxRecDepth 100000
set_option maxHeartbeats 800000
namespace Go.Ae
open Go.Proofs
attribute [local irreducible] awC wpSeq wpS nRes aw aE acall ACalls szT isAggT zeroT byT elemSz fieldOff Program.underlying appendA copyA thenA inBlockA bodyA AHeap.push AHeap.put AHeap.cellsAt AHeap.setCells resV loadA intBin EW EC EX Nr Nc Er Cr Agree
section
variable {P : Program} {N : Nat} {E : Env} {H : AHeap} {d : Nat} {t yt ty : TypeId} {p : String} {af : Array Edge} {g : Option (Nat × Bool)} {x y : Operand}
theorem r_shrN {k' : IntKind} {c : Nat} (n D : Nat) (hx : evE E x = some (.int .i32 (c : Int)) := by exact rfl) (hy : evE E y = some (.int k' (n : Int)) := by exact rfl) (hD : 2 ^ min n 32 = D := by exact rfl) :
    Nr P N E H ⟨some d, .binOp .shr t x y yt, ty, p, af, g⟩ (.int .i32 ((c / D : Nat) : Int)) H := by
  have h := r_shr (P := P) (N := N) (E := E) (H := H) (d := d) (ty := ty) (p := p) (af := af) (g := g) (x := x) (y := y) (t := t) (yt := yt) hx hy (by omega)
  have e : (c : Int).fdiv (2 ^ min (Int.toNat (n : Int)) IntKind.i32.bits) = ((c / D : Nat) : Int) := by
    have h32 : IntKind.i32.bits = 32 := rfl
    rw [Int.toNat_natCast, h32, Int.fdiv_eq_ediv_of_nonneg _ (Int.le_of_lt (Int.pow_pos (by decide))), ← hD]
    simp
  rw [e] at h
  exact h
theorem conv8m (n : Nat) : Value.int .u8 (IntKind.u8.wrap (n : Int)) = .int .u8 ((n % 256 : Nat) : Int) := by
  have : IntKind.u8.wrap (n : Int) = ((n % 256 : Nat) : Int) := by simp [IntKind.wrap, IntKind.bits, IntKind.signed]
  rw [this]
theorem conv32m {n : Nat} (h : n ≤ 1114111) : Value.int .u32 (IntKind.u32.wrap (n : Int)) = .int .u32 (n : Int) := by
  have : IntKind.u32.wrap (n : Int) = (n : Int) := by
    simp [IntKind.wrap, IntKind.bits, IntKind.signed]
    omega
  rw [this]
theorem or8 {n : Nat} (k l : Nat) (hl : ∀ m : Fin l, (BitVec.ofInt 8 (k : Int) ||| BitVec.ofInt 8 (m.val : Int)).toNat = k + m.val) (hkl : k + l ≤ 256) (h : n < l) : intBin .or .u8 (k : Int) (n : Int) = some (.int .u8 ((k + n : Nat) : Int)) := by
  have hl := hl ⟨n, h⟩
  simp only [intBin]
  have h9 : IntKind.u8.bits = 8 := rfl
  rw [h9, hl, wrap8_in]
  · omega
  · omega
theorem and8 {n : Nat} (h : n < 256) : intBin .and .u8 (n : Int) 63 = some (.int .u8 ((n % 64 : Nat) : Int)) := by
  have h8 : ∀ m : Fin 256, (BitVec.ofInt 8 (m.val : Int) &&& BitVec.ofInt 8 63).toNat = m.val % 64 := by decide
  have h8 := h8 ⟨n, h⟩
  simp only [intBin]
  have h9 : IntKind.u8.bits = 8 := rfl
  rw [h9, h8, wrap8_in]
  · omega
  · omega
theorem r_and63 {n : Nat} (hx : evE E x = some (.int .u8 (n : Int)) := by exact rfl) (hy : evE E y = some (.int .u8 63) := by exact rfl) (h : n < 256 := by omega) :
    Nr P N E H ⟨some d, .binOp .and t x y yt, ty, p, af, g⟩ (.int .u8 ((n % 64 : Nat) : Int)) H := r_bin hx hy (and8 h)
theorem r_or128 {n : Nat} (hx : evE E x = some (.int .u8 128) := by exact rfl) (hy : evE E y = some (.int .u8 (n : Int)) := by exact rfl) (h : n < 64 := by omega) :
    Nr P N E H ⟨some d, .binOp .or t x y yt, ty, p, af, g⟩ (.int .u8 ((128 + n : Nat) : Int)) H := r_bin hx hy (or8 128 64 (by decide) (by omega) h)
theorem r_or192 {n : Nat} (hx : evE E x = some (.int .u8 192) := by exact rfl) (hy : evE E y = some (.int .u8 (n : Int)) := by exact rfl) (h : n < 32 := by omega) :
    Nr P N E H ⟨some d, .binOp .or t x y yt, ty, p, af, g⟩ (.int .u8 ((192 + n : Nat) : Int)) H := r_bin hx hy (or8 192 32 (by decide) (by omega) h)
theorem r_or224 {n : Nat} (hx : evE E x = some (.int .u8 224) := by exact rfl) (hy : evE E y = some (.int .u8 (n : Int)) := by exact rfl) (h : n < 16 := by omega) :
    Nr P N E H ⟨some d, .binOp .or t x y yt, ty, p, af, g⟩ (.int .u8 ((224 + n : Nat) : Int)) H := r_bin hx hy (or8 224 16 (by decide) (by omega) h)
theorem r_or240 {n : Nat} (hx : evE E x = some (.int .u8 240) := by exact rfl) (hy : evE E y = some (.int .u8 (n : Int)) := by exact rfl) (h : n < 8 := by omega) :
    Nr P N E H ⟨some d, .binOp .or t x y yt, ty, p, af, g⟩ (.int .u8 ((240 + n : Nat) : Int)) H := r_bin hx hy (or8 240 8 (by decide) (by omega) h)
end
/-- A rune's bytes, by natural numbers. -/
def encN (c : Nat) : List UInt8 :=
  if c ≤ 127 then [UInt8.ofNat (c % 256)]
  else if c ≤ 2047 then [UInt8.ofNat (192 + c / 64 % 256), UInt8.ofNat (128 + c % 256 % 64)]
  else if c ≤ 65535 then [UInt8.ofNat (224 + c / 4096 % 256), UInt8.ofNat (128 + c / 64 % 256 % 64), UInt8.ofNat (128 + c % 256 % 64)]
  else [UInt8.ofNat (240 + c / 262144 % 256), UInt8.ofNat (128 + c / 4096 % 256 % 64), UInt8.ofNat (128 + c / 64 % 256 % 64), UInt8.ofNat (128 + c % 256 % 64)]
theorem encN_len (c : Nat) : (encN c).length ≤ 4 ∧ encN c ≠ [] := by unfold encN; split <;> (try split) <;> (try split) <;> simp
theorem ofNat_val {n : Nat} (h : n < 256) : ((UInt8.ofNat n).toNat : Int) = (n : Int) := by
  have : (UInt8.ofNat n).toNat = n := by simp [UInt8.toNat_ofNat']; omega
  rw [this]
/-- A row of bytes to be appended. -/
theorem src_bytes {H : AHeap} {b n : Nat} {xs : List UInt8} {e : TypeId} (h : H.get b = some (.row ⟨bytesV xs, e, 0, true⟩)) (hn : xs.length = n) (h0 : xs ≠ []) : srcA H (0 + 1) (.slice (some ⟨b, 0, none⟩) n n) = some (xs.length, bytesV xs) := by
  have : H.cellsAt ⟨b, 0, none⟩ n = some (bytesV xs) := cellsAt_of h rfl (by simp [bytesV, hn]) (by rw [← hn]; exact List.take_of_length_le (by simp [bytesV]))
  have h1 : n ≠ 0 := fun h => h0 (List.eq_nil_of_length_eq_zero (hn.trans h))
  simp [srcA, this, hn, h1]
def tbl228 : Tbl := []
def tbl218 : Tbl := []
def tbl205 : Tbl := []
theorem ar_calls {H : AHeap} {X : Blks} {sl : Value} {bs : List UInt8} {c : Nat} (ho : Opn H X 5 1 sl bs.length (bytesV bs)) (hz : bs = [] → sl = .slice none 0 0) (hX : ∀ i, H.next ≤ i → X i) (hc : 128 ≤ c) (hc2 : c ≤ 1114111) (hs : c < 55296 ∨ 57343 < c) (hL : bs.length + 4 ≤ 140737488355328) :
    ACalls Tryz.prog 228 #[sl, .int .i32 (c : Int)] H fun v H' => Opn H' X 5 1 v (bs ++ encN c).length (bytesV (bs ++ encN c)) ∧ Keep X H H' := by
  have hne := (encN_len c).2
  refine k_open (args := [sl, .int .i32 (c : Int)]) (E0 := [(0, sl), (1, .int .i32 (c : Int))]) tbl228 Tryz.func228 rfl follows (by kernel_rfl) Tryz.ntmps228 rfl rfl ?_
  by_cases h1 : c ≤ 2047
  · have : True := trivial
    repeat' (first
    | (show EW _ _ _ _ _; first | refine ew_n (hn := r_shrN 6 64) (h := ?_) | refine ew_n (hn := r_shrN 12 4096) (h := ?_) | refine ew_n (hn := r_shrN 18 262144) (h := ?_) | refine ew_ci (hv := conv8m _) (h := ?_) | refine ew_ci (hv := conv32m hc2) (h := ?_) | refine ew_n (hn := r_and63) (h := ?_) | refine ew_n (hn := r_or128) (h := ?_) | refine ew_n (hn := r_or192) (h := ?_) | refine ew_n (hn := r_or224) (h := ?_) | refine ew_n (hn := r_or240) (h := ?_) | refine ew_p (h := ?_) | refine ew_skip (h := ?_) | refine ew_ci (h := ?_) | refine ew_conv (hn := r_conv_br (h := by first | assumption | (apply Rd.keep0; (focus assumption); exact kp))) (h := ?_) | (refine ew_fresh ?_; intro b hb; refine ew_nw hb (h := ?_); (try simp only [AHeap.push_next, AHeap.put_next] at hb)) | (refine ew_df (ht := ?_) (hf := ?_) <;> intro _) | refine ew_ar (h := ?_) | refine w_nil ?_)
    | (show EC _ _ _ _ _ _ _; first | refine k_seq ?_ | refine k_region ?_ | refine k_skip ?_ | refine k_ret ?_ | refine k_exit ?_ | refine k_block ?_ | refine k_true (h := ?_) | refine k_false (h := ?_))
    | (show EX _ (bodyA _ _ _) _ _ _; first | refine x_end1 (hq := ?_))
    | (show EX _ _ _ _ _; first | refine x_normal ?_ | refine x_ret ?_ | refine x_exit ?_ | refine x_same ?_ | refine x_other (h := ?_) | refine x_bnormal ?_ | refine x_bret ?_))
    have he : bytesV (encN c) = [.int .u8 ((192 + c / 64 % 256 : Nat) : Int), .int .u8 ((128 + c % 256 % 64 : Nat) : Int)] := by
      unfold encN
      rw [if_neg (by omega), if_pos (by omega)]
      simp only [bytesV, List.map_cons, List.map_nil]
      rw [ofNat_val (n := 192 + c / 64 % 256) (by omega)]; rw [ofNat_val (n := 128 + c % 256 % 64) (by omega)]
    rw [← he]
    generalize hHp : H.push (.row ⟨bytesV (encN c), 5, 0, true⟩) = Hp
    have kp : Keep No H Hp := by subst hHp; exact Keep.refl.push
    have np : Hp.next = H.next + 1 := by subst hHp; exact AHeap.push_next ..
    have gp : Hp.get b = some (.row ⟨bytesV (encN c), 5, 0, true⟩) := by subst hHp; rw [AHeap.push_get, if_pos hb]
    have op := ho.keep0 kp
    clear hHp
    have hn : (encN c).length = 2 := by unfold encN; rw [if_neg (by omega), if_pos (by omega)]; rfl
    refine ew_appS (R := fun v H2 => Opn H2 (Or X (New Hp H2)) 5 1 v (bs ++ encN c).length (bytesV (bs ++ encN c)) ∧ (bs ++ encN c = [] → v = .slice none 0 0) ∧ Keep X Hp H2) (hR := app_bu T108b op hz (src_bytes gp hn hne) (by omega)) (h := ?_)
    rintro sl' H2 ⟨a1, a2, a3⟩
    repeat' (first
    | (show EW _ _ _ _ _; first | refine ew_p (h := ?_) | refine ew_skip (h := ?_) | refine ew_ci (h := ?_) | refine ew_conv (hn := r_conv_br (h := by first | assumption | (apply Rd.keep0; (focus assumption); exact kp))) (h := ?_) | (refine ew_fresh ?_; intro b hb; refine ew_nw hb (h := ?_); (try simp only [AHeap.push_next, AHeap.put_next] at hb)) | (refine ew_df (ht := ?_) (hf := ?_) <;> intro _) | refine ew_ar (h := ?_) | refine w_nil ?_)
    | (show EC _ _ _ _ _ _ _; first | refine k_seq ?_ | refine k_region ?_ | refine k_skip ?_ | refine k_ret ?_ | refine k_exit ?_ | refine k_block ?_ | refine k_true (h := ?_) | refine k_false (h := ?_))
    | (show EX _ (bodyA _ _ _) _ _ _; first | refine x_end1 (hq := ?_))
    | (show EX _ _ _ _ _; first | refine x_normal ?_ | refine x_ret ?_ | refine x_exit ?_ | refine x_same ?_ | refine x_other (h := ?_) | refine x_bnormal ?_ | refine x_bret ?_))
    exact ⟨a1.weak fun i h => h.elim id fun h => hX i (by have := h.1; omega), kp.no.trans a3 fun _ _ h => h⟩
  by_cases h2 : c ≤ 65535
  · by_cases h3 : c < 55296
    · have : True := trivial
      repeat' (first
    | (show EW _ _ _ _ _; first | refine ew_n (hn := r_shrN 6 64) (h := ?_) | refine ew_n (hn := r_shrN 12 4096) (h := ?_) | refine ew_n (hn := r_shrN 18 262144) (h := ?_) | refine ew_ci (hv := conv8m _) (h := ?_) | refine ew_ci (hv := conv32m hc2) (h := ?_) | refine ew_n (hn := r_and63) (h := ?_) | refine ew_n (hn := r_or128) (h := ?_) | refine ew_n (hn := r_or192) (h := ?_) | refine ew_n (hn := r_or224) (h := ?_) | refine ew_n (hn := r_or240) (h := ?_) | refine ew_p (h := ?_) | refine ew_skip (h := ?_) | refine ew_ci (h := ?_) | refine ew_conv (hn := r_conv_br (h := by first | assumption | (apply Rd.keep0; (focus assumption); exact kp))) (h := ?_) | (refine ew_fresh ?_; intro b hb; refine ew_nw hb (h := ?_); (try simp only [AHeap.push_next, AHeap.put_next] at hb)) | (refine ew_df (ht := ?_) (hf := ?_) <;> intro _) | refine ew_ar (h := ?_) | refine w_nil ?_)
    | (show EC _ _ _ _ _ _ _; first | refine k_seq ?_ | refine k_region ?_ | refine k_skip ?_ | refine k_ret ?_ | refine k_exit ?_ | refine k_block ?_ | refine k_true (h := ?_) | refine k_false (h := ?_))
    | (show EX _ (bodyA _ _ _) _ _ _; first | refine x_end1 (hq := ?_))
    | (show EX _ _ _ _ _; first | refine x_normal ?_ | refine x_ret ?_ | refine x_exit ?_ | refine x_same ?_ | refine x_other (h := ?_) | refine x_bnormal ?_ | refine x_bret ?_))
      have he : bytesV (encN c) = [.int .u8 ((224 + c / 4096 % 256 : Nat) : Int), .int .u8 ((128 + c / 64 % 256 % 64 : Nat) : Int), .int .u8 ((128 + c % 256 % 64 : Nat) : Int)] := by
        unfold encN
        rw [if_neg (by omega), if_neg (by omega), if_pos (by omega)]
        simp only [bytesV, List.map_cons, List.map_nil]
        rw [ofNat_val (n := 224 + c / 4096 % 256) (by omega)]; rw [ofNat_val (n := 128 + c / 64 % 256 % 64) (by omega)]; rw [ofNat_val (n := 128 + c % 256 % 64) (by omega)]
      rw [← he]
      generalize hHp : H.push (.row ⟨bytesV (encN c), 5, 0, true⟩) = Hp
      have kp : Keep No H Hp := by subst hHp; exact Keep.refl.push
      have np : Hp.next = H.next + 1 := by subst hHp; exact AHeap.push_next ..
      have gp : Hp.get b = some (.row ⟨bytesV (encN c), 5, 0, true⟩) := by subst hHp; rw [AHeap.push_get, if_pos hb]
      have op := ho.keep0 kp
      clear hHp
      have hn : (encN c).length = 3 := by unfold encN; rw [if_neg (by omega), if_neg (by omega), if_pos (by omega)]; rfl
      refine ew_appS (R := fun v H2 => Opn H2 (Or X (New Hp H2)) 5 1 v (bs ++ encN c).length (bytesV (bs ++ encN c)) ∧ (bs ++ encN c = [] → v = .slice none 0 0) ∧ Keep X Hp H2) (hR := app_bu T108b op hz (src_bytes gp hn hne) (by omega)) (h := ?_)
      rintro sl' H2 ⟨a1, a2, a3⟩
      repeat' (first
    | (show EW _ _ _ _ _; first | refine ew_p (h := ?_) | refine ew_skip (h := ?_) | refine ew_ci (h := ?_) | refine ew_conv (hn := r_conv_br (h := by first | assumption | (apply Rd.keep0; (focus assumption); exact kp))) (h := ?_) | (refine ew_fresh ?_; intro b hb; refine ew_nw hb (h := ?_); (try simp only [AHeap.push_next, AHeap.put_next] at hb)) | (refine ew_df (ht := ?_) (hf := ?_) <;> intro _) | refine ew_ar (h := ?_) | refine w_nil ?_)
    | (show EC _ _ _ _ _ _ _; first | refine k_seq ?_ | refine k_region ?_ | refine k_skip ?_ | refine k_ret ?_ | refine k_exit ?_ | refine k_block ?_ | refine k_true (h := ?_) | refine k_false (h := ?_))
    | (show EX _ (bodyA _ _ _) _ _ _; first | refine x_end1 (hq := ?_))
    | (show EX _ _ _ _ _; first | refine x_normal ?_ | refine x_ret ?_ | refine x_exit ?_ | refine x_same ?_ | refine x_other (h := ?_) | refine x_bnormal ?_ | refine x_bret ?_))
      exact ⟨a1.weak fun i h => h.elim id fun h => hX i (by have := h.1; omega), kp.no.trans a3 fun _ _ h => h⟩
    · have : True := trivial
      repeat' (first
    | (show EW _ _ _ _ _; first | refine ew_n (hn := r_shrN 6 64) (h := ?_) | refine ew_n (hn := r_shrN 12 4096) (h := ?_) | refine ew_n (hn := r_shrN 18 262144) (h := ?_) | refine ew_ci (hv := conv8m _) (h := ?_) | refine ew_ci (hv := conv32m hc2) (h := ?_) | refine ew_n (hn := r_and63) (h := ?_) | refine ew_n (hn := r_or128) (h := ?_) | refine ew_n (hn := r_or192) (h := ?_) | refine ew_n (hn := r_or224) (h := ?_) | refine ew_n (hn := r_or240) (h := ?_) | refine ew_p (h := ?_) | refine ew_skip (h := ?_) | refine ew_ci (h := ?_) | refine ew_conv (hn := r_conv_br (h := by first | assumption | (apply Rd.keep0; (focus assumption); exact kp))) (h := ?_) | (refine ew_fresh ?_; intro b hb; refine ew_nw hb (h := ?_); (try simp only [AHeap.push_next, AHeap.put_next] at hb)) | (refine ew_df (ht := ?_) (hf := ?_) <;> intro _) | refine ew_ar (h := ?_) | refine w_nil ?_)
    | (show EC _ _ _ _ _ _ _; first | refine k_seq ?_ | refine k_region ?_ | refine k_skip ?_ | refine k_ret ?_ | refine k_exit ?_ | refine k_block ?_ | refine k_true (h := ?_) | refine k_false (h := ?_))
    | (show EX _ (bodyA _ _ _) _ _ _; first | refine x_end1 (hq := ?_))
    | (show EX _ _ _ _ _; first | refine x_normal ?_ | refine x_ret ?_ | refine x_exit ?_ | refine x_same ?_ | refine x_other (h := ?_) | refine x_bnormal ?_ | refine x_bret ?_))
      have he : bytesV (encN c) = [.int .u8 ((224 + c / 4096 % 256 : Nat) : Int), .int .u8 ((128 + c / 64 % 256 % 64 : Nat) : Int), .int .u8 ((128 + c % 256 % 64 : Nat) : Int)] := by
        unfold encN
        rw [if_neg (by omega), if_neg (by omega), if_pos (by omega)]
        simp only [bytesV, List.map_cons, List.map_nil]
        rw [ofNat_val (n := 224 + c / 4096 % 256) (by omega)]; rw [ofNat_val (n := 128 + c / 64 % 256 % 64) (by omega)]; rw [ofNat_val (n := 128 + c % 256 % 64) (by omega)]
      rw [← he]
      generalize hHp : H.push (.row ⟨bytesV (encN c), 5, 0, true⟩) = Hp
      have kp : Keep No H Hp := by subst hHp; exact Keep.refl.push
      have np : Hp.next = H.next + 1 := by subst hHp; exact AHeap.push_next ..
      have gp : Hp.get b = some (.row ⟨bytesV (encN c), 5, 0, true⟩) := by subst hHp; rw [AHeap.push_get, if_pos hb]
      have op := ho.keep0 kp
      clear hHp
      have hn : (encN c).length = 3 := by unfold encN; rw [if_neg (by omega), if_neg (by omega), if_pos (by omega)]; rfl
      refine ew_appS (R := fun v H2 => Opn H2 (Or X (New Hp H2)) 5 1 v (bs ++ encN c).length (bytesV (bs ++ encN c)) ∧ (bs ++ encN c = [] → v = .slice none 0 0) ∧ Keep X Hp H2) (hR := app_bu T108b op hz (src_bytes gp hn hne) (by omega)) (h := ?_)
      rintro sl' H2 ⟨a1, a2, a3⟩
      repeat' (first
    | (show EW _ _ _ _ _; first | refine ew_p (h := ?_) | refine ew_skip (h := ?_) | refine ew_ci (h := ?_) | refine ew_conv (hn := r_conv_br (h := by first | assumption | (apply Rd.keep0; (focus assumption); exact kp))) (h := ?_) | (refine ew_fresh ?_; intro b hb; refine ew_nw hb (h := ?_); (try simp only [AHeap.push_next, AHeap.put_next] at hb)) | (refine ew_df (ht := ?_) (hf := ?_) <;> intro _) | refine ew_ar (h := ?_) | refine w_nil ?_)
    | (show EC _ _ _ _ _ _ _; first | refine k_seq ?_ | refine k_region ?_ | refine k_skip ?_ | refine k_ret ?_ | refine k_exit ?_ | refine k_block ?_ | refine k_true (h := ?_) | refine k_false (h := ?_))
    | (show EX _ (bodyA _ _ _) _ _ _; first | refine x_end1 (hq := ?_))
    | (show EX _ _ _ _ _; first | refine x_normal ?_ | refine x_ret ?_ | refine x_exit ?_ | refine x_same ?_ | refine x_other (h := ?_) | refine x_bnormal ?_ | refine x_bret ?_))
      exact ⟨a1.weak fun i h => h.elim id fun h => hX i (by have := h.1; omega), kp.no.trans a3 fun _ _ h => h⟩
  · have : True := trivial
    repeat' (first
    | (show EW _ _ _ _ _; first | refine ew_n (hn := r_shrN 6 64) (h := ?_) | refine ew_n (hn := r_shrN 12 4096) (h := ?_) | refine ew_n (hn := r_shrN 18 262144) (h := ?_) | refine ew_ci (hv := conv8m _) (h := ?_) | refine ew_ci (hv := conv32m hc2) (h := ?_) | refine ew_n (hn := r_and63) (h := ?_) | refine ew_n (hn := r_or128) (h := ?_) | refine ew_n (hn := r_or192) (h := ?_) | refine ew_n (hn := r_or224) (h := ?_) | refine ew_n (hn := r_or240) (h := ?_) | refine ew_p (h := ?_) | refine ew_skip (h := ?_) | refine ew_ci (h := ?_) | refine ew_conv (hn := r_conv_br (h := by first | assumption | (apply Rd.keep0; (focus assumption); exact kp))) (h := ?_) | (refine ew_fresh ?_; intro b hb; refine ew_nw hb (h := ?_); (try simp only [AHeap.push_next, AHeap.put_next] at hb)) | (refine ew_df (ht := ?_) (hf := ?_) <;> intro _) | refine ew_ar (h := ?_) | refine w_nil ?_)
    | (show EC _ _ _ _ _ _ _; first | refine k_seq ?_ | refine k_region ?_ | refine k_skip ?_ | refine k_ret ?_ | refine k_exit ?_ | refine k_block ?_ | refine k_true (h := ?_) | refine k_false (h := ?_))
    | (show EX _ (bodyA _ _ _) _ _ _; first | refine x_end1 (hq := ?_))
    | (show EX _ _ _ _ _; first | refine x_normal ?_ | refine x_ret ?_ | refine x_exit ?_ | refine x_same ?_ | refine x_other (h := ?_) | refine x_bnormal ?_ | refine x_bret ?_))
    have he : bytesV (encN c) = [.int .u8 ((240 + c / 262144 % 256 : Nat) : Int), .int .u8 ((128 + c / 4096 % 256 % 64 : Nat) : Int), .int .u8 ((128 + c / 64 % 256 % 64 : Nat) : Int), .int .u8 ((128 + c % 256 % 64 : Nat) : Int)] := by
      unfold encN
      rw [if_neg (by omega), if_neg (by omega), if_neg (by omega)]
      simp only [bytesV, List.map_cons, List.map_nil]
      rw [ofNat_val (n := 240 + c / 262144 % 256) (by omega)]; rw [ofNat_val (n := 128 + c / 4096 % 256 % 64) (by omega)]; rw [ofNat_val (n := 128 + c / 64 % 256 % 64) (by omega)]; rw [ofNat_val (n := 128 + c % 256 % 64) (by omega)]
    rw [← he]
    generalize hHp : H.push (.row ⟨bytesV (encN c), 5, 0, true⟩) = Hp
    have kp : Keep No H Hp := by subst hHp; exact Keep.refl.push
    have np : Hp.next = H.next + 1 := by subst hHp; exact AHeap.push_next ..
    have gp : Hp.get b = some (.row ⟨bytesV (encN c), 5, 0, true⟩) := by subst hHp; rw [AHeap.push_get, if_pos hb]
    have op := ho.keep0 kp
    clear hHp
    have hn : (encN c).length = 4 := by unfold encN; rw [if_neg (by omega), if_neg (by omega), if_neg (by omega)]; rfl
    refine ew_appS (R := fun v H2 => Opn H2 (Or X (New Hp H2)) 5 1 v (bs ++ encN c).length (bytesV (bs ++ encN c)) ∧ (bs ++ encN c = [] → v = .slice none 0 0) ∧ Keep X Hp H2) (hR := app_bu T108b op hz (src_bytes gp hn hne) (by omega)) (h := ?_)
    rintro sl' H2 ⟨a1, a2, a3⟩
    repeat' (first
    | (show EW _ _ _ _ _; first | refine ew_p (h := ?_) | refine ew_skip (h := ?_) | refine ew_ci (h := ?_) | refine ew_conv (hn := r_conv_br (h := by first | assumption | (apply Rd.keep0; (focus assumption); exact kp))) (h := ?_) | (refine ew_fresh ?_; intro b hb; refine ew_nw hb (h := ?_); (try simp only [AHeap.push_next, AHeap.put_next] at hb)) | (refine ew_df (ht := ?_) (hf := ?_) <;> intro _) | refine ew_ar (h := ?_) | refine w_nil ?_)
    | (show EC _ _ _ _ _ _ _; first | refine k_seq ?_ | refine k_region ?_ | refine k_skip ?_ | refine k_ret ?_ | refine k_exit ?_ | refine k_block ?_ | refine k_true (h := ?_) | refine k_false (h := ?_))
    | (show EX _ (bodyA _ _ _) _ _ _; first | refine x_end1 (hq := ?_))
    | (show EX _ _ _ _ _; first | refine x_normal ?_ | refine x_ret ?_ | refine x_exit ?_ | refine x_same ?_ | refine x_other (h := ?_) | refine x_bnormal ?_ | refine x_bret ?_))
    exact ⟨a1.weak fun i h => h.elim id fun h => hX i (by have := h.1; omega), kp.no.trans a3 fun _ _ h => h⟩
theorem an_calls {H : AHeap} {X : Blks} {sl : Value} {bs : List UInt8} {c : Nat} (ho : Opn H X 5 1 sl bs.length (bytesV bs)) (hz : bs = [] → sl = .slice none 0 0) (hX : ∀ i, H.next ≤ i → X i) (hc2 : c ≤ 1114111) (hs : c < 55296 ∨ 57343 < c) (hL : bs.length + 4 ≤ 140737488355328) :
    ACalls Tryz.prog 218 #[sl, .int .i32 (c : Int)] H fun v H' => Opn H' X 5 1 v (bs ++ encN c).length (bytesV (bs ++ encN c)) ∧ Keep X H H' := by
  have hne := (encN_len c).2
  refine k_open (args := [sl, .int .i32 (c : Int)]) (E0 := [(0, sl), (1, .int .i32 (c : Int))]) tbl218 Tryz.func218 rfl follows (by kernel_rfl) Tryz.ntmps218 rfl rfl ?_
  by_cases h1 : c ≤ 127
  · repeat' (first
    | (show EW _ _ _ _ _; first | refine ew_ci (hv := conv8m _) (h := ?_) | refine ew_ci (hv := conv32m hc2) (h := ?_) | refine ew_p (h := ?_) | refine ew_ci (h := ?_) | refine ew_conv (hn := r_conv_br (h := by first | assumption | (apply Rd.keep0; (focus assumption); exact kp))) (h := ?_) | (refine ew_fresh ?_; intro b hb; refine ew_nw hb (h := ?_); (try simp only [AHeap.push_next, AHeap.put_next] at hb)) | (refine ew_df (ht := ?_) (hf := ?_) <;> intro _) | refine w_nil ?_)
    | (show EC _ _ _ _ _ _ _; first | refine k_seq ?_ | refine k_region ?_ | refine k_skip ?_ | refine k_ret ?_ | refine k_exit ?_ | refine k_block ?_ | refine k_true (h := ?_) | refine k_false (h := ?_))
    | (show EX _ (bodyA _ _ _) _ _ _; first | refine x_end1 (hq := ?_))
    | (show EX _ _ _ _ _; first | refine x_normal ?_ | refine x_ret ?_ | refine x_exit ?_ | refine x_same ?_ | refine x_other (h := ?_) | refine x_bnormal ?_ | refine x_bret ?_))
    have he : bytesV (encN c) = [.int .u8 ((c % 256 : Nat) : Int)] := by
      unfold encN
      rw [if_pos h1]
      simp only [bytesV, List.map_cons, List.map_nil]
      rw [ofNat_val (n := c % 256) (by omega)]
    rw [← he]
    generalize hHp : H.push (.row ⟨bytesV (encN c), 5, 0, true⟩) = Hp
    have kp : Keep No H Hp := by subst hHp; exact Keep.refl.push
    have np : Hp.next = H.next + 1 := by subst hHp; exact AHeap.push_next ..
    have gp : Hp.get b = some (.row ⟨bytesV (encN c), 5, 0, true⟩) := by subst hHp; rw [AHeap.push_get, if_pos hb]
    have op := ho.keep0 kp
    clear hHp
    have hn : (encN c).length = 1 := by unfold encN; rw [if_pos h1]; rfl
    refine ew_appS (R := fun v H2 => Opn H2 (Or X (New Hp H2)) 5 1 v (bs ++ encN c).length (bytesV (bs ++ encN c)) ∧ (bs ++ encN c = [] → v = .slice none 0 0) ∧ Keep X Hp H2) (hR := app_bu T108b op hz (src_bytes gp hn hne) (by omega)) (h := ?_)
    rintro sl' H2 ⟨a1, a2, a3⟩
    repeat' (first
    | (show EW _ _ _ _ _; first | refine ew_p (h := ?_) | refine ew_ci (h := ?_) | refine ew_conv (hn := r_conv_br (h := by first | assumption | (apply Rd.keep0; (focus assumption); exact kp))) (h := ?_) | (refine ew_fresh ?_; intro b hb; refine ew_nw hb (h := ?_); (try simp only [AHeap.push_next, AHeap.put_next] at hb)) | (refine ew_df (ht := ?_) (hf := ?_) <;> intro _) | refine w_nil ?_)
    | (show EC _ _ _ _ _ _ _; first | refine k_seq ?_ | refine k_region ?_ | refine k_skip ?_ | refine k_ret ?_ | refine k_exit ?_ | refine k_block ?_ | refine k_true (h := ?_) | refine k_false (h := ?_))
    | (show EX _ (bodyA _ _ _) _ _ _; first | refine x_end1 (hq := ?_))
    | (show EX _ _ _ _ _; first | refine x_normal ?_ | refine x_ret ?_ | refine x_exit ?_ | refine x_same ?_ | refine x_other (h := ?_) | refine x_bnormal ?_ | refine x_bret ?_))
    exact ⟨a1.weak fun i h => h.elim id fun h => hX i (by have := h.1; omega), kp.no.trans a3 fun _ _ h => h⟩
  · repeat' (first
    | (show EW _ _ _ _ _; first | refine ew_ci (hv := conv32m hc2) (h := ?_) | refine ew_p (h := ?_) | refine ew_ci (h := ?_) | refine ew_conv (hn := r_conv_br (h := by first | assumption | (apply Rd.keep0; (focus assumption); exact kp))) (h := ?_) | (refine ew_fresh ?_; intro b hb; refine ew_nw hb (h := ?_); (try simp only [AHeap.push_next, AHeap.put_next] at hb)) | (refine ew_df (ht := ?_) (hf := ?_) <;> intro _) | refine w_nil ?_)
    | (show EC _ _ _ _ _ _ _; first | refine k_seq ?_ | refine k_region ?_ | refine k_skip ?_ | refine k_ret ?_ | refine k_exit ?_ | refine k_block ?_ | refine k_true (h := ?_) | refine k_false (h := ?_))
    | (show EX _ (bodyA _ _ _) _ _ _; first | refine x_end1 (hq := ?_))
    | (show EX _ _ _ _ _; first | refine x_normal ?_ | refine x_ret ?_ | refine x_exit ?_ | refine x_same ?_ | refine x_other (h := ?_) | refine x_bnormal ?_ | refine x_bret ?_))
    refine ew_callS (hc := cr_call) (hR := ar_calls ho hz hX (by omega) hc2 hs hL) (h := ?_)
    rintro v H2 ⟨a1, a3⟩
    repeat' (first
    | (show EW _ _ _ _ _; first | refine ew_p (h := ?_) | refine ew_ci (h := ?_) | refine ew_conv (hn := r_conv_br (h := by first | assumption | (apply Rd.keep0; (focus assumption); exact kp))) (h := ?_) | (refine ew_fresh ?_; intro b hb; refine ew_nw hb (h := ?_); (try simp only [AHeap.push_next, AHeap.put_next] at hb)) | (refine ew_df (ht := ?_) (hf := ?_) <;> intro _) | refine w_nil ?_)
    | (show EC _ _ _ _ _ _ _; first | refine k_seq ?_ | refine k_region ?_ | refine k_skip ?_ | refine k_ret ?_ | refine k_exit ?_ | refine k_block ?_ | refine k_true (h := ?_) | refine k_false (h := ?_))
    | (show EX _ (bodyA _ _ _) _ _ _; first | refine x_end1 (hq := ?_))
    | (show EX _ _ _ _ _; first | refine x_normal ?_ | refine x_ret ?_ | refine x_exit ?_ | refine x_same ?_ | refine x_other (h := ?_) | refine x_bnormal ?_ | refine x_bret ?_))
    exact ⟨a1, a3⟩
/-- b.WriteRune(c) -/
theorem wr_calls {H : AHeap} {q : Nat} {X : Blks} {bs : List UInt8} {c : Nat} (hb : Bu H q X bs) (hX : ∀ i, H.next ≤ i → X i) (hc2 : c ≤ 1114111) (hs : c < 55296 ∨ 57343 < c) (hL : bs.length + 4 ≤ 140737488355328) :
    ACalls Tryz.prog 205 #[.pointer (some ⟨q, 0, none⟩), .int .i32 (c : Int)] H fun v H' => Bu H' q X (bs ++ encN c) ∧ Keep (BuF q X) H H' := by
  obtain ⟨a, sl, h1, h2, h3, h4, h5, h6⟩ := hb
  have hne := (encN_len c).2
  have hl4 := (encN_len c).1
  refine k_open (args := [.pointer (some ⟨q, 0, none⟩), .int .i32 (c : Int)]) (E0 := [(0, .pointer (some ⟨q, 0, none⟩)), (1, .int .i32 (c : Int))]) tbl205 Tryz.func205 rfl follows (by kernel_rfl) Tryz.ntmps205 rfl rfl ?_
  repeat' (first
    | (show EW _ _ _ _ _; first | refine ew_p (h := ?_) | refine ew_ld (h := ?_) | refine ew_st (h := ?_) | refine ew_ar (h := ?_) | refine w_nil ?_)
    | (show EC _ _ _ _ _ _ _; first | refine k_seq ?_ | refine k_region ?_ | refine k_skip ?_ | refine k_ret ?_ | refine k_exit ?_ | refine k_block ?_ | refine k_true (h := ?_) | refine k_false (h := ?_))
    | (show EX _ (bodyA _ _ _) _ _ _; first | refine x_end2 (hq := ?_))
    | (show EX _ _ _ _ _; first | refine x_normal ?_ | refine x_ret ?_ | refine x_exit ?_ | refine x_same ?_ | refine x_other (h := ?_) | refine x_bnormal ?_ | refine x_bret ?_))
  refine ew_callS (hc := cr_call) (hR := cc_calls h1 h2) (h := ?_)
  rintro _ _ ⟨rfl, rfl⟩
  generalize hH1 : H.put q (.row ⟨[.pointer (some ⟨q, 0, none⟩), sl], 172, 0, true⟩) = H1
  have k1 : Keep (fun i => i = q) H H1 := by subst hH1; exact Keep.refl.put fun _ => rfl
  have n1 : H1.next = H.next := by subst hH1; exact AHeap.put_next ..
  have g1 : H1.get q = some (.row ⟨[.pointer (some ⟨q, 0, none⟩), sl], 172, 0, true⟩) := by subst hH1; rw [AHeap.put_get, if_pos rfl]
  have o1 : Opn H1 X 5 1 sl bs.length (bytesV bs) := h3.keep k1 fun i _ hXi _ he => h6 (he ▸ hXi)
  clear hH1
  obtain ⟨z0, c0, rfl, _⟩ := o1.cap1 (by unfold openCap; omega)
  repeat' (first
    | (show EW _ _ _ _ _; first | refine ew_p (h := ?_) | refine ew_ld (h := ?_) | refine ew_st (h := ?_) | refine ew_ar (h := ?_) | refine w_nil ?_)
    | (show EC _ _ _ _ _ _ _; first | refine k_seq ?_ | refine k_region ?_ | refine k_skip ?_ | refine k_ret ?_ | refine k_exit ?_ | refine k_block ?_ | refine k_true (h := ?_) | refine k_false (h := ?_))
    | (show EX _ (bodyA _ _ _) _ _ _; first | refine x_end2 (hq := ?_))
    | (show EX _ _ _ _ _; first | refine x_normal ?_ | refine x_ret ?_ | refine x_exit ?_ | refine x_same ?_ | refine x_other (h := ?_) | refine x_bnormal ?_ | refine x_bret ?_))
  refine ew_callS (hc := cr_call) (hR := an_calls o1 h4 (fun i hi => hX i (by omega)) hc2 hs hL) (h := ?_)
  rintro sl' H2 ⟨a1, a3⟩
  obtain ⟨z, c', rfl, _⟩ := a1.cap1 (by simp only [List.length_append]; unfold openCap; omega)
  have g2 : H2.get q = some (.row ⟨[.pointer (some ⟨q, 0, none⟩), _], 172, 0, true⟩) := a3.get g1 (by omega) h6
  obtain ⟨c1, c2⟩ := bu_store (H := H1) (by omega) h6 (fun i hi => hX i (by omega)) (a3.weak fun _ _ h => .inr h) (a1.weak fun _ h => .inl h) (fun h => absurd (List.append_eq_nil_iff.1 h).2 hne)
  repeat' (first
    | (show EW _ _ _ _ _; first | refine ew_p (h := ?_) | refine ew_ld (h := ?_) | refine ew_st (h := ?_) | refine ew_ar (h := ?_) | refine w_nil ?_)
    | (show EC _ _ _ _ _ _ _; first | refine k_seq ?_ | refine k_region ?_ | refine k_skip ?_ | refine k_ret ?_ | refine k_exit ?_ | refine k_block ?_ | refine k_true (h := ?_) | refine k_false (h := ?_))
    | (show EX _ (bodyA _ _ _) _ _ _; first | refine x_end2 (hq := ?_))
    | (show EX _ _ _ _ _; first | refine x_normal ?_ | refine x_ret ?_ | refine x_exit ?_ | refine x_same ?_ | refine x_other (h := ?_) | refine x_bnormal ?_ | refine x_bret ?_))
  exact ⟨c1, BuF.trans (k1.weak fun _ _ h => .inl h) c2⟩
end Go.Ae

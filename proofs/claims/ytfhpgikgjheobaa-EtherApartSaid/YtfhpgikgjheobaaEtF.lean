/- Flipping a bit: package ether over the abstract heap. No condition. -/
import Derived.Test.YtfhpgikgjheobaaEtE
set_option linter.unusedSimpArgs false
set_option linter.unusedVariables false
set_option maxRecDepth 100000
set_option maxHeartbeats 400000
namespace Go.Ae
open Go.Proofs
attribute [local irreducible] awC wpSeq wpS nRes aw aE acall ACalls szT isAggT zeroT byT elemSz fieldOff Program.underlying appendA copyA thenA inBlockA bodyA AHeap.push AHeap.put AHeap.cellsAt AHeap.setCells resV loadA intBin EW EC EX Nr Nc Er Cr Agree

def tbl31 : Tbl := [(3, [0, 1, 2, 3, 4, 5, 6, 7, 8, 9, 10, 11, 12, 13, 14, 15, 16, 17], [0, 1, 3, 7, 0, 31, 63, 127, 0, 256, 1023, 2047, 0, 4096, 12288, 32767, 65535, 131071])]

/-- The bits that a flip turns. -/
def maskB (bit : Int) : UInt8 := UInt8.ofNat (2 ^ (bit % 8).toNat)
def flipB (d : List UInt8) (bit : Int) : List UInt8 := d.set (bit / 8).toNat ((d.getD (bit / 8).toNat 0) ^^^ maskB bit)
@[simp] theorem flipB_length (d : List UInt8) (bit : Int) : (flipB d bit).length = d.length := by simp [flipB]
def Pk.flip (p : Pk) (bit : Int) : Pk := ⟨p.fr, p.to, flipB p.data bit, p.blk⟩

theorem xor_u8 (x y : UInt8) : IntKind.u8.wrap ↑(BitVec.ofInt IntKind.u8.bits (x.toNat : Int) ^^^ BitVec.ofInt IntKind.u8.bits (y.toNat : Int)).toNat = ((x ^^^ y).toNat : Int) := by
  have h8 : IntKind.u8.bits = 8 := rfl
  have key : ∀ z : UInt8, BitVec.ofInt 8 (z.toNat : Int) = z.toBitVec := by
    intro z
    rw [BitVec.ofInt_natCast]
    apply BitVec.eq_of_toNat_eq
    simp
  rw [h8, key, key, ← UInt8.toBitVec_xor]
  have : (x ^^^ y).toBitVec.toNat = (x ^^^ y).toNat := rfl
  rw [this, wrap8_in]
  · omega
  · have := (x ^^^ y).toNat_lt; omega
theorem mask_u8 (bit : Int) (h : 0 ≤ bit) : IntKind.u8.wrap (1 * 2 ^ min (bit % 8).toNat IntKind.u8.bits) = ((maskB bit).toNat : Int) := by
  have h8 : IntKind.u8.bits = 8 := rfl
  unfold maskB
  obtain ⟨k, hk⟩ : ∃ k, k = (bit % 8).toNat := ⟨_, rfl⟩
  rw [← hk, h8]
  have : k < 8 := by omega
  have hc : k = 0 ∨ k = 1 ∨ k = 2 ∨ k = 3 ∨ k = 4 ∨ k = 5 ∨ k = 6 ∨ k = 7 := by omega
  rcases hc with rfl | rfl | rfl | rfl | rfl | rfl | rfl | rfl <;> decide
theorem bytesV_set (d : List UInt8) (i : Nat) (x : UInt8) (h : i < d.length) : (bytesV d).take i ++ .int .u8 x.toNat :: (bytesV d).drop (i + 1) = bytesV (d.set i x) := by
  rw [List.set_eq_take_append_cons_drop, if_pos h]
  simp [bytesV]
/-- A packet's bytes are written. -/
theorem Net.write {F : Blks} {H : AHeap} {e j : Nat} {m : Int} {L : List Pk} {p : Pk} {d' : List UInt8} (h : Net H F e m L) (hj : L[j]? = some p) (hd : d'.length = p.data.length) :
    Net (H.put p.blk (.row ⟨bytesV d', 5, 0, true⟩)) F e m (L.set j ⟨p.fr, p.to, d', p.blk⟩) := by
  obtain ⟨hj', hp⟩ := List.getElem?_eq_some_iff.1 hj
  have hpm : p ∈ L := hp ▸ List.getElem_mem hj'
  have hg := h.data p hpm
  have hcell : ∀ (L : List Pk) (j : Nat), L[j]? = some p → flCells (L.set j ⟨p.fr, p.to, d', p.blk⟩) = flCells L := by
    intro L
    induction L with
    | nil => intro j h; simp at h
    | cons q L ih =>
      intro j h
      cases j with
      | zero =>
        simp only [List.getElem?_cons_zero, Option.some.injEq] at h
        subst h
        simp [flCells, Pk.cells, Pk.dv, hd]
      | succ j => simp only [List.set_cons_succ, flCells, ih j (by simpa using h)]
  have hblk : (L.set j ⟨p.fr, p.to, d', p.blk⟩).map Pk.blk = L.map Pk.blk := by
    rw [List.map_set]
    apply List.ext_getElem?
    intro k
    by_cases hk : j = k
    · subst hk
      rw [List.getElem?_set_self (by simpa using hj'), List.getElem?_map, hj]
      rfl
    · rw [List.getElem?_set_ne hk]
  obtain ⟨sv, hge, hfl⟩ := h.node
  have hne := Pk.data_ne h p hpm
  refine ⟨fun b hb => by rw [AHeap.put_next]; exact h.bound b hb, h.fe, ⟨sv, by rw [AHeap.put_get, if_neg (Ne.symm hne)]; exact hge, ?_⟩, ?_, by rw [hblk]; exact h.nodup⟩
  · have h1 : Fli (H.put p.blk (.row ⟨bytesV d', 5, 0, true⟩)) F sv L := hfl.keep (G := fun b => b = p.blk) (Keep.refl.put fun _ => rfl) (by
      rintro b _ _ h32 rfl
      have := h32 _ hg.1
      simp at this)
    rcases h1 with ⟨rfl, rfl⟩ | h1
    · exact .inl ⟨rfl, by simp⟩
    · refine .inr ?_
      rw [List.length_set, hcell L j hj]
      exact h1
  · intro q hq
    obtain ⟨k, hk, rfl⟩ := List.getElem_of_mem hq
    rw [List.length_set] at hk
    rw [List.getElem_set]
    by_cases hjk : j = k
    · simp only [hjk, if_true]
      exact ⟨by rw [AHeap.put_get, if_pos rfl], hg.2⟩
    · simp only [hjk, if_false]
      have hnd := h.nodup
      rw [List.nodup_iff_pairwise_ne, List.pairwise_map] at hnd
      have key := List.pairwise_iff_getElem.1 hnd
      have hne' : L[k].blk ≠ p.blk := by
        intro heq
        rcases Nat.lt_or_gt_of_ne hjk with hlt | hlt
        · exact key j k hj' hk hlt (by rw [hp]; exact heq.symm)
        · exact key k j hk hj' hlt (by rw [hp]; exact heq)
      exact ⟨by rw [AHeap.put_get, if_neg hne']; exact (h.data _ (List.getElem_mem hk)).1, (h.data _ (List.getElem_mem hk)).2⟩

theorem flip_calls {F : Blks} {e : Nat} {m : Int} {L : List Pk} (i bit : Int) (H : AHeap) (hN : Net H F e m L) (hL : L.length ≤ 256) (hl : ∀ p ∈ L, p.data.length ≤ 140737488355328) (hb1 : -9223372036854775808 ≤ bit) (hb2 : bit ≤ 9223372036854775807) :
    ACalls Try.prog 31 #[.pointer (some ⟨e, 0, none⟩), .int .i64 i, .int .i64 bit] H fun v H' =>
      ((¬ (0 ≤ i ∧ i < L.length) ∨ bit < 0 ∨ ∀ p, L[i.toNat]? = some p → (p.data.length : Int) ≤ bit / 8) ∧ v = .bool false ∧ H' = H) ∨
      ∃ j p, i = (j : Nat) ∧ L[j]? = some p ∧ 0 ≤ bit ∧ bit / 8 < p.data.length ∧ v = .bool true ∧ Keep F H H' ∧ Net H' F e m (L.set j (p.flip bit)) := by
  obtain ⟨sv, hge, hfl⟩ := hN.node
  obtain ⟨z, c, rfl⟩ := hfl.rd.slice
  have he := hN.bound e hN.fe
  refine k_open (args := [.pointer (some ⟨e, 0, none⟩), .int .i64 i, .int .i64 bit]) (E0 := [(0, .pointer (some ⟨e, 0, none⟩)), (1, .int .i64 i), (2, .int .i64 bit)]) tbl31 Try.func31 rfl follows (by kernel_rfl) Try.ntmps31 rfl rfl ?_
  repeat' (first
    | (show EW _ _ _ _ _; first | refine ew_p (h := ?_) | refine ew_skip (h := ?_) | refine ew_ld (h := ?_) | refine ew_st (h := ?_) | (refine ew_df (ht := ?_) (hf := ?_) <;> intro _) | refine ew_ar (h := ?_) | refine w_nil ?_ | refine w_nilD ?_)
    | (show EC _ _ _ _ _ _ _; first | refine k_seq ?_ | refine k_region ?_ | refine k_draw (h := ?_) | refine k_skip ?_ | refine k_ret ?_ | refine k_exit ?_ | refine k_block ?_ | refine k_true (h := ?_) | refine k_false (h := ?_))
    | (show EX _ (bodyA _ _ _) _ _ _; first | refine x_end1 (hq := ?_))
    | (show EX _ _ _ _ _; first | refine x_normal ?_ | refine x_ret ?_ | refine x_exit ?_ | refine x_same ?_ | refine x_other (h := ?_) | refine x_bnormal ?_ | refine x_bret ?_))
  (first | (refine' ew_callS (hc := cr_call) (hR := ?_) (h := ?_); rotate_left 1) | (refine' ew_call (hc := cr_call) (hR := ?_) (h := ?_); rotate_left 1))
  · exact there_calls ⟨e, 0, none⟩ z L.length c i _ (cellsAt_of hge rfl (Nat.le_of_ble_eq_true rfl) rfl)
  rintro _ H ⟨rfl, rfl⟩
  by_cases hin : 0 ≤ i ∧ i < L.length
  · obtain ⟨j, rfl⟩ : ∃ j : Nat, i = j := ⟨i.toNat, by omega⟩
    have hj : j < L.length := by omega
    have hp : L[j]? = some L[j] := List.getElem?_eq_getElem hj
    obtain ⟨ad, c', hsv, hF, hlt, hat⟩ := hfl.rd.at hj
    simp only [Value.slice.injEq, true_and] at hsv
    obtain ⟨rfl, rfl⟩ := hsv
    rw [flCells_at hp] at hat
    have hat' : H.cellsAt (aadd (aadd ad ((j : Int).toNat * 3)) 2) 1 = some [L[j].dv] := cellsAt_sub hat (j := 2) (i := 1) (by omega)
    simp only [Pk.dv] at hat'
    have hd := hN.data _ (List.getElem_mem hj)
    have hdl := hl _ (List.getElem_mem hj)
    have hpb := hN.bound _ hd.2
    rw [decide_eq_true hin]
    by_cases hb0 : bit < 0
    · repeat' (first
    | (show EW _ _ _ _ _; first | refine ew_p (h := ?_) | refine ew_skip (h := ?_) | refine ew_ld (h := ?_) | refine ew_st (h := ?_) | (refine ew_df (ht := ?_) (hf := ?_) <;> intro _) | refine ew_ar (h := ?_) | refine w_nil ?_ | refine w_nilD ?_)
    | (show EC _ _ _ _ _ _ _; first | refine k_seq ?_ | refine k_region ?_ | refine k_draw (h := ?_) | refine k_skip ?_ | refine k_ret ?_ | refine k_exit ?_ | refine k_block ?_ | refine k_true (h := ?_) | refine k_false (h := ?_))
    | (show EX _ (bodyA _ _ _) _ _ _; first | refine x_end1 (hq := ?_))
    | (show EX _ _ _ _ _; first | refine x_normal ?_ | refine x_ret ?_ | refine x_exit ?_ | refine x_same ?_ | refine x_other (h := ?_) | refine x_bnormal ?_ | refine x_bret ?_))
      exact .inl ⟨.inr (.inl hb0), rfl, rfl⟩
    by_cases hb8 : (L[j].data.length : Int) ≤ bit / 8
    · repeat' (first
    | (show EW _ _ _ _ _; first | refine ew_p (h := ?_) | refine ew_skip (h := ?_) | refine ew_ld (h := ?_) | refine ew_st (h := ?_) | (refine ew_df (ht := ?_) (hf := ?_) <;> intro _) | refine ew_ar (h := ?_) | refine w_nil ?_ | refine w_nilD ?_)
    | (show EC _ _ _ _ _ _ _; first | refine k_seq ?_ | refine k_region ?_ | refine k_draw (h := ?_) | refine k_skip ?_ | refine k_ret ?_ | refine k_exit ?_ | refine k_block ?_ | refine k_true (h := ?_) | refine k_false (h := ?_))
    | (show EX _ (bodyA _ _ _) _ _ _; first | refine x_end1 (hq := ?_))
    | (show EX _ _ _ _ _; first | refine x_normal ?_ | refine x_ret ?_ | refine x_exit ?_ | refine x_same ?_ | refine x_other (h := ?_) | refine x_bnormal ?_ | refine x_bret ?_))
      exact .inl ⟨.inr (.inr (by simpa [hp] using hb8)), rfl, rfl⟩
    have hd1 := hd.1
    have hk : (bit / 8).toNat < L[j].data.length := by omega
    have hx : L[j].data.getD (bit / 8).toNat 0 = L[j].data[(bit / 8).toNat] := by simp [List.getD, hk]
    have hcell : H.cellsAt (aadd ⟨L[j].blk, 0, none⟩ ((bit / 8).toNat * 1)) 1 = some [.int .u8 (L[j].data.getD (bit / 8).toNat 0).toNat] := by
      refine cellsAt_of hd.1 rfl (by simp; omega) ?_
      simp only [aadd_off, Nat.zero_add, Nat.mul_one]
      rw [List.drop_eq_getElem_cons (by simpa using hk), hx]
      simp [bytesV]
    repeat' (first
    | (show EW _ _ _ _ _; first | refine ew_p (h := ?_) | refine ew_skip (h := ?_) | refine ew_ld (h := ?_) | refine ew_st (h := ?_) | (refine ew_df (ht := ?_) (hf := ?_) <;> intro _) | refine ew_ar (h := ?_) | refine w_nil ?_ | refine w_nilD ?_)
    | (show EC _ _ _ _ _ _ _; first | refine k_seq ?_ | refine k_region ?_ | refine k_draw (h := ?_) | refine k_skip ?_ | refine k_ret ?_ | refine k_exit ?_ | refine k_block ?_ | refine k_true (h := ?_) | refine k_false (h := ?_))
    | (show EX _ (bodyA _ _ _) _ _ _; first | refine x_end1 (hq := ?_))
    | (show EX _ _ _ _ _; first | refine x_normal ?_ | refine x_ret ?_ | refine x_exit ?_ | refine x_same ?_ | refine x_other (h := ?_) | refine x_bnormal ?_ | refine x_bret ?_))
    refine .inr ⟨j, L[j], rfl, hp, by omega, by omega, rfl, ?_, ?_⟩
    · exact Keep.refl.put fun _ => hd.2
    · have hw := hN.write hp (flipB_length L[j].data bit)
      have hcs : (bytesV L[j].data).take ((bit / 8).toNat * 1) ++ .int .u8 (IntKind.u8.wrap ↑(BitVec.ofInt IntKind.u8.bits ↑(L[j].data.getD (bit / 8).toNat 0).toNat ^^^ BitVec.ofInt IntKind.u8.bits (IntKind.u8.wrap (1 * 2 ^ min (bit % 8).toNat IntKind.u8.bits))).toNat) ::
          (bytesV L[j].data).drop ((bit / 8).toNat * 1 + 1) = bytesV (flipB L[j].data bit) := by
        rw [mask_u8 _ (by omega), xor_u8, Nat.mul_one, bytesV_set _ _ _ hk]
        rfl
      refine (congrArg (fun c => Net (H.put L[j].blk (.row ⟨c, 5, 0, true⟩)) F e m (L.set j (L[j].flip bit))) ?_).mpr hw
      rw [← hcs]
      simp [lset, Value.cells]
  · rw [decide_eq_false hin]
    repeat' (first
    | (show EW _ _ _ _ _; first | refine ew_p (h := ?_) | refine ew_skip (h := ?_) | refine ew_ld (h := ?_) | refine ew_st (h := ?_) | (refine ew_df (ht := ?_) (hf := ?_) <;> intro _) | refine ew_ar (h := ?_) | refine w_nil ?_ | refine w_nilD ?_)
    | (show EC _ _ _ _ _ _ _; first | refine k_seq ?_ | refine k_region ?_ | refine k_draw (h := ?_) | refine k_skip ?_ | refine k_ret ?_ | refine k_exit ?_ | refine k_block ?_ | refine k_true (h := ?_) | refine k_false (h := ?_))
    | (show EX _ (bodyA _ _ _) _ _ _; first | refine x_end1 (hq := ?_))
    | (show EX _ _ _ _ _; first | refine x_normal ?_ | refine x_ret ?_ | refine x_exit ?_ | refine x_same ?_ | refine x_other (h := ?_) | refine x_bnormal ?_ | refine x_bret ?_))
    exact .inl ⟨.inl hin, rfl, rfl⟩

end Go.Ae

/- New networks and lists of packets: package ether over the abstract heap. No condition. -/
import Derived.Test.YtfhpgikgjheobaaEtC
set_option linter.unusedSimpArgs false
set_option linter.unusedVariables false
set_option maxRecDepth 100000
set_option maxHeartbeats 400000
namespace Go.Ae
open Go.Proofs
attribute [local irreducible] awC wpSeq wpS nRes aw aE acall ACalls szT isAggT zeroT byT elemSz fieldOff Program.underlying appendA copyA thenA inBlockA bodyA AHeap.push AHeap.put AHeap.cellsAt AHeap.setCells resV loadA intBin EW EC EX Nr Nc Er Cr Agree

def tbl14 : Tbl := []
def tbl18 : Tbl := []

theorem new_calls (m : Int) (H : AHeap) :
    ACalls Try.prog 14 #[.int .i64 m] H fun v H' =>
      (¬ (1 ≤ m ∧ m ≤ 8) ∧ v = .tuple #[.pointer none, .int .i64 220] ∧ H' = H) ∨
      (1 ≤ m ∧ m ≤ 8) ∧ v = .tuple #[.pointer (some ⟨H.next, 0, none⟩), .int .i64 0] ∧ Net H' (New H H') H.next m [] ∧ Keep No H H' := by
  refine k_open (args := [.int .i64 m]) (E0 := [(0, .int .i64 m)]) tbl14 Try.func14 rfl follows (by kernel_rfl) Try.ntmps14 rfl rfl ?_
  repeat' (first
    | (show EW _ _ _ _ _; first | refine ew_p (h := ?_) | refine ew_bu (h := ?_) | refine ew_skip (h := ?_) | (refine ew_fresh ?_; intro b hb; refine ew_nw hb (h := ?_); (try simp only [AHeap.push_next, AHeap.put_next] at hb)) | (refine ew_df (ht := ?_) (hf := ?_) <;> intro _) | refine w_nil ?_)
    | (show EC _ _ _ _ _ _ _; first | refine k_seq ?_ | refine k_region ?_ | refine k_skip ?_ | refine k_ret ?_ | refine k_exit ?_ | refine k_block ?_ | refine k_true (h := ?_) | refine k_false (h := ?_))
    | (show EX _ (bodyA _ _ _) _ _ _; first | refine x_end2 (hq := ?_))
    | (show EX _ _ _ _ _; first | refine x_normal ?_ | refine x_ret ?_ | refine x_exit ?_ | refine x_same ?_ | refine x_other (h := ?_) | refine x_bnormal ?_ | refine x_bret ?_))
  · exact .inl ⟨by omega, rfl, rfl⟩
  · exact .inl ⟨by omega, rfl, rfl⟩
  · refine .inr ⟨by omega, by rw [← hb], ?_, by exact kp⟩
    refine ⟨fun b hb => hb.2, ⟨Nat.le_refl _, by simp only [AHeap.push_next]; omega⟩, ⟨.slice none 0 0, by exact rdx, .inl ⟨rfl, rfl⟩⟩, by simp, by simp⟩

/-- What a packet says, wherever its bytes lie. -/
def Pk.msg (p : Pk) : Int × Int × List UInt8 := (p.fr, p.to, p.data)
/-- A list of packets in memory of its own. -/
structure Lst (H : AHeap) (F : Blks) (sv : Value) (L : List Pk) : Prop where
  fli : Fli H F sv L
  data : ∀ p ∈ L, H.get p.blk = some (.row ⟨bytesV p.data, 5, 0, true⟩) ∧ F p.blk ∧ p.blk < H.next
theorem Lst.nil {H : AHeap} {F : Blks} : Lst H F (.slice none 0 0) [] := ⟨.inl ⟨rfl, rfl⟩, by simp⟩
theorem Lst.keep {F G : Blks} {H H' : AHeap} {sv : Value} {L : List Pk} (h : Lst H F sv L) (hk : Keep G H H') (hd : ∀ b, b < H.next → F b → ¬ G b) : Lst H' F sv L :=
  ⟨h.fli.keep hk fun b hb hF _ => hd b hb hF, fun p hp => ⟨hk.get (h.data p hp).1 (h.data p hp).2.2 (hd _ (h.data p hp).2.2 (h.data p hp).2.1), (h.data p hp).2.1, Nat.lt_of_lt_of_le (h.data p hp).2.2 hk.1⟩⟩
theorem Lst.keep0 {F : Blks} {H H' : AHeap} {sv : Value} {L : List Pk} (h : Lst H F sv L) (hk : Keep No H H') : Lst H' F sv L := h.keep hk fun _ _ _ h => h
theorem Lst.weak {F G : Blks} {H : AHeap} {sv : Value} {L : List Pk} (h : Lst H F sv L) (hs : ∀ b, F b → G b) : Lst H G sv L := ⟨h.fli.weak hs, fun p hp => ⟨(h.data p hp).1, hs _ (h.data p hp).2.1, (h.data p hp).2.2⟩⟩
/-- One more packet, its bytes in a row that is new. -/
theorem Lst.snoc {F G : Blks} {H H1 H2 : AHeap} {sv sv' : Value} {L : List Pk} {p : Pk} (h : Lst H F sv L) (hk1 : Keep No H H1) (hd : ∀ i r, H1.get i = some (.row r) → i < H1.next → r.elem ≠ 32 → H2.get i = H1.get i)
    (hle : H1.next ≤ H2.next) (hf : Fli H2 (Or F (New H1 H2)) sv' (L ++ [p])) (hp : H1.get p.blk = some (.row ⟨bytesV p.data, 5, 0, true⟩)) (h1 : p.blk < H1.next) (hG : G p.blk) (hFG : ∀ b, F b → G b) (hN : ∀ b, New H1 H2 b → G b) : Lst H2 G sv' (L ++ [p]) := by
  refine ⟨hf.weak ?_, ?_⟩
  · rintro b (hb | hb)
    · exact hFG b hb
    · exact hN b hb
  · intro q hq
    rcases List.mem_append.1 hq with hq | hq
    · obtain ⟨a, b, c⟩ := h.data q hq
      have a1 := hk1.get0 a c
      exact ⟨(hd _ _ a1 (Nat.lt_of_lt_of_le c hk1.1) (show (5 : Nat) ≠ 32 by decide)).trans a1, hFG _ b, Nat.lt_of_lt_of_le c (Nat.le_trans hk1.1 hle)⟩
    · obtain rfl := List.mem_singleton.1 hq
      exact ⟨(hd _ _ hp h1 (show (5 : Nat) ≠ 32 by decide)).trans hp, hG, Nat.lt_of_lt_of_le h1 hle⟩

def ListI (H0 : AHeap) (F : Blks) (L : List Pk) (n : Nat) (E : Env) (H : AHeap) : Prop :=
  Keep No H0 H ∧ ∃ (i : Nat) (z : Option Addr) (c : Nat) (sv : Value) (L' : List Pk), n + i = L.length ∧ E = [(9, .slice z L.length c), (10, .int .i64 L.length), (11, .int .i64 i), (3, sv)] ∧
    Fli H F (.slice z L.length c) L ∧ Lst H (New H0 H) sv L' ∧ L'.map Pk.msg = (L.take i).map Pk.msg ∧ L'.length = i

theorem list_calls {F : Blks} {e : Nat} {m : Int} {L : List Pk} (H : AHeap) (hN : Net H F e m L) (hL : L.length ≤ 256) (hl : ∀ p ∈ L, p.data.length ≤ 140737488355328) :
    ACalls Try.prog 18 #[.pointer (some ⟨e, 0, none⟩)] H fun v H' => Keep No H H' ∧ ∃ L', Lst H' (New H H') v L' ∧ L'.map Pk.msg = L.map Pk.msg := by
  obtain ⟨sv, hge, hfl⟩ := hN.node
  obtain ⟨z, c, rfl⟩ := hfl.rd.slice
  have he := hN.bound e hN.fe
  refine k_open (args := [.pointer (some ⟨e, 0, none⟩)]) (E0 := [(0, .pointer (some ⟨e, 0, none⟩))]) tbl18 Try.func18 rfl follows (by kernel_rfl) Try.ntmps18 rfl rfl ?_
  repeat' (first
    | (show EW _ _ _ _ _; first | refine ew_p (h := ?_) | refine ew_ld (h := ?_) | (refine ew_fresh ?_; intro b hb; refine ew_nw hb (h := ?_); (try simp only [AHeap.push_next, AHeap.put_next] at hb)) | refine ew_st (h := ?_) | (refine ew_df (ht := ?_) (hf := ?_) <;> intro _) | refine ew_ar (h := ?_) | refine w_nil ?_)
    | (show EC _ _ _ _ _ _ _; first | refine k_seq ?_ | refine k_region ?_ | refine k_skip ?_ | refine k_ret ?_ | refine k_exit ?_ | refine k_block ?_ | refine k_true (h := ?_) | refine k_false (h := ?_))
    | (show EX _ (bodyA _ _ _) _ _ _; first | refine x_end1 (hq := ?_))
    | (show EX _ _ _ _ _; first | refine x_normal ?_ | refine x_ret ?_ | refine x_exit ?_ | refine x_same ?_ | refine x_other (h := ?_) | refine x_bnormal ?_ | refine x_bret ?_))
  refine k_loop follows (ListI H F L) L.length [(9, _), (10, _), (11, _), (3, _)] (by kernel_rfl) ⟨rfl, rfl, rfl, rfl, trivial⟩ ?_ ?_
  · exact ⟨Keep.refl, 0, z, c, .slice none 0 0, [], by omega, rfl, hfl, Lst.nil, by simp, rfl⟩
  · rintro n E H1 ⟨hk, i, z1, c1, sv, L', hi, rfl, hfl1, hLst, hmsg, hlen⟩
    by_cases hlt : i < L.length
    · obtain ⟨ad, c', hsv, hF, hlt', hat⟩ := hfl1.rd.at hlt
      simp only [Value.slice.injEq, true_and] at hsv
      obtain ⟨rfl, rfl⟩ := hsv
      have hp : L[i]? = some L[i] := List.getElem?_eq_getElem hlt
      rw [flCells_at hp] at hat
      have hat' : H1.cellsAt (aadd ad ((i : Int).toNat * 3)) 3 = some [.int .i64 L[i].fr, .int .i64 L[i].to, L[i].dv] := hat
      have hpd := hN.data _ (List.getElem_mem hlt)
      have hpn := hN.bound _ hpd.2
      have hn1 := hk.1
      repeat' (first
    | (show EW _ _ _ _ _; first | refine ew_p (h := ?_) | refine ew_ld (h := ?_) | (refine ew_fresh ?_; intro b hb; refine ew_nw hb (h := ?_); (try simp only [AHeap.push_next, AHeap.put_next] at hb)) | refine ew_st (h := ?_) | (refine ew_df (ht := ?_) (hf := ?_) <;> intro _) | refine ew_ar (h := ?_) | refine w_nil ?_)
    | (show EC _ _ _ _ _ _ _; first | refine k_seq ?_ | refine k_region ?_ | refine k_skip ?_ | refine k_ret ?_ | refine k_exit ?_ | refine k_block ?_ | refine k_true (h := ?_) | refine k_false (h := ?_))
    | (show EX _ (bodyA _ _ _) _ _ _; first | refine x_end1 (hq := ?_))
    | (show EX _ _ _ _ _; first | refine x_normal ?_ | refine x_ret ?_ | refine x_exit ?_ | refine x_same ?_ | refine x_other (h := ?_) | refine x_bnormal ?_ | refine x_bret ?_))
      (first | (refine' ew_callS (hc := cr_call) (hR := ?_) (h := ?_); rotate_left 1) | (refine' ew_call (hc := cr_call) (hR := ?_) (h := ?_); rotate_left 1))
      · exact own_calls (F := F) L[i].fr L[i].to L[i].dv L[i].data _ (rd_row (F := F) (hk.get0 hpd.1 hpn |> fun h => by exact rdx) hpd.2 (by simp only [AHeap.push_next, AHeap.put_next]; omega)) (hl _ (List.getElem_mem hlt))
      rintro _ H2 ⟨bd, rfl, hb1, hb2, hb3, hk2⟩
      have hk12 : Keep No H1 H2 := Keep.after (by exact kp) hk2
      have hLst2 := hLst.keep0 hk12
      have hle := hk2.1
      simp only [AHeap.push_next, AHeap.put_next] at hb1 hle
      repeat' (first
    | (show EW _ _ _ _ _; first | refine ew_p (h := ?_) | refine ew_ld (h := ?_) | (refine ew_fresh ?_; intro b hb; refine ew_nw hb (h := ?_); (try simp only [AHeap.push_next, AHeap.put_next] at hb)) | refine ew_st (h := ?_) | (refine ew_df (ht := ?_) (hf := ?_) <;> intro _) | refine ew_ar (h := ?_) | refine w_nil ?_)
    | (show EC _ _ _ _ _ _ _; first | refine k_seq ?_ | refine k_region ?_ | refine k_skip ?_ | refine k_ret ?_ | refine k_exit ?_ | refine k_block ?_ | refine k_true (h := ?_) | refine k_false (h := ?_))
    | (show EX _ (bodyA _ _ _) _ _ _; first | refine x_end1 (hq := ?_))
    | (show EX _ _ _ _ _; first | refine x_normal ?_ | refine x_ret ?_ | refine x_exit ?_ | refine x_same ?_ | refine x_other (h := ?_) | refine x_bnormal ?_ | refine x_bret ?_))
      rename_i b7 hb7
      (first | (refine' ew_appS (hR := ?_) (h := ?_); rotate_left 1) | (refine' ew_app (hR := ?_) (h := ?_); rotate_left 1))
      · exact Fli.snoc T36 (hLst2.fli.keep (G := No) (by exact kp) (fun _ _ _ _ h => h)) (p := ⟨L[i].fr, L[i].to, L[i].data, bd⟩) (by refine src_of (by decide) (m := 3) rfl ?_; (first | assumption | (apply cells_row; (focus ((repeat' (first | assumption | (rw [aadd_block]) | (apply gN; (focus (first | exact rfl | omega | (simp only [AHeap.push_next, AHeap.put_next, aadd_block] <;> omega))); (focus exact rfl)) | (apply gO; (focus (first | omega | (simp only [AHeap.push_next, AHeap.put_next, aadd_block, ne_eq] <;> omega)))) | (apply gS; (focus (first | exact rfl | omega | (simp only [AHeap.push_next, AHeap.put_next, aadd_block] <;> omega))); (focus exact rfl)) | (apply gP; (focus (first | omega | (simp only [AHeap.push_next, AHeap.put_next, aadd_block, ne_eq] <;> omega)))) | exact rfl)); done)); (focus exact rfl); (focus exact rfl); (focus (first | exact (rfl : _ = some [_]) | exact (rfl : _ = some [_, _]) | exact (rfl : _ = some [_, _, _]) | exact (rfl : _ = some [_, _, _, _]) | exact (rfl : _ = some [_, _, _, _, _]) | exact (rfl : _ = some [_, _, _, _, _, _])))) | (apply cells_k; (focus assumption); (focus (first | assumption | (simp only [aadd_block] <;> first | assumption | omega))); (focus ((repeat' (first | exact Keep.refl | assumption | (apply Keep.push) | (refine Keep.put ?_ ?_; rotate_left; (focus (intro hlt; first | assumption | omega | (exfalso; simp only [AHeap.push_next, AHeap.put_next, aadd_block] at hlt; omega)))))); done))))) (by omega)
      rintro sv' H3 ⟨hfl3, hk3, hn3, hd3⟩
      have hn3' := hk3.1
      simp only [AHeap.push_next] at hn3'
      have hk23 : Keep (New H H1) H2 H3 := (by exact kp : Keep (New H H1) H2 (H2.push _)).trans hk3 (fun _ _ h => h)
      have hkF : Keep No H H3 := (hk.after hk12).trans hk23 fun b hb hb' => absurd hb'.1 (by omega)
      have hfin := hLst2.snoc (G := New H H3) (H1 := H2.push (.row ⟨[.int .i64 L[i].fr, .int .i64 L[i].to, .slice (some ⟨bd, 0, none⟩) L[i].data.length L[i].data.length], 32, 0, true⟩)) (by exact kp) hd3 hk3.1 hfl3 (by exact rdx) (by simp only [AHeap.push_next]; omega) ⟨show H.next ≤ bd by omega, show bd < H3.next by omega⟩
        (fun b hb => ⟨hb.1, by have := hb.2; omega⟩) (fun b hb => ⟨by have := hb.1; simp only [AHeap.push_next] at this; omega, hb.2⟩)
      repeat' (first
    | (show EW _ _ _ _ _; first | refine ew_p (h := ?_) | refine ew_ld (h := ?_) | (refine ew_fresh ?_; intro b hb; refine ew_nw hb (h := ?_); (try simp only [AHeap.push_next, AHeap.put_next] at hb)) | refine ew_st (h := ?_) | (refine ew_df (ht := ?_) (hf := ?_) <;> intro _) | refine ew_ar (h := ?_) | refine w_nil ?_)
    | (show EC _ _ _ _ _ _ _; first | refine k_seq ?_ | refine k_region ?_ | refine k_skip ?_ | refine k_ret ?_ | refine k_exit ?_ | refine k_block ?_ | refine k_true (h := ?_) | refine k_false (h := ?_))
    | (show EX _ (bodyA _ _ _) _ _ _; first | refine x_end1 (hq := ?_))
    | (show EX _ _ _ _ _; first | refine x_normal ?_ | refine x_ret ?_ | refine x_exit ?_ | refine x_same ?_ | refine x_other (h := ?_) | refine x_bnormal ?_ | refine x_bret ?_))
      refine x_again (n - 1) [(9, _), (10, _), (11, _), (3, _)] ⟨rfl, rfl, rfl, rfl, trivial⟩ (by omega) ⟨hkF, i + 1, some ad, c1, _, _, by omega, rfl, ?_, hfin, ?_, ?_⟩
      · exact hfl1.keep ((hk12.no (G := New H H1)).trans hk23 fun b _ h => h) fun b _ hF _ hn => by
          have := hN.bound _ hF
          have := hn.1
          omega
      · rw [List.map_append, hmsg, List.take_add_one, List.map_append, hp]; rfl
      · simp [hlen]
    · repeat' (first
    | (show EW _ _ _ _ _; first | refine ew_p (h := ?_) | refine ew_ld (h := ?_) | (refine ew_fresh ?_; intro b hb; refine ew_nw hb (h := ?_); (try simp only [AHeap.push_next, AHeap.put_next] at hb)) | refine ew_st (h := ?_) | (refine ew_df (ht := ?_) (hf := ?_) <;> intro _) | refine ew_ar (h := ?_) | refine w_nil ?_)
    | (show EC _ _ _ _ _ _ _; first | refine k_seq ?_ | refine k_region ?_ | refine k_skip ?_ | refine k_ret ?_ | refine k_exit ?_ | refine k_block ?_ | refine k_true (h := ?_) | refine k_false (h := ?_))
    | (show EX _ (bodyA _ _ _) _ _ _; first | refine x_end1 (hq := ?_))
    | (show EX _ _ _ _ _; first | refine x_normal ?_ | refine x_ret ?_ | refine x_exit ?_ | refine x_same ?_ | refine x_other (h := ?_) | refine x_bnormal ?_ | refine x_bret ?_))
      have : i = L.length := by omega
      exact ⟨hk, L', hLst, by rw [hmsg, this, List.take_length]⟩

end Go.Ae

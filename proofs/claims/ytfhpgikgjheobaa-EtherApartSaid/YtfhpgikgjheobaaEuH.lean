/- The law EtherApart over the abstract heap: List, each packet's bytes in a row of its own; copies. No condition. -/
import Derived.Test.YtfhpgikgjheobaaEuG
import Derived.Test.YtfhpgikgjheobaaEtV
set_option linter.unusedSimpArgs false
set_option linter.unusedVariables false
set_option linter.unnecessarySimpa false
set_option maxRecDepth 100000
set_option maxHeartbeats 800000
namespace Go.Ae
open Go.Proofs
attribute [local irreducible] awC wpSeq wpS nRes aw aE acall ACalls szT isAggT zeroT byT elemSz fieldOff Program.underlying appendA copyA thenA inBlockA bodyA AHeap.push AHeap.put AHeap.cellsAt AHeap.setCells resV loadA intBin EW EC EX Nr Nc Er Cr Agree

def tbl22 : Tbl := []
/-- A list of packets of one's own, each one's bytes in a row of its own; O: the list's rows. -/
structure Lown (H0 H : AHeap) (O : Blks) (sv : Value) (L : List Pk) : Prop where
  opn : Opn H O 32 3 sv L.length (flCells L)
  ob : ∀ b, O b → H0.next ≤ b ∧ b < H.next
  data : ∀ p ∈ L, H.get p.blk = some (.row ⟨bytesV p.data, 5, 0, true⟩) ∧ H0.next ≤ p.blk ∧ p.blk < H.next ∧ ¬ O p.blk
  nd : (L.map Pk.blk).Nodup
theorem Lown.keep0 {H0 H H' : AHeap} {O : Blks} {sv : Value} {L : List Pk} (h : Lown H0 H O sv L) (hk : Keep No H H') : Lown H0 H' O sv L := by
  have := hk.1
  exact ⟨h.opn.keep0 hk, fun b hb => ⟨(h.ob b hb).1, by have := (h.ob b hb).2; omega⟩, fun p hp => ⟨hk.row0 (h.data p hp).1 (h.data p hp).2.2.1, (h.data p hp).2.1, by have := (h.data p hp).2.2.1; omega, (h.data p hp).2.2.2⟩, h.nd⟩
theorem flCells_snoc (L : List Pk) (p : Pk) : flCells (L ++ [p]) = flCells L ++ p.cells := by
  induction L with
  | nil => simp [flCells]
  | cons q L ih => simp only [List.cons_append, flCells, ih, List.append_assoc]
theorem Lown.snoc {H0 H1 Hx H3 : AHeap} {O : Blks} {sv sv' : Value} {L : List Pk} {p : Pk} (h : Lown H0 H1 O sv L) (hk1 : Keep No H1 Hx) (ho : Opn H3 (Or O (New Hx H3)) 32 3 sv' (L.length + 1) (flCells L ++ p.cells)) (hk : Keep O Hx H3)
    (hp : Hx.get p.blk = some (.row ⟨bytesV p.data, 5, 0, true⟩)) (hp1 : H1.next ≤ p.blk) (hp2 : p.blk < Hx.next) (h0 : H0.next ≤ H1.next) : Lown H0 H3 (Or O (New Hx H3)) sv' (L ++ [p]) := by
  have n1 := hk1.1
  have n3 := hk.1
  have hpO : ¬ O p.blk := fun ho => by have := (h.ob _ ho).2; omega
  refine ⟨by rw [flCells_snoc, List.length_append]; exact ho, ?_, fun q hq => ?_, ?_⟩
  · rintro b (hb | hb)
    · have := h.ob b hb; omega
    · have := hb.1; have := hb.2; omega
  · rcases List.mem_append.1 hq with hq | hq
    · obtain ⟨g1, g2, g3, g4⟩ := h.data q hq
      exact ⟨hk.row (hk1.row0 g1 g3) (by omega) g4, g2, by omega, fun hb => hb.elim g4 fun hb => by have := hb.1; omega⟩
    · obtain rfl := List.mem_singleton.1 hq
      exact ⟨hk.row hp hp2 hpO, by omega, by omega, fun hb => hb.elim hpO fun hb => by have := hb.1; omega⟩
  · rw [List.map_append, List.nodup_append]
    refine ⟨h.nd, by simp, fun a ha b hb => ?_⟩
    obtain ⟨q, hq, rfl⟩ := List.mem_map.1 ha
    simp only [List.map_cons, List.map_nil, List.mem_singleton] at hb
    have := (h.data q hq).2.2.1
    omega

def LoI (H0 : AHeap) (F : Blks) (L : List Pk) (n : Nat) (E : Env) (H : AHeap) : Prop :=
  Keep No H0 H ∧ ∃ (i : Nat) (z : Option Addr) (c : Nat) (sv : Value) (L' : List Pk) (O : Blks), n + i = L.length ∧ E = [(9, .slice z L.length c), (10, .int .i64 L.length), (11, .int .i64 i), (3, sv)] ∧
    Fli H F (.slice z L.length c) L ∧ Lown H0 H O sv L' ∧ L'.map Pk.msg = (L.take i).map Pk.msg ∧ L'.length = i
theorem lown_calls {F : Blks} {e : Nat} {m : Int} {L : List Pk} (H : AHeap) (hN : Net H F e m L) (hL : L.length ≤ 256) (hl : ∀ p ∈ L, p.data.length ≤ 140737488355328) :
    ACalls Try.prog 18 #[.pointer (some ⟨e, 0, none⟩)] H fun v H' => Keep No H H' ∧ ∃ L' O, Lown H H' O v L' ∧ L'.map Pk.msg = L.map Pk.msg := by
  obtain ⟨sv, hge, hfl⟩ := hN.node
  obtain ⟨z, c, rfl⟩ := hfl.rd.slice
  have he := hN.bound e hN.fe
  refine k_open (args := [.pointer (some ⟨e, 0, none⟩)]) (E0 := [(0, .pointer (some ⟨e, 0, none⟩))]) tbl18 Try.func18 rfl follows (by kernel_rfl) Try.ntmps18 rfl rfl ?_
  repeat' (first
    | (show EW _ _ _ _ _; first | refine ew_p (h := ?_) | refine ew_ld (h := ?_) | (refine ew_fresh ?_; intro b hb; refine ew_nw hb (h := ?_); (try simp only [AHeap.push_next, AHeap.put_next] at hb)) | refine ew_st (h := ?_) | (refine ew_df (ht := ?_) (hf := ?_) <;> intro _) | refine ew_ar (h := ?_) | refine w_nil ?_)
    | (show EC _ _ _ _ _ _ _; first | refine k_seq ?_ | refine k_region ?_ | refine k_skip ?_ | refine k_ret ?_ | refine k_exit ?_ | refine k_block ?_ | refine k_true (h := ?_) | refine k_false (h := ?_))
    | (show EX _ (bodyA _ _ _) _ _ _; first | refine x_end1 (hq := ?_))
    | (show EX _ _ _ _ _; first | refine x_normal ?_ | refine x_ret ?_ | refine x_exit ?_ | refine x_same ?_ | refine x_other (h := ?_) | refine x_bnormal ?_ | refine x_bret ?_))
  refine k_loop follows (LoI H F L) L.length [(9, _), (10, _), (11, _), (3, _)] (by kernel_rfl) ⟨rfl, rfl, rfl, rfl, trivial⟩ ?_ ?_
  · exact ⟨Keep.refl, 0, z, c, .slice none 0 0, [], No, by omega, rfl, hfl, ⟨Opn.nil, fun _ h => h.elim, by simp, by simp⟩, by simp, rfl⟩
  · rintro n E H1 ⟨hk, i, z1, c1, sv, L', O, hi, rfl, hfl1, hLst, hmsg, hlen⟩
    by_cases hlt : i < L.length
    · obtain ⟨ad, c', hsv, hF, hlt', hat⟩ := hfl1.rd.at hlt
      simp only [Value.slice.injEq, true_and] at hsv
      obtain ⟨rfl, rfl⟩ := hsv
      have hp : L[i]? = some L[i] := List.getElem?_eq_getElem hlt
      rw [flCells_at hp] at hat
      have hat' : H1.cellsAt (aadd ad ((i : Int).toNat * 3)) 3 = some [.int .i64 L[i].fr, .int .i64 L[i].to, L[i].dv] := hat
      have hpd := hN.data _ (List.getElem_mem hlt)
      have hpn := hN.bound _ hpd.2
      have hn1 := hk.1
      repeat' (first
    | (show EW _ _ _ _ _; first | refine ew_p (h := ?_) | refine ew_ld (h := ?_) | (refine ew_fresh ?_; intro b hb; refine ew_nw hb (h := ?_); (try simp only [AHeap.push_next, AHeap.put_next] at hb)) | refine ew_st (h := ?_) | (refine ew_df (ht := ?_) (hf := ?_) <;> intro _) | refine ew_ar (h := ?_) | refine w_nil ?_)
    | (show EC _ _ _ _ _ _ _; first | refine k_seq ?_ | refine k_region ?_ | refine k_skip ?_ | refine k_ret ?_ | refine k_exit ?_ | refine k_block ?_ | refine k_true (h := ?_) | refine k_false (h := ?_))
    | (show EX _ (bodyA _ _ _) _ _ _; first | refine x_end1 (hq := ?_))
    | (show EX _ _ _ _ _; first | refine x_normal ?_ | refine x_ret ?_ | refine x_exit ?_ | refine x_same ?_ | refine x_other (h := ?_) | refine x_bnormal ?_ | refine x_bret ?_))
      obtain ⟨Hf, hHf⟩ : ∃ Hf, Hf = (H1.push (.row ⟨[.int .i64 0, .int .i64 0, .slice none 0 0], 32, 0, true⟩)).put b (.row ⟨[.int .i64 L[i].fr, .int .i64 L[i].to, L[i].dv], 32, 0, true⟩) := ⟨_, rfl⟩
      have hkf : Keep No H1 Hf := by rw [hHf]; exact kp
      have hnf : Hf.next = H1.next + 1 := by rw [hHf]; simp
      rw [← hHf]
      have hkF := hk.after hkf
      (first | (refine' ew_callS (hc := cr_call) (hR := ?_) (h := ?_); rotate_left 1) | (refine' ew_call (hc := cr_call) (hR := ?_) (h := ?_); rotate_left 1))
      · exact own_calls (F := F) L[i].fr L[i].to L[i].dv L[i].data _ (rd_row (F := F) (hkF.row0 hpd.1 hpn) hpd.2 (by omega)) (hl _ (List.getElem_mem hlt))
      rintro _ H2 ⟨bd, rfl, hb1, hb2, hb3, hk2⟩
      have hk12 := hkf.after hk2
      have hn2 := hk2.1
      have hL2 := hLst.keep0 hk12
      repeat' (first
    | (show EW _ _ _ _ _; first | refine ew_p (h := ?_) | refine ew_ld (h := ?_) | (refine ew_fresh ?_; intro b hb; refine ew_nw hb (h := ?_); (try simp only [AHeap.push_next, AHeap.put_next] at hb)) | refine ew_st (h := ?_) | (refine ew_df (ht := ?_) (hf := ?_) <;> intro _) | refine ew_ar (h := ?_) | refine w_nil ?_)
    | (show EC _ _ _ _ _ _ _; first | refine k_seq ?_ | refine k_region ?_ | refine k_skip ?_ | refine k_ret ?_ | refine k_exit ?_ | refine k_block ?_ | refine k_true (h := ?_) | refine k_false (h := ?_))
    | (show EX _ (bodyA _ _ _) _ _ _; first | refine x_end1 (hq := ?_))
    | (show EX _ _ _ _ _; first | refine x_normal ?_ | refine x_ret ?_ | refine x_exit ?_ | refine x_same ?_ | refine x_other (h := ?_) | refine x_bnormal ?_ | refine x_bret ?_))
      rename_i bf hbf
      obtain ⟨Hx, hHx⟩ : ∃ Hx, Hx = H2.push (.row ⟨[.int .i64 (Pk.mk L[i].fr L[i].to L[i].data bd).fr, .int .i64 (Pk.mk L[i].fr L[i].to L[i].data bd).to, (Pk.mk L[i].fr L[i].to L[i].data bd).dv], 32, 0, true⟩) := ⟨_, rfl⟩
      have hkx : Keep No H2 Hx := by rw [hHx]; exact kp
      have hxn : Hx.next = H2.next + 1 := by rw [hHx]; simp
      have hxb : Hx.get b = some (.row ⟨[.int .i64 (Pk.mk L[i].fr L[i].to L[i].data bd).fr, .int .i64 (Pk.mk L[i].fr L[i].to L[i].data bd).to, (Pk.mk L[i].fr L[i].to L[i].data bd).dv], 32, 0, true⟩) := by rw [hHx]; exact rdx
      rw [← hHx]
      (first | (refine' ew_appS (hR := ?_) (h := ?_); rotate_left 1) | (refine' ew_app (hR := ?_) (h := ?_); rotate_left 1))
      · exact Opn.snoc T36 (hL2.opn.keep0 hkx) (news := (Pk.mk L[i].fr L[i].to L[i].data bd).cells) (src_of (by decide) (m := 3) rfl (cellsAt_of (ad := ⟨b, 0, none⟩) hxb rfl (by simp) rfl)) (by decide) rfl rfl (by omega)
      rintro sv' H3 ⟨ho3, hk3, hn3, hd3⟩
      have hn3' := hk3.1
      have hfin := hLst.snoc (Hx := Hx) (p := ⟨L[i].fr, L[i].to, L[i].data, bd⟩) (hk12.after hkx) ho3 hk3 (hkx.row0 hb3 hb2) (by show H1.next ≤ bd; omega) (by show bd < Hx.next; omega) hn1
      have hkO : Keep No H H3 := ((hk.after hk12).after hkx).own hk3 fun b hb => (hLst.ob b hb).1
      repeat' (first
    | (show EW _ _ _ _ _; first | refine ew_p (h := ?_) | refine ew_ld (h := ?_) | (refine ew_fresh ?_; intro b hb; refine ew_nw hb (h := ?_); (try simp only [AHeap.push_next, AHeap.put_next] at hb)) | refine ew_st (h := ?_) | (refine ew_df (ht := ?_) (hf := ?_) <;> intro _) | refine ew_ar (h := ?_) | refine w_nil ?_)
    | (show EC _ _ _ _ _ _ _; first | refine k_seq ?_ | refine k_region ?_ | refine k_skip ?_ | refine k_ret ?_ | refine k_exit ?_ | refine k_block ?_ | refine k_true (h := ?_) | refine k_false (h := ?_))
    | (show EX _ (bodyA _ _ _) _ _ _; first | refine x_end1 (hq := ?_))
    | (show EX _ _ _ _ _; first | refine x_normal ?_ | refine x_ret ?_ | refine x_exit ?_ | refine x_same ?_ | refine x_other (h := ?_) | refine x_bnormal ?_ | refine x_bret ?_))
      refine x_again (n - 1) [(9, _), (10, _), (11, _), (3, _)] ⟨rfl, rfl, rfl, rfl, trivial⟩ (by omega) ⟨hkO, i + 1, some ad, c1, _, _, _, by omega, rfl, ?_, hfin, ?_, by simp [hlen]⟩
      · exact hfl1.keep (((hk12.after hkx).no (G := O)).trans hk3 fun b _ h => h) fun b _ hF _ hn => by
          have := hN.bound _ hF
          have := (hLst.ob b hn).1
          omega
      · rw [List.map_append, hmsg, List.take_add_one, List.map_append, hp]; rfl
    · repeat' (first
    | (show EW _ _ _ _ _; first | refine ew_p (h := ?_) | refine ew_ld (h := ?_) | (refine ew_fresh ?_; intro b hb; refine ew_nw hb (h := ?_); (try simp only [AHeap.push_next, AHeap.put_next] at hb)) | refine ew_st (h := ?_) | (refine ew_df (ht := ?_) (hf := ?_) <;> intro _) | refine ew_ar (h := ?_) | refine w_nil ?_)
    | (show EC _ _ _ _ _ _ _; first | refine k_seq ?_ | refine k_region ?_ | refine k_skip ?_ | refine k_ret ?_ | refine k_exit ?_ | refine k_block ?_ | refine k_true (h := ?_) | refine k_false (h := ?_))
    | (show EX _ (bodyA _ _ _) _ _ _; first | refine x_end1 (hq := ?_))
    | (show EX _ _ _ _ _; first | refine x_normal ?_ | refine x_ret ?_ | refine x_exit ?_ | refine x_same ?_ | refine x_other (h := ?_) | refine x_bnormal ?_ | refine x_bret ?_))
      have : i = L.length := by omega
      exact ⟨hk, L', O, hLst, by rw [hmsg, this, List.take_length]⟩

theorem lownM {H : AHeap} {F : Blks} {e : Nat} {m : Int} {M : List Msg} (hN : NetM H F e m M) : ACalls Try.prog 18 #[.pointer (some ⟨e, 0, none⟩)] H fun v H' => Keep No H H' ∧ ∃ L' O, Lown H H' O v L' ∧ L'.map Pk.msg = M := by
  obtain ⟨⟨L, hN, rfl⟩, h1, h2⟩ := hN
  exact lown_calls H hN (by simpa using h1) (big_of h2)
theorem Lown.reads {H0 H : AHeap} {O : Blks} {sv : Value} {L : List Pk} (h : Lown H0 H O sv L) : FlR H (New H0 H) sv (L.map Pk.msg) := by
  refine ⟨flCells L, by rw [List.length_map]; exact h.opn.rd.weak fun b _ hb => h.ob b hb, fun i x hx => ?_⟩
  rw [List.getElem?_map] at hx
  obtain ⟨p, hp, rfl⟩ := Option.map_eq_some_iff.1 hx
  obtain ⟨g1, g2, g3, _⟩ := h.data p (List.mem_of_getElem? hp)
  exact ⟨p.dv, flCells_at hp, rd_row g1 ⟨g2, g3⟩ g3⟩

def CpI (H0 : AHeap) (F : Blks) (v : Value) (M : List Msg) (n : Nat) (E : Env) (H : AHeap) : Prop :=
  Keep No H0 H ∧ ∃ (i : Nat) (sv : Value), n + i = M.length ∧ E = [(4, .int .i64 i), (3, sv), (0, v)] ∧ Ow H0 H sv (M.take i)
/-- Copies. -/
theorem copies_calls {F : Blks} {v : Value} {M : List Msg} (H : AHeap) (hM : FlR H F v M) (hl : M.length ≤ 300) (hs : ∀ x ∈ M, x.2.2.length ≤ 32776) :
    ACalls Try.prog 22 #[v] H fun v' H' => Keep No H H' ∧ FlR H' (New H H') v' M := by
  obtain ⟨z, c, rfl⟩ := hM.slice
  refine k_open (args := [.slice z M.length c]) (E0 := [(0, .slice z M.length c)]) tbl22 Try.func22 rfl follows (by kernel_rfl) Try.ntmps22 rfl rfl ?_
  repeat' (first
    | (show EW _ _ _ _ _; first | refine ew_p (h := ?_) | refine ew_ld (h := ?_) | (refine ew_fresh ?_; intro b hb; refine ew_nw hb (h := ?_); (try simp only [AHeap.push_next, AHeap.put_next] at hb)) | refine ew_st (h := ?_) | (refine ew_df (ht := ?_) (hf := ?_) <;> intro _) | refine ew_ar (h := ?_) | refine w_nil ?_)
    | (show EC _ _ _ _ _ _ _; first | refine k_seq ?_ | refine k_region ?_ | refine k_skip ?_ | refine k_ret ?_ | refine k_exit ?_ | refine k_block ?_ | refine k_true (h := ?_) | refine k_false (h := ?_))
    | (show EX _ (bodyA _ _ _) _ _ _; first | refine x_end1 (hq := ?_))
    | (show EX _ _ _ _ _; first | refine x_normal ?_ | refine x_ret ?_ | refine x_exit ?_ | refine x_same ?_ | refine x_other (h := ?_) | refine x_bnormal ?_ | refine x_bret ?_))
  refine k_loop follows (CpI H F (.slice z M.length c) M) M.length [(4, _), (3, _), (0, _)] (by kernel_rfl) ⟨rfl, rfl, rfl, trivial⟩ ⟨Keep.refl, 0, _, by omega, rfl, Ow.nil⟩ ?_
  rintro n E H1 ⟨hk1, i, sv, hi, rfl, hO⟩
  have hn1 := hk1.1
  by_cases hlt : i < M.length
  · obtain ⟨x, hx⟩ : ∃ x, M[i]? = some x := ⟨M[i], List.getElem?_eq_getElem hlt⟩
    obtain ⟨ad, c', zx, cx, hv, hltb, hc3, hc1, hbr⟩ := (hM.keep0 hk1).at4 hx
    simp only [Value.slice.injEq, true_and] at hv
    obtain ⟨rfl, rfl⟩ := hv
    have hxs := hs x (List.mem_of_getElem? hx)
    repeat' (first
    | (show EW _ _ _ _ _; first | refine ew_p (h := ?_) | refine ew_ld (h := ?_) | (refine ew_fresh ?_; intro b hb; refine ew_nw hb (h := ?_); (try simp only [AHeap.push_next, AHeap.put_next] at hb)) | refine ew_st (h := ?_) | (refine ew_df (ht := ?_) (hf := ?_) <;> intro _) | refine ew_ar (h := ?_) | refine w_nil ?_)
    | (show EC _ _ _ _ _ _ _; first | refine k_seq ?_ | refine k_region ?_ | refine k_skip ?_ | refine k_ret ?_ | refine k_exit ?_ | refine k_block ?_ | refine k_true (h := ?_) | refine k_false (h := ?_))
    | (show EX _ (bodyA _ _ _) _ _ _; first | refine x_end1 (hq := ?_))
    | (show EX _ _ _ _ _; first | refine x_normal ?_ | refine x_ret ?_ | refine x_exit ?_ | refine x_same ?_ | refine x_other (h := ?_) | refine x_bnormal ?_ | refine x_bret ?_))
    rename_i bf hbf
    obtain ⟨Hc, hHc⟩ : ∃ Hc, Hc = ((H1.push (.row ⟨[.int .i64 0, .int .i64 0, .slice none 0 0], 32, 0, true⟩)).put bf (.row ⟨[.int .i64 x.1, .int .i64 x.2.1, .slice zx x.2.2.length cx], 32, 0, true⟩)).push (.row ⟨[], 5, 0, true⟩) := ⟨_, rfl⟩
    have hkc : Keep No H1 Hc := by rw [hHc]; exact kp
    have hnc : Hc.next = H1.next + 2 := by rw [hHc]; simp
    have hgf : Hc.get bf = some (.row ⟨[.int .i64 x.1, .int .i64 x.2.1, .slice zx x.2.2.length cx], 32, 0, true⟩) := by rw [hHc]; exact rdx
    have hgc : Hc.get b = some (.row ⟨[], 5, 0, true⟩) := by rw [hHc]; exact rdx
    rw [← hHc]
    obtain ⟨nv, H2, a2, o2, k2⟩ := app_own (O := fun y => y = b) (n := 0) (ls := []) (.inr ⟨⟨b, 0, none⟩, 0, ⟨[], 5, 0, true⟩, rfl, rfl, by show b < Hc.next; omega, hgc, rfl, rfl, by simp, rfl, rfl, .inl rfl⟩) (Rd.keep0 hbr hkc) (by omega)
    simp only [Nat.zero_add, List.nil_append] at a2 o2
    obtain ⟨zn, qn, rfl⟩ := o2.rd.slice
    have n2 := k2.1
    have k12 : Keep No H1 H2 := hkc.own k2 fun y hy => by have hy' : y = b := hy; omega
    refine ew_appX (hR := a2) (h := ?_)
    have hgf2 := k2.row hgf (by omega) (by omega)
    repeat' (first
    | (show EW _ _ _ _ _; first | refine ew_p (h := ?_) | refine ew_ld (h := ?_) | (refine ew_fresh ?_; intro b hb; refine ew_nw hb (h := ?_); (try simp only [AHeap.push_next, AHeap.put_next] at hb)) | refine ew_st (h := ?_) | (refine ew_df (ht := ?_) (hf := ?_) <;> intro _) | refine ew_ar (h := ?_) | refine w_nil ?_)
    | (show EC _ _ _ _ _ _ _; first | refine k_seq ?_ | refine k_region ?_ | refine k_skip ?_ | refine k_ret ?_ | refine k_exit ?_ | refine k_block ?_ | refine k_true (h := ?_) | refine k_false (h := ?_))
    | (show EX _ (bodyA _ _ _) _ _ _; first | refine x_end1 (hq := ?_))
    | (show EX _ _ _ _ _; first | refine x_normal ?_ | refine x_ret ?_ | refine x_exit ?_ | refine x_same ?_ | refine x_other (h := ?_) | refine x_bnormal ?_ | refine x_bret ?_))
    obtain ⟨Hx, hHx⟩ : ∃ Hx, Hx = (H2.put bf (.row ⟨[.int .i64 x.1, .int .i64 x.2.1, .slice zn x.2.2.length qn], 32, 0, true⟩)).push (.row ⟨[.int .i64 x.1, .int .i64 x.2.1, .slice zn x.2.2.length qn], 32, 0, true⟩) := ⟨_, rfl⟩
    have hkx : Keep (fun y => y = bf) H2 Hx := by rw [hHx]; exact Keep.push (F := fun y => y = bf) (Keep.put (F := fun y => y = bf) Keep.refl fun _ => rfl)
    have hk1x : Keep No H1 Hx := k12.own hkx fun y hy => by have hy' : y = bf := hy; omega
    have hxb : Hx.get b = some (.row ⟨[.int .i64 x.1, .int .i64 x.2.1, .slice zn x.2.2.length qn], 32, 0, true⟩) := by rw [hHx]; exact rdx
    have hxn : Hx.next = H2.next + 1 := by rw [hHx]; simp
    rw [← hHx]
    obtain ⟨O2, D2, cells, ho2, hc2, hOb, hDb, hOD⟩ := hO
    have hlt' : (M.take i).length = i := by rw [List.length_take]; omega
    rw [hlt'] at ho2
    (first | (refine' ew_appS (hR := ?_) (h := ?_); rotate_left 1) | (refine' ew_app (hR := ?_) (h := ?_); rotate_left 1))
    · exact Opn.snoc T36 (ho2.keep0 hk1x) (news := [.int .i64 x.1, .int .i64 x.2.1, .slice zn x.2.2.length qn]) (src_of (by decide) (m := 3) rfl (cellsAt_of (ad := ⟨b, 0, none⟩) hxb rfl (by simp) rfl)) (by decide) rfl rfl (by omega)
    rintro sv' H3 ⟨ho3, hk3, hn3, hd3⟩
    have hn3' := hk3.1
    have hO3 : Ow H H3 sv' (M.take i ++ [x]) := by
      have hbx : BR Hx (fun y => H1.next ≤ y ∧ y < H2.next) (.slice zn x.2.2.length qn) x.2.2 := by
        have h1 := o2.rd.keep hkx fun y _ hy hy' => by
          have hy2 : y = bf := hy'
          rcases hy with hy | hy
          · have hy1 : y = _ := hy
            omega
          · have := hy.1; omega
        refine h1.weak fun y _ hy => ?_
        rcases hy with hy | hy
        · have hy1 : y = _ := hy
          omega
        · have := hy.1; have := hy.2; omega
      refine Ow.snoc (fun j y hy => let ⟨dv, a, b⟩ := hc2 j y hy; ⟨dv, a, Rd.keep0 b hk1x⟩) (by rw [hlt']; exact ho2.rd.length) (fun b hb => ⟨(hOb b hb).1, by have := (hOb b hb).2; omega⟩) (fun b hb => ⟨(hDb b hb).1, by have := (hDb b hb).2; omega⟩) hOD (by rw [hlt']; exact ho3) hk3 hbx ?_ (by omega)
      intro y hy
      exact ⟨by omega, by omega, fun h => by have := (hOb y h).2; omega⟩
    repeat' (first
    | (show EW _ _ _ _ _; first | refine ew_p (h := ?_) | refine ew_ld (h := ?_) | (refine ew_fresh ?_; intro b hb; refine ew_nw hb (h := ?_); (try simp only [AHeap.push_next, AHeap.put_next] at hb)) | refine ew_st (h := ?_) | (refine ew_df (ht := ?_) (hf := ?_) <;> intro _) | refine ew_ar (h := ?_) | refine w_nil ?_)
    | (show EC _ _ _ _ _ _ _; first | refine k_seq ?_ | refine k_region ?_ | refine k_skip ?_ | refine k_ret ?_ | refine k_exit ?_ | refine k_block ?_ | refine k_true (h := ?_) | refine k_false (h := ?_))
    | (show EX _ (bodyA _ _ _) _ _ _; first | refine x_end1 (hq := ?_))
    | (show EX _ _ _ _ _; first | refine x_normal ?_ | refine x_ret ?_ | refine x_exit ?_ | refine x_same ?_ | refine x_other (h := ?_) | refine x_bnormal ?_ | refine x_bret ?_))
    refine x_again (n - 1) [(4, _), (3, _), (0, _)] ⟨rfl, rfl, rfl, trivial⟩ (by omega) ⟨(hk1.after hk1x).own hk3 (fun b hb => (hOb b hb).1), i + 1, sv', by omega, rfl, ?_⟩
    rw [List.take_add_one, hx]
    exact hO3
  · repeat' (first
    | (show EW _ _ _ _ _; first | refine ew_p (h := ?_) | refine ew_ld (h := ?_) | (refine ew_fresh ?_; intro b hb; refine ew_nw hb (h := ?_); (try simp only [AHeap.push_next, AHeap.put_next] at hb)) | refine ew_st (h := ?_) | (refine ew_df (ht := ?_) (hf := ?_) <;> intro _) | refine ew_ar (h := ?_) | refine w_nil ?_)
    | (show EC _ _ _ _ _ _ _; first | refine k_seq ?_ | refine k_region ?_ | refine k_skip ?_ | refine k_ret ?_ | refine k_exit ?_ | refine k_block ?_ | refine k_true (h := ?_) | refine k_false (h := ?_))
    | (show EX _ (bodyA _ _ _) _ _ _; first | refine x_end1 (hq := ?_))
    | (show EX _ _ _ _ _; first | refine x_normal ?_ | refine x_ret ?_ | refine x_exit ?_ | refine x_same ?_ | refine x_other (h := ?_) | refine x_bnormal ?_ | refine x_bret ?_))
    have : i = M.length := by omega
    exact ⟨hk1, by rw [this, List.take_length] at hO; exact hO.reads⟩

end Go.Ae

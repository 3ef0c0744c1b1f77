/- The document's own network (eddyref22): List. No condition. -/
import Derived.Test.YtfhpgikgjheobaaEtU
import Derived.Test.YtfhpgikgjheobaaEtK
set_option linter.unusedSimpArgs false
set_option linter.unusedVariables false
set_option linter.unnecessarySimpa false
set_option maxRecDepth 100000
set_option maxHeartbeats 800000
namespace Go.Ae
open Go.Proofs
attribute [local irreducible] awC wpSeq wpS nRes aw aE acall ACalls szT isAggT zeroT byT elemSz fieldOff Program.underlying appendA copyA thenA inBlockA bodyA AHeap.push AHeap.put AHeap.cellsAt AHeap.setCells resV loadA intBin EW EC EX Nr Nc Er Cr Agree

def tbl63 : Tbl := [(7, [0, 1, 2, 3, 4, 5, 6, 7, 8, 9, 10, 11], [0, 0, 2, 0, 8, 0, 32, 96, 254, 510, 1023, 2047])]

/-- A list of packets of one's own that grows; all of it is younger than H0. -/
def Ow (H0 H : AHeap) (sv : Value) (M : List Msg) : Prop :=
  ∃ (O D : Blks) (cells : List Value), Opn H O 32 3 sv M.length cells ∧ (∀ i x, M[i]? = some x → ∃ dv, (cells.drop (i * 3)).take 3 = [.int .i64 x.1, .int .i64 x.2.1, dv] ∧ BR H D dv x.2.2) ∧
    (∀ b, O b → H0.next ≤ b ∧ b < H.next) ∧ (∀ b, D b → H0.next ≤ b ∧ b < H.next) ∧ ∀ b, O b → ¬ D b
theorem Ow.nil {H0 H : AHeap} : Ow H0 H (.slice none 0 0) [] := ⟨No, No, [], Opn.nil, by simp, fun _ h => h.elim, fun _ h => h.elim, fun _ h => h.elim⟩
theorem Ow.keep0 {H0 H H' : AHeap} {sv : Value} {M : List Msg} (h : Ow H0 H sv M) (hk : Keep No H H') : Ow H0 H' sv M := by
  obtain ⟨O, D, cells, h1, h2, h3, h4, h5⟩ := h
  have := hk.1
  exact ⟨O, D, cells, h1.keep0 hk, fun i x hx => let ⟨dv, a, b⟩ := h2 i x hx; ⟨dv, a, Rd.keep0 b hk⟩, fun b hb => ⟨(h3 b hb).1, by have := (h3 b hb).2; omega⟩, fun b hb => ⟨(h4 b hb).1, by have := (h4 b hb).2; omega⟩, h5⟩
theorem Ow.reads {H0 H : AHeap} {sv : Value} {M : List Msg} (h : Ow H0 H sv M) : FlR H (New H0 H) sv M := by
  obtain ⟨O, D, cells, h1, h2, h3, h4, h5⟩ := h
  exact ⟨cells, Rd.weak h1.rd fun b _ hb => h3 b hb, fun i x hx => let ⟨dv, a, b⟩ := h2 i x hx; ⟨dv, a, Rd.weak b fun b _ hb => h4 b hb⟩⟩
theorem Ow.slice {H0 H : AHeap} {sv : Value} {M : List Msg} (h : Ow H0 H sv M) : ∃ z c, sv = .slice z M.length c := h.reads.slice
/-- One more. -/
theorem Ow.snoc {H0 Hx H3 : AHeap} {O D Dn : Blks} {sv' dv : Value} {cells : List Value} {M : List Msg} {x : Msg} (hcells : ∀ i y, M[i]? = some y → ∃ dv, (cells.drop (i * 3)).take 3 = [.int .i64 y.1, .int .i64 y.2.1, dv] ∧ BR Hx D dv y.2.2)
    (hlen : cells.length = M.length * 3) (hOb : ∀ b, O b → H0.next ≤ b ∧ b < Hx.next) (hDb : ∀ b, D b → H0.next ≤ b ∧ b < Hx.next) (hOD : ∀ b, O b → ¬ D b)
    (ho : Opn H3 (Or O (New Hx H3)) 32 3 sv' (M.length + 1) (cells ++ [.int .i64 x.1, .int .i64 x.2.1, dv])) (hk : Keep O Hx H3) (hd : BR Hx Dn dv x.2.2) (hDn : ∀ b, Dn b → H0.next ≤ b ∧ b < Hx.next ∧ ¬ O b) (h0 : H0.next ≤ Hx.next) :
    Ow H0 H3 sv' (M ++ [x]) := by
  have hn := hk.1
  refine ⟨Or O (New Hx H3), Or D Dn, _, by rw [List.length_append]; exact ho, ?_, ?_, ?_, ?_⟩
  · intro i y hy
    by_cases hi : i < M.length
    · rw [List.getElem?_append_left hi] at hy
      obtain ⟨dv', h1, h2⟩ := hcells i y hy
      rw [List.drop_append_of_le_length (by omega), List.take_append_of_le_length (by simp; omega)]
      exact ⟨dv', h1, Rd.weak (Rd.keep h2 hk fun b _ hb ho => hOD b ho hb) fun b _ hb => .inl hb⟩
    · have hi' : i = M.length := by have := (List.getElem?_eq_some_iff.1 hy).1; simp at this; omega
      subst hi'
      rw [List.getElem?_append_right (Nat.le_refl _), Nat.sub_self] at hy
      obtain rfl := Option.some.inj hy
      rw [← hlen, List.drop_left, List.take_of_length_le (by simp)]
      exact ⟨dv, rfl, Rd.weak (Rd.keep hd hk fun b _ hb ho => (hDn b hb).2.2 ho) fun b _ hb => .inr hb⟩
  · rintro b (hb | hb)
    · have := hOb b hb; omega
    · have := hb.1; have := hb.2; omega
  · rintro b (hb | hb)
    · have := hDb b hb; omega
    · have := hDn b hb; omega
  · rintro b (hb | hb) (hb' | hb')
    · exact hOD b hb hb'
    · exact (hDn b hb').2.2 hb
    · have := hDb b hb'; have := hb.1; omega
    · have := hDn b hb'; have := hb.1; omega

def RListI (H0 : AHeap) (k : Nat) (A : List (Option Msg)) (n : Nat) (E : Env) (H : AHeap) : Prop :=
  Keep No H0 H ∧ ∃ (i : Nat) (sv : Value) (M : List Msg), n + i = A.length ∧ E = [(4, .int .i64 i), (3, sv), (2, .slice none 0 0), (0, .pointer (some ⟨k, 0, none⟩))] ∧ Ow H0 H sv M ∧ M = flight (A.take i)
theorem reflist_calls {H : AHeap} {F : Blks} {k : Nat} {m : Int} {A : List (Option Msg)} (t : RefM H F k m A) (hA : A.length ≤ 2932031007401) :
    ACalls Try.prog 63 #[.pointer (some ⟨k, 0, none⟩)] H fun v H' => Keep No H H' ∧ FlR H' (New H H') v (flight A) := by
  obtain ⟨O, D, r, hF, hFn, hlen, hsz⟩ := id t
  obtain ⟨sv, hr, hAll⟩ := r.reads
  obtain ⟨z, c, rfl⟩ := hAll.slice
  have hkn := r.kn
  refine k_open (args := [.pointer (some ⟨k, 0, none⟩)]) (E0 := [(0, .pointer (some ⟨k, 0, none⟩))]) tbl63 Try.func63 rfl follows (by kernel_rfl) Try.ntmps63 rfl rfl ?_
  repeat' (first
    | (show EW _ _ _ _ _; first | refine ew_p (h := ?_) | refine ew_bu (h := ?_) | refine ew_ld (h := ?_) | (refine ew_fresh ?_; intro b hb; refine ew_nw hb (h := ?_); (try simp only [AHeap.push_next, AHeap.put_next] at hb)) | refine ew_st (h := ?_) | (refine ew_df (ht := ?_) (hf := ?_) <;> intro _) | refine ew_ar (h := ?_) | refine w_nil ?_ | refine w_nilD ?_)
    | (show EC _ _ _ _ _ _ _; first | refine k_seq ?_ | refine k_region ?_ | refine k_draw (h := ?_) | refine k_skip ?_ | refine k_ret ?_ | refine k_exit ?_ | refine k_block ?_ | refine k_true (h := ?_) | refine k_false (h := ?_))
    | (show EX _ (bodyA _ _ _) _ _ _; first | refine x_end1 (hq := ?_))
    | (show EX _ _ _ _ _; first | refine x_normal ?_ | refine x_ret ?_ | refine x_exit ?_ | refine x_same ?_ | refine x_other (h := ?_) | refine x_bnormal ?_ | refine x_bret ?_))
  refine k_loop follows (RListI H k A) A.length [(4, _), (3, _), (2, _), (0, _)] (by kernel_rfl) ⟨rfl, rfl, rfl, rfl, trivial⟩ ⟨Keep.refl, 0, _, [], by omega, rfl, Ow.nil, rfl⟩ ?_
  rintro n E H1 ⟨hk1, i, sv, M, hi, rfl, hO, hM⟩
  have hn1 := hk1.1
  have r1 := r.keep0 hk1
  obtain ⟨sv1, hr1, hAll1⟩ := r1.reads
  have hr' := hk1.row0 hr hkn
  rw [hr1] at hr'
  simp only [Option.some.injEq, AObj.row.injEq, Row.mk.injEq, List.cons.injEq, and_true, true_and] at hr'
  subst hr'
  have hkn1 := r1.kn
  by_cases hlt : i < A.length
  · obtain ⟨a, ha⟩ : ∃ a, A[i]? = some a := ⟨A[i], List.getElem?_eq_getElem hlt⟩
    obtain ⟨ad, c', cs, hsv, hOa, hltb, hc4, he, hc1⟩ := hAll1.at ha
    simp only [Value.slice.injEq, true_and] at hsv
    obtain ⟨rfl, rfl⟩ := hsv
    have htk : flight (A.take (i + 1)) = M ++ flight [a] := by rw [List.take_add_one, ha, hM]; simp [flight, List.filterMap_append]
    have hMl : M.length ≤ A.length := by rw [hM]; exact Nat.le_trans (List.length_filterMap_le _ _) (by simp; omega)
    obtain ⟨zs, cs', rfl⟩ := hO.slice
    cases a with
    | none =>
      have hc1' : H1.cellsAt (aadd (aadd ad ((i : Int).toNat * 4)) 3) 1 = some [.bool true] := hc1
      repeat' (first
    | (show EW _ _ _ _ _; first | refine ew_p (h := ?_) | refine ew_bu (h := ?_) | refine ew_ld (h := ?_) | (refine ew_fresh ?_; intro b hb; refine ew_nw hb (h := ?_); (try simp only [AHeap.push_next, AHeap.put_next] at hb)) | refine ew_st (h := ?_) | (refine ew_df (ht := ?_) (hf := ?_) <;> intro _) | refine ew_ar (h := ?_) | refine w_nil ?_ | refine w_nilD ?_)
    | (show EC _ _ _ _ _ _ _; first | refine k_seq ?_ | refine k_region ?_ | refine k_draw (h := ?_) | refine k_skip ?_ | refine k_ret ?_ | refine k_exit ?_ | refine k_block ?_ | refine k_true (h := ?_) | refine k_false (h := ?_))
    | (show EX _ (bodyA _ _ _) _ _ _; first | refine x_end1 (hq := ?_))
    | (show EX _ _ _ _ _; first | refine x_normal ?_ | refine x_ret ?_ | refine x_exit ?_ | refine x_same ?_ | refine x_other (h := ?_) | refine x_bnormal ?_ | refine x_bret ?_))
      exact x_again (n - 1) [(4, _), (3, _), (2, _), (0, _)] ⟨rfl, rfl, rfl, rfl, trivial⟩ (by omega) ⟨hk1, i + 1, _, M, by omega, rfl, hO, by rw [htk]; simp [flight]⟩
    | some x =>
      obtain ⟨dv, rfl, hbr⟩ := he
      obtain ⟨zd, cd, rfl⟩ := Rd.slice hbr
      have hc1' : H1.cellsAt (aadd (aadd ad ((i : Int).toNat * 4)) 3) 1 = some [.bool false] := hc1
      have hxs : x.2.2.length ≤ 32776 := hsz x (List.mem_filterMap.2 ⟨some x, List.mem_of_getElem? ha, rfl⟩)
      repeat' (first
    | (show EW _ _ _ _ _; first | refine ew_p (h := ?_) | refine ew_bu (h := ?_) | refine ew_ld (h := ?_) | (refine ew_fresh ?_; intro b hb; refine ew_nw hb (h := ?_); (try simp only [AHeap.push_next, AHeap.put_next] at hb)) | refine ew_st (h := ?_) | (refine ew_df (ht := ?_) (hf := ?_) <;> intro _) | refine ew_ar (h := ?_) | refine w_nil ?_ | refine w_nilD ?_)
    | (show EC _ _ _ _ _ _ _; first | refine k_seq ?_ | refine k_region ?_ | refine k_draw (h := ?_) | refine k_skip ?_ | refine k_ret ?_ | refine k_exit ?_ | refine k_block ?_ | refine k_true (h := ?_) | refine k_false (h := ?_))
    | (show EX _ (bodyA _ _ _) _ _ _; first | refine x_end1 (hq := ?_))
    | (show EX _ _ _ _ _; first | refine x_normal ?_ | refine x_ret ?_ | refine x_exit ?_ | refine x_same ?_ | refine x_other (h := ?_) | refine x_bnormal ?_ | refine x_bret ?_))
      have hkp : Keep No H1 ((H1.push (.row ⟨[.int .i64 0, .int .i64 0, .slice none 0 0, .bool false], 126, 0, true⟩)).put b (.row ⟨[.int .i64 x.1, .int .i64 x.2.1, .slice zd x.2.2.length cd, .bool false], 126, 0, true⟩)) := by exact kp
      have hpn : ((H1.push (.row ⟨[.int .i64 0, .int .i64 0, .slice none 0 0, .bool false], 126, 0, true⟩)).put b (.row ⟨[.int .i64 x.1, .int .i64 x.2.1, .slice zd x.2.2.length cd, .bool false], 126, 0, true⟩)).next = H1.next + 1 := by simp
      (first | (refine' ew_callS (hc := cr_call) (hR := ?_) (h := ?_); rotate_left 1) | (refine' ew_call (hc := cr_call) (hR := ?_) (h := ?_); rotate_left 1))
      · exact fresh_calls (Rd.keep0 hbr hkp) (by omega)
      rintro v H2 ⟨hbr2, hk2⟩
      refine ⟨by (dsimp only [Mode.kept, Mode.logged, Mode.at]; (repeat' (first | exact (fun _ h => absurd h List.not_mem_nil) | (refine List.forall_mem_cons.2 ⟨?_, ?_⟩) | (refine .inl ?_; exact rfl) | (refine .inl ?_; dsimp only; decide) | (refine .inr ?_; exact hk2.cells (by rw [hpn]; simp only [aadd_block]; omega) id)))), ?_⟩
      obtain ⟨zv, cv, rfl⟩ := Rd.slice hbr2
      have hn2 := hk2.1
      rw [hpn] at hn2
      have hk12 : Keep No H1 H2 := hkp.after hk2
      replace hbr2 : BR H2 (fun b => H1.next + 1 ≤ b ∧ b < H2.next) (.slice zv x.2.2.length cv) x.2.2 := Rd.weak hbr2 fun b _ hb => ⟨Nat.le_trans (Nat.le_of_eq hpn.symm) hb.1, hb.2⟩
      repeat' (first
    | (show EW _ _ _ _ _; first | refine ew_p (h := ?_) | refine ew_bu (h := ?_) | refine ew_ld (h := ?_) | (refine ew_fresh ?_; intro b hb; refine ew_nw hb (h := ?_); (try simp only [AHeap.push_next, AHeap.put_next] at hb)) | refine ew_st (h := ?_) | (refine ew_df (ht := ?_) (hf := ?_) <;> intro _) | refine ew_ar (h := ?_) | refine w_nil ?_ | refine w_nilD ?_)
    | (show EC _ _ _ _ _ _ _; first | refine k_seq ?_ | refine k_region ?_ | refine k_draw (h := ?_) | refine k_skip ?_ | refine k_ret ?_ | refine k_exit ?_ | refine k_block ?_ | refine k_true (h := ?_) | refine k_false (h := ?_))
    | (show EX _ (bodyA _ _ _) _ _ _; first | refine x_end1 (hq := ?_))
    | (show EX _ _ _ _ _; first | refine x_normal ?_ | refine x_ret ?_ | refine x_exit ?_ | refine x_same ?_ | refine x_other (h := ?_) | refine x_bnormal ?_ | refine x_bret ?_))
      obtain ⟨O2, D2, cells, ho2, hc2, hOb, hDb, hOD⟩ := hO
      obtain ⟨Hx, hHx⟩ : ∃ Hx, Hx = H2.push (.row ⟨[.int .i64 x.1, .int .i64 x.2.1, .slice zv x.2.2.length cv], 32, 0, true⟩) := ⟨_, rfl⟩
      have hkx : Keep No H2 Hx := by rw [hHx]; exact kp
      have hxb : Hx.get b = some (.row ⟨[.int .i64 x.1, .int .i64 x.2.1, .slice zv x.2.2.length cv], 32, 0, true⟩) := by rw [hHx]; exact rdx
      have hxn : Hx.next = H2.next + 1 := by rw [hHx, AHeap.push_next]
      rw [← hHx]
      have hk1x := hk12.after hkx
      (first | (refine' ew_appS (hR := ?_) (h := ?_); rotate_left 1) | (refine' ew_app (hR := ?_) (h := ?_); rotate_left 1))
      · exact Opn.snoc T36 (ho2.keep0 hk1x) (news := [.int .i64 x.1, .int .i64 x.2.1, .slice zv x.2.2.length cv]) (by refine src_of (by decide) (m := 3) rfl ?_; (first | assumption | (apply cells_row; (focus ((repeat' (first | assumption | (rw [aadd_block]) | (apply gN; (focus (first | exact rfl | omega | (simp only [AHeap.push_next, AHeap.put_next, aadd_block] <;> omega))); (focus exact rfl)) | (apply gO; (focus (first | omega | (simp only [AHeap.push_next, AHeap.put_next, aadd_block, ne_eq] <;> omega)))) | (apply gS; (focus (first | exact rfl | omega | (simp only [AHeap.push_next, AHeap.put_next, aadd_block] <;> omega))); (focus exact rfl)) | (apply gP; (focus (first | omega | (simp only [AHeap.push_next, AHeap.put_next, aadd_block, ne_eq] <;> omega)))) | exact rfl)); done)); (focus exact rfl); (focus exact rfl); (focus (first | exact (rfl : _ = some [_, _, _])))) | (apply cells_k; (focus assumption); (focus (first | assumption | (simp only [aadd_block] <;> first | assumption | omega))); (focus ((repeat' (first | exact Keep.refl | assumption | (apply Keep.push) | (refine Keep.put ?_ ?_; rotate_left; (focus (intro hlt; first | assumption | omega | (exfalso; simp only [AHeap.push_next, AHeap.put_next, aadd_block] at hlt; omega)))))); done))))) (by decide) rfl rfl (by omega)
      rintro sv' H3 ⟨ho3, hk3, hn3, hd3⟩
      refine ⟨by (dsimp only [Mode.kept, Mode.logged, Mode.at]; (repeat' (first | exact (fun _ h => absurd h List.not_mem_nil) | (refine List.forall_mem_cons.2 ⟨?_, ?_⟩) | (refine .inl ?_; exact rfl) | (refine .inl ?_; dsimp only; decide) | (refine .inr ?_; exact hk2.cells (by rw [hpn]; simp only [aadd_block]; omega) id)))), ?_⟩
      have hO3 : Ow H H3 sv' (M ++ [x]) := by
        refine Ow.snoc (fun i y hy => let ⟨dv, a, b⟩ := hc2 i y hy; ⟨dv, a, Rd.keep0 b hk1x⟩) ho2.rd.length (fun b hb => ⟨(hOb b hb).1, by have := (hOb b hb).2; omega⟩) (fun b hb => ⟨(hDb b hb).1, by have := (hDb b hb).2; omega⟩) hOD ho3 hk3 (Rd.keep0 hbr2 hkx) ?_ (by omega)
        intro b hb
        exact ⟨by have := hb.1; omega, by have := hb.2; omega, fun h => by have := (hOb b h).2; have := hb.1; omega⟩
      have hn3' := hk3.1
      repeat' (first
    | (show EW _ _ _ _ _; first | refine ew_p (h := ?_) | refine ew_bu (h := ?_) | refine ew_ld (h := ?_) | (refine ew_fresh ?_; intro b hb; refine ew_nw hb (h := ?_); (try simp only [AHeap.push_next, AHeap.put_next] at hb)) | refine ew_st (h := ?_) | (refine ew_df (ht := ?_) (hf := ?_) <;> intro _) | refine ew_ar (h := ?_) | refine w_nil ?_ | refine w_nilD ?_)
    | (show EC _ _ _ _ _ _ _; first | refine k_seq ?_ | refine k_region ?_ | refine k_draw (h := ?_) | refine k_skip ?_ | refine k_ret ?_ | refine k_exit ?_ | refine k_block ?_ | refine k_true (h := ?_) | refine k_false (h := ?_))
    | (show EX _ (bodyA _ _ _) _ _ _; first | refine x_end1 (hq := ?_))
    | (show EX _ _ _ _ _; first | refine x_normal ?_ | refine x_ret ?_ | refine x_exit ?_ | refine x_same ?_ | refine x_other (h := ?_) | refine x_bnormal ?_ | refine x_bret ?_))
      exact x_again (n - 1) [(4, _), (3, _), (2, _), (0, _)] ⟨rfl, rfl, rfl, rfl, trivial⟩ (by omega) ⟨((hk1.after hk12).after hkx).own hk3 (fun b hb => (hOb b hb).1), i + 1, _, _, by omega, rfl, hO3, by rw [htk]; rfl⟩
  · repeat' (first
    | (show EW _ _ _ _ _; first | refine ew_p (h := ?_) | refine ew_bu (h := ?_) | refine ew_ld (h := ?_) | (refine ew_fresh ?_; intro b hb; refine ew_nw hb (h := ?_); (try simp only [AHeap.push_next, AHeap.put_next] at hb)) | refine ew_st (h := ?_) | (refine ew_df (ht := ?_) (hf := ?_) <;> intro _) | refine ew_ar (h := ?_) | refine w_nil ?_ | refine w_nilD ?_)
    | (show EC _ _ _ _ _ _ _; first | refine k_seq ?_ | refine k_region ?_ | refine k_draw (h := ?_) | refine k_skip ?_ | refine k_ret ?_ | refine k_exit ?_ | refine k_block ?_ | refine k_true (h := ?_) | refine k_false (h := ?_))
    | (show EX _ (bodyA _ _ _) _ _ _; first | refine x_end1 (hq := ?_))
    | (show EX _ _ _ _ _; first | refine x_normal ?_ | refine x_ret ?_ | refine x_exit ?_ | refine x_same ?_ | refine x_other (h := ?_) | refine x_bnormal ?_ | refine x_bret ?_))
    have : i = A.length := by omega
    exact ⟨hk1, by rw [this, List.take_length] at hM; rw [← hM]; exact hO.reads⟩

end Go.Ae

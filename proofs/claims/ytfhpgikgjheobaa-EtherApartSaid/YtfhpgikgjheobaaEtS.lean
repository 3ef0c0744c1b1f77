/- The document's own network (eddyref22): the state; lay, New, Send. No condition. -/
import Derived.Test.YtfhpgikgjheobaaEtR
set_option linter.unusedSimpArgs false
set_option linter.unusedVariables false
set_option linter.unnecessarySimpa false
set_option maxRecDepth 100000
set_option maxHeartbeats 800000
namespace Go.Ae
open Go.Proofs
attribute [local irreducible] awC wpSeq wpS nRes aw aE acall ACalls szT isAggT zeroT byT elemSz fieldOff Program.underlying appendA copyA thenA inBlockA bodyA AHeap.push AHeap.put AHeap.cellsAt AHeap.setCells resV loadA intBin EW EC EX Nr Nc Er Cr Agree

def tbl81 : Tbl := [(0, [0, 1, 2, 3, 4, 5, 6, 7, 8, 9, 10, 11, 12, 13, 14], [0, 0, 2, 6, 14, 0, 0, 0, 128, 480, 992, 2046, 4095, 8191, 16383])]
def tbl57 : Tbl := []

/-- What is in flight. -/
def flight (A : List (Option Msg)) : List Msg := A.filterMap id
theorem flight_snoc (A : List (Option Msg)) (x : Msg) : flight (A ++ [some x]) = flight A ++ [x] := by simp [flight]
/-- The document's network at block k; O: the rows of its list, D: the rows of their bytes. -/
structure Rf (H : AHeap) (O D : Blks) (k : Nat) (m : Int) (A : List (Option Msg)) : Prop where
  row : ∃ sv cells, H.get k = some (.row ⟨[.int .i64 m, sv, .int .i64 (flight A).length], 123, 0, true⟩) ∧ Opn H O 126 4 sv A.length cells ∧ ∀ i a, A[i]? = some a → ElR H D ((cells.drop (i * 4)).take 4) a
  kn : k < H.next
  ob : ∀ b, O b → b < H.next
  db : ∀ b, D b → b < H.next
  ok : ¬ O k
  dk : ¬ D k
  od : ∀ b, O b → ¬ D b
theorem Rf.keep {H H' : AHeap} {O D G : Blks} {k : Nat} {m : Int} {A : List (Option Msg)} (h : Rf H O D k m A) (hk : Keep G H H') (hG : ∀ b, G b → b ≠ k ∧ ¬ O b ∧ ¬ D b) : Rf H' O D k m A := by
  obtain ⟨sv, cells, h1, h2, h3⟩ := h.row
  exact ⟨⟨sv, cells, hk.row h1 h.kn (fun hg => (hG k hg).1 rfl), h2.keep hk fun b _ hb _ hg => (hG b hg).2.1 hb, fun i a ha => (h3 i a ha).keep hk fun b _ hb hg => (hG b hg).2.2 hb⟩, Nat.lt_of_lt_of_le h.kn hk.1, fun b hb => Nat.lt_of_lt_of_le (h.ob b hb) hk.1, fun b hb => Nat.lt_of_lt_of_le (h.db b hb) hk.1, h.ok, h.dk, h.od⟩
theorem Rf.keep0 {H H' : AHeap} {O D : Blks} {k : Nat} {m : Int} {A : List (Option Msg)} (h : Rf H O D k m A) (hk : Keep No H H') : Rf H' O D k m A := h.keep hk fun _ h => h.elim
theorem Rf.reads {H : AHeap} {O D : Blks} {k : Nat} {m : Int} {A : List (Option Msg)} (h : Rf H O D k m A) : ∃ sv, H.get k = some (.row ⟨[.int .i64 m, sv, .int .i64 (flight A).length], 123, 0, true⟩) ∧ AllR H O D sv A := by
  obtain ⟨sv, cells, h1, h2, h3⟩ := h.row
  exact ⟨sv, h1, cells, h2.rd, h3⟩
/-- One more packet. -/
theorem Rf.snoc {Hx H2 Hf : AHeap} {O D Dn : Blks} {k : Nat} {m : Int} {A : List (Option Msg)} {a : Option Msg} {sv' : Value} {cells slot : List Value} (h : Rf Hx O D k m A)
    (hcells : ∀ i y, A[i]? = some y → ElR Hx D ((cells.drop (i * 4)).take 4) y) (hlen : cells.length = A.length * 4) (ho : Opn H2 (Or O (New Hx H2)) 126 4 sv' (A.length + 1) (cells ++ slot)) (hk : Keep O Hx H2) (hs4 : slot.length = 4)
    (hslot : ElR Hx Dn slot a) (hDn : ∀ b, Dn b → b < Hx.next ∧ b ≠ k ∧ ¬ O b) (hkf : Keep (fun b => b = k) H2 Hf) (hgf : Hf.get k = some (.row ⟨[.int .i64 m, sv', .int .i64 (flight (A ++ [a])).length], 123, 0, true⟩)) :
    Rf Hf (Or O (New Hx H2)) (Or D Dn) k m (A ++ [a]) := by
  have hok : ¬ Or O (New Hx H2) k := fun h' => h'.elim h.ok fun h' => by have := h'.1; have := h.kn; omega
  have hnx : Hx.next ≤ Hf.next := Nat.le_trans hk.1 hkf.1
  refine ⟨⟨sv', cells ++ slot, hgf, ?_, ?_⟩, Nat.lt_of_lt_of_le h.kn hnx, ?_, ?_, hok, ?_, ?_⟩
  · rw [List.length_append]
    exact ho.keep hkf fun b _ hb _ hg => hok (hg ▸ hb)
  · intro i y hy
    have er : ∀ (Dx : Blks) (cs : List Value) (z : Option Msg), ElR Hx Dx cs z → (∀ b, Dx b → b ≠ k ∧ ¬ O b) → (∀ b, Dx b → Or D Dn b) → ElR Hf (Or D Dn) cs z :=
      fun Dx cs z hb h1 h2 => ((hb.keep hk fun b _ hx ho => (h1 b hx).2 ho).keep hkf fun b _ hx hg => (h1 b hx).1 hg).weak h2
    by_cases hi : i < A.length
    · rw [List.getElem?_append_left hi] at hy
      rw [List.drop_append_of_le_length (by omega), List.take_append_of_le_length (by simp; omega)]
      exact er D _ y (hcells i y hy) (fun b hb => ⟨fun he => h.dk (he ▸ hb), fun ho => h.od b ho hb⟩) fun b hb => .inl hb
    · have hi' : i = A.length := by have := (List.getElem?_eq_some_iff.1 hy).1; simp at this; omega
      subst hi'
      rw [List.getElem?_append_right (Nat.le_refl _), Nat.sub_self] at hy
      obtain rfl := Option.some.inj hy
      rw [← hlen, List.drop_left, List.take_of_length_le (by omega)]
      exact er Dn _ _ hslot (fun b hb => (hDn b hb).2) fun b hb => .inr hb
  · rintro b (hb | hb)
    · exact Nat.lt_of_lt_of_le (h.ob b hb) hnx
    · exact Nat.lt_of_lt_of_le hb.2 hkf.1
  · rintro b (hb | hb)
    · exact Nat.lt_of_lt_of_le (h.db b hb) hnx
    · exact Nat.lt_of_lt_of_le (hDn b hb).1 hnx
  · rintro (hb | hb)
    · exact h.dk hb
    · exact (hDn k hb).2.1 rfl
  · rintro b (hb | hb) (hb' | hb')
    · exact h.od b hb hb'
    · exact (hDn b hb').2.2 hb
    · have := h.db b hb'; have := hb.1; omega
    · have := (hDn b hb').1; have := hb.1; omega

theorem T121 : AppT Try.prog 121 121 126 3 47 := ⟨Try.underlying121, ⟨_, Try.underlying121, rfl⟩, sz126, by126, ⟨_, ze126⟩⟩
theorem reflay_calls {H : AHeap} {O D G : Blks} {k : Nat} {m : Int} {A : List (Option Msg)} (t : Rf H O D k m A) (f t' : Int) {dv : Value} {bs : List UInt8} (hd : BR H G dv bs) (hl : bs.length ≤ 140737488355328) (hA : A.length ≤ 2932031007401) :
    ACalls Try.prog 81 #[.pointer (some ⟨k, 0, none⟩), .int .i64 f, .int .i64 t', dv] H fun v H' =>
      v = .tuple #[] ∧ Keep (fun b => b = k ∨ O b) H H' ∧ ∃ O' D', Rf H' O' D' k m (A ++ [some (f, t', bs)]) ∧ (∀ b, O' b → O b ∨ H.next ≤ b) ∧ (∀ b, D' b → D b ∨ H.next ≤ b) := by
  obtain ⟨sv, cells, hr, ho, hcl⟩ := t.row
  obtain ⟨z, c, rfl⟩ := ho.rd.slice
  have hkn := t.kn
  have hfl : (flight A).length ≤ A.length := List.length_filterMap_le _ _
  refine k_open (args := [.pointer (some ⟨k, 0, none⟩), .int .i64 f, .int .i64 t', dv]) (E0 := [(0, .pointer (some ⟨k, 0, none⟩)), (1, .int .i64 f), (2, .int .i64 t'), (3, dv)]) tbl81 Try.func81 rfl follows (by kernel_rfl) Try.ntmps81 rfl rfl ?_
  repeat' (first
    | (show EW _ _ _ _ _; first | refine ew_p (h := ?_) | refine ew_bu (h := ?_) | refine ew_ld (h := ?_) | (refine ew_fresh ?_; intro b hb; refine ew_nw hb (h := ?_); (try simp only [AHeap.push_next, AHeap.put_next] at hb)) | refine ew_st (h := ?_) | refine ew_ar (h := ?_) | refine w_nil ?_ | refine w_nilD ?_)
    | (show EC _ _ _ _ _ _ _; first | refine k_seq ?_ | refine k_region ?_ | refine k_draw (h := ?_) | refine k_skip ?_ | refine k_ret ?_ | refine k_exit ?_ | refine k_block ?_ | refine k_true (h := ?_) | refine k_false (h := ?_))
    | (show EX _ (bodyA _ _ _) _ _ _; first | refine x_end0 (hq := ?_))
    | (show EX _ _ _ _ _; first | refine x_normal ?_ | refine x_ret ?_ | refine x_exit ?_ | refine x_same ?_ | refine x_other (h := ?_) | refine x_bnormal ?_ | refine x_bret ?_))
  (first | (refine' ew_callS (hc := cr_call) (hR := ?_) (h := ?_); rotate_left 1) | (refine' ew_call (hc := cr_call) (hR := ?_) (h := ?_); rotate_left 1))
  · exact fresh_calls hd hl
  rintro v H1 ⟨hbr1, hk1⟩
  refine ⟨by (dsimp only [Mode.kept, Mode.logged, Mode.at]; (repeat' (first | exact (fun _ h => absurd h List.not_mem_nil) | (refine List.forall_mem_cons.2 ⟨?_, ?_⟩) | (refine .inl ?_; exact rfl) | (refine .inl ?_; dsimp only; decide) | (refine .inr ?_; exact hk1.cells (by simp only [aadd_block]; omega) id)))), ?_⟩
  obtain ⟨zv, cv, rfl⟩ := Rd.slice hbr1
  have hn1 := hk1.1
  have hr1 := hk1.row0 hr hkn
  repeat' (first
    | (show EW _ _ _ _ _; first | refine ew_p (h := ?_) | refine ew_bu (h := ?_) | refine ew_ld (h := ?_) | (refine ew_fresh ?_; intro b hb; refine ew_nw hb (h := ?_); (try simp only [AHeap.push_next, AHeap.put_next] at hb)) | refine ew_st (h := ?_) | refine ew_ar (h := ?_) | refine w_nil ?_ | refine w_nilD ?_)
    | (show EC _ _ _ _ _ _ _; first | refine k_seq ?_ | refine k_region ?_ | refine k_draw (h := ?_) | refine k_skip ?_ | refine k_ret ?_ | refine k_exit ?_ | refine k_block ?_ | refine k_true (h := ?_) | refine k_false (h := ?_))
    | (show EX _ (bodyA _ _ _) _ _ _; first | refine x_end0 (hq := ?_))
    | (show EX _ _ _ _ _; first | refine x_normal ?_ | refine x_ret ?_ | refine x_exit ?_ | refine x_same ?_ | refine x_other (h := ?_) | refine x_bnormal ?_ | refine x_bret ?_))
  obtain ⟨Hx, hHx⟩ : ∃ Hx, Hx = H1.push (.row ⟨[.int .i64 f, .int .i64 t', .slice zv bs.length cv, .bool false], 126, 0, true⟩) := ⟨_, rfl⟩
  have hkx : Keep No H1 Hx := by rw [hHx]; exact kp
  have hxk : Hx.get k = some (.row ⟨[.int .i64 m, .slice z A.length c, .int .i64 (flight A).length], 123, 0, true⟩) := by rw [hHx]; exact rdx
  have hxb : Hx.get b = some (.row ⟨[.int .i64 f, .int .i64 t', .slice zv bs.length cv, .bool false], 126, 0, true⟩) := by rw [hHx]; exact rdx
  have hxn : Hx.next = H1.next + 1 := by rw [hHx, AHeap.push_next]
  rw [← hHx]
  have hk01 := hk1.after hkx
  (first | (refine' ew_appS (hR := ?_) (h := ?_); rotate_left 1) | (refine' ew_app (hR := ?_) (h := ?_); rotate_left 1))
  · exact Opn.snoc T121 (ho.keep0 hk01) (news := [.int .i64 f, .int .i64 t', .slice zv bs.length cv, .bool false]) (by refine src_of (by decide) (m := 4) rfl ?_; (first | assumption | (apply cells_row; (focus ((repeat' (first | assumption | (rw [aadd_block]) | (apply gN; (focus (first | exact rfl | omega | (simp only [AHeap.push_next, AHeap.put_next, aadd_block] <;> omega))); (focus exact rfl)) | (apply gO; (focus (first | omega | (simp only [AHeap.push_next, AHeap.put_next, aadd_block, ne_eq] <;> omega)))) | (apply gS; (focus (first | exact rfl | omega | (simp only [AHeap.push_next, AHeap.put_next, aadd_block] <;> omega))); (focus exact rfl)) | (apply gP; (focus (first | omega | (simp only [AHeap.push_next, AHeap.put_next, aadd_block, ne_eq] <;> omega)))) | exact rfl)); done)); (focus exact rfl); (focus exact rfl); (focus (first | exact (rfl : _ = some [_, _, _, _])))) | (apply cells_k; (focus assumption); (focus (first | assumption | (simp only [aadd_block] <;> first | assumption | omega))); (focus ((repeat' (first | exact Keep.refl | assumption | (apply Keep.push) | (refine Keep.put ?_ ?_; rotate_left; (focus (intro hlt; first | assumption | omega | (exfalso; simp only [AHeap.push_next, AHeap.put_next, aadd_block] at hlt; omega)))))); done))))) (by decide) rfl rfl (by omega)
  rintro sv' H2 ⟨ho2, hk2, hn2, hd2⟩
  refine ⟨by (dsimp only [Mode.kept, Mode.logged, Mode.at]; (repeat' (first | exact (fun _ h => absurd h List.not_mem_nil) | (refine List.forall_mem_cons.2 ⟨?_, ?_⟩) | (refine .inl ?_; exact rfl) | (refine .inl ?_; dsimp only; decide)))), ?_⟩
  obtain ⟨z2, c2, rfl⟩ := ho2.rd.slice
  have h2k := hk2.row hxk (by omega) t.ok
  have hn2' := hk2.1
  repeat' (first
    | (show EW _ _ _ _ _; first | refine ew_p (h := ?_) | refine ew_bu (h := ?_) | refine ew_ld (h := ?_) | (refine ew_fresh ?_; intro b hb; refine ew_nw hb (h := ?_); (try simp only [AHeap.push_next, AHeap.put_next] at hb)) | refine ew_st (h := ?_) | refine ew_ar (h := ?_) | refine w_nil ?_ | refine w_nilD ?_)
    | (show EC _ _ _ _ _ _ _; first | refine k_seq ?_ | refine k_region ?_ | refine k_draw (h := ?_) | refine k_skip ?_ | refine k_ret ?_ | refine k_exit ?_ | refine k_block ?_ | refine k_true (h := ?_) | refine k_false (h := ?_))
    | (show EX _ (bodyA _ _ _) _ _ _; first | refine x_end0 (hq := ?_))
    | (show EX _ _ _ _ _; first | refine x_normal ?_ | refine x_ret ?_ | refine x_exit ?_ | refine x_same ?_ | refine x_other (h := ?_) | refine x_bnormal ?_ | refine x_bret ?_))
  have hkf : Keep (fun b => b = k) H2 ((H2.put k (.row ⟨[.int .i64 m, .slice z2 (A.length + 1) c2, .int .i64 (flight A).length], 123, 0, true⟩)).put k (.row ⟨[.int .i64 m, .slice z2 (A.length + 1) c2, .int .i64 ((flight A).length + 1)], 123, 0, true⟩)) := Keep.put (F := fun b => b = k) (Keep.put (F := fun b => b = k) Keep.refl fun _ => rfl) fun _ => rfl
  refine ⟨rfl, ?_, Or O (New Hx H2), Or D (New H H1), ?_, ?_, ?_⟩
  · refine Keep.trans (F := fun b => b = k ∨ O b) ((hk01.no).trans hk2 fun b _ hb => .inr hb) hkf fun b _ hb => .inl hb
  · refine (t.keep0 hk01).snoc (fun i a ha => (hcl i a ha).keep hk01 fun _ _ _ h => h) ho.rd.length ho2 hk2 rfl ⟨_, rfl, Rd.keep0 hbr1 hkx⟩ (fun b hb => ⟨by have := hb.2; omega, by have := hb.1; omega, fun h => by have := t.ob b h; have := hb.1; omega⟩) hkf ?_
    rw [flight_snoc, AHeap.put_get, if_pos rfl]
    simp
  · rintro b (hb | hb)
    · exact .inl hb
    · exact .inr (by have := hb.1; omega)
  · rintro b (hb | hb)
    · exact .inl hb
    · exact .inr hb.1

/-- The document's network, by one footprint. -/
def RefM (H : AHeap) (F : Blks) (k : Nat) (m : Int) (A : List (Option Msg)) : Prop := ∃ O D, Rf H O D k m A ∧ (∀ b, (b = k ∨ O b ∨ D b) → F b) ∧ (∀ b, F b → b < H.next) ∧ (flight A).length ≤ 256 ∧ ∀ x ∈ flight A, x.2.2.length ≤ 32776
theorem RefM.keep {H H' : AHeap} {F G : Blks} {k : Nat} {m : Int} {A : List (Option Msg)} (h : RefM H F k m A) (hk : Keep G H H') (hd : ∀ b, F b → ¬ G b) : RefM H' F k m A := by
  obtain ⟨O, D, t, h1, h2, h3⟩ := h
  exact ⟨O, D, t.keep hk fun b hb => ⟨fun he => hd b (h1 b (.inl he)) hb, fun ho => hd b (h1 b (.inr (.inl ho))) hb, fun hd' => hd b (h1 b (.inr (.inr hd'))) hb⟩, h1, fun b hb => Nat.lt_of_lt_of_le (h2 b hb) hk.1, h3⟩
theorem RefM.keep0 {H H' : AHeap} {F : Blks} {k : Nat} {m : Int} {A : List (Option Msg)} (h : RefM H F k m A) (hk : Keep No H H') : RefM H' F k m A := h.keep hk fun _ _ h => h

/-- Send as the document says it. -/
def refSendP (m : Int) (A : List (Option Msg)) (f t : Int) (bs : List UInt8) : List (Option Msg) := if (sendP m (flight A) f t bs).1 = 0 then A ++ [some (f, t, bs)] else A
theorem flight_send (m : Int) (A : List (Option Msg)) (f t : Int) (bs : List UInt8) : flight (refSendP m A f t bs) = (sendP m (flight A) f t bs).2 := by
  unfold refSendP sendP
  by_cases h1 : ¬ (0 ≤ f ∧ f < m ∧ 0 ≤ t ∧ t < m ∧ f ≠ t)
  · simp only [if_pos h1]; rfl
  · simp only [if_neg h1]
    by_cases h2 : 32776 < bs.length
    · simp only [if_pos h2]; rfl
    · simp only [if_neg h2]
      by_cases h3 : (flight A).length = 256
      · simp only [if_pos h3]; rfl
      · simp only [if_neg h3, if_true, flight_snoc]
theorem refsend_calls {H : AHeap} {F G : Blks} {k : Nat} {m : Int} {A : List (Option Msg)} (t : RefM H F k m A) (f t' : Int) {dv : Value} {bs : List UInt8} (hd : BR H G dv bs) (hl : bs.length ≤ 140737488355328) (hA : A.length ≤ 2932031007401) :
    ACalls Try.prog 57 #[.pointer (some ⟨k, 0, none⟩), .int .i64 f, .int .i64 t', dv] H fun v H' =>
      v = .int .i64 (sendP m (flight A) f t' bs).1 ∧ Keep F H H' ∧ ∃ F', RefM H' F' k m (refSendP m A f t' bs) ∧ Grow F F' H := by
  obtain ⟨O, D, r, hF, hFn, hlen, hsz⟩ := t
  have t0 : RefM H F k m A := ⟨O, D, r, hF, hFn, hlen, hsz⟩
  obtain ⟨sv, hr, _⟩ := r.reads
  obtain ⟨zd, cd, rfl⟩ := Rd.slice hd
  have hkn := r.kn
  refine k_open (args := [.pointer (some ⟨k, 0, none⟩), .int .i64 f, .int .i64 t', .slice zd bs.length cd]) (E0 := [(0, .pointer (some ⟨k, 0, none⟩)), (1, .int .i64 f), (2, .int .i64 t'), (3, .slice zd bs.length cd)]) tbl57 Try.func57 rfl follows (by kernel_rfl) Try.ntmps57 rfl rfl ?_
  by_cases hc : 0 ≤ f ∧ f < m ∧ 0 ≤ t' ∧ t' < m ∧ f ≠ t'
  case neg =>
    have hs : sendP m (flight A) f t' bs = (221, flight A) := by unfold sendP; rw [if_pos hc]
    have hrs : refSendP m A f t' bs = A := by unfold refSendP; rw [hs]; rfl
    repeat' (first
    | (show EW _ _ _ _ _; first | refine ew_p (h := ?_) | refine ew_skip (h := ?_) | refine ew_ld (h := ?_) | (refine ew_df (ht := ?_) (hf := ?_) <;> intro _) | refine w_nil ?_)
    | (show EC _ _ _ _ _ _ _; first | refine k_seq ?_ | refine k_region ?_ | refine k_skip ?_ | refine k_ret ?_ | refine k_exit ?_ | refine k_block ?_ | refine k_true (h := ?_) | refine k_false (h := ?_))
    | (show EX _ (bodyA _ _ _) _ _ _; first | refine x_end1 (hq := ?_))
    | (show EX _ _ _ _ _; first | refine x_normal ?_ | refine x_ret ?_ | refine x_exit ?_ | refine x_same ?_ | refine x_other (h := ?_) | refine x_bnormal ?_ | refine x_bret ?_))
    all_goals first
      | (exfalso; omega)
      | exact ⟨by rw [hs], Keep.refl, F, by rw [hrs]; exact t0, Grow.refl⟩
  obtain ⟨q1, q2, q3, q4, q5⟩ := hc
  by_cases hbig : 32776 < bs.length
  · have hs : sendP m (flight A) f t' bs = (222, flight A) := by unfold sendP; rw [if_neg (fun h => h ⟨q1, q2, q3, q4, q5⟩), if_pos hbig]
    have hrs : refSendP m A f t' bs = A := by unfold refSendP; rw [hs]; rfl
    repeat' (first
    | (show EW _ _ _ _ _; first | refine ew_p (h := ?_) | refine ew_skip (h := ?_) | refine ew_ld (h := ?_) | (refine ew_df (ht := ?_) (hf := ?_) <;> intro _) | refine w_nil ?_)
    | (show EC _ _ _ _ _ _ _; first | refine k_seq ?_ | refine k_region ?_ | refine k_skip ?_ | refine k_ret ?_ | refine k_exit ?_ | refine k_block ?_ | refine k_true (h := ?_) | refine k_false (h := ?_))
    | (show EX _ (bodyA _ _ _) _ _ _; first | refine x_end1 (hq := ?_))
    | (show EX _ _ _ _ _; first | refine x_normal ?_ | refine x_ret ?_ | refine x_exit ?_ | refine x_same ?_ | refine x_other (h := ?_) | refine x_bnormal ?_ | refine x_bret ?_))
    exact ⟨by rw [hs], Keep.refl, F, by rw [hrs]; exact t0, Grow.refl⟩
  by_cases hfull : (flight A).length = 256
  · have hs : sendP m (flight A) f t' bs = (223, flight A) := by unfold sendP; rw [if_neg (fun h => h ⟨q1, q2, q3, q4, q5⟩), if_neg hbig, if_pos hfull]
    have hrs : refSendP m A f t' bs = A := by unfold refSendP; rw [hs]; rfl
    repeat' (first
    | (show EW _ _ _ _ _; first | refine ew_p (h := ?_) | refine ew_skip (h := ?_) | refine ew_ld (h := ?_) | (refine ew_df (ht := ?_) (hf := ?_) <;> intro _) | refine w_nil ?_)
    | (show EC _ _ _ _ _ _ _; first | refine k_seq ?_ | refine k_region ?_ | refine k_skip ?_ | refine k_ret ?_ | refine k_exit ?_ | refine k_block ?_ | refine k_true (h := ?_) | refine k_false (h := ?_))
    | (show EX _ (bodyA _ _ _) _ _ _; first | refine x_end1 (hq := ?_))
    | (show EX _ _ _ _ _; first | refine x_normal ?_ | refine x_ret ?_ | refine x_exit ?_ | refine x_same ?_ | refine x_other (h := ?_) | refine x_bnormal ?_ | refine x_bret ?_))
    exact ⟨by rw [hs], Keep.refl, F, by rw [hrs]; exact t0, Grow.refl⟩
  · have hs : sendP m (flight A) f t' bs = (0, flight A ++ [(f, t', bs)]) := by unfold sendP; rw [if_neg (fun h => h ⟨q1, q2, q3, q4, q5⟩), if_neg hbig, if_neg hfull]
    have hrs : refSendP m A f t' bs = A ++ [some (f, t', bs)] := by unfold refSendP; rw [hs]; rfl
    repeat' (first
    | (show EW _ _ _ _ _; first | refine ew_p (h := ?_) | refine ew_skip (h := ?_) | refine ew_ld (h := ?_) | (refine ew_df (ht := ?_) (hf := ?_) <;> intro _) | refine w_nil ?_)
    | (show EC _ _ _ _ _ _ _; first | refine k_seq ?_ | refine k_region ?_ | refine k_skip ?_ | refine k_ret ?_ | refine k_exit ?_ | refine k_block ?_ | refine k_true (h := ?_) | refine k_false (h := ?_))
    | (show EX _ (bodyA _ _ _) _ _ _; first | refine x_end1 (hq := ?_))
    | (show EX _ _ _ _ _; first | refine x_normal ?_ | refine x_ret ?_ | refine x_exit ?_ | refine x_same ?_ | refine x_other (h := ?_) | refine x_bnormal ?_ | refine x_bret ?_))
    (first | (refine' ew_callS (hc := cr_call) (hR := ?_) (h := ?_); rotate_left 1) | (refine' ew_call (hc := cr_call) (hR := ?_) (h := ?_); rotate_left 1))
    · exact reflay_calls r f t' hd hl hA
    rintro _ H1 ⟨rfl, hk1, O', D', r1, hO, hD⟩
    repeat' (first
    | (show EW _ _ _ _ _; first | refine ew_p (h := ?_) | refine ew_skip (h := ?_) | refine ew_ld (h := ?_) | (refine ew_df (ht := ?_) (hf := ?_) <;> intro _) | refine w_nil ?_)
    | (show EC _ _ _ _ _ _ _; first | refine k_seq ?_ | refine k_region ?_ | refine k_skip ?_ | refine k_ret ?_ | refine k_exit ?_ | refine k_block ?_ | refine k_true (h := ?_) | refine k_false (h := ?_))
    | (show EX _ (bodyA _ _ _) _ _ _; first | refine x_end1 (hq := ?_))
    | (show EX _ _ _ _ _; first | refine x_normal ?_ | refine x_ret ?_ | refine x_exit ?_ | refine x_same ?_ | refine x_other (h := ?_) | refine x_bnormal ?_ | refine x_bret ?_))
    refine ⟨by rw [hs], hk1.weak (fun b _ hb => hF b (hb.imp id .inl)), fun b => b = k ∨ O' b ∨ D' b, ?_, ?_⟩
    · rw [hrs]
      refine ⟨O', D', r1, fun b hb => hb, fun b hb => ?_, by rw [flight_snoc]; simp; omega, fun x hx => ?_⟩
      · rcases hb with rfl | hb | hb
        · exact r1.kn
        · exact r1.ob b hb
        · exact r1.db b hb
      · rw [flight_snoc] at hx
        rcases List.mem_append.1 hx with hx | hx
        · exact hsz x hx
        · obtain rfl := List.mem_singleton.1 hx
          show bs.length ≤ 32776
          omega
    · rintro b (rfl | hb | hb)
      · exact .inl (hF _ (.inl rfl))
      · exact (hO b hb).imp (fun h => hF b (.inr (.inl h))) id
      · exact (hD b hb).imp (fun h => hF b (.inr (.inr h))) id

end Go.Ae

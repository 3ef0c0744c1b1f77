/- The document's own network (eddyref22): Deliver, Drop, Copy, New. No condition. -/
import Derived.Test.YtfhpgikgjheobaaEtS
set_option linter.unusedSimpArgs false
set_option linter.unusedVariables false
set_option linter.unnecessarySimpa false
set_option maxRecDepth 100000
set_option maxHeartbeats 800000
namespace Go.Ae
open Go.Proofs
attribute [local irreducible] awC wpSeq wpS nRes aw aE acall ACalls szT isAggT zeroT byT elemSz fieldOff Program.underlying appendA copyA thenA inBlockA bodyA AHeap.push AHeap.put AHeap.cellsAt AHeap.setCells resV loadA intBin EW EC EX Nr Nc Er Cr Agree

def tbl59 : Tbl := []
def tbl60 : Tbl := []
def tbl61 : Tbl := []

theorem setCells_el {H : AHeap} {ad : Addr} {rc vs : List Value} {e : TypeId} {vr j : Nat} (hg : H.get ad.block = some (.row ⟨rc, e, vr, true⟩)) (hv : verOf ad = vr) (hle : ad.off + j + vs.length ≤ rc.length) (h1 : vs.all Value.oneCell' = true) :
    H.setCells (aadd ad j) vs = some (H.put ad.block (.row ⟨lset rc (ad.off + j) vs, e, vr, true⟩)) :=
  setCells_of (ad := aadd ad j) hg hv rfl (by simpa using hle) h1
/-- An element of all packets is another one. -/
theorem Rf.set {H Hf : AHeap} {O D Dn : Blks} {k : Nat} {m : Int} {A : List (Option Msg)} {ad : Addr} {c vr q : Nat} {rc cells vs : List Value} {a : Option Msg} (h : Rf H O D k m A)
    (hO : O ad.block) (hlt : ad.block < H.next) (hv : verOf ad = vr) (hle : ad.off + A.length * 4 ≤ rc.length) (ht : (rc.drop ad.off).take (A.length * 4) = cells)
    (ho : c = A.length ∨ c = openCap + 4 ∧ ad.off + A.length * 4 = rc.length) (hcl : ∀ i a, A[i]? = some a → ElR H D ((cells.drop (i * 4)).take 4) a) (hq : q < A.length) (hvs : vs.length = 4)
    (hslot : ElR H Dn vs a) (hDn : ∀ b, Dn b → b < H.next ∧ b ≠ k ∧ ¬ O b) (hkf : Keep (fun b => b = k) (H.put ad.block (.row ⟨lset rc (ad.off + q * 4) vs, 126, vr, true⟩)) Hf)
    (hgf : Hf.get k = some (.row ⟨[.int .i64 m, .slice (some ad) A.length c, .int .i64 (flight (A.set q a)).length], 123, 0, true⟩)) :
    Rf Hf O (Or D Dn) k m (A.set q a) := by
  have hs : Opn (H.put ad.block (.row ⟨lset rc (ad.off + q * 4) vs, 126, vr, true⟩)) O 126 4 (.slice (some ad) A.length c) A.length (lset cells (q * 4) vs) := Opn.set hO hlt hv hle ht ho hq hvs
  have hk1 : Keep O H (H.put ad.block (.row ⟨lset rc (ad.off + q * 4) vs, 126, vr, true⟩)) := Keep.refl.put fun _ => hO
  have hnx : H.next ≤ Hf.next := by have := hkf.1; simpa using this
  have hcl4 : cells.length = A.length * 4 := by rw [← ht, List.length_take, List.length_drop]; omega
  refine ⟨⟨_, lset cells (q * 4) vs, hgf, ?_, ?_⟩, Nat.lt_of_lt_of_le h.kn hnx, fun b hb => Nat.lt_of_lt_of_le (h.ob b hb) hnx, ?_, h.ok, ?_, ?_⟩
  · rw [List.length_set]
    exact hs.keep hkf fun b _ hb _ hg => h.ok (hg ▸ hb)
  · intro i y hy
    have er : ∀ (Dx : Blks) (cs : List Value) (z : Option Msg), ElR H Dx cs z → (∀ b, Dx b → b ≠ k ∧ ¬ O b) → (∀ b, Dx b → Or D Dn b) → ElR Hf (Or D Dn) cs z :=
      fun Dx cs z hb h1 h2 => ((hb.keep hk1 fun b _ hx ho => (h1 b hx).2 ho).keep hkf fun b _ hx hg => (h1 b hx).1 hg).weak h2
    rw [lset_slot hvs (by omega)]
    by_cases hi : i = q
    · subst hi
      rw [if_pos rfl]
      rw [List.getElem?_set_self hq] at hy
      obtain rfl := Option.some.inj hy
      exact er Dn _ _ hslot (fun b hb => (hDn b hb).2) fun b hb => .inr hb
    · rw [if_neg hi]
      rw [List.getElem?_set_ne (by omega)] at hy
      exact er D _ y (hcl i y hy) (fun b hb => ⟨fun he => h.dk (he ▸ hb), fun ho => h.od b ho hb⟩) fun b hb => .inl hb
  · rintro b (hb | hb)
    · exact Nat.lt_of_lt_of_le (h.db b hb) hnx
    · exact Nat.lt_of_lt_of_le (hDn b hb).1 hnx
  · rintro (hb | hb)
    · exact h.dk hb
    · exact (hDn k hb).2.1 rfl
  · rintro b hb (hb' | hb')
    · exact h.od b hb hb'
    · exact (hDn b hb').2.2 hb

/-- A place that is looked up. -/
theorem placeF_spec : ∀ (A : List (Option Msg)) (i : Int) (k : Nat), 0 ≤ i →
    (atI (flight A) i = none ∧ placeF A i k = -1) ∨ ∃ q x, placeF A i k = ((k + q : Nat) : Int) ∧ A[q]? = some (some x) ∧ atI (flight A) i = some x ∧ flight (A.set q none) = (flight A).eraseIdx i.toNat ∧
      ∀ y, flight (A.set q (some y)) = (flight A).set i.toNat y
  | [], i, k, hi => .inl ⟨by simp [flight, atI], rfl⟩
  | none :: A, i, k, hi => by
    rcases placeF_spec A i (k + 1) hi with ⟨h1, h2⟩ | ⟨q, x, h1, h2, h3, h4, h5⟩
    · exact .inl ⟨h1, h2⟩
    · exact .inr ⟨q + 1, x, by rw [placeF, h1]; congr 1; omega, h2, h3, h4, h5⟩
  | some z :: A, i, k, hi => by
    by_cases h0 : i = 0
    · subst h0
      exact .inr ⟨0, z, by simp [placeF], rfl, by simp [flight, atI], by simp [flight], fun y => by simp [flight]⟩
    · obtain ⟨j, rfl⟩ : ∃ j : Nat, i = ((j + 1 : Nat) : Int) := ⟨(i - 1).toNat, by omega⟩
      have hf : flight (some z :: A) = z :: flight A := rfl
      have e1 : ((j + 1 : Nat) : Int) - 1 = (j : Nat) := by omega
      rcases placeF_spec A (j : Nat) (k + 1) (by omega) with ⟨h1, h2⟩ | ⟨q, x, h1, h2, h3, h4, h5⟩
      · refine .inl ⟨?_, by rw [placeF, if_neg h0, e1, h2]⟩
        rw [hf, atI_nat, List.getElem?_cons_succ, ← atI_nat, h1]
      · refine .inr ⟨q + 1, x, by rw [placeF, if_neg h0, e1, h1]; congr 1; omega, h2, ?_, ?_, fun y => ?_⟩
        · rw [hf, atI_nat, List.getElem?_cons_succ, ← atI_nat, h3]
        · rw [List.set_cons_succ, show flight (some z :: A.set q none) = z :: flight (A.set q none) from rfl, h4, hf]
          simp
        · rw [List.set_cons_succ, show flight (some z :: A.set q (some y)) = z :: flight (A.set q (some y)) from rfl, h5 y, hf]
          simp
theorem placeP_spec (A : List (Option Msg)) (i : Int) :
    (atI (flight A) i = none ∧ placeP A i = -1) ∨ ∃ q x, placeP A i = (q : Nat) ∧ A[q]? = some (some x) ∧ atI (flight A) i = some x ∧ flight (A.set q none) = (flight A).eraseIdx i.toNat ∧ ∀ y, flight (A.set q (some y)) = (flight A).set i.toNat y := by
  unfold placeP
  by_cases hi : i < 0
  · rw [if_pos hi]
    exact .inl ⟨atI_none (by omega), rfl⟩
  · rw [if_neg hi]
    simpa using placeF_spec A i 0 (by omega)
def refCutP (A : List (Option Msg)) (i : Int) : List (Option Msg) := match atI (flight A) i with | none => A | some _ => A.set (placeP A i).toNat none
theorem flight_cut (A : List (Option Msg)) (i : Int) : flight (refCutP A i) = cutP (flight A) i := by
  unfold refCutP cutP
  rcases placeP_spec A i with ⟨h1, h2⟩ | ⟨q, x, h1, h2, h3, h4, h5⟩
  · rw [h1]
  · rw [h3, h1, Int.toNat_natCast]
    exact h4
theorem refdeliver_calls {H : AHeap} {F : Blks} {k : Nat} {m : Int} {A : List (Option Msg)} (t : RefM H F k m A) (i : Int) (hi2 : i ≤ 9223372036854775807) (hA : A.length ≤ 2932031007401) :
    ACalls Try.prog 59 #[.pointer (some ⟨k, 0, none⟩), .int .i64 i] H fun v H' =>
      Keep F H H' ∧ RefM H' F k m (refCutP A i) ∧
      ((atI (flight A) i = none ∧ v = .tuple #[.agg #[.int .i64 0, .int .i64 0, .slice none 0 0], .bool false]) ∨
       ∃ x dv, atI (flight A) i = some x ∧ v = .tuple #[.agg #[.int .i64 x.1, .int .i64 x.2.1, dv], .bool true] ∧ BR H' F dv x.2.2) := by
  refine k_open (args := [.pointer (some ⟨k, 0, none⟩), .int .i64 i]) (E0 := [(0, .pointer (some ⟨k, 0, none⟩)), (1, .int .i64 i)]) tbl59 Try.func59 rfl follows (by kernel_rfl) Try.ntmps59 rfl rfl ?_
  repeat' (first
    | (show EW _ _ _ _ _; first | refine ew_p (h := ?_) | refine ew_bu (h := ?_) | refine ew_ld (h := ?_) | (refine ew_fresh ?_; intro b hb; refine ew_nw hb (h := ?_); (try simp only [AHeap.push_next, AHeap.put_next] at hb)) | refine ew_st (h := ?_) | (refine ew_df (ht := ?_) (hf := ?_) <;> intro _) | refine ew_ar (h := ?_) | refine w_nil ?_)
    | (show EC _ _ _ _ _ _ _; first | refine k_seq ?_ | refine k_region ?_ | refine k_skip ?_ | refine k_ret ?_ | refine k_exit ?_ | refine k_block ?_ | refine k_true (h := ?_) | refine k_false (h := ?_))
    | (show EX _ (bodyA _ _ _) _ _ _; first | refine x_end2 (hq := ?_) | refine x_end2g (h1 := rv_cell (hc := by (first | assumption | (apply cells_row; (focus ((repeat' (first | assumption | (rw [aadd_block]) | (apply gN; (focus (first | exact rfl | omega | (simp only [AHeap.push_next, AHeap.put_next, aadd_block] <;> omega))); (focus exact rfl)) | (apply gO; (focus (first | omega | (simp only [AHeap.push_next, AHeap.put_next, aadd_block, ne_eq] <;> omega)))) | (apply gS; (focus (first | exact rfl | omega | (simp only [AHeap.push_next, AHeap.put_next, aadd_block] <;> omega))); (focus exact rfl)) | (apply gP; (focus (first | omega | (simp only [AHeap.push_next, AHeap.put_next, aadd_block, ne_eq] <;> omega)))) | exact rfl)); done)); (focus exact rfl); (focus exact rfl); (focus (first | exact (rfl : _ = some [_]) | exact (rfl : _ = some [_, _, _]) | exact (rfl : _ = some [_, _, _, _])))) | (apply cells_k; (focus assumption); (focus (first | assumption | (simp only [aadd_block] <;> first | assumption | omega))); (focus ((repeat' (first | exact Keep.refl | assumption | (apply Keep.push) | (refine Keep.put ?_ ?_; rotate_left; (focus (intro hlt; first | assumption | omega | (exfalso; simp only [AHeap.push_next, AHeap.put_next, aadd_block] at hlt; omega)))))); done))))) (hv := by exact rfl)) (h2 := rv_tmp) (hq := ?_) | refine x_end2g (h1 := rv_tmp) (h2 := rv_cell (hc := by (first | assumption | (apply cells_row; (focus ((repeat' (first | assumption | (rw [aadd_block]) | (apply gN; (focus (first | exact rfl | omega | (simp only [AHeap.push_next, AHeap.put_next, aadd_block] <;> omega))); (focus exact rfl)) | (apply gO; (focus (first | omega | (simp only [AHeap.push_next, AHeap.put_next, aadd_block, ne_eq] <;> omega)))) | (apply gS; (focus (first | exact rfl | omega | (simp only [AHeap.push_next, AHeap.put_next, aadd_block] <;> omega))); (focus exact rfl)) | (apply gP; (focus (first | omega | (simp only [AHeap.push_next, AHeap.put_next, aadd_block, ne_eq] <;> omega)))) | exact rfl)); done)); (focus exact rfl); (focus exact rfl); (focus (first | exact (rfl : _ = some [_]) | exact (rfl : _ = some [_, _, _]) | exact (rfl : _ = some [_, _, _, _])))) | (apply cells_k; (focus assumption); (focus (first | assumption | (simp only [aadd_block] <;> first | assumption | omega))); (focus ((repeat' (first | exact Keep.refl | assumption | (apply Keep.push) | (refine Keep.put ?_ ?_; rotate_left; (focus (intro hlt; first | assumption | omega | (exfalso; simp only [AHeap.push_next, AHeap.put_next, aadd_block] at hlt; omega)))))); done))))) (hv := by exact rfl)) (hq := ?_))
    | (show EX _ _ _ _ _; first | refine x_normal ?_ | refine x_ret ?_ | refine x_exit ?_ | refine x_same ?_ | refine x_other (h := ?_) | refine x_bnormal ?_ | refine x_bret ?_))
  obtain ⟨b0, hb0⟩ : ∃ b0, b0 = b := ⟨_, rfl⟩
  rw [← hb0]
  rw [← hb0] at hb
  clear hb0
  have hb0 := hb
  clear hb
  obtain ⟨Hx, hHx⟩ : ∃ Hx, Hx = H.push (.row ⟨[.int .i64 0, .int .i64 0, .slice none 0 0], 32, 0, true⟩) := ⟨_, rfl⟩
  have hnx : Hx.next = H.next + 1 := by rw [hHx, AHeap.push_next]
  have hkx : Keep No H Hx := by rw [hHx]; exact kp
  have hxb : Hx.get b0 = some (.row ⟨[.int .i64 0, .int .i64 0, .slice none 0 0], 32, 0, true⟩) := by rw [hHx]; exact rdx
  rw [← hHx]
  have t0 := t.keep0 hkx
  have hFH : ∀ b, F b → b < H.next := by obtain ⟨_, _, _, _, h, _⟩ := t; exact h
  obtain ⟨O, D, r, hF, hFn, hlen, hsz⟩ := t0
  have t0 := t.keep0 hkx
  obtain ⟨sv, cells, hr, ho, hcl⟩ := r.row
  have hAll : AllR Hx O D sv A := ⟨cells, ho.rd, hcl⟩
  have hkn := r.kn
  (first | (refine' ew_callS (hc := cr_call) (hR := ?_) (h := ?_); rotate_left 1) | (refine' ew_call (hc := cr_call) (hR := ?_) (h := ?_); rotate_left 1))
  · exact place_calls i hr hAll (by omega) hi2
  rintro _ H1 ⟨rfl, rfl⟩
  rcases placeP_spec A i with ⟨h1, h2⟩ | ⟨q, x, h1, h2, h3, h4, h5⟩
  · have hcut : refCutP A i = A := by unfold refCutP; rw [h1]
    rw [h2]
    repeat' (first
    | (show EW _ _ _ _ _; first | refine ew_p (h := ?_) | refine ew_bu (h := ?_) | refine ew_ld (h := ?_) | (refine ew_fresh ?_; intro b hb; refine ew_nw hb (h := ?_); (try simp only [AHeap.push_next, AHeap.put_next] at hb)) | refine ew_st (h := ?_) | (refine ew_df (ht := ?_) (hf := ?_) <;> intro _) | refine ew_ar (h := ?_) | refine w_nil ?_)
    | (show EC _ _ _ _ _ _ _; first | refine k_seq ?_ | refine k_region ?_ | refine k_skip ?_ | refine k_ret ?_ | refine k_exit ?_ | refine k_block ?_ | refine k_true (h := ?_) | refine k_false (h := ?_))
    | (show EX _ (bodyA _ _ _) _ _ _; first | refine x_end2 (hq := ?_) | refine x_end2g (h1 := rv_cell (hc := by (first | assumption | (apply cells_row; (focus ((repeat' (first | assumption | (rw [aadd_block]) | (apply gN; (focus (first | exact rfl | omega | (simp only [AHeap.push_next, AHeap.put_next, aadd_block] <;> omega))); (focus exact rfl)) | (apply gO; (focus (first | omega | (simp only [AHeap.push_next, AHeap.put_next, aadd_block, ne_eq] <;> omega)))) | (apply gS; (focus (first | exact rfl | omega | (simp only [AHeap.push_next, AHeap.put_next, aadd_block] <;> omega))); (focus exact rfl)) | (apply gP; (focus (first | omega | (simp only [AHeap.push_next, AHeap.put_next, aadd_block, ne_eq] <;> omega)))) | exact rfl)); done)); (focus exact rfl); (focus exact rfl); (focus (first | exact (rfl : _ = some [_]) | exact (rfl : _ = some [_, _, _]) | exact (rfl : _ = some [_, _, _, _])))) | (apply cells_k; (focus assumption); (focus (first | assumption | (simp only [aadd_block] <;> first | assumption | omega))); (focus ((repeat' (first | exact Keep.refl | assumption | (apply Keep.push) | (refine Keep.put ?_ ?_; rotate_left; (focus (intro hlt; first | assumption | omega | (exfalso; simp only [AHeap.push_next, AHeap.put_next, aadd_block] at hlt; omega)))))); done))))) (hv := by exact rfl)) (h2 := rv_tmp) (hq := ?_) | refine x_end2g (h1 := rv_tmp) (h2 := rv_cell (hc := by (first | assumption | (apply cells_row; (focus ((repeat' (first | assumption | (rw [aadd_block]) | (apply gN; (focus (first | exact rfl | omega | (simp only [AHeap.push_next, AHeap.put_next, aadd_block] <;> omega))); (focus exact rfl)) | (apply gO; (focus (first | omega | (simp only [AHeap.push_next, AHeap.put_next, aadd_block, ne_eq] <;> omega)))) | (apply gS; (focus (first | exact rfl | omega | (simp only [AHeap.push_next, AHeap.put_next, aadd_block] <;> omega))); (focus exact rfl)) | (apply gP; (focus (first | omega | (simp only [AHeap.push_next, AHeap.put_next, aadd_block, ne_eq] <;> omega)))) | exact rfl)); done)); (focus exact rfl); (focus exact rfl); (focus (first | exact (rfl : _ = some [_]) | exact (rfl : _ = some [_, _, _]) | exact (rfl : _ = some [_, _, _, _])))) | (apply cells_k; (focus assumption); (focus (first | assumption | (simp only [aadd_block] <;> first | assumption | omega))); (focus ((repeat' (first | exact Keep.refl | assumption | (apply Keep.push) | (refine Keep.put ?_ ?_; rotate_left; (focus (intro hlt; first | assumption | omega | (exfalso; simp only [AHeap.push_next, AHeap.put_next, aadd_block] at hlt; omega)))))); done))))) (hv := by exact rfl)) (hq := ?_))
    | (show EX _ _ _ _ _; first | refine x_normal ?_ | refine x_ret ?_ | refine x_exit ?_ | refine x_same ?_ | refine x_other (h := ?_) | refine x_bnormal ?_ | refine x_bret ?_))
    rw [put_self hxb]
    exact ⟨hkx.no, by rw [hcut]; exact t0, .inl ⟨h1, rfl⟩⟩
  have hcut : refCutP A i = A.set q none := by unfold refCutP; rw [h3, h1]; rfl
  rw [h1]
  have hqA : q < A.length := (List.getElem?_eq_some_iff.1 h2).1
  obtain ⟨ad, c, rc, vr, rfl, hOa, hlt, hg, hv, hle, ht, hcap⟩ := ho.at_row (by omega)
  obtain ⟨ad', c', cs, hsv, hO', hltb, hc4, he, hc1⟩ := hAll.at h2
  simp only [Value.slice.injEq, Option.some.injEq, true_and] at hsv
  obtain ⟨rfl, rfl⟩ := hsv
  obtain ⟨dv, rfl, hbr⟩ := he
  obtain ⟨zd, cd, rfl⟩ := Rd.slice hbr
  have hne : ad.block ≠ k := fun h => r.ok (h ▸ hOa)
  have hq4 : (q + 1) * 4 ≤ A.length * 4 := Nat.mul_le_mul_right 4 hqA
  have hle4 : ad.off + (q : Int).toNat * 4 + 4 ≤ rc.length := by omega
  have hk0 := hFH k (hF k (.inl rfl))
  have ha0 := hFH ad.block (hF _ (.inr (.inl hOa)))
  repeat' (first
    | (show EW _ _ _ _ _; first | refine ew_p (h := ?_) | refine ew_bu (h := ?_) | refine ew_ld (h := ?_) | (refine ew_fresh ?_; intro b hb; refine ew_nw hb (h := ?_); (try simp only [AHeap.push_next, AHeap.put_next] at hb)) | refine ew_st (h := ?_) | (refine ew_df (ht := ?_) (hf := ?_) <;> intro _) | refine ew_ar (h := ?_) | refine w_nil ?_)
    | (show EC _ _ _ _ _ _ _; first | refine k_seq ?_ | refine k_region ?_ | refine k_skip ?_ | refine k_ret ?_ | refine k_exit ?_ | refine k_block ?_ | refine k_true (h := ?_) | refine k_false (h := ?_))
    | (show EX _ (bodyA _ _ _) _ _ _; first | refine x_end2 (hq := ?_) | refine x_end2g (h1 := rv_cell (hc := by (first | assumption | (apply cells_row; (focus ((repeat' (first | assumption | (rw [aadd_block]) | (apply gN; (focus (first | exact rfl | omega | (simp only [AHeap.push_next, AHeap.put_next, aadd_block] <;> omega))); (focus exact rfl)) | (apply gO; (focus (first | omega | (simp only [AHeap.push_next, AHeap.put_next, aadd_block, ne_eq] <;> omega)))) | (apply gS; (focus (first | exact rfl | omega | (simp only [AHeap.push_next, AHeap.put_next, aadd_block] <;> omega))); (focus exact rfl)) | (apply gP; (focus (first | omega | (simp only [AHeap.push_next, AHeap.put_next, aadd_block, ne_eq] <;> omega)))) | exact rfl)); done)); (focus exact rfl); (focus exact rfl); (focus (first | exact (rfl : _ = some [_]) | exact (rfl : _ = some [_, _, _]) | exact (rfl : _ = some [_, _, _, _])))) | (apply cells_k; (focus assumption); (focus (first | assumption | (simp only [aadd_block] <;> first | assumption | omega))); (focus ((repeat' (first | exact Keep.refl | assumption | (apply Keep.push) | (refine Keep.put ?_ ?_; rotate_left; (focus (intro hlt; first | assumption | omega | (exfalso; simp only [AHeap.push_next, AHeap.put_next, aadd_block] at hlt; omega)))))); done))))) (hv := by exact rfl)) (h2 := rv_tmp) (hq := ?_) | refine x_end2g (h1 := rv_tmp) (h2 := rv_cell (hc := by (first | assumption | (apply cells_row; (focus ((repeat' (first | assumption | (rw [aadd_block]) | (apply gN; (focus (first | exact rfl | omega | (simp only [AHeap.push_next, AHeap.put_next, aadd_block] <;> omega))); (focus exact rfl)) | (apply gO; (focus (first | omega | (simp only [AHeap.push_next, AHeap.put_next, aadd_block, ne_eq] <;> omega)))) | (apply gS; (focus (first | exact rfl | omega | (simp only [AHeap.push_next, AHeap.put_next, aadd_block] <;> omega))); (focus exact rfl)) | (apply gP; (focus (first | omega | (simp only [AHeap.push_next, AHeap.put_next, aadd_block, ne_eq] <;> omega)))) | exact rfl)); done)); (focus exact rfl); (focus exact rfl); (focus (first | exact (rfl : _ = some [_]) | exact (rfl : _ = some [_, _, _]) | exact (rfl : _ = some [_, _, _, _])))) | (apply cells_k; (focus assumption); (focus (first | assumption | (simp only [aadd_block] <;> first | assumption | omega))); (focus ((repeat' (first | exact Keep.refl | assumption | (apply Keep.push) | (refine Keep.put ?_ ?_; rotate_left; (focus (intro hlt; first | assumption | omega | (exfalso; simp only [AHeap.push_next, AHeap.put_next, aadd_block] at hlt; omega)))))); done))))) (hv := by exact rfl)) (hq := ?_))
    | (show EX _ _ _ _ _; first | refine x_normal ?_ | refine x_ret ?_ | refine x_exit ?_ | refine x_same ?_ | refine x_other (h := ?_) | refine x_bnormal ?_ | refine x_bret ?_))
  refine ew_e (he := er_store (hc := setCells_el (by exact rdx) hv hle4 rfl)) (hk := Mode.kept_seq rfl) (h := ?_)
  repeat' (first
    | (show EW _ _ _ _ _; first | refine ew_p (h := ?_) | refine ew_bu (h := ?_) | refine ew_ld (h := ?_) | (refine ew_fresh ?_; intro b hb; refine ew_nw hb (h := ?_); (try simp only [AHeap.push_next, AHeap.put_next] at hb)) | refine ew_st (h := ?_) | (refine ew_df (ht := ?_) (hf := ?_) <;> intro _) | refine ew_ar (h := ?_) | refine w_nil ?_)
    | (show EC _ _ _ _ _ _ _; first | refine k_seq ?_ | refine k_region ?_ | refine k_skip ?_ | refine k_ret ?_ | refine k_exit ?_ | refine k_block ?_ | refine k_true (h := ?_) | refine k_false (h := ?_))
    | (show EX _ (bodyA _ _ _) _ _ _; first | refine x_end2 (hq := ?_) | refine x_end2g (h1 := rv_cell (hc := by (first | assumption | (apply cells_row; (focus ((repeat' (first | assumption | (rw [aadd_block]) | (apply gN; (focus (first | exact rfl | omega | (simp only [AHeap.push_next, AHeap.put_next, aadd_block] <;> omega))); (focus exact rfl)) | (apply gO; (focus (first | omega | (simp only [AHeap.push_next, AHeap.put_next, aadd_block, ne_eq] <;> omega)))) | (apply gS; (focus (first | exact rfl | omega | (simp only [AHeap.push_next, AHeap.put_next, aadd_block] <;> omega))); (focus exact rfl)) | (apply gP; (focus (first | omega | (simp only [AHeap.push_next, AHeap.put_next, aadd_block, ne_eq] <;> omega)))) | exact rfl)); done)); (focus exact rfl); (focus exact rfl); (focus (first | exact (rfl : _ = some [_]) | exact (rfl : _ = some [_, _, _]) | exact (rfl : _ = some [_, _, _, _])))) | (apply cells_k; (focus assumption); (focus (first | assumption | (simp only [aadd_block] <;> first | assumption | omega))); (focus ((repeat' (first | exact Keep.refl | assumption | (apply Keep.push) | (refine Keep.put ?_ ?_; rotate_left; (focus (intro hlt; first | assumption | omega | (exfalso; simp only [AHeap.push_next, AHeap.put_next, aadd_block] at hlt; omega)))))); done))))) (hv := by exact rfl)) (h2 := rv_tmp) (hq := ?_) | refine x_end2g (h1 := rv_tmp) (h2 := rv_cell (hc := by (first | assumption | (apply cells_row; (focus ((repeat' (first | assumption | (rw [aadd_block]) | (apply gN; (focus (first | exact rfl | omega | (simp only [AHeap.push_next, AHeap.put_next, aadd_block] <;> omega))); (focus exact rfl)) | (apply gO; (focus (first | omega | (simp only [AHeap.push_next, AHeap.put_next, aadd_block, ne_eq] <;> omega)))) | (apply gS; (focus (first | exact rfl | omega | (simp only [AHeap.push_next, AHeap.put_next, aadd_block] <;> omega))); (focus exact rfl)) | (apply gP; (focus (first | omega | (simp only [AHeap.push_next, AHeap.put_next, aadd_block, ne_eq] <;> omega)))) | exact rfl)); done)); (focus exact rfl); (focus exact rfl); (focus (first | exact (rfl : _ = some [_]) | exact (rfl : _ = some [_, _, _]) | exact (rfl : _ = some [_, _, _, _])))) | (apply cells_k; (focus assumption); (focus (first | assumption | (simp only [aadd_block] <;> first | assumption | omega))); (focus ((repeat' (first | exact Keep.refl | assumption | (apply Keep.push) | (refine Keep.put ?_ ?_; rotate_left; (focus (intro hlt; first | assumption | omega | (exfalso; simp only [AHeap.push_next, AHeap.put_next, aadd_block] at hlt; omega)))))); done))))) (hv := by exact rfl)) (hq := ?_))
    | (show EX _ _ _ _ _; first | refine x_normal ?_ | refine x_ret ?_ | refine x_exit ?_ | refine x_same ?_ | refine x_other (h := ?_) | refine x_bnormal ?_ | refine x_bret ?_))
  have hOF : ∀ b, O b → b < H.next := fun b hb => hFH b (hF b (.inr (.inl hb)))
  have hDF : ∀ b, D b → b < H.next := fun b hb => hFH b (hF b (.inr (.inr hb)))
  have fin : ∀ H2 Ha Hb Hc, Keep No H1 H2 → Ha = H2.put ad.block (.row ⟨lset rc (ad.off + q * 4) [.int .i64 0, .int .i64 0, .slice none 0 0, .bool true], 126, vr, true⟩) →
      Hb = Ha.put k (.row ⟨[.int .i64 m, .slice (some ad) A.length c, .int .i64 ((flight A).length - 1)], 123, 0, true⟩) → Keep (fun b => b = H.next) Hb Hc →
      Keep F H Hc ∧ RefM Hc F k m (refCutP A i) ∧ ((atI (flight A) i = none ∧ Value.tuple #[.agg #[.int .i64 x.1, .int .i64 x.2.1, .slice zd x.2.2.length cd], .bool true] = .tuple #[.agg #[.int .i64 0, .int .i64 0, .slice none 0 0], .bool false]) ∨
        ∃ x' dv, atI (flight A) i = some x' ∧ Value.tuple #[.agg #[.int .i64 x.1, .int .i64 x.2.1, .slice zd x.2.2.length cd], .bool true] = .tuple #[.agg #[.int .i64 x'.1, .int .i64 x'.2.1, dv], .bool true] ∧ BR Hc F dv x'.2.2) := by
    intro H2 Ha Hb Hc hk2 hHa hHb hkc
    have r2 := r.keep0 hk2
    have hn2 := hk2.1
    have hlen' := congrArg List.length h4
    rw [List.length_eraseIdx] at hlen'
    have hin := atI_some h3
    rw [if_pos (by omega)] at hlen'
    have hkb : Keep (fun b => b = k) Ha Hb := by rw [hHb]; exact Keep.refl.put fun _ => rfl
    have hka : Keep O H2 Ha := by rw [hHa]; exact Keep.refl.put fun _ => hOa
    have rb : Rf Hb O (Or D No) k m (A.set q none) := by
      refine Rf.set (vs := [.int .i64 0, .int .i64 0, .slice none 0 0, .bool true]) r2 hOa (by omega) hv hle ht hcap (fun i a ha => (hcl i a ha).keep hk2 fun _ _ _ h => h) hqA rfl rfl (fun _ h => h.elim) (hHa ▸ hkb) ?_
      rw [hHb, AHeap.put_get, if_pos rfl, hlen', show ((flight A).length : Int) - 1 = ((flight A).length - 1 : Nat) by omega]
    have rc := rb.keep hkc fun b hb => ⟨by rintro rfl; omega, fun h => by have := hOF b h; omega, fun h => h.elim (fun h => by have := hDF b h; omega) fun h => h.elim⟩
    have kk : Keep F H Hc := by
      refine Keep.trans (F := F) (Keep.trans (F := F) (Keep.trans (F := F) ((hkx.after hk2).no) hka fun b _ hb => hF b (.inr (.inl hb))) hkb fun b _ hb => hF b (.inl hb)) hkc ?_
      rintro b hb rfl
      exact absurd hb (Nat.lt_irrefl _)
    refine ⟨kk, hcut ▸ ⟨O, Or D No, rc, ?_, fun b hb => Nat.lt_of_lt_of_le (hFH b hb) kk.1, ?_, ?_⟩, .inr ⟨x, _, h3, rfl, ?_⟩⟩
    · rintro b (h | h | h | h)
      · exact hF b (.inl h)
      · exact hF b (.inr (.inl h))
      · exact hF b (.inr (.inr h))
      · exact h.elim
    · omega
    · intro y hy
      rw [h4] at hy
      exact sizes_erase hsz y hy
    · refine Rd.weak (Rd.keep (Rd.keep (Rd.keep (Rd.keep0 hbr hk2) hka fun b _ hb ho => r.od b ho hb) hkb fun b _ hb he => r.dk (he ▸ hb)) hkc fun b _ hb he => ?_) fun b _ hb => hF b (.inr (.inr hb))
      have := hDF b hb
      omega
  refine fin _ _ _ _ ?_ rfl rfl (Keep.refl.put fun _ => hb0)
  exact kp

theorem refnew_calls (m : Int) (H : AHeap) :
    ACalls Try.prog 55 #[.int .i64 m] H fun v H' =>
      (¬ (1 ≤ m ∧ m ≤ 8) ∧ v = .tuple #[.pointer none, .int .i64 220] ∧ H' = H) ∨
      (1 ≤ m ∧ m ≤ 8) ∧ ∃ e, v = .tuple #[.pointer (some ⟨e, 0, none⟩), .int .i64 0] ∧ RefM H' (New H H') e m [] ∧ Keep No H H' := by
  refine k_open (args := [.int .i64 m]) (E0 := [(0, .int .i64 m)]) tbl55 Try.func55 rfl follows (by kernel_rfl) Try.ntmps55 rfl rfl ?_
  repeat' (first
    | (show EW _ _ _ _ _; first | refine ew_p (h := ?_) | refine ew_bu (h := ?_) | refine ew_skip (h := ?_) | (refine ew_fresh ?_; intro b hb; refine ew_nw hb (h := ?_); (try simp only [AHeap.push_next, AHeap.put_next] at hb)) | (refine ew_df (ht := ?_) (hf := ?_) <;> intro _) | refine w_nil ?_)
    | (show EC _ _ _ _ _ _ _; first | refine k_seq ?_ | refine k_region ?_ | refine k_skip ?_ | refine k_ret ?_ | refine k_exit ?_ | refine k_block ?_ | refine k_true (h := ?_) | refine k_false (h := ?_))
    | (show EX _ (bodyA _ _ _) _ _ _; first | refine x_end2 (hq := ?_))
    | (show EX _ _ _ _ _; first | refine x_normal ?_ | refine x_ret ?_ | refine x_exit ?_ | refine x_same ?_ | refine x_other (h := ?_) | refine x_bnormal ?_ | refine x_bret ?_))
  · exact .inl ⟨by omega, rfl, rfl⟩
  · exact .inl ⟨by omega, rfl, rfl⟩
  · refine .inr ⟨by omega, _, rfl, ⟨No, No, ⟨⟨_, [], by rw [AHeap.push_get, if_pos hb]; rfl, Opn.nil, by simp⟩, by simp; omega, fun _ h => h.elim, fun _ h => h.elim, id, id, fun _ h => h.elim⟩, ?_, ?_, by simp [flight], by simp [flight]⟩, by exact kp⟩
    · rintro y (rfl | h | h)
      · exact ⟨by omega, by simp; omega⟩
      · exact h.elim
      · exact h.elim
    · exact fun y hy => hy.2
theorem refdrop_calls {H : AHeap} {F : Blks} {k : Nat} {m : Int} {A : List (Option Msg)} (t : RefM H F k m A) (i : Int) (hi2 : i ≤ 9223372036854775807) (hA : A.length ≤ 2932031007401) :
    ACalls Try.prog 60 #[.pointer (some ⟨k, 0, none⟩), .int .i64 i] H fun v H' =>
      v = .bool (atI (flight A) i).isSome ∧ Keep F H H' ∧ RefM H' F k m (refCutP A i) := by
  refine k_open (args := [.pointer (some ⟨k, 0, none⟩), .int .i64 i]) (E0 := [(0, .pointer (some ⟨k, 0, none⟩)), (1, .int .i64 i)]) tbl60 Try.func60 rfl follows (by kernel_rfl) Try.ntmps60 rfl rfl ?_
  repeat' (first
    | (show EW _ _ _ _ _; first | refine ew_p (h := ?_) | (refine ew_fresh ?_; intro b hb; refine ew_nw hb (h := ?_); (try simp only [AHeap.push_next, AHeap.put_next] at hb)) | refine ew_st (h := ?_) | refine w_nil ?_)
    | (show EC _ _ _ _ _ _ _; first | refine k_seq ?_ | refine k_region ?_ | refine k_skip ?_ | refine k_ret ?_ | refine k_exit ?_ | refine k_block ?_ | refine k_true (h := ?_) | refine k_false (h := ?_))
    | (show EX _ (bodyA _ _ _) _ _ _; first | refine x_end1 (hq := ?_))
    | (show EX _ _ _ _ _; first | refine x_normal ?_ | refine x_ret ?_ | refine x_exit ?_ | refine x_same ?_ | refine x_other (h := ?_) | refine x_bnormal ?_ | refine x_bret ?_))
  (first | (refine' ew_callS (hc := cr_call) (hR := ?_) (h := ?_); rotate_left 1) | (refine' ew_call (hc := cr_call) (hR := ?_) (h := ?_); rotate_left 1))
  · exact refdeliver_calls t i hi2 hA
  rintro v H1 ⟨hk, ht, ⟨h1, rfl⟩ | ⟨x, dv, h1, rfl, hbr⟩⟩
  · repeat' (first
    | (show EW _ _ _ _ _; first | refine ew_p (h := ?_) | (refine ew_fresh ?_; intro b hb; refine ew_nw hb (h := ?_); (try simp only [AHeap.push_next, AHeap.put_next] at hb)) | refine ew_st (h := ?_) | refine w_nil ?_)
    | (show EC _ _ _ _ _ _ _; first | refine k_seq ?_ | refine k_region ?_ | refine k_skip ?_ | refine k_ret ?_ | refine k_exit ?_ | refine k_block ?_ | refine k_true (h := ?_) | refine k_false (h := ?_))
    | (show EX _ (bodyA _ _ _) _ _ _; first | refine x_end1 (hq := ?_))
    | (show EX _ _ _ _ _; first | refine x_normal ?_ | refine x_ret ?_ | refine x_exit ?_ | refine x_same ?_ | refine x_other (h := ?_) | refine x_bnormal ?_ | refine x_bret ?_))
    have hk2 : Keep No H1 ((H1.push (.row ⟨[.int .i64 0, .int .i64 0, .slice none 0 0], 32, 0, true⟩)).put b (.row ⟨[.int .i64 0, .int .i64 0, .slice none 0 0], 32, 0, true⟩)) := by exact kp
    exact ⟨by rw [h1]; rfl, hk.trans (F := F) hk2 fun _ _ h => h.elim, ht.keep0 hk2⟩
  · obtain ⟨zd, cd, rfl⟩ := Rd.slice hbr
    repeat' (first
    | (show EW _ _ _ _ _; first | refine ew_p (h := ?_) | (refine ew_fresh ?_; intro b hb; refine ew_nw hb (h := ?_); (try simp only [AHeap.push_next, AHeap.put_next] at hb)) | refine ew_st (h := ?_) | refine w_nil ?_)
    | (show EC _ _ _ _ _ _ _; first | refine k_seq ?_ | refine k_region ?_ | refine k_skip ?_ | refine k_ret ?_ | refine k_exit ?_ | refine k_block ?_ | refine k_true (h := ?_) | refine k_false (h := ?_))
    | (show EX _ (bodyA _ _ _) _ _ _; first | refine x_end1 (hq := ?_))
    | (show EX _ _ _ _ _; first | refine x_normal ?_ | refine x_ret ?_ | refine x_exit ?_ | refine x_same ?_ | refine x_other (h := ?_) | refine x_bnormal ?_ | refine x_bret ?_))
    have hk2 : Keep No H1 ((H1.push (.row ⟨[.int .i64 0, .int .i64 0, .slice none 0 0], 32, 0, true⟩)).put b (.row ⟨[.int .i64 x.1, .int .i64 x.2.1, .slice zd x.2.2.length cd], 32, 0, true⟩)) := by exact kp
    exact ⟨by rw [h1]; rfl, hk.trans (F := F) hk2 fun _ _ h => h.elim, ht.keep0 hk2⟩
def refCopyP (A : List (Option Msg)) (i : Int) : List (Option Msg) := match atI (flight A) i with | none => A | some x => if (flight A).length = 256 then A else A ++ [some x]
theorem flight_copy (A : List (Option Msg)) (i : Int) : flight (refCopyP A i) = (copyP (flight A) i).2 := by
  unfold refCopyP copyP
  cases h : atI (flight A) i with
  | none => rfl
  | some x =>
    simp only
    by_cases h2 : (flight A).length = 256
    · simp only [if_pos h2]
    · simp only [if_neg h2, flight_snoc]
theorem refcopy_calls {H : AHeap} {F : Blks} {k : Nat} {m : Int} {A : List (Option Msg)} (t : RefM H F k m A) (i : Int) (hi2 : i ≤ 9223372036854775807) (hA : A.length ≤ 2932031007401) :
    ACalls Try.prog 61 #[.pointer (some ⟨k, 0, none⟩), .int .i64 i] H fun v H' =>
      v = .int .i64 (copyP (flight A) i).1 ∧ Keep F H H' ∧ ∃ F', RefM H' F' k m (refCopyP A i) ∧ Grow F F' H := by
  obtain ⟨O, D, r, hF, hFn, hlen, hsz⟩ := id t
  obtain ⟨sv, hr, hAll⟩ := r.reads
  obtain ⟨z, c, rfl⟩ := hAll.slice
  have hkn := r.kn
  refine k_open (args := [.pointer (some ⟨k, 0, none⟩), .int .i64 i]) (E0 := [(0, .pointer (some ⟨k, 0, none⟩)), (1, .int .i64 i)]) tbl61 Try.func61 rfl follows (by kernel_rfl) Try.ntmps61 rfl rfl ?_
  repeat' (first
    | (show EW _ _ _ _ _; first | refine ew_p (h := ?_) | refine ew_ld (h := ?_) | (refine ew_fresh ?_; intro b hb; refine ew_nw hb (h := ?_); (try simp only [AHeap.push_next, AHeap.put_next] at hb)) | refine ew_st (h := ?_) | (refine ew_df (ht := ?_) (hf := ?_) <;> intro _) | refine w_nil ?_)
    | (show EC _ _ _ _ _ _ _; first | refine k_seq ?_ | refine k_region ?_ | refine k_skip ?_ | refine k_ret ?_ | refine k_exit ?_ | refine k_block ?_ | refine k_true (h := ?_) | refine k_false (h := ?_))
    | (show EX _ (bodyA _ _ _) _ _ _; first | refine x_end1 (hq := ?_))
    | (show EX _ _ _ _ _; first | refine x_normal ?_ | refine x_ret ?_ | refine x_exit ?_ | refine x_same ?_ | refine x_other (h := ?_) | refine x_bnormal ?_ | refine x_bret ?_))
  (first | (refine' ew_callS (hc := cr_call) (hR := ?_) (h := ?_); rotate_left 1) | (refine' ew_call (hc := cr_call) (hR := ?_) (h := ?_); rotate_left 1))
  · exact place_calls i hr hAll (by omega) hi2
  rintro _ H1 ⟨rfl, rfl⟩
  rcases placeP_spec A i with ⟨h1, h2⟩ | ⟨q, x, h1, h2, h3, h4, h5⟩
  · have hc1 : refCopyP A i = A := by unfold refCopyP; rw [h1]
    have hc2 : copyP (flight A) i = (224, flight A) := by unfold copyP; rw [h1]
    rw [h2]
    repeat' (first
    | (show EW _ _ _ _ _; first | refine ew_p (h := ?_) | refine ew_ld (h := ?_) | (refine ew_fresh ?_; intro b hb; refine ew_nw hb (h := ?_); (try simp only [AHeap.push_next, AHeap.put_next] at hb)) | refine ew_st (h := ?_) | (refine ew_df (ht := ?_) (hf := ?_) <;> intro _) | refine w_nil ?_)
    | (show EC _ _ _ _ _ _ _; first | refine k_seq ?_ | refine k_region ?_ | refine k_skip ?_ | refine k_ret ?_ | refine k_exit ?_ | refine k_block ?_ | refine k_true (h := ?_) | refine k_false (h := ?_))
    | (show EX _ (bodyA _ _ _) _ _ _; first | refine x_end1 (hq := ?_))
    | (show EX _ _ _ _ _; first | refine x_normal ?_ | refine x_ret ?_ | refine x_exit ?_ | refine x_same ?_ | refine x_other (h := ?_) | refine x_bnormal ?_ | refine x_bret ?_))
    exact ⟨by rw [hc2], Keep.refl, F, by rw [hc1]; exact t, Grow.refl⟩
  rw [h1]
  have hqA : q < A.length := (List.getElem?_eq_some_iff.1 h2).1
  by_cases hfull : (flight A).length = 256
  · have hc1 : refCopyP A i = A := by unfold refCopyP; rw [h3]; exact if_pos hfull
    have hc2 : copyP (flight A) i = (223, flight A) := by unfold copyP; rw [h3]; exact if_pos hfull
    repeat' (first
    | (show EW _ _ _ _ _; first | refine ew_p (h := ?_) | refine ew_ld (h := ?_) | (refine ew_fresh ?_; intro b hb; refine ew_nw hb (h := ?_); (try simp only [AHeap.push_next, AHeap.put_next] at hb)) | refine ew_st (h := ?_) | (refine ew_df (ht := ?_) (hf := ?_) <;> intro _) | refine w_nil ?_)
    | (show EC _ _ _ _ _ _ _; first | refine k_seq ?_ | refine k_region ?_ | refine k_skip ?_ | refine k_ret ?_ | refine k_exit ?_ | refine k_block ?_ | refine k_true (h := ?_) | refine k_false (h := ?_))
    | (show EX _ (bodyA _ _ _) _ _ _; first | refine x_end1 (hq := ?_))
    | (show EX _ _ _ _ _; first | refine x_normal ?_ | refine x_ret ?_ | refine x_exit ?_ | refine x_same ?_ | refine x_other (h := ?_) | refine x_bnormal ?_ | refine x_bret ?_))
    exact ⟨by rw [hc2], Keep.refl, F, by rw [hc1]; exact t, Grow.refl⟩
  have hc1 : refCopyP A i = A ++ [some x] := by unfold refCopyP; rw [h3]; exact if_neg hfull
  have hc2 : copyP (flight A) i = (0, flight A ++ [x]) := by unfold copyP; rw [h3]; exact if_neg hfull
  obtain ⟨ad, c', cs, hsv, hO', hltb, hc4, he, hc1'⟩ := hAll.at h2
  simp only [Value.slice.injEq, true_and] at hsv
  obtain ⟨rfl, rfl⟩ := hsv
  obtain ⟨dv, rfl, hbr⟩ := he
  obtain ⟨zd, cd, rfl⟩ := Rd.slice hbr
  have hxs : x.2.2.length ≤ 32776 := hsz x (by have := atI_some h3; unfold atI at h3; rw [if_pos this.1] at h3; exact List.mem_of_getElem? h3)
  repeat' (first
    | (show EW _ _ _ _ _; first | refine ew_p (h := ?_) | refine ew_ld (h := ?_) | (refine ew_fresh ?_; intro b hb; refine ew_nw hb (h := ?_); (try simp only [AHeap.push_next, AHeap.put_next] at hb)) | refine ew_st (h := ?_) | (refine ew_df (ht := ?_) (hf := ?_) <;> intro _) | refine w_nil ?_)
    | (show EC _ _ _ _ _ _ _; first | refine k_seq ?_ | refine k_region ?_ | refine k_skip ?_ | refine k_ret ?_ | refine k_exit ?_ | refine k_block ?_ | refine k_true (h := ?_) | refine k_false (h := ?_))
    | (show EX _ (bodyA _ _ _) _ _ _; first | refine x_end1 (hq := ?_))
    | (show EX _ _ _ _ _; first | refine x_normal ?_ | refine x_ret ?_ | refine x_exit ?_ | refine x_same ?_ | refine x_other (h := ?_) | refine x_bnormal ?_ | refine x_bret ?_))
  have hk2 : Keep No H1 ((H1.push (.row ⟨[.int .i64 0, .int .i64 0, .slice none 0 0, .bool false], 126, 0, true⟩)).put b (.row ⟨[.int .i64 x.1, .int .i64 x.2.1, .slice zd x.2.2.length cd, .bool false], 126, 0, true⟩)) := by exact kp
  (first | (refine' ew_callS (hc := cr_call) (hR := ?_) (h := ?_); rotate_left 1) | (refine' ew_call (hc := cr_call) (hR := ?_) (h := ?_); rotate_left 1))
  · exact reflay_calls (r.keep0 hk2) x.1 x.2.1 (Rd.keep0 hbr hk2) (by omega) hA
  rintro _ H2 ⟨rfl, hk3, O', D', r3, hO3, hD3⟩
  repeat' (first
    | (show EW _ _ _ _ _; first | refine ew_p (h := ?_) | refine ew_ld (h := ?_) | (refine ew_fresh ?_; intro b hb; refine ew_nw hb (h := ?_); (try simp only [AHeap.push_next, AHeap.put_next] at hb)) | refine ew_st (h := ?_) | (refine ew_df (ht := ?_) (hf := ?_) <;> intro _) | refine w_nil ?_)
    | (show EC _ _ _ _ _ _ _; first | refine k_seq ?_ | refine k_region ?_ | refine k_skip ?_ | refine k_ret ?_ | refine k_exit ?_ | refine k_block ?_ | refine k_true (h := ?_) | refine k_false (h := ?_))
    | (show EX _ (bodyA _ _ _) _ _ _; first | refine x_end1 (hq := ?_))
    | (show EX _ _ _ _ _; first | refine x_normal ?_ | refine x_ret ?_ | refine x_exit ?_ | refine x_same ?_ | refine x_other (h := ?_) | refine x_bnormal ?_ | refine x_bret ?_))
  have hn2 := hk2.1
  refine ⟨by rw [hc2], (hk2.no).trans (F := F) hk3 (fun b _ hb => hF b (hb.imp id .inl)), fun b => b = k ∨ O' b ∨ D' b, ?_, ?_⟩
  · rw [hc1]
    refine ⟨O', D', r3, fun b hb => hb, fun b hb => ?_, by rw [flight_snoc]; simp; omega, fun y hy => ?_⟩
    · rcases hb with rfl | hb | hb
      · exact r3.kn
      · exact r3.ob b hb
      · exact r3.db b hb
    · rw [flight_snoc] at hy
      rcases List.mem_append.1 hy with hy | hy
      · exact hsz y hy
      · obtain rfl := List.mem_singleton.1 hy
        exact hxs
  · rintro b (rfl | hb | hb)
    · exact .inl (hF _ (.inl rfl))
    · exact (hO3 b hb).imp (fun h => hF b (.inr (.inl h))) fun h => Nat.le_trans hn2 h
    · exact (hD3 b hb).imp (fun h => hF b (.inr (.inr h))) fun h => Nat.le_trans hn2 h

end Go.Ae

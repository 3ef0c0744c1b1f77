/- value's quote and plain. Condition: the text has at most a million bytes. -/
import Derived.Test.YtmibkoadjehdaaaGreatDoorKy44
import Derived.Test.YtmibkoadjehdaaaGreatDoorKy38
set_option linter.unusedVariables false
set_option linter.unusedSimpArgs false
set_option linter.unusedSimpArgs false
set_option linter.unusedVariables false
set_option linter.unnecessarySimpa false
set_option maxRecDepth 100000
set_option maxHeartbeats 800000
namespace Go.Ae
open Go.Proofs Go.Proofs.YtmibkoadjehdaaaGreatDoor
section
variable {P : Program} {N : Nat} {E : Env} {H : AHeap} {d' : Option Nat} {t ty : TypeId} {p : String} {af : Array Edge} {g : Option (Nat × Bool)} {x : Operand}
theorem er_range {s : ByteArray} (ut : UnT P t .string := by exact inferInstance) (hx : evE E x = some (.string s) := by exact rfl) : Er P N E H ⟨d', .range t x, ty, p, af, g⟩ (.pointer (some ⟨H.next, 0, none⟩)) (H.push (.iter s 0)) :=
  ⟨rfl, fun a ha => ⟨rfl, by simp [aE, aO, rangeA, ut.h, ha.eval hx]⟩⟩
theorem er_nextT {s : ByteArray} {r q : Nat} (hx : evE E x = some (.pointer (some ⟨r, 0, none⟩)) := by exact rfl) (hg : H.get r = some (.iter s q)) (hq : q < s.size) :
    Er P N E H ⟨d', .next x true, ty, p, af, g⟩ (.tuple #[.bool true, .int .i64 q, .int .i32 (Utf8.decode s q).1]) (H.put r (.iter s (q + (Utf8.decode s q).2))) :=
  ⟨rfl, fun a ha => ⟨rfl, by simp [aE, aO, nextA, ha.eval hx, hg, hq, verOf]⟩⟩
theorem er_nextD {s : ByteArray} {r q c w : Nat} (hx : evE E x = some (.pointer (some ⟨r, 0, none⟩)) := by exact rfl) (hg : H.get r = some (.iter s q)) (hq : q < s.size) (hd : Utf8.decode s q = (c, w)) :
    Er P N E H ⟨d', .next x true, ty, p, af, g⟩ (.tuple #[.bool true, .int .i64 q, .int .i32 c]) (H.put r (.iter s (q + w))) := by
  have := er_nextT (P := P) (N := N) (d' := d') (ty := ty) (p := p) (af := af) (g := g) hx hg hq
  rwa [hd] at this
theorem er_nextF {s : ByteArray} {r q : Nat} (hx : evE E x = some (.pointer (some ⟨r, 0, none⟩)) := by exact rfl) (hg : H.get r = some (.iter s q)) (hq : ¬ q < s.size) :
    Er P N E H ⟨d', .next x true, ty, p, af, g⟩ (.tuple #[.bool false]) H :=
  ⟨rfl, fun a ha => ⟨rfl, by simp [aE, aO, nextA, ha.eval hx, hg, hq, verOf]⟩⟩
end
attribute [local irreducible] awC wpSeq wpS nRes aw aE acall ACalls szT isAggT zeroT byT elemSz fieldOff Program.underlying appendA copyA thenA inBlockA bodyA AHeap.push AHeap.put AHeap.cellsAt AHeap.setCells resV loadA intBin EW EC EX Nr Nc Er Cr Agree
theorem strB_decode (s : List UInt8) (i : Nat) : Utf8.decode (strB s) i = Lib.decodeL (s.drop i) := by
  rw [← Lib.decodeL_drop]
  simp [strB]
def tbl204 : Tbl := []
def tbl157 : Tbl := []
theorem pln_calls {H : AHeap} (c n : Nat) : ACalls Tryz.prog 204 #[.int .i32 (c : Int), .int .i64 (n : Int)] H fun v H' => v = .bool (plainN c n) ∧ H' = H := by
  refine k_open (args := [.int .i32 (c : Int), .int .i64 (n : Int)]) (E0 := [(0, .int .i32 (c : Int)), (1, .int .i64 (n : Int))]) tbl204 Tryz.func204 rfl follows (by kernel_rfl) Tryz.ntmps204 rfl rfl ?_
  repeat' (first
    | (show EW _ _ _ _ _; first | refine ew_p (h := ?_) | refine ew_skip (h := ?_) | (refine ew_df (ht := ?_) (hf := ?_) <;> intro _) | refine w_nil ?_)
    | (show EC _ _ _ _ _ _ _; first | refine k_seq ?_ | refine k_region ?_ | refine k_skip ?_ | refine k_ret ?_ | refine k_exit ?_ | refine k_block ?_ | refine k_true (h := ?_) | refine k_false (h := ?_))
    | (show EX _ (bodyA _ _ _) _ _ _; first | refine x_end1 (hq := ?_))
    | (show EX _ _ _ _ _; first | refine x_normal ?_ | refine x_ret ?_ | refine x_exit ?_ | refine x_same ?_ | refine x_other (h := ?_) | refine x_bnormal ?_ | refine x_bret ?_))
  all_goals
    refine ⟨?_, rfl⟩
    congr 1
    unfold plainN
    (first
      | (rw [decide_eq_true (p := 32 ≤ c) (by omega)]; skip)
      | (rw [decide_eq_false (p := 32 ≤ c) (by omega)]; skip))
    (first
      | (rw [decide_eq_true (p := c ≤ 126) (by omega)]; skip)
      | (rw [decide_eq_false (p := c ≤ 126) (by omega)]; skip)
      | skip)
    (first
      | (rw [decide_eq_true (p := 160 ≤ c) (by omega)]; skip)
      | (rw [decide_eq_false (p := 160 ≤ c) (by omega)]; skip)
      | skip)
    (first
      | (rw [decide_eq_true (p := 1 < n) (by omega)]; skip)
      | (rw [decide_eq_false (p := 1 < n) (by omega)]; skip)
      | skip)
    first | rfl | simp
/-- Where the round stands. -/
def TI (H0 : AHeap) (q r : Nat) (X : Blks) (s bs : List UInt8) (n : Nat) (E : Env) (H : AHeap) : Prop :=
  Keep (BuF q X) H0 H ∧ H0.next ≤ r ∧ r < H.next ∧ ∃ (i k : Nat) (Y : List UInt8), i ≤ s.length ∧ n = s.length - i ∧ s.length - i ≤ k ∧ H.get r = some (.iter (strB s) i) ∧ Bu H q (fun j => X j ∧ j ≠ r) (bs ++ Y) ∧ Y ++ bodyF k (s.drop i) = [34] ++ bodyF s.length s ∧
    E = [(13, .pointer (some ⟨r, 0, none⟩)), (0, .pointer (some ⟨q, 0, none⟩)), (1, .string (strB s))]
theorem bodyF_len (k : Nat) {l : List UInt8} (h : l.length ≤ k) : (bodyF k l).length ≤ 4 * l.length := by
  have h1 := flat_ge (bodyF k l)
  rw [body_law k h] at h1
  have h2 := flat_len qByte_len l
  omega
theorem TI.next {H0 H H2 : AHeap} {q r i k w : Nat} {X : Blks} {s bs Y y : List UInt8} (hk : Keep (BuF q X) H0 H) (h0 : H0.next ≤ r) (hr : r < H.next) (hlt : i < s.length) (hw : w = (Lib.decodeL (s.drop i)).2) (hw1 : 1 ≤ w) (hw2 : i + w ≤ s.length)
    (hfk : s.length - i ≤ k) (hf : Y ++ bodyF k (s.drop i) = [34] ++ bodyF s.length s) (hg : H2.get r = some (.iter (strB s) (i + w))) (hb : Bu H2 q (fun j => X j ∧ j ≠ r) (bs ++ Y ++ y)) (hk2 : Keep (BuF q X) H H2) (hy : outR (s.drop i) = y) :
    TI H0 q r X s bs (s.length - (i + w)) [(13, .pointer (some ⟨r, 0, none⟩)), (0, .pointer (some ⟨q, 0, none⟩)), (1, .string (strB s))] H2 := by
  refine ⟨BuF.trans hk hk2, h0, Nat.lt_of_lt_of_le hr hk2.1, i + w, k - 1, Y ++ y, hw2, rfl, by omega, hg, by rw [← List.append_assoc]; exact hb, ?_, rfl⟩
  obtain ⟨k', rfl⟩ : ∃ k', k = k' + 1 := ⟨k - 1, by omega⟩
  rw [← hf, Nat.add_sub_cancel]
  have hne : s.drop i ≠ [] := fun h => by have := congrArg List.length h; rw [List.length_drop] at this; simp at this; omega
  conv => rhs; unfold bodyF
  rw [if_neg hne, hy, List.drop_drop, ← hw, List.append_assoc]
theorem TI.step {H0 H4 H5 HZ : AHeap} {q r i k c w : Nat} {X : Blks} {s bs Y y : List UInt8} (hqr : q ≠ r) (hX : ∀ j, r ≤ j → X j) (hk : Keep (BuF q X) H0 H4) (h0 : H0.next ≤ r) (hr : r < H4.next) (hlt : i < s.length) (hd : Lib.decodeL (s.drop i) = (c, w)) (hw1 : 1 ≤ w) (hw2 : i + w ≤ s.length)
    (hfk : s.length - i ≤ k) (hf : Y ++ bodyF k (s.drop i) = [34] ++ bodyF s.length s) (n5 : H5.next = H4.next) (g5 : H5.get r = some (.iter (strB s) (i + w))) (k45 : Keep (BuF q X) H4 H5) (kZ : Keep (BuF q (fun j => X j ∧ j ≠ r)) H5 HZ) (hb : Bu HZ q (fun j => X j ∧ j ≠ r) (bs ++ Y ++ y)) (hy : outD (s.drop i) (c, w) = y) :
    TI H0 q r X s bs (s.length - (i + w)) [(13, .pointer (some ⟨r, 0, none⟩)), (0, .pointer (some ⟨q, 0, none⟩)), (1, .string (strB s))] HZ :=
  TI.next hk h0 hr hlt (by rw [hd]) hw1 hw2 hfk hf (kZ.get g5 (by omega) (fun h => h.elim (fun h => hqr h.symm) fun h => h.2 rfl)) hb (BuF.trans k45 (kZ.weak fun _ _ h => h.imp id fun h => h.1)) (by unfold outR; rw [hd]; exact hy)
/-- The bytes of a rune that is not plain. -/
def HxI (H0 : AHeap) (q r r2 cap : Nat) (X : Blks) (s bs xs : List UInt8) (n : Nat) (E : Env) (H : AHeap) : Prop :=
  Keep (BuF q X) H0 H ∧ r2 < H.next ∧ H.get r2 = some (.row ⟨bytesV xs, 5, 0, true⟩) ∧ ∃ j, n + j = xs.length ∧ Bu H q (fun m => X m ∧ m ≠ r2) (bs ++ (xs.take j).flatMap hexQ) ∧
    E = [(33, .int .i64 j), (32, .int .i64 xs.length), (31, .slice (some ⟨r2, 0, none⟩) xs.length cap), (13, .pointer (some ⟨r, 0, none⟩)), (0, .pointer (some ⟨q, 0, none⟩)), (1, .string (strB s))]
theorem HxI.next {H0 H H' : AHeap} {q r r2 cap n j : Nat} {X : Blks} {s bs xs : List UInt8} (hq2 : q ≠ r2) (hk : Keep (BuF q X) H0 H) (hr : r2 < H.next) (hg : H.get r2 = some (.row ⟨bytesV xs, 5, 0, true⟩)) (hlt : j < xs.length) (hn : n + j = xs.length)
    (hb : Bu H' q (fun m => X m ∧ m ≠ r2) (bs ++ (xs.take j).flatMap hexQ ++ hexQ xs[j])) (hk' : Keep (BuF q (fun m => X m ∧ m ≠ r2)) H H') :
    HxI H0 q r r2 cap X s bs xs (n - 1) [(33, .int .i64 ((j : Int) + 1)), (32, .int .i64 xs.length), (31, .slice (some ⟨r2, 0, none⟩) xs.length cap), (13, .pointer (some ⟨r, 0, none⟩)), (0, .pointer (some ⟨q, 0, none⟩)), (1, .string (strB s))] H' :=
  ⟨BuF.trans hk (hk'.weak fun _ _ h => h.imp id fun h => h.1), Nat.lt_of_lt_of_le hr hk'.1, hk'.get hg hr (fun h => h.elim (fun h => hq2 h.symm) fun h => h.2 rfl), j + 1, by omega, by rw [flat_take hlt, ← List.append_assoc]; exact hb, rfl⟩
theorem rune_calls' {H : AHeap} (hg : ∀ p ∈ globs, H.get p.1 = some (.row p.2)) {s : List UInt8} {c w : Nat} (hs : s ≠ []) (hd : Lib.decodeL s = (c, w)) : ACalls Tryz.prog 203 #[.string (strB s)] H fun v H' => v = .tuple #[.int .i32 (c : Int), .int .i64 (w : Int)] ∧ H' = H := by
  have := rune_calls hg s hs
  rw [hd] at this
  exact this
/-- quote(b, s) -/
theorem qt_calls {H : AHeap} {q : Nat} {X : Blks} {bs : List UInt8} (s : List UInt8) (hs : s.length ≤ 1000000) (hb : Bu H q X bs) (hX : ∀ i, H.next ≤ i → X i) (hL : bs.length ≤ 1000000) (hg : ∀ p ∈ globs, H.get p.1 = some (.row p.2)) (hn14 : 14 ≤ H.next) (hX14 : ∀ i, BuF q X i → 14 ≤ i) :
    ACalls Tryz.prog 157 #[.pointer (some ⟨q, 0, none⟩), .string (strB s)] H fun v H' => Bu H' q X (bs ++ valT s) ∧ Keep (BuF q X) H H' := by
  have hXq : ¬ X q := by obtain ⟨_, _, _, _, _, _, _, h⟩ := hb; exact h
  have hq0 : q < H.next := by obtain ⟨_, _, _, _, _, _, h, _⟩ := hb; exact h
  refine k_open (args := [.pointer (some ⟨q, 0, none⟩), .string (strB s)]) (E0 := [(0, .pointer (some ⟨q, 0, none⟩)), (1, .string (strB s))]) tbl157 Tryz.func157 rfl follows (by kernel_rfl) Tryz.ntmps157 rfl rfl ?_
  repeat' (first
    | (show EW _ _ _ _ _; first | refine ew_p (h := ?_) | refine ew_skip (h := ?_) | refine ew_ld (h := ?_) | refine ew_ci (h := ?_) | refine ew_conv (hn := r_conv_br (h := by first | assumption | (apply Rd.keep0; (focus assumption); exact kp))) (h := ?_) | (refine ew_df (ht := ?_) (hf := ?_) <;> intro _) | refine ew_ar (h := ?_) | refine w_nil ?_)
    | (show EC _ _ _ _ _ _ _; first | refine k_seq ?_ | refine k_region ?_ | refine k_skip ?_ | refine k_ret ?_ | refine k_exit ?_ | refine k_block ?_ | refine k_true (h := ?_) | refine k_false (h := ?_))
    | (show EX _ (bodyA _ _ _) _ _ _; first | refine x_end0 (hq := ?_))
    | (show EX _ _ _ _ _; first | refine x_normal ?_ | refine x_ret ?_ | refine x_exit ?_ | refine x_same ?_ | refine x_other (h := ?_) | refine x_bnormal ?_ | refine x_bret ?_))
  refine ew_callS (hc := cr_call) (hR := wb_calls 34 hb hX (by omega)) (h := ?_)
  rintro _ H2 ⟨rfl, hb2, k2⟩
  have n2 := k2.1
  repeat' (first
    | (show EW _ _ _ _ _; first | refine ew_e (he := er_range) (hk := Mode.kept_seq rfl) (h := ?_) | refine ew_p (h := ?_) | refine ew_skip (h := ?_) | refine ew_ld (h := ?_) | refine ew_ci (h := ?_) | refine ew_conv (hn := r_conv_br (h := by first | assumption | (apply Rd.keep0; (focus assumption); exact kp))) (h := ?_) | (refine ew_df (ht := ?_) (hf := ?_) <;> intro _) | refine ew_ar (h := ?_) | refine w_nil ?_)
    | (show EC _ _ _ _ _ _ _; first | refine k_seq ?_ | refine k_region ?_ | refine k_skip ?_ | refine k_ret ?_ | refine k_exit ?_ | refine k_block ?_ | refine k_true (h := ?_) | refine k_false (h := ?_))
    | (show EX _ (bodyA _ _ _) _ _ _; first | refine x_end0 (hq := ?_))
    | (show EX _ _ _ _ _; first | refine x_normal ?_ | refine x_ret ?_ | refine x_exit ?_ | refine x_same ?_ | refine x_other (h := ?_) | refine x_bnormal ?_ | refine x_bret ?_))
  obtain ⟨r, hr⟩ : ∃ r, r = H2.next := ⟨_, rfl⟩
  have kr : Keep No H2 (H2.push (.iter (strB s) 0)) := Keep.refl.push
  have nr : (H2.push (.iter (strB s) 0)).next = H2.next + 1 := AHeap.push_next ..
  have gr : (H2.push (.iter (strB s) 0)).get r = some (.iter (strB s) 0) := by rw [AHeap.push_get, if_pos hr]
  have hb3 := (hb2.weak (Y := fun j => X j ∧ j ≠ r) (fun i hi h => ⟨h, by omega⟩) (fun h => hXq h.1)).keep0 kr
  rw [← hr]
  generalize H2.push (.iter (strB s) 0) = H3 at hb3 kr nr gr ⊢
  refine k_loop follows (TI H q r X s bs) (s.length - 0) [(13, _), (0, _), (1, _)] (by kernel_rfl) ⟨rfl, rfl, rfl, trivial⟩ ⟨BuF.trans k2 kr.no, by omega, by omega, 0, s.length, [34], by omega, rfl, by omega, gr, hb3, rfl, rfl⟩ ?_
  clear hb3 hb2 gr kr k2
  rintro n E H4 ⟨hk, h0, hr4, i, k, Y, hi, rfl, hfk, hg4, hb4, hf, rfl⟩
  have hb4q : q < H4.next := Nat.lt_of_lt_of_le hq0 hk.1
  have hYl : Y.length ≤ 4 * s.length + 1 := by
    have h1 := congrArg List.length hf
    have h2 := bodyF_len s.length (l := s) (Nat.le_refl _)
    simp only [List.length_append, List.length_cons, List.length_nil] at h1
    omega
  have hsz := strB_size s
  by_cases hlt : i < s.length
  · have hne : s.drop i ≠ [] := fun h => by have := congrArg List.length h; rw [List.length_drop] at this; simp at this; omega
    obtain ⟨⟨c, w⟩, hd⟩ : ∃ d, Lib.decodeL (s.drop i) = d := ⟨_, rfl⟩
    have hdec := (strB_decode s i).trans hd
    have hw1 := Lib.decodeL_width (s.drop i)
    have hw2 := Lib.decodeL_le (s.drop i) hne
    obtain ⟨o1, o2⟩ := rune_ok (s.drop i)
    rw [hd] at hw1 hw2 o1 o2
    rw [List.length_drop] at hw2
    have hqr : q ≠ r := by omega
    obtain ⟨x, hx0⟩ : ∃ x, x = s[i] := ⟨_, rfl⟩
    have hcell : s[i]? = some x := by rw [hx0, List.getElem?_eq_getElem hlt]
    have hget : (s.drop i).getD 0 0 = x := by simp [List.getD_eq_getElem?_getD, hcell]
    dsimp only at hw1 hw2 o1 o2
    have hw2 : i + w ≤ s.length := by omega
    repeat' (first
    | (show EW _ _ _ _ _; first | refine ew_e (he := er_nextD (hg := hg4) (hq := by omega) (hd := hdec)) (hk := Mode.kept_seq rfl) (h := ?_) | refine ew_n (hn := r_strsl1 (l := i) (e1 := rfl) (hr := rfl) (h3 := by omega)) (h := ?_) | refine ew_p (h := ?_) | refine ew_skip (h := ?_) | refine ew_ld (h := ?_) | refine ew_ci (h := ?_) | refine ew_conv (hn := r_conv_br (h := by first | assumption | (apply Rd.keep0; (focus assumption); exact kp))) (h := ?_) | (refine ew_df (ht := ?_) (hf := ?_) <;> intro _) | refine ew_ar (h := ?_) | refine w_nil ?_)
    | (show EC _ _ _ _ _ _ _; first | refine k_seq ?_ | refine k_region ?_ | refine k_skip ?_ | refine k_ret ?_ | refine k_exit ?_ | refine k_block ?_ | refine k_true (h := ?_) | refine k_false (h := ?_))
    | (show EX _ (bodyA _ _ _) _ _ _; first | refine x_end0 (hq := ?_))
    | (show EX _ _ _ _ _; first | refine x_normal ?_ | refine x_ret ?_ | refine x_exit ?_ | refine x_same ?_ | refine x_other (h := ?_) | refine x_bnormal ?_ | refine x_bret ?_))
    have k45 : Keep (BuF q X) H4 (H4.put r (.iter (strB s) (i + w))) := Keep.refl.put fun _ => .inr (hX r (by omega))
    have n5 : (H4.put r (.iter (strB s) (i + w))).next = H4.next := AHeap.put_next ..
    have g5 : (H4.put r (.iter (strB s) (i + w))).get r = some (.iter (strB s) (i + w)) := by rw [AHeap.put_get, if_pos rfl]
    have hb5 := hb4.keep (G := fun j => j = r) (Keep.refl.put (o := .iter (strB s) (i + w)) fun _ => rfl) hqr (fun j _ h he => h.2 he)
    generalize H4.put r (.iter (strB s) (i + w)) = H5 at k45 n5 g5 hb5 ⊢
    have hk5 : Keep (BuF q X) H H5 := BuF.trans hk k45
    have hg5 : ∀ p ∈ globs, H5.get p.1 = some (.row p.2) := fun p hp => hk5.get (hg p hp) (Nat.lt_of_lt_of_le (glob14 p hp) hn14) (fun h => by have := hX14 _ h; have := glob14 p hp; omega)
    refine ew_callS (hc := cr_call) (hR := rune_calls' hg5 hne hd) (h := ?_)
    rintro _ Hz ⟨rfl, he⟩; obtain rfl := he.symm
    repeat' (first
    | (show EW _ _ _ _ _; first | refine ew_p (h := ?_) | refine ew_skip (h := ?_) | refine ew_ld (h := ?_) | refine ew_ci (h := ?_) | refine ew_conv (hn := r_conv_br (h := by first | assumption | (apply Rd.keep0; (focus assumption); exact kp))) (h := ?_) | (refine ew_df (ht := ?_) (hf := ?_) <;> intro _) | refine ew_ar (h := ?_) | refine w_nil ?_)
    | (show EC _ _ _ _ _ _ _; first | refine k_seq ?_ | refine k_region ?_ | refine k_skip ?_ | refine k_ret ?_ | refine k_exit ?_ | refine k_block ?_ | refine k_true (h := ?_) | refine k_false (h := ?_))
    | (show EX _ (bodyA _ _ _) _ _ _; first | refine x_end0 (hq := ?_))
    | (show EX _ _ _ _ _; first | refine x_normal ?_ | refine x_ret ?_ | refine x_exit ?_ | refine x_same ?_ | refine x_other (h := ?_) | refine x_bnormal ?_ | refine x_bret ?_))
    · refine ew_callS (hc := cr_call) (hR := wb_calls 92 hb5 (fun j hj => ⟨hX j (by omega), by omega⟩) (by first | omega | (simp only [List.length_append, List.length_cons, List.length_nil]; omega))) (h := ?_)
      rintro _ Ha ⟨rfl, bHa, ka⟩
      have nHa := ka.1
      repeat' (first
    | (show EW _ _ _ _ _; first | refine ew_p (h := ?_) | refine ew_skip (h := ?_) | refine ew_ld (h := ?_) | refine ew_ci (h := ?_) | refine ew_conv (hn := r_conv_br (h := by first | assumption | (apply Rd.keep0; (focus assumption); exact kp))) (h := ?_) | (refine ew_df (ht := ?_) (hf := ?_) <;> intro _) | refine ew_ar (h := ?_) | refine ew_p2 (h := ?_) | (refine ew_df2 (ht := ?_) (hf := ?_) <;> intro _) | refine w_nil ?_)
    | (show EC _ _ _ _ _ _ _; first | refine k_seq ?_ | refine k_region ?_ | refine k_skip ?_ | refine k_ret ?_ | refine k_exit ?_ | refine k_block ?_ | refine k_true (h := ?_) | refine k_false (h := ?_))
    | (show EX _ (bodyA _ _ _) _ _ _; first | refine x_end0 (hq := ?_))
    | (show EX _ _ _ _ _; first | refine x_normal ?_ | refine x_ret ?_ | refine x_exit ?_ | refine x_same ?_ | refine x_other (h := ?_) | refine x_bnormal ?_ | refine x_bret ?_))
      refine ew_callS (hc := cr_call) (hR := wb_calls x bHa (fun j hj => ⟨hX j (by omega), by omega⟩) (by first | omega | (simp only [List.length_append, List.length_cons, List.length_nil]; omega))) (h := ?_)
      rintro _ Hb ⟨rfl, bHb, kb⟩
      have nHb := kb.1
      repeat' (first
    | (show EW _ _ _ _ _; first | refine ew_p (h := ?_) | refine ew_skip (h := ?_) | refine ew_ld (h := ?_) | refine ew_ci (h := ?_) | refine ew_conv (hn := r_conv_br (h := by first | assumption | (apply Rd.keep0; (focus assumption); exact kp))) (h := ?_) | (refine ew_df (ht := ?_) (hf := ?_) <;> intro _) | refine ew_ar (h := ?_) | refine w_nil ?_)
    | (show EC _ _ _ _ _ _ _; first | refine k_seq ?_ | refine k_region ?_ | refine k_skip ?_ | refine k_ret ?_ | refine k_exit ?_ | refine k_block ?_ | refine k_true (h := ?_) | refine k_false (h := ?_))
    | (show EX _ (bodyA _ _ _) _ _ _; first | refine x_end0 (hq := ?_))
    | (show EX _ _ _ _ _; first | refine x_normal ?_ | refine x_ret ?_ | refine x_exit ?_ | refine x_same ?_ | refine x_other (h := ?_) | refine x_bnormal ?_ | refine x_bret ?_))
      exact x_again (s.length - (i + w)) [(13, _), (0, _), (1, _)] ⟨rfl, rfl, rfl, trivial⟩ (by omega) (TI.step hqr (fun j hj => hX j (by omega)) hk h0 hr4 hlt hd hw1 hw2 hfk hf n5 g5 k45 (BuF.trans ka kb) (y := [92, x]) (by simpa using bHb) (by unfold outD; rw [if_pos (by dsimp only; omega), hget]))
    · refine ew_callS (hc := cr_call) (hR := wb_calls 92 hb5 (fun j hj => ⟨hX j (by omega), by omega⟩) (by first | omega | (simp only [List.length_append, List.length_cons, List.length_nil]; omega))) (h := ?_)
      rintro _ Ha ⟨rfl, bHa, ka⟩
      have nHa := ka.1
      repeat' (first
    | (show EW _ _ _ _ _; first | refine ew_p (h := ?_) | refine ew_skip (h := ?_) | refine ew_ld (h := ?_) | refine ew_ci (h := ?_) | refine ew_conv (hn := r_conv_br (h := by first | assumption | (apply Rd.keep0; (focus assumption); exact kp))) (h := ?_) | (refine ew_df (ht := ?_) (hf := ?_) <;> intro _) | refine ew_ar (h := ?_) | refine ew_p2 (h := ?_) | (refine ew_df2 (ht := ?_) (hf := ?_) <;> intro _) | refine w_nil ?_)
    | (show EC _ _ _ _ _ _ _; first | refine k_seq ?_ | refine k_region ?_ | refine k_skip ?_ | refine k_ret ?_ | refine k_exit ?_ | refine k_block ?_ | refine k_true (h := ?_) | refine k_false (h := ?_))
    | (show EX _ (bodyA _ _ _) _ _ _; first | refine x_end0 (hq := ?_))
    | (show EX _ _ _ _ _; first | refine x_normal ?_ | refine x_ret ?_ | refine x_exit ?_ | refine x_same ?_ | refine x_other (h := ?_) | refine x_bnormal ?_ | refine x_bret ?_))
      refine ew_callS (hc := cr_call) (hR := wb_calls x bHa (fun j hj => ⟨hX j (by omega), by omega⟩) (by first | omega | (simp only [List.length_append, List.length_cons, List.length_nil]; omega))) (h := ?_)
      rintro _ Hb ⟨rfl, bHb, kb⟩
      have nHb := kb.1
      repeat' (first
    | (show EW _ _ _ _ _; first | refine ew_p (h := ?_) | refine ew_skip (h := ?_) | refine ew_ld (h := ?_) | refine ew_ci (h := ?_) | refine ew_conv (hn := r_conv_br (h := by first | assumption | (apply Rd.keep0; (focus assumption); exact kp))) (h := ?_) | (refine ew_df (ht := ?_) (hf := ?_) <;> intro _) | refine ew_ar (h := ?_) | refine w_nil ?_)
    | (show EC _ _ _ _ _ _ _; first | refine k_seq ?_ | refine k_region ?_ | refine k_skip ?_ | refine k_ret ?_ | refine k_exit ?_ | refine k_block ?_ | refine k_true (h := ?_) | refine k_false (h := ?_))
    | (show EX _ (bodyA _ _ _) _ _ _; first | refine x_end0 (hq := ?_))
    | (show EX _ _ _ _ _; first | refine x_normal ?_ | refine x_ret ?_ | refine x_exit ?_ | refine x_same ?_ | refine x_other (h := ?_) | refine x_bnormal ?_ | refine x_bret ?_))
      exact x_again (s.length - (i + w)) [(13, _), (0, _), (1, _)] ⟨rfl, rfl, rfl, trivial⟩ (by omega) (TI.step hqr (fun j hj => hX j (by omega)) hk h0 hr4 hlt hd hw1 hw2 hfk hf n5 g5 k45 (BuF.trans ka kb) (y := [92, x]) (by simpa using bHb) (by unfold outD; rw [if_pos (by dsimp only; omega), hget]))
    · refine ew_callS (hc := cr_call) (hR := ws_calls [92, 110] hb5 (fun j hj => ⟨hX j (by omega), by omega⟩) (by first | omega | (simp only [List.length_append, List.length_cons, List.length_nil]; omega))) (h := ?_)
      rintro _ Ha ⟨rfl, bHa, ka⟩
      have nHa := ka.1
      repeat' (first
    | (show EW _ _ _ _ _; first | refine ew_p (h := ?_) | refine ew_skip (h := ?_) | refine ew_ld (h := ?_) | refine ew_ci (h := ?_) | refine ew_conv (hn := r_conv_br (h := by first | assumption | (apply Rd.keep0; (focus assumption); exact kp))) (h := ?_) | (refine ew_df (ht := ?_) (hf := ?_) <;> intro _) | refine ew_ar (h := ?_) | refine w_nil ?_)
    | (show EC _ _ _ _ _ _ _; first | refine k_seq ?_ | refine k_region ?_ | refine k_skip ?_ | refine k_ret ?_ | refine k_exit ?_ | refine k_block ?_ | refine k_true (h := ?_) | refine k_false (h := ?_))
    | (show EX _ (bodyA _ _ _) _ _ _; first | refine x_end0 (hq := ?_))
    | (show EX _ _ _ _ _; first | refine x_normal ?_ | refine x_ret ?_ | refine x_exit ?_ | refine x_same ?_ | refine x_other (h := ?_) | refine x_bnormal ?_ | refine x_bret ?_))
      exact x_again (s.length - (i + w)) [(13, _), (0, _), (1, _)] ⟨rfl, rfl, rfl, trivial⟩ (by omega) (TI.step hqr (fun j hj => hX j (by omega)) hk h0 hr4 hlt hd hw1 hw2 hfk hf n5 g5 k45 (ka) (y := [92, 110]) (by simpa using bHa) (by unfold outD; rw [if_neg (by dsimp only; omega), if_pos (by dsimp only; omega)]))
    · refine ew_callS (hc := cr_call) (hR := ws_calls [92, 116] hb5 (fun j hj => ⟨hX j (by omega), by omega⟩) (by first | omega | (simp only [List.length_append, List.length_cons, List.length_nil]; omega))) (h := ?_)
      rintro _ Ha ⟨rfl, bHa, ka⟩
      have nHa := ka.1
      repeat' (first
    | (show EW _ _ _ _ _; first | refine ew_p (h := ?_) | refine ew_skip (h := ?_) | refine ew_ld (h := ?_) | refine ew_ci (h := ?_) | refine ew_conv (hn := r_conv_br (h := by first | assumption | (apply Rd.keep0; (focus assumption); exact kp))) (h := ?_) | (refine ew_df (ht := ?_) (hf := ?_) <;> intro _) | refine ew_ar (h := ?_) | refine w_nil ?_)
    | (show EC _ _ _ _ _ _ _; first | refine k_seq ?_ | refine k_region ?_ | refine k_skip ?_ | refine k_ret ?_ | refine k_exit ?_ | refine k_block ?_ | refine k_true (h := ?_) | refine k_false (h := ?_))
    | (show EX _ (bodyA _ _ _) _ _ _; first | refine x_end0 (hq := ?_))
    | (show EX _ _ _ _ _; first | refine x_normal ?_ | refine x_ret ?_ | refine x_exit ?_ | refine x_same ?_ | refine x_other (h := ?_) | refine x_bnormal ?_ | refine x_bret ?_))
      exact x_again (s.length - (i + w)) [(13, _), (0, _), (1, _)] ⟨rfl, rfl, rfl, trivial⟩ (by omega) (TI.step hqr (fun j hj => hX j (by omega)) hk h0 hr4 hlt hd hw1 hw2 hfk hf n5 g5 k45 (ka) (y := [92, 116]) (by simpa using bHa) (by unfold outD; rw [if_neg (by dsimp only; omega), if_neg (by dsimp only; omega), if_pos (by dsimp only; omega)]))
    · refine ew_callS (hc := cr_call) (hR := pln_calls c w) (h := ?_)
      rintro _ Hz ⟨rfl, he⟩; obtain rfl := he.symm
      cases hp : plainN c w
      · have hp' := hp
        obtain ⟨xs, hxs⟩ : ∃ xs, (s.drop i).take (i + w - i) = xs := ⟨_, rfl⟩
        have hxl : xs.length = w := by rw [← hxs, List.length_take, List.length_drop]; omega
        have hop : xs.length < openCap := by unfold openCap; omega
        repeat' (first
    | (show EW _ _ _ _ _; first | refine ew_n (hn := r_strsl2 (l := i) (h := i + w) (hr := hxs) (e1 := by omega) (e2 := by omega) (h3 := by omega) (h4 := by omega)) (h := ?_) | refine ew_p (h := ?_) | refine ew_skip (h := ?_) | refine ew_ld (h := ?_) | refine ew_ci (h := ?_) | refine ew_conv (hn := r_conv_br (h := by first | assumption | (apply Rd.keep0; (focus assumption); exact kp))) (h := ?_) | (refine ew_df (ht := ?_) (hf := ?_) <;> intro _) | refine ew_ar (h := ?_) | (refine ew_fresh ?_; intro r2 hr2; refine ew_conv (hn := r_bytes hr2 (hl := hop)) (h := ?_)) | refine w_nil ?_)
    | (show EC _ _ _ _ _ _ _; first | refine k_seq ?_ | refine k_region ?_ | refine k_skip ?_ | refine k_ret ?_ | refine k_exit ?_ | refine k_block ?_ | refine k_true (h := ?_) | refine k_false (h := ?_))
    | (show EX _ (bodyA _ _ _) _ _ _; first | refine x_end0 (hq := ?_))
    | (show EX _ _ _ _ _; first | refine x_normal ?_ | refine x_ret ?_ | refine x_exit ?_ | refine x_same ?_ | refine x_other (h := ?_) | refine x_bnormal ?_ | refine x_bret ?_))
        have k56 : Keep No H5 (H5.push (.row ⟨bytesV xs, 5, 0, true⟩)) := Keep.refl.push
        have n6 : (H5.push (.row ⟨bytesV xs, 5, 0, true⟩)).next = H5.next + 1 := AHeap.push_next ..
        have g6 : (H5.push (.row ⟨bytesV xs, 5, 0, true⟩)).get r2 = some (.row ⟨bytesV xs, 5, 0, true⟩) := by rw [AHeap.push_get, if_pos hr2]
        have hb6 := (hb5.weak (Y := fun j => (X j ∧ j ≠ r) ∧ j ≠ r2) (fun i hi h => ⟨h, by omega⟩) (fun h => hXq h.1.1)).keep0 k56
        generalize H5.push (.row ⟨bytesV xs, 5, 0, true⟩) = H6 at k56 n6 g6 hb6 ⊢
        refine k_loop follows (HxI H5 q r r2 (openCap + 1) (fun j => X j ∧ j ≠ r) s (bs ++ Y) xs) xs.length [(33, _), (32, _), (31, _), (13, _), (0, _), (1, _)] (by kernel_rfl) ⟨rfl, rfl, rfl, rfl, rfl, rfl, trivial⟩ ⟨k56.no, by omega, g6, 0, by omega, by simpa using hb6, rfl⟩ ?_
        clear hb6 g6
        rintro n E H7 ⟨hk7, hr7, g7, j, hj, hb7, rfl⟩
        have n7 := hk7.1
        have hfl := flat_len (f := hexQ) (k := 4) (fun _ => Nat.le_refl 4) (xs.take j)
        rw [List.length_take] at hfl
        by_cases hjl : j < xs.length
        · have hcell7 := row_byte g7 hjl
          obtain ⟨e, he0⟩ : ∃ e, e = xs[j] := ⟨_, rfl⟩
          rw [← he0] at hcell7
          repeat' (first
    | (show EW _ _ _ _ _; first | refine ew_p (h := ?_) | refine ew_skip (h := ?_) | refine ew_ld (h := ?_) | refine ew_ci (h := ?_) | refine ew_conv (hn := r_conv_br (h := by first | assumption | (apply Rd.keep0; (focus assumption); exact kp))) (h := ?_) | (refine ew_df (ht := ?_) (hf := ?_) <;> intro _) | refine ew_ar (h := ?_) | refine w_nil ?_)
    | (show EC _ _ _ _ _ _ _; first | refine k_seq ?_ | refine k_region ?_ | refine k_skip ?_ | refine k_ret ?_ | refine k_exit ?_ | refine k_block ?_ | refine k_true (h := ?_) | refine k_false (h := ?_))
    | (show EX _ (bodyA _ _ _) _ _ _; first | refine x_end0 (hq := ?_))
    | (show EX _ _ _ _ _; first | refine x_normal ?_ | refine x_ret ?_ | refine x_exit ?_ | refine x_same ?_ | refine x_other (h := ?_) | refine x_bnormal ?_ | refine x_bret ?_))
          refine ew_callS (hc := cr_call) (hR := ws_calls [92, 120] hb7 (fun j hj => ⟨⟨hX j (by omega), by omega⟩, by omega⟩) (by first | omega | (simp only [List.length_append, List.length_cons, List.length_nil]; omega))) (h := ?_)
          rintro _ Ha ⟨rfl, bHa, ka⟩
          have nHa := ka.1
          repeat' (first
    | (show EW _ _ _ _ _; first | refine ew_n (hn := r_strix (hi := shr4 e) (hb := hex_get (by have := e.toNat_lt; omega))) (h := ?_) | refine ew_n (hn := r_bin (hr := and15 e)) (h := ?_) | refine ew_n (hn := r_strix (hi := rfl) (hb := hex_get (n := e.toNat % 16) (by omega))) (h := ?_) | refine ew_p (h := ?_) | refine ew_skip (h := ?_) | refine ew_ld (h := ?_) | refine ew_ci (h := ?_) | refine ew_conv (hn := r_conv_br (h := by first | assumption | (apply Rd.keep0; (focus assumption); exact kp))) (h := ?_) | (refine ew_df (ht := ?_) (hf := ?_) <;> intro _) | refine ew_ar (h := ?_) | refine w_nil ?_)
    | (show EC _ _ _ _ _ _ _; first | refine k_seq ?_ | refine k_region ?_ | refine k_skip ?_ | refine k_ret ?_ | refine k_exit ?_ | refine k_block ?_ | refine k_true (h := ?_) | refine k_false (h := ?_))
    | (show EX _ (bodyA _ _ _) _ _ _; first | refine x_end0 (hq := ?_))
    | (show EX _ _ _ _ _; first | refine x_normal ?_ | refine x_ret ?_ | refine x_exit ?_ | refine x_same ?_ | refine x_other (h := ?_) | refine x_bnormal ?_ | refine x_bret ?_))
          refine ew_callS (hc := cr_call) (hR := wb_calls (hexD (e.toNat / 16)) bHa (fun j hj => ⟨⟨hX j (by omega), by omega⟩, by omega⟩) (by first | omega | (simp only [List.length_append, List.length_cons, List.length_nil]; omega))) (h := ?_)
          rintro _ Hb ⟨rfl, bHb, kb⟩
          have nHb := kb.1
          repeat' (first
    | (show EW _ _ _ _ _; first | refine ew_n (hn := r_strix (hi := shr4 e) (hb := hex_get (by have := e.toNat_lt; omega))) (h := ?_) | refine ew_n (hn := r_bin (hr := and15 e)) (h := ?_) | refine ew_n (hn := r_strix (hi := rfl) (hb := hex_get (n := e.toNat % 16) (by omega))) (h := ?_) | refine ew_p (h := ?_) | refine ew_skip (h := ?_) | refine ew_ld (h := ?_) | refine ew_ci (h := ?_) | refine ew_conv (hn := r_conv_br (h := by first | assumption | (apply Rd.keep0; (focus assumption); exact kp))) (h := ?_) | (refine ew_df (ht := ?_) (hf := ?_) <;> intro _) | refine ew_ar (h := ?_) | refine w_nil ?_)
    | (show EC _ _ _ _ _ _ _; first | refine k_seq ?_ | refine k_region ?_ | refine k_skip ?_ | refine k_ret ?_ | refine k_exit ?_ | refine k_block ?_ | refine k_true (h := ?_) | refine k_false (h := ?_))
    | (show EX _ (bodyA _ _ _) _ _ _; first | refine x_end0 (hq := ?_))
    | (show EX _ _ _ _ _; first | refine x_normal ?_ | refine x_ret ?_ | refine x_exit ?_ | refine x_same ?_ | refine x_other (h := ?_) | refine x_bnormal ?_ | refine x_bret ?_))
          refine ew_callS (hc := cr_call) (hR := wb_calls (hexD (e.toNat % 16)) bHb (fun j hj => ⟨⟨hX j (by omega), by omega⟩, by omega⟩) (by first | omega | (simp only [List.length_append, List.length_cons, List.length_nil]; omega))) (h := ?_)
          rintro _ Hc ⟨rfl, bHc, kc⟩
          have nHc := kc.1
          repeat' (first
    | (show EW _ _ _ _ _; first | refine ew_p (h := ?_) | refine ew_skip (h := ?_) | refine ew_ld (h := ?_) | refine ew_ci (h := ?_) | refine ew_conv (hn := r_conv_br (h := by first | assumption | (apply Rd.keep0; (focus assumption); exact kp))) (h := ?_) | (refine ew_df (ht := ?_) (hf := ?_) <;> intro _) | refine ew_ar (h := ?_) | refine w_nil ?_)
    | (show EC _ _ _ _ _ _ _; first | refine k_seq ?_ | refine k_region ?_ | refine k_skip ?_ | refine k_ret ?_ | refine k_exit ?_ | refine k_block ?_ | refine k_true (h := ?_) | refine k_false (h := ?_))
    | (show EX _ (bodyA _ _ _) _ _ _; first | refine x_end0 (hq := ?_))
    | (show EX _ _ _ _ _; first | refine x_normal ?_ | refine x_ret ?_ | refine x_exit ?_ | refine x_same ?_ | refine x_other (h := ?_) | refine x_bnormal ?_ | refine x_bret ?_))
          exact x_again (n - 1) [(33, _), (32, _), (31, _), (13, _), (0, _), (1, _)] ⟨rfl, rfl, rfl, rfl, rfl, rfl, trivial⟩ (by omega) (HxI.next (by omega) hk7 hr7 g7 hjl hj (by rw [← he0]; simpa [hexQ] using bHc) (BuF.trans (BuF.trans ka kb) kc))
        · obtain rfl : j = xs.length := by omega
          rw [List.take_length] at hb7
          repeat' (first
    | (show EW _ _ _ _ _; first | refine ew_p (h := ?_) | refine ew_skip (h := ?_) | refine ew_ld (h := ?_) | refine ew_ci (h := ?_) | refine ew_conv (hn := r_conv_br (h := by first | assumption | (apply Rd.keep0; (focus assumption); exact kp))) (h := ?_) | (refine ew_df (ht := ?_) (hf := ?_) <;> intro _) | refine ew_ar (h := ?_) | refine w_nil ?_)
    | (show EC _ _ _ _ _ _ _; first | refine k_seq ?_ | refine k_region ?_ | refine k_skip ?_ | refine k_ret ?_ | refine k_exit ?_ | refine k_block ?_ | refine k_true (h := ?_) | refine k_false (h := ?_))
    | (show EX _ (bodyA _ _ _) _ _ _; first | refine x_end0 (hq := ?_))
    | (show EX _ _ _ _ _; first | refine x_normal ?_ | refine x_ret ?_ | refine x_exit ?_ | refine x_same ?_ | refine x_other (h := ?_) | refine x_bnormal ?_ | refine x_bret ?_))
          exact x_again (s.length - (i + w)) [(13, _), (0, _), (1, _)] ⟨rfl, rfl, rfl, trivial⟩ (by omega) (TI.step hqr (fun j hj => hX j (by omega)) hk h0 hr4 hlt hd hw1 hw2 hfk hf n5 g5 k45 (hk7) (y := xs.flatMap hexQ) (by simpa using (hb7.weak (Y := fun j => X j ∧ j ≠ r) (fun i hi h => h.1) (fun h => hXq h.1))) (by unfold outD; rw [if_neg (by dsimp only; omega), if_neg (by dsimp only; omega), if_neg (by dsimp only; omega)]; dsimp only; rw [hp, ← hxs, Nat.add_sub_cancel_left]; rfl))
      · have hp' := hp
        have hl4 := (encN_len c).1
        repeat' (first
    | (show EW _ _ _ _ _; first | refine ew_p (h := ?_) | refine ew_skip (h := ?_) | refine ew_ld (h := ?_) | refine ew_ci (h := ?_) | refine ew_conv (hn := r_conv_br (h := by first | assumption | (apply Rd.keep0; (focus assumption); exact kp))) (h := ?_) | (refine ew_df (ht := ?_) (hf := ?_) <;> intro _) | refine ew_ar (h := ?_) | refine w_nil ?_)
    | (show EC _ _ _ _ _ _ _; first | refine k_seq ?_ | refine k_region ?_ | refine k_skip ?_ | refine k_ret ?_ | refine k_exit ?_ | refine k_block ?_ | refine k_true (h := ?_) | refine k_false (h := ?_))
    | (show EX _ (bodyA _ _ _) _ _ _; first | refine x_end0 (hq := ?_))
    | (show EX _ _ _ _ _; first | refine x_normal ?_ | refine x_ret ?_ | refine x_exit ?_ | refine x_same ?_ | refine x_other (h := ?_) | refine x_bnormal ?_ | refine x_bret ?_))
        refine ew_callS (hc := cr_call) (hR := wr_calls (c := c) hb5 (fun j hj => ⟨hX j (by omega), by omega⟩) o1 o2 (by first | omega | (simp only [List.length_append, List.length_cons, List.length_nil]; omega))) (h := ?_)
        rintro _ Ha ⟨bHa, ka⟩
        have nHa := ka.1
        repeat' (first
    | (show EW _ _ _ _ _; first | refine ew_p (h := ?_) | refine ew_skip (h := ?_) | refine ew_ld (h := ?_) | refine ew_ci (h := ?_) | refine ew_conv (hn := r_conv_br (h := by first | assumption | (apply Rd.keep0; (focus assumption); exact kp))) (h := ?_) | (refine ew_df (ht := ?_) (hf := ?_) <;> intro _) | refine ew_ar (h := ?_) | refine w_nil ?_)
    | (show EC _ _ _ _ _ _ _; first | refine k_seq ?_ | refine k_region ?_ | refine k_skip ?_ | refine k_ret ?_ | refine k_exit ?_ | refine k_block ?_ | refine k_true (h := ?_) | refine k_false (h := ?_))
    | (show EX _ (bodyA _ _ _) _ _ _; first | refine x_end0 (hq := ?_))
    | (show EX _ _ _ _ _; first | refine x_normal ?_ | refine x_ret ?_ | refine x_exit ?_ | refine x_same ?_ | refine x_other (h := ?_) | refine x_bnormal ?_ | refine x_bret ?_))
        exact x_again (s.length - (i + w)) [(13, _), (0, _), (1, _)] ⟨rfl, rfl, rfl, trivial⟩ (by omega) (TI.step hqr (fun j hj => hX j (by omega)) hk h0 hr4 hlt hd hw1 hw2 hfk hf n5 g5 k45 (ka) (y := encN c) (by simpa using bHa) (by unfold outD; rw [if_neg (by dsimp only; omega), if_neg (by dsimp only; omega), if_neg (by dsimp only; omega)]; dsimp only; rw [hp]; rfl))
  · obtain rfl : i = s.length := by omega
    rw [List.drop_length] at hf
    have hk0 : bodyF k [] = [] := by cases k <;> rfl
    rw [hk0, List.append_nil] at hf
    repeat' (first
    | (show EW _ _ _ _ _; first | refine ew_e (he := er_nextF (hg := hg4) (hq := by omega)) (hk := Mode.kept_seq rfl) (h := ?_) | refine ew_p (h := ?_) | refine ew_skip (h := ?_) | refine ew_ld (h := ?_) | refine ew_ci (h := ?_) | refine ew_conv (hn := r_conv_br (h := by first | assumption | (apply Rd.keep0; (focus assumption); exact kp))) (h := ?_) | (refine ew_df (ht := ?_) (hf := ?_) <;> intro _) | refine ew_ar (h := ?_) | refine w_nil ?_)
    | (show EC _ _ _ _ _ _ _; first | refine k_seq ?_ | refine k_region ?_ | refine k_skip ?_ | refine k_ret ?_ | refine k_exit ?_ | refine k_block ?_ | refine k_true (h := ?_) | refine k_false (h := ?_))
    | (show EX _ (bodyA _ _ _) _ _ _; first | refine x_end0 (hq := ?_))
    | (show EX _ _ _ _ _; first | refine x_normal ?_ | refine x_ret ?_ | refine x_exit ?_ | refine x_same ?_ | refine x_other (h := ?_) | refine x_bnormal ?_ | refine x_bret ?_))
    refine ew_callS (hc := cr_call) (hR := wb_calls 34 hb4 (fun j hj => ⟨hX j (by omega), by omega⟩) (by first | omega | (simp only [List.length_append, List.length_cons, List.length_nil]; omega))) (h := ?_)
    rintro _ H6 ⟨rfl, hb6, k6⟩
    repeat' (first
    | (show EW _ _ _ _ _; first | refine ew_p (h := ?_) | refine ew_skip (h := ?_) | refine ew_ld (h := ?_) | refine ew_ci (h := ?_) | refine ew_conv (hn := r_conv_br (h := by first | assumption | (apply Rd.keep0; (focus assumption); exact kp))) (h := ?_) | (refine ew_df (ht := ?_) (hf := ?_) <;> intro _) | refine ew_ar (h := ?_) | refine w_nil ?_)
    | (show EC _ _ _ _ _ _ _; first | refine k_seq ?_ | refine k_region ?_ | refine k_skip ?_ | refine k_ret ?_ | refine k_exit ?_ | refine k_block ?_ | refine k_true (h := ?_) | refine k_false (h := ?_))
    | (show EX _ (bodyA _ _ _) _ _ _; first | refine x_end0 (hq := ?_))
    | (show EX _ _ _ _ _; first | refine x_normal ?_ | refine x_ret ?_ | refine x_exit ?_ | refine x_same ?_ | refine x_other (h := ?_) | refine x_bnormal ?_ | refine x_bret ?_))
    refine ⟨?_, BuF.trans hk (k6.weak fun _ _ h => h.imp id fun h => h.1)⟩
    have := hb6.weak (Y := X) (fun i hi h => h.1) hXq
    rw [hf] at this
    simpa [valT, List.append_assoc] using this
end Go.Ae

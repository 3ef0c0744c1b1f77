/- A copy of texts with spare room (eddyroom): word, Texts. No condition. -/
import Derived.Test.YtmibkoadjehdaaaGreatDoorSpTy
set_option linter.unusedSimpArgs false
set_option linter.unusedVariables false
set_option linter.unnecessarySimpa false
set_option maxRecDepth 100000
set_option maxHeartbeats 800000
namespace Go.Ae
open Go.Proofs
attribute [local irreducible] awC wpSeq wpS nRes aw aE acall ACalls szT isAggT zeroT byT elemSz fieldOff Program.underlying appendA copyA thenA inBlockA bodyA AHeap.push AHeap.put AHeap.cellsAt AHeap.setCells resV loadA intBin EW EC EX Nr Nc Er Cr Agree
theorem T22 : AppT Tryz.prog 22 22 9 0 15 := ⟨Tryz.underlying22, ⟨_, Tryz.underlying22, rfl⟩, sz9, by9, ⟨_, ze9⟩⟩
def tbl29 : Tbl := []
def tbl8 : Tbl := []
def strV (ss : List (List UInt8)) : List Value := ss.map fun b => .string (strB b)
@[simp] theorem strV_length (ss : List (List UInt8)) : (strV ss).length = ss.length := by simp [strV]
@[simp] theorem strV_one (ss : List (List UInt8)) : (strV ss).all Value.oneCell' = true := by simp [strV, Value.oneCell']
theorem strV_append (a b : List (List UInt8)) : strV (a ++ b) = strV a ++ strV b := by simp [strV]
/-- A slice of texts. -/
def SR2 (H : AHeap) (F : Blks) (v : Value) (ss : List (List UInt8)) : Prop := Rd H F 1 v ss.length (strV ss)
def wordB (i : Nat) : List UInt8 := if i % 2 = 0 then [60, 111, 110, 101, 62] else [60, 116, 119, 111, 62]
theorem word_calls (i : Nat) (H : AHeap) (hi : i ≤ 4611686018427387904) : ACalls Tryz.prog 29 #[.int .i64 i] H fun v H' => v = .string (strB (wordB i)) ∧ H' = H := by
  refine k_open (args := [.int .i64 i]) (E0 := [(0, .int .i64 i)]) tbl29 Tryz.func29 rfl follows (by kernel_rfl) Tryz.ntmps29 rfl rfl ?_
  by_cases h : i % 2 = 0
  · have h2 : (i : Int) % 2 = 0 := by omega
    repeat' (first
    | (show EW _ _ _ _ _; first | refine ew_p (h := ?_) | (refine ew_df (ht := ?_) (hf := ?_) <;> intro _) | refine ew_ar (h := ?_) | refine w_nil ?_)
    | (show EC _ _ _ _ _ _ _; first | refine k_seq ?_ | refine k_region ?_ | refine k_skip ?_ | refine k_ret ?_ | refine k_exit ?_ | refine k_block ?_ | refine k_true (h := ?_) | refine k_false (h := ?_))
    | (show EX _ (bodyA _ _ _) _ _ _; first | refine x_end1 (hq := ?_))
    | (show EX _ _ _ _ _; first | refine x_normal ?_ | refine x_ret ?_ | refine x_exit ?_ | refine x_same ?_ | refine x_other (h := ?_) | refine x_bnormal ?_ | refine x_bret ?_))
    exact ⟨by rw [wordB, if_pos h]; rfl, rfl⟩
  · have h2 : (i : Int) % 2 = 1 := by omega
    repeat' (first
    | (show EW _ _ _ _ _; first | refine ew_p (h := ?_) | (refine ew_df (ht := ?_) (hf := ?_) <;> intro _) | refine ew_ar (h := ?_) | refine w_nil ?_)
    | (show EC _ _ _ _ _ _ _; first | refine k_seq ?_ | refine k_region ?_ | refine k_skip ?_ | refine k_ret ?_ | refine k_exit ?_ | refine k_block ?_ | refine k_true (h := ?_) | refine k_false (h := ?_))
    | (show EX _ (bodyA _ _ _) _ _ _; first | refine x_end1 (hq := ?_))
    | (show EX _ _ _ _ _; first | refine x_normal ?_ | refine x_ret ?_ | refine x_exit ?_ | refine x_same ?_ | refine x_other (h := ?_) | refine x_bnormal ?_ | refine x_bret ?_))
    exact ⟨by rw [wordB, if_neg h]; rfl, rfl⟩
theorem Keep.own {F : Blks} {H H1 H2 : AHeap} (h : Keep No H H1) (h' : Keep F H1 H2) (hF : ∀ b, F b → H.next ≤ b) : Keep No H H2 := h.trans h' fun i hi hf => by have := hF i hf; omega
theorem rd_rowS {H : AHeap} {F : Blks} {b n c : Nat} {bs : List (List UInt8)} {e : TypeId} {rw' : Bool} (hg : H.get b = some (.row ⟨strV bs, e, 0, rw'⟩)) (hF : F b) (hb : b < H.next) (hn : n = bs.length := by rfl) : SR2 H F (.slice (some ⟨b, 0, none⟩) n c) bs := by
  subst hn
  unfold SR2
  by_cases h0 : bs.length = 0
  · obtain rfl := List.eq_nil_of_length_eq_zero h0
    exact .empty _ _
  · exact .full _ _ _ _ h0 hF hb (cellsAt_of hg rfl (by simp) (List.take_of_length_le (by simp)))
/-- Marks behind a list. -/
def marksS (n : Nat) : List (List UInt8) := (List.range n).map wordB
theorem marksS_succ (n : Nat) : marksS (n + 1) = marksS n ++ [wordB n] := by simp [marksS, List.range_succ]
@[simp] theorem marksS_length (n : Nat) : (marksS n).length = n := by simp [marksS]
theorem Opn.cap {H : AHeap} {F : Blks} {e k n : Nat} {sv : Value} {cells : List Value} (h : Opn H F e k sv n cells) (hn : n ≤ openCap) : ∃ z c, sv = .slice z n c ∧ n ≤ c := by
  rcases h with ⟨rfl, rfl, _⟩ | ⟨ad, c, r, rfl, _, _, _, _, _, hle, _, _, ho⟩
  · exact ⟨_, _, rfl, Nat.le_refl _⟩
  · refine ⟨_, _, rfl, ?_⟩
    rcases ho with rfl | ⟨rfl, h⟩
    · exact Nat.le_refl _
    · omega
/-- append(own texts, texts...) -/
theorem app_ownS {H : AHeap} {O GB : Blks} {sv dv : Value} {n : Nat} {ls bs : List (List UInt8)} (ho : Opn H O 9 1 sv n (strV ls)) (hd : SR2 H GB dv bs) (hL : n + bs.length ≤ 8796093022208) :
    ∃ sv' H', appendA Tryz.prog H 22 22 sv dv = some (sv', H') ∧ Opn H' (Or O (New H H')) 9 1 sv' (n + bs.length) (strV (ls ++ bs)) ∧ Keep O H H' := by
  have hs := Rd.src hd
  by_cases h0 : bs.length = 0
  · obtain rfl := List.eq_nil_of_length_eq_zero h0
    obtain ⟨z, c, rfl, hc⟩ := ho.cap (by unfold openCap; omega)
    exact ⟨_, _, app_none T22 hs hc, by simpa using ho.weak fun b hb => .inl hb, Keep.refl⟩
  · obtain ⟨sv', H', h1, h2, h3, _⟩ := Opn.snoc T22 ho hs h0 (by simp) (by simp [strV, Value.oneCell']) (by omega)
    exact ⟨sv', H', h1, by rw [strV_append]; simpa using h2, h3⟩
theorem T87 : AppT Tryz.prog 87 87 22 0 23 := ⟨Tryz.underlying87, ⟨_, Tryz.underlying87, rfl⟩, sz22, by22, ⟨_, ze22⟩⟩
/-- The room, in which one list of texts lies. -/
structure Rt (H0 H : AHeap) (rr : Nat) (ad : Addr) (cf : Nat) (ss : List (List UInt8)) : Prop where
  row : ∃ O1 O2 sv, H.get rr = some (.row ⟨[.slice none 0 0, sv, .slice none 0 0, .slice none 0 0, .slice none 0 0, .slice none 0 0, .slice none 0 0, .slice none 0 0, .slice none 0 0, .slice none 0 0], 94, 0, true⟩) ∧
    Opn H O2 22 1 sv 1 [.slice (some ad) (ss.length + 40) cf] ∧ Opn H O1 9 1 (.slice (some ad) (ss.length + 40) cf) (ss.length + 40) (strV (ss ++ marksS 40)) ∧ (∀ b, O1 b → H0.next ≤ b) ∧ (∀ b, O2 b → H0.next ≤ b)
  rr0 : H0.next ≤ rr
  rrn : rr < H.next
def TxtI (H0 : AHeap) (rr : Nat) (dv : Value) (bs : List (List UInt8)) (n : Nat) (E : Env) (H : AHeap) : Prop :=
  Keep No H0 H ∧ ∃ (i : Nat) (O : Blks) (sv : Value), n + i = 40 ∧ E = [(6, .int .i64 i), (5, sv), (4, .slice none 0 0), (0, .pointer (some ⟨rr, 0, none⟩)), (1, dv)] ∧ Opn H O 9 1 sv (bs.length + i) (strV (bs ++ marksS i)) ∧ (∀ b, O b → H0.next ≤ b)
theorem texts_calls {H0 H : AHeap} {GB : Blks} {rr : Nat} {dv : Value} {bs : List (List UInt8)} (hk : Keep No H0 H) (hr0 : H0.next ≤ rr) (hrn : rr < H.next)
    (hr : H.get rr = some (.row ⟨[.slice none 0 0, .slice none 0 0, .slice none 0 0, .slice none 0 0, .slice none 0 0, .slice none 0 0, .slice none 0 0, .slice none 0 0, .slice none 0 0, .slice none 0 0], 94, 0, true⟩))
    (hd : SR2 H GB dv bs) (hl : bs.length ≤ 8796093022000) :
    ACalls Tryz.prog 8 #[.pointer (some ⟨rr, 0, none⟩), dv] H fun v H' => ∃ ad cf, v = .slice (some (aadd ad 0)) bs.length (bs.length + 40) ∧ Keep (fun b => b = rr) H H' ∧ Rt H0 H' rr ad cf bs := by
  obtain ⟨zd, cd, rfl⟩ := Rd.slice hd
  refine k_open (args := [.pointer (some ⟨rr, 0, none⟩), .slice zd bs.length cd]) (E0 := [(0, .pointer (some ⟨rr, 0, none⟩)), (1, .slice zd bs.length cd)]) tbl8 Tryz.func8 rfl follows (by kernel_rfl) Tryz.ntmps8 rfl rfl ?_
  repeat' (first
    | (show EW _ _ _ _ _; first | refine ew_p (h := ?_) | refine ew_ld (h := ?_) | (refine ew_fresh ?_; intro b hb; refine ew_nw hb (h := ?_); (try simp only [AHeap.push_next, AHeap.put_next] at hb)) | refine ew_st (h := ?_) | (refine ew_df (ht := ?_) (hf := ?_) <;> intro _) | refine ew_ar (h := ?_) | refine w_nil ?_)
    | (show EC _ _ _ _ _ _ _; first | refine k_seq ?_ | refine k_region ?_ | refine k_skip ?_ | refine k_ret ?_ | refine k_exit ?_ | refine k_block ?_ | refine k_true (h := ?_) | refine k_false (h := ?_))
    | (show EX _ (bodyA _ _ _) _ _ _; first | refine x_end1 (hq := ?_))
    | (show EX _ _ _ _ _; first | refine x_normal ?_ | refine x_ret ?_ | refine x_exit ?_ | refine x_same ?_ | refine x_other (h := ?_) | refine x_bnormal ?_ | refine x_bret ?_))
  have hkb : Keep No H (H.push (.row ⟨[], 9, 0, true⟩)) := by exact kp
  (first | (refine' ew_appS (hR := ?_) (h := ?_); rotate_left 1) | (refine' ew_app (hR := ?_) (h := ?_); rotate_left 1))
  · exact app_ownS (O := fun x => x = b) (ls := []) (.inr ⟨⟨b, 0, none⟩, 0, ⟨[], 9, 0, true⟩, rfl, rfl, by simp; omega, by rw [AHeap.push_get, if_pos hb], rfl, rfl, by simp, rfl, rfl, .inl rfl⟩) (Rd.keep0 hd hkb) (by omega)
  rintro sv H1 ⟨ho1, hk1⟩
  repeat' (first
    | (show EW _ _ _ _ _; first | refine ew_p (h := ?_) | refine ew_ld (h := ?_) | (refine ew_fresh ?_; intro b hb; refine ew_nw hb (h := ?_); (try simp only [AHeap.push_next, AHeap.put_next] at hb)) | refine ew_st (h := ?_) | (refine ew_df (ht := ?_) (hf := ?_) <;> intro _) | refine ew_ar (h := ?_) | refine w_nil ?_)
    | (show EC _ _ _ _ _ _ _; first | refine k_seq ?_ | refine k_region ?_ | refine k_skip ?_ | refine k_ret ?_ | refine k_exit ?_ | refine k_block ?_ | refine k_true (h := ?_) | refine k_false (h := ?_))
    | (show EX _ (bodyA _ _ _) _ _ _; first | refine x_end1 (hq := ?_))
    | (show EX _ _ _ _ _; first | refine x_normal ?_ | refine x_ret ?_ | refine x_exit ?_ | refine x_same ?_ | refine x_other (h := ?_) | refine x_bnormal ?_ | refine x_bret ?_))
  refine k_loop follows (TxtI H rr (.slice zd bs.length cd) bs) 40 [(6, _), (5, _), (4, _), (0, _), (1, _)] (by kernel_rfl) ⟨rfl, rfl, rfl, rfl, rfl, trivial⟩
    ⟨hkb.own hk1 (fun x hx => by have : x = b := hx; omega), 0, _, _, rfl, rfl, by simpa [marksS] using ho1, ?_⟩ ?_
  · rintro x (rfl | hx)
    · omega
    · have := hx.1; have := hkb.1; omega
  rintro n E H2 ⟨hk2, i, O, sv2, hi, rfl, ho2, hO2⟩
  have hn2 := hk2.1
  by_cases hlt : i < 40
  · repeat' (first
    | (show EW _ _ _ _ _; first | refine ew_p (h := ?_) | refine ew_ld (h := ?_) | (refine ew_fresh ?_; intro b hb; refine ew_nw hb (h := ?_); (try simp only [AHeap.push_next, AHeap.put_next] at hb)) | refine ew_st (h := ?_) | (refine ew_df (ht := ?_) (hf := ?_) <;> intro _) | refine ew_ar (h := ?_) | refine w_nil ?_)
    | (show EC _ _ _ _ _ _ _; first | refine k_seq ?_ | refine k_region ?_ | refine k_skip ?_ | refine k_ret ?_ | refine k_exit ?_ | refine k_block ?_ | refine k_true (h := ?_) | refine k_false (h := ?_))
    | (show EX _ (bodyA _ _ _) _ _ _; first | refine x_end1 (hq := ?_))
    | (show EX _ _ _ _ _; first | refine x_normal ?_ | refine x_ret ?_ | refine x_exit ?_ | refine x_same ?_ | refine x_other (h := ?_) | refine x_bnormal ?_ | refine x_bret ?_))
    (first | (refine' ew_callS (hc := cr_call) (hR := ?_) (h := ?_); rotate_left 1) | (refine' ew_call (hc := cr_call) (hR := ?_) (h := ?_); rotate_left 1))
    · exact word_calls i _ (by omega)
    rintro _ H3 ⟨rfl, rfl⟩
    repeat' (first
    | (show EW _ _ _ _ _; first | refine ew_p (h := ?_) | refine ew_ld (h := ?_) | (refine ew_fresh ?_; intro b hb; refine ew_nw hb (h := ?_); (try simp only [AHeap.push_next, AHeap.put_next] at hb)) | refine ew_st (h := ?_) | (refine ew_df (ht := ?_) (hf := ?_) <;> intro _) | refine ew_ar (h := ?_) | refine w_nil ?_)
    | (show EC _ _ _ _ _ _ _; first | refine k_seq ?_ | refine k_region ?_ | refine k_skip ?_ | refine k_ret ?_ | refine k_exit ?_ | refine k_block ?_ | refine k_true (h := ?_) | refine k_false (h := ?_))
    | (show EX _ (bodyA _ _ _) _ _ _; first | refine x_end1 (hq := ?_))
    | (show EX _ _ _ _ _; first | refine x_normal ?_ | refine x_ret ?_ | refine x_exit ?_ | refine x_same ?_ | refine x_other (h := ?_) | refine x_bnormal ?_ | refine x_bret ?_))
    have hkx : Keep No H3 (H3.push (.row ⟨[.string (strB (wordB i))], 9, 0, true⟩)) := by exact kp
    (first | (refine' ew_appS (hR := ?_) (h := ?_); rotate_left 1) | (refine' ew_app (hR := ?_) (h := ?_); rotate_left 1))
    · exact app_ownS (bs := [wordB i]) (ho2.keep0 hkx) (rd_rowS (F := fun _ => True) (by rw [AHeap.push_get, if_pos hb]; rfl) trivial (by simp; omega)) (by simp; omega)
    rintro sv3 H4 ⟨ho4, hk4⟩
    repeat' (first
    | (show EW _ _ _ _ _; first | refine ew_p (h := ?_) | refine ew_ld (h := ?_) | (refine ew_fresh ?_; intro b hb; refine ew_nw hb (h := ?_); (try simp only [AHeap.push_next, AHeap.put_next] at hb)) | refine ew_st (h := ?_) | (refine ew_df (ht := ?_) (hf := ?_) <;> intro _) | refine ew_ar (h := ?_) | refine w_nil ?_)
    | (show EC _ _ _ _ _ _ _; first | refine k_seq ?_ | refine k_region ?_ | refine k_skip ?_ | refine k_ret ?_ | refine k_exit ?_ | refine k_block ?_ | refine k_true (h := ?_) | refine k_false (h := ?_))
    | (show EX _ (bodyA _ _ _) _ _ _; first | refine x_end1 (hq := ?_))
    | (show EX _ _ _ _ _; first | refine x_normal ?_ | refine x_ret ?_ | refine x_exit ?_ | refine x_same ?_ | refine x_other (h := ?_) | refine x_bnormal ?_ | refine x_bret ?_))
    refine x_again (n - 1) [(6, _), (5, _), (4, _), (0, _), (1, _)] ⟨rfl, rfl, rfl, rfl, rfl, trivial⟩ (by omega) ⟨(hk2.after hkx).own hk4 hO2, i + 1, Or O (New (H3.push (.row ⟨[.string (strB (wordB i))], 9, 0, true⟩)) H4), _, by omega, rfl, ?_, ?_⟩
    · rw [marksS_succ, ← List.append_assoc]
      exact ho4
    · rintro x (hx | hx)
      · exact hO2 x hx
      · have := hx.1; have := hkx.1; omega
  · obtain rfl : i = 40 := by omega
    obtain ⟨ad, cf, rc, vr, rfl, hOa, hla, hga, hva, hle, htk, hcap⟩ := ho2.at_row (by omega)
    have hr2 := hk2.row0 hr hrn
    repeat' (first
    | (show EW _ _ _ _ _; first | refine ew_p (h := ?_) | refine ew_ld (h := ?_) | (refine ew_fresh ?_; intro b hb; refine ew_nw hb (h := ?_); (try simp only [AHeap.push_next, AHeap.put_next] at hb)) | refine ew_st (h := ?_) | (refine ew_df (ht := ?_) (hf := ?_) <;> intro _) | refine ew_ar (h := ?_) | refine w_nil ?_)
    | (show EC _ _ _ _ _ _ _; first | refine k_seq ?_ | refine k_region ?_ | refine k_skip ?_ | refine k_ret ?_ | refine k_exit ?_ | refine k_block ?_ | refine k_true (h := ?_) | refine k_false (h := ?_))
    | (show EX _ (bodyA _ _ _) _ _ _; first | refine x_end1 (hq := ?_))
    | (show EX _ _ _ _ _; first | refine x_normal ?_ | refine x_ret ?_ | refine x_exit ?_ | refine x_same ?_ | refine x_other (h := ?_) | refine x_bnormal ?_ | refine x_bret ?_))
    have hkx : Keep No H2 (H2.push (.row ⟨[.slice (some ad) (bs.length + 40) cf], 22, 0, true⟩)) := by exact kp
    (first | (refine' ew_appS (hR := ?_) (h := ?_); rotate_left 1) | (refine' ew_app (hR := ?_) (h := ?_); rotate_left 1))
    · exact Opn.snoc T87 (Opn.nil (F := No)) (news := [.slice (some ad) (bs.length + 40) cf]) (m := 1) (by refine src_of (by decide) (m := 1) rfl ?_; (first | assumption | (apply cells_row; (focus ((repeat' (first | assumption | (rw [aadd_block]) | (apply gN; (focus (first | exact rfl | omega | (simp only [AHeap.push_next, AHeap.put_next, aadd_block] <;> omega))); (focus exact rfl)) | (apply gO; (focus (first | omega | (simp only [AHeap.push_next, AHeap.put_next, aadd_block, ne_eq] <;> omega)))) | (apply gS; (focus (first | exact rfl | omega | (simp only [AHeap.push_next, AHeap.put_next, aadd_block] <;> omega))); (focus exact rfl)) | (apply gP; (focus (first | omega | (simp only [AHeap.push_next, AHeap.put_next, aadd_block, ne_eq] <;> omega)))) | exact rfl)); done)); (focus exact rfl); (focus exact rfl); (focus (first | exact (rfl : _ = some [_])))) | (apply cells_k; (focus assumption); (focus (first | assumption | (simp only [aadd_block] <;> first | assumption | omega))); (focus ((repeat' (first | exact Keep.refl | assumption | (apply Keep.push) | (refine Keep.put ?_ ?_; rotate_left; (focus (intro hlt; first | assumption | omega | (exfalso; simp only [AHeap.push_next, AHeap.put_next, aadd_block] at hlt; omega)))))); done))))) (by decide) rfl rfl (by omega)
    rintro sv3 H4 ⟨ho4, hk4, hn4, hd4⟩
    have hk4' : Keep No H2 H4 := (hkx.no (G := No)).trans hk4 fun _ _ h => h.elim
    have hr4 := hk4'.row0 hr2 (by omega)
    obtain ⟨z3, c3, rfl⟩ := ho4.rd.slice
    have hn4' := hk4'.1
    have hsl : sliceA Tryz.prog 22 (.slice (some ad) (bs.length + 40) cf) none (some (.int .i64 (bs.length : Nat))) (some (.int .i64 ((bs.length + 40 : Nat) : Int))) = some (.slice (some (aadd ad 0)) bs.length (bs.length + 40)) := by
      have hb : (0 : Int) ≤ ((bs.length + 40 : Nat) : Int) ∧ ((bs.length + 40 : Nat) : Int) ≤ ((bs.length + 40 : Nat) : Int) := ⟨by omega, by omega⟩
      have hb0 : (0 : Int) ≤ ((bs.length : Nat) : Int) ∧ ((bs.length : Nat) : Int) ≤ ((bs.length + 40 : Nat) : Int) := ⟨by omega, by omega⟩
      have h00 : bs.length + 40 ≠ 0 := by omega
      rcases hcap with rfl | ⟨rfl, _⟩
      · have h2 : ¬ openCap ≤ bs.length + 40 := by unfold openCap; omega
        simp only [sliceA, T22.ht, T22.hs, h2, if_false, boundsA, boundA, lowA, advA, hb, hb0, and_self, if_true, Option.bind_some, Option.map_some, Int.toNat_natCast, h00, Nat.sub_zero, Nat.zero_mul]
      · simp only [sliceA, T22.ht, T22.hs, boundsA, boundA, lowA, advA, hb, hb0, and_self, if_true, if_false, Option.bind_some, Option.map_some, Int.toNat_natCast, h00, Nat.sub_zero, Nat.zero_mul, Option.isSome_some, Nat.le_add_right]
    repeat' (first
    | (show EW _ _ _ _ _; first | refine ew_p (h := ?_) | refine ew_ld (h := ?_) | (refine ew_fresh ?_; intro b hb; refine ew_nw hb (h := ?_); (try simp only [AHeap.push_next, AHeap.put_next] at hb)) | refine ew_st (h := ?_) | (refine ew_df (ht := ?_) (hf := ?_) <;> intro _) | refine ew_ar (h := ?_) | refine w_nil ?_)
    | (show EC _ _ _ _ _ _ _; first | refine k_seq ?_ | refine k_region ?_ | refine k_skip ?_ | refine k_ret ?_ | refine k_exit ?_ | refine k_block ?_ | refine k_true (h := ?_) | refine k_false (h := ?_))
    | (show EX _ (bodyA _ _ _) _ _ _; first | refine x_end1 (hq := ?_))
    | (show EX _ _ _ _ _; first | refine x_normal ?_ | refine x_ret ?_ | refine x_exit ?_ | refine x_same ?_ | refine x_other (h := ?_) | refine x_bnormal ?_ | refine x_bret ?_))
    have hkr : Keep (fun b => b = rr) H4 (H4.put rr (.row ⟨[.slice none 0 0, .slice z3 (0 + 1) c3, .slice none 0 0, .slice none 0 0, .slice none 0 0, .slice none 0 0, .slice none 0 0, .slice none 0 0, .slice none 0 0, .slice none 0 0], 94, 0, true⟩)) := Keep.refl.put fun _ => rfl
    have hnr : ∀ b, H.next ≤ b → b ≠ rr := fun b hb he => by omega
    refine ⟨ad, cf, rfl, ((hk2.after hk4').no (G := fun b => b = rr)).trans hkr fun _ _ h => h, ⟨⟨O, _, _, by rw [AHeap.put_get, if_pos rfl], ho4.keep hkr fun b _ hb _ he => ?_, (ho2.keep0 hk4').keep hkr fun b _ hb _ he => hnr b (hO2 b hb) he, fun b hb => Nat.le_trans hk.1 (hO2 b hb), ?_⟩, hr0, by simp; omega⟩⟩
    · rcases hb with hb | hb
      · exact hb
      · have := hb.1; have := hkx.1; exact hnr b (by omega) he
    · rintro b (hb | hb)
      · exact hb.elim
      · have := hb.1; have := hkx.1; have := hk.1; omega
end Go.Ae

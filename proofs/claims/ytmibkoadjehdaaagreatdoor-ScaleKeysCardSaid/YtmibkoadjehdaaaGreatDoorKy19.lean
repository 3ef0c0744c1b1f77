/- A copy of texts with spare room (eddyroom): word, Texts. Where a key goes: both Places. -/
import Derived.Test.YtmibkoadjehdaaaGreatDoorKy15
set_option linter.unusedVariables false
set_option linter.unusedSimpArgs false
set_option linter.unusedSimpArgs false
set_option linter.unusedVariables false
set_option linter.unnecessarySimpa false
set_option maxRecDepth 100000
set_option maxHeartbeats 800000
namespace Go.Ae
open Go.Proofs
attribute [local irreducible] awC wpSeq wpS nRes aw aE acall ACalls szT isAggT zeroT byT elemSz fieldOff Program.underlying appendA copyA thenA inBlockA bodyA AHeap.push AHeap.put AHeap.cellsAt AHeap.setCells resV loadA intBin EW EC EX Nr Nc Er Cr Agree
theorem T22 : AppT Tryz.prog 22 22 9 0 15 := ⟨Tryz.underlying22, ⟨_, Tryz.underlying22, rfl⟩, sz9, by9, ⟨_, ze9⟩⟩
def strV (ss : List (List UInt8)) : List Value := ss.map fun b => .string (strB b)
@[simp] theorem strV_length (ss : List (List UInt8)) : (strV ss).length = ss.length := by simp [strV]
@[simp] theorem strV_one (ss : List (List UInt8)) : (strV ss).all Value.oneCell' = true := by simp [strV, Value.oneCell']
theorem strV_append (a b : List (List UInt8)) : strV (a ++ b) = strV a ++ strV b := by simp [strV]
/-- A slice of texts. -/
def SR2 (H : AHeap) (F : Blks) (v : Value) (ss : List (List UInt8)) : Prop := Rd H F 1 v ss.length (strV ss)
def wordB (i : Nat) : List UInt8 := if i % 2 = 0 then [60, 111, 110, 101, 62] else [60, 116, 119, 111, 62]
theorem Keep.own {F : Blks} {H H1 H2 : AHeap} (h : Keep No H H1) (h' : Keep F H1 H2) (hF : ∀ b, F b → H.next ≤ b) : Keep No H H2 := h.trans h' fun i hi hf => by have := hF i hf; omega
/-- Marks behind a list. -/
def marksS (n : Nat) : List (List UInt8) := (List.range n).map wordB
@[simp] theorem marksS_length (n : Nat) : (marksS n).length = n := by simp [marksS]
theorem Opn.cap {H : AHeap} {F : Blks} {e k n : Nat} {sv : Value} {cells : List Value} (h : Opn H F e k sv n cells) (hn : n ≤ openCap) : ∃ z c, sv = .slice z n c ∧ n ≤ c := by
  rcases h with ⟨rfl, rfl, _⟩ | ⟨ad, c, r, rfl, _, _, _, _, _, hle, _, _, ho⟩
  · exact ⟨_, _, rfl, Nat.le_refl _⟩
  · refine ⟨_, _, rfl, ?_⟩
    rcases ho with rfl | ⟨rfl, h⟩
    · exact Nat.le_refl _
    · omega
/-- append(own texts, texts...) -/
theorem app_ownS {H : AHeap} {O GB : Blks} {sv dv : Value} {n : Nat} {ls bs : List (List UInt8)} (ho : Opn H O 9 1 sv n (strV ls)) (hd : SR2 H GB dv bs) (hL : n + bs.length ≤ 8796093022208) :
    ∃ sv' H', appendA Tryz.prog H 22 22 sv dv = some (sv', H') ∧ Opn H' (Or O (New H H')) 9 1 sv' (n + bs.length) (strV (ls ++ bs)) ∧ Keep O H H' := by
  have hs := Rd.src hd
  by_cases h0 : bs.length = 0
  · obtain rfl := List.eq_nil_of_length_eq_zero h0
    obtain ⟨z, c, rfl, hc⟩ := ho.cap (by unfold openCap; omega)
    exact ⟨_, _, app_none T22 hs hc, by simpa using ho.weak fun b hb => .inl hb, Keep.refl⟩
  · obtain ⟨sv', H', h1, h2, h3, _⟩ := Opn.snoc T22 ho hs h0 (by simp) (by simp [strV, Value.oneCell']) (by omega)
    exact ⟨sv', H', h1, by rw [strV_append]; simpa using h2, h3⟩
end Go.Ae
set_option linter.unusedSimpArgs false
set_option linter.unusedVariables false
set_option linter.unnecessarySimpa false
set_option maxRecDepth 100000
set_option maxHeartbeats 800000
namespace Go.Ae
open Go.Proofs
attribute [local irreducible] awC wpSeq wpS nRes aw aE acall ACalls szT isAggT zeroT byT elemSz fieldOff Program.underlying appendA copyA thenA inBlockA bodyA AHeap.push AHeap.put AHeap.cellsAt AHeap.setCells resV loadA intBin EW EC EX Nr Nc Er Cr Agree
def tbl9 : Tbl := []
def tbl30 : Tbl := []
def tbl50 : Tbl := []
def tbl51 : Tbl := []
/-- How many of the cuts are not above the key. -/
def placeN (k : List UInt8) (cs : List (List UInt8)) : Nat := (cs.filter fun c => leB c k).length
theorem placeN_take (k : List UInt8) (cs : List (List UInt8)) (i : Nat) (h : i < cs.length) : placeN k (cs.take (i + 1)) = placeN k (cs.take i) + if leB cs[i] k = true then 1 else 0 := by
  unfold placeN
  rw [List.take_succ_eq_append_getElem h, List.filter_append, List.length_append]
  congr 1
  by_cases hc : leB cs[i] k = true
  · rw [if_pos hc]; simp [hc]
  · rw [if_neg hc]; simp [hc]
theorem placeN_le (k : List UInt8) (cs : List (List UInt8)) : placeN k cs ≤ cs.length := List.length_filter_le _ _
/-- The i-th text. -/
theorem SR2.at {H : AHeap} {F : Blks} {v : Value} {ss : List (List UInt8)} (h : SR2 H F v ss) {i : Nat} (hi : i < ss.length) : ∃ ad c, v = .slice (some ad) ss.length c ∧ F ad.block ∧ ad.block < H.next ∧ H.cellsAt (aadd ad ((i : Int).toNat * 1)) 1 = some [.string (strB ss[i])] := by
  obtain ⟨ad, c, rfl, h1, h2, h3⟩ := Rd.at h hi
  refine ⟨ad, c, rfl, h1, h2, ?_⟩
  rw [Int.toNat_natCast, h3]
  congr 1
  rw [Nat.mul_one, List.drop_eq_getElem_cons (by simpa using hi)]
  simp [strV]
def PjI (H0 : AHeap) (k : List UInt8) (cs : List (List UInt8)) (dv pv : Value) (n : Nat) (E : Env) (H : AHeap) : Prop :=
  H0 = H ∧ ∃ i : Nat, n + i = cs.length ∧ E = [(9, .int .i64 i), (4, .int .i64 (placeN k (cs.take i))), (8, .int .i64 cs.length), (7, dv), (0, .string (strB k)), (1, pv)]
theorem clo_calls {H : AHeap} {F : Blks} {dv : Value} {k : List UInt8} {cs : List (List UInt8)} {b : Nat} (hd : SR2 H F dv cs) (hg : H.get b = some (.row ⟨[dv], 22, 0, true⟩)) (hl : cs.length ≤ 8796093022000) :
    ACalls Tryz.prog 51 #[.string (strB k), .pointer (some ⟨b, 0, none⟩)] H fun v H' => v = .int .i64 (placeN k cs) ∧ H' = H := by
  obtain ⟨zd, cd, rfl⟩ := Rd.slice hd
  refine k_open (args := [.string (strB k), .pointer (some ⟨b, 0, none⟩)]) (E0 := [(0, .string (strB k)), (1, .pointer (some ⟨b, 0, none⟩))]) tbl51 Tryz.func51 rfl follows (by kernel_rfl) Tryz.ntmps51 rfl rfl ?_
  repeat' (first
    | (show EW _ _ _ _ _; first | refine ew_p (h := ?_) | refine ew_ld (h := ?_) | (refine ew_df (ht := ?_) (hf := ?_) <;> intro _) | refine ew_ar (h := ?_) | refine w_nil ?_)
    | (show EC _ _ _ _ _ _ _; first | refine k_seq ?_ | refine k_region ?_ | refine k_skip ?_ | refine k_ret ?_ | refine k_exit ?_ | refine k_block ?_ | refine k_true (h := ?_) | refine k_false (h := ?_))
    | (show EX _ (bodyA _ _ _) _ _ _; first | refine x_end1 (hq := ?_))
    | (show EX _ _ _ _ _; first | refine x_normal ?_ | refine x_ret ?_ | refine x_exit ?_ | refine x_same ?_ | refine x_other (h := ?_) | refine x_bnormal ?_ | refine x_bret ?_))
  refine k_loop follows (PjI H k cs (.slice zd cs.length cd) (.pointer (some ⟨b, 0, none⟩))) cs.length [(9, _), (4, _), (8, _), (7, _), (0, _), (1, _)] (by kernel_rfl) ⟨rfl, rfl, rfl, rfl, rfl, rfl, trivial⟩ ⟨rfl, 0, by omega, by simp [placeN]⟩ ?_
  rintro n E _ ⟨rfl, i, hi, rfl⟩
  have hple := placeN_le k (cs.take i)
  rw [List.length_take] at hple
  by_cases hlt : i < cs.length
  · obtain ⟨ad, c, hv, _, _, hcell⟩ := SR2.at hd hlt
    simp only [Value.slice.injEq, true_and] at hv
    obtain ⟨rfl, rfl⟩ := hv
    have hpt := placeN_take k cs i hlt
    repeat' (first
    | (show EW _ _ _ _ _; first | refine ew_p (h := ?_) | refine ew_ld (h := ?_) | (refine ew_df (ht := ?_) (hf := ?_) <;> intro _) | refine ew_ar (h := ?_) | refine w_nil ?_)
    | (show EC _ _ _ _ _ _ _; first | refine k_seq ?_ | refine k_region ?_ | refine k_skip ?_ | refine k_ret ?_ | refine k_exit ?_ | refine k_block ?_ | refine k_true (h := ?_) | refine k_false (h := ?_))
    | (show EX _ (bodyA _ _ _) _ _ _; first | refine x_end1 (hq := ?_))
    | (show EX _ _ _ _ _; first | refine x_normal ?_ | refine x_ret ?_ | refine x_exit ?_ | refine x_same ?_ | refine x_other (h := ?_) | refine x_bnormal ?_ | refine x_bret ?_))
    · refine x_again (n - 1) [(9, _), (4, _), (8, _), (7, _), (0, _), (1, _)] ⟨rfl, rfl, rfl, rfl, rfl, rfl, trivial⟩ (by omega) ⟨rfl, i + 1, by omega, ?_⟩
      rw [if_pos ‹_›] at hpt
      rw [hpt]
      rfl
    · refine x_again (n - 1) [(9, _), (4, _), (8, _), (7, _), (0, _), (1, _)] ⟨rfl, rfl, rfl, rfl, rfl, rfl, trivial⟩ (by omega) ⟨rfl, i + 1, by omega, ?_⟩
      rw [if_neg ‹_›] at hpt
      rw [hpt]
      rfl
  · obtain rfl : i = cs.length := by omega
    rw [List.take_length]
    repeat' (first
    | (show EW _ _ _ _ _; first | refine ew_p (h := ?_) | refine ew_ld (h := ?_) | (refine ew_df (ht := ?_) (hf := ?_) <;> intro _) | refine ew_ar (h := ?_) | refine w_nil ?_)
    | (show EC _ _ _ _ _ _ _; first | refine k_seq ?_ | refine k_region ?_ | refine k_skip ?_ | refine k_ret ?_ | refine k_exit ?_ | refine k_block ?_ | refine k_true (h := ?_) | refine k_false (h := ?_))
    | (show EX _ (bodyA _ _ _) _ _ _; first | refine x_end1 (hq := ?_))
    | (show EX _ _ _ _ _; first | refine x_normal ?_ | refine x_ret ?_ | refine x_exit ?_ | refine x_same ?_ | refine x_other (h := ?_) | refine x_bnormal ?_ | refine x_bret ?_))
    exact ⟨rfl, rfl⟩
theorem clone_calls {H : AHeap} {F : Blks} {ad : Addr} {c : Nat} {cs : List (List UInt8)} (hd : SR2 H F (.slice (some ad) cs.length c) cs) (hl : cs.length ≤ 8796093022000) :
    ACalls Tryz.prog 50 #[.slice (some ad) cs.length c] H fun v H' => (∃ F', SR2 H' F' v cs) ∧ Keep No H H' := by
  refine k_open (args := [.slice (some ad) cs.length c]) (E0 := [(0, .slice (some ad) cs.length c)]) tbl50 Tryz.func50 rfl follows (by kernel_rfl) Tryz.ntmps50 rfl rfl ?_
  repeat' (first
    | (show EW _ _ _ _ _; first | refine ew_p (h := ?_) | (refine ew_fresh ?_; intro b hb; refine ew_nw hb (h := ?_); (try simp only [AHeap.push_next, AHeap.put_next] at hb)) | (refine ew_df (ht := ?_) (hf := ?_) <;> intro _) | refine w_nil ?_)
    | (show EC _ _ _ _ _ _ _; first | refine k_seq ?_ | refine k_region ?_ | refine k_skip ?_ | refine k_ret ?_ | refine k_exit ?_ | refine k_block ?_ | refine k_true (h := ?_) | refine k_false (h := ?_))
    | (show EX _ (bodyA _ _ _) _ _ _; first | refine x_end1 (hq := ?_))
    | (show EX _ _ _ _ _; first | refine x_normal ?_ | refine x_ret ?_ | refine x_exit ?_ | refine x_same ?_ | refine x_other (h := ?_) | refine x_bnormal ?_ | refine x_bret ?_))
  have hkb : Keep No H (H.push (.row ⟨[], 9, 0, true⟩)) := by exact kp
  (first | (refine' ew_appS (hR := ?_) (h := ?_); rotate_left 1) | (refine' ew_app (hR := ?_) (h := ?_); rotate_left 1))
  · exact app_ownS (O := fun x => x = b) (ls := []) (.inr ⟨⟨b, 0, none⟩, 0, ⟨[], 9, 0, true⟩, rfl, rfl, by simp; omega, by rw [AHeap.push_get, if_pos hb], rfl, rfl, by simp, rfl, rfl, .inl rfl⟩) (Rd.keep0 hd hkb) (by omega)
  rintro sv H1 ⟨ho1, hk1⟩
  repeat' (first
    | (show EW _ _ _ _ _; first | refine ew_p (h := ?_) | (refine ew_fresh ?_; intro b hb; refine ew_nw hb (h := ?_); (try simp only [AHeap.push_next, AHeap.put_next] at hb)) | (refine ew_df (ht := ?_) (hf := ?_) <;> intro _) | refine w_nil ?_)
    | (show EC _ _ _ _ _ _ _; first | refine k_seq ?_ | refine k_region ?_ | refine k_skip ?_ | refine k_ret ?_ | refine k_exit ?_ | refine k_block ?_ | refine k_true (h := ?_) | refine k_false (h := ?_))
    | (show EX _ (bodyA _ _ _) _ _ _; first | refine x_end1 (hq := ?_))
    | (show EX _ _ _ _ _; first | refine x_normal ?_ | refine x_ret ?_ | refine x_exit ?_ | refine x_same ?_ | refine x_other (h := ?_) | refine x_bnormal ?_ | refine x_bret ?_))
  have hrd := ho1.rd
  rw [Nat.zero_add, List.nil_append] at hrd
  exact ⟨⟨_, hrd⟩, hkb.own hk1 (fun x hx => by have : x = b := hx; omega)⟩
theorem place_calls {H : AHeap} {F : Blks} {ad : Addr} {c : Nat} {k : List UInt8} {cs : List (List UInt8)} (hd : SR2 H F (.slice (some ad) cs.length c) cs) (hl : cs.length ≤ 8796093022000) :
    ACalls Tryz.prog 9 #[.string (strB k), .slice (some ad) cs.length c] H fun v H' => v = .int .i64 (placeN k cs) ∧ Keep No H H' := by
  refine k_open (args := [.string (strB k), .slice (some ad) cs.length c]) (E0 := [(0, .string (strB k)), (1, .slice (some ad) cs.length c)]) tbl9 Tryz.func9 rfl follows (by kernel_rfl) Tryz.ntmps9 rfl rfl ?_
  repeat' (first
    | (show EW _ _ _ _ _; first | refine ew_p (h := ?_) | refine w_nil ?_)
    | (show EC _ _ _ _ _ _ _; first | refine k_seq ?_ | refine k_region ?_ | refine k_skip ?_ | refine k_ret ?_ | refine k_exit ?_ | refine k_block ?_ | refine k_true (h := ?_) | refine k_false (h := ?_))
    | (show EX _ (bodyA _ _ _) _ _ _; first | refine x_end1 (hq := ?_))
    | (show EX _ _ _ _ _; first | refine x_normal ?_ | refine x_ret ?_ | refine x_exit ?_ | refine x_same ?_ | refine x_other (h := ?_) | refine x_bnormal ?_ | refine x_bret ?_))
  (first | (refine' ew_callS (hc := cr_call) (hR := ?_) (h := ?_); rotate_left 1) | (refine' ew_call (hc := cr_call) (hR := ?_) (h := ?_); rotate_left 1))
  · show ACalls _ _ _ _ fun v H' => ∃ b dv, v = .func (.func 51) #[] #[.pointer (some ⟨b, 0, none⟩)] ∧ (∃ F', SR2 H' F' dv cs) ∧ H'.get b = some (.row ⟨[dv], 22, 0, true⟩) ∧ Keep No H H'
    refine k_open (args := [.slice (some ad) cs.length c]) (E0 := [(0, .slice (some ad) cs.length c)]) tbl30 Tryz.func30 rfl follows (by kernel_rfl) Tryz.ntmps30 rfl rfl ?_
    repeat' (first
    | (show EW _ _ _ _ _; first | refine ew_p (h := ?_) | (refine ew_fresh ?_; intro b hb; refine ew_nw hb (h := ?_); (try simp only [AHeap.push_next, AHeap.put_next] at hb)) | refine ew_st (h := ?_) | refine w_nil ?_)
    | (show EC _ _ _ _ _ _ _; first | refine k_seq ?_ | refine k_region ?_ | refine k_skip ?_ | refine k_ret ?_ | refine k_exit ?_ | refine k_block ?_ | refine k_true (h := ?_) | refine k_false (h := ?_))
    | (show EX _ (bodyA _ _ _) _ _ _; first | refine x_end1 (hq := ?_))
    | (show EX _ _ _ _ _; first | refine x_normal ?_ | refine x_ret ?_ | refine x_exit ?_ | refine x_same ?_ | refine x_other (h := ?_) | refine x_bnormal ?_ | refine x_bret ?_))
    (first | (refine' ew_callS (hc := cr_call) (hR := ?_) (h := ?_); rotate_left 1) | (refine' ew_call (hc := cr_call) (hR := ?_) (h := ?_); rotate_left 1))
    · exact clone_calls hd hl
    rintro dv H1 ⟨⟨F1, hd1⟩, hk1⟩
    obtain ⟨z1, c1, rfl⟩ := Rd.slice hd1
    have hn1 := hk1.1
    repeat' (first
    | (show EW _ _ _ _ _; first | refine ew_n (hn := r_func) (h := ?_) | refine ew_p (h := ?_) | (refine ew_fresh ?_; intro b hb; refine ew_nw hb (h := ?_); (try simp only [AHeap.push_next, AHeap.put_next] at hb)) | refine ew_st (h := ?_) | refine w_nil ?_)
    | (show EC _ _ _ _ _ _ _; first | refine k_seq ?_ | refine k_region ?_ | refine k_skip ?_ | refine k_ret ?_ | refine k_exit ?_ | refine k_block ?_ | refine k_true (h := ?_) | refine k_false (h := ?_))
    | (show EX _ (bodyA _ _ _) _ _ _; first | refine x_end1 (hq := ?_))
    | (show EX _ _ _ _ _; first | refine x_normal ?_ | refine x_ret ?_ | refine x_exit ?_ | refine x_same ?_ | refine x_other (h := ?_) | refine x_bnormal ?_ | refine x_bret ?_))
    have hkx : Keep No H1 ((H1.push (.row ⟨[.slice none 0 0], 22, 0, true⟩)).put b (.row ⟨[.slice z1 cs.length c1], 22, 0, true⟩)) := by exact kp
    exact ⟨b, .slice z1 cs.length c1, rfl, ⟨F1, Rd.keep0 hd1 hkx⟩, by rw [AHeap.put_get, if_pos rfl], hk1.after hkx⟩
  rintro _ H1 ⟨b, dv, rfl, ⟨F1, hd1⟩, hg1, hk1⟩
  repeat' (first
    | (show EW _ _ _ _ _; first | refine ew_p (h := ?_) | refine w_nil ?_)
    | (show EC _ _ _ _ _ _ _; first | refine k_seq ?_ | refine k_region ?_ | refine k_skip ?_ | refine k_ret ?_ | refine k_exit ?_ | refine k_block ?_ | refine k_true (h := ?_) | refine k_false (h := ?_))
    | (show EX _ (bodyA _ _ _) _ _ _; first | refine x_end1 (hq := ?_))
    | (show EX _ _ _ _ _; first | refine x_normal ?_ | refine x_ret ?_ | refine x_exit ?_ | refine x_same ?_ | refine x_other (h := ?_) | refine x_bnormal ?_ | refine x_bret ?_))
  refine' ew_callS (hc := cr_clo) (hR := ?_) (h := ?_); rotate_left 1
  · exact clo_calls hd1 hg1 hl
  rintro _ H2 ⟨rfl, rfl⟩
  repeat' (first
    | (show EW _ _ _ _ _; first | refine ew_p (h := ?_) | refine w_nil ?_)
    | (show EC _ _ _ _ _ _ _; first | refine k_seq ?_ | refine k_region ?_ | refine k_skip ?_ | refine k_ret ?_ | refine k_exit ?_ | refine k_block ?_ | refine k_true (h := ?_) | refine k_false (h := ?_))
    | (show EX _ (bodyA _ _ _) _ _ _; first | refine x_end1 (hq := ?_))
    | (show EX _ _ _ _ _; first | refine x_normal ?_ | refine x_ret ?_ | refine x_exit ?_ | refine x_same ?_ | refine x_other (h := ?_) | refine x_bnormal ?_ | refine x_bret ?_))
  exact ⟨rfl, hk1⟩
/-! ### The same texts -/
end Go.Ae

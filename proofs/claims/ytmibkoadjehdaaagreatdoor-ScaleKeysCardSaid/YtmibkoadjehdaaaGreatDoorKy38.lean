/- value.Compare of texts, and what the operator < makes of them. expr.Canon of the split's text. What the operator < makes of texts. The place of a key among rising bounds; scale.Place with nil bounds. -/
import Derived.Test.YtmibkoadjehdaaaGreatDoorKy37
import Derived.Test.YtmibkoadjehdaaaGreatDoorKy26
import Derived.Test.YtmibkoadjehdaaaGreatDoorKy22
import Derived.Test.YtmibkoadjehdaaaGreatDoorKy19
set_option linter.unusedVariables false
set_option linter.unusedSimpArgs false
set_option linter.unusedVariables false
set_option linter.unusedSimpArgs false
set_option linter.unnecessarySimpa false
set_option maxRecDepth 100000
namespace Go.Ae
open Go.Proofs Go.Proofs.YtmibkoadjehdaaaGreatDoor
attribute [local irreducible] awC wpSeq wpS nRes aw aE acall ACalls szT isAggT zeroT byT elemSz fieldOff Program.underlying appendA copyA thenA inBlockA bodyA AHeap.push AHeap.put AHeap.cellsAt AHeap.setCells resV loadA intBin EW EC EX Nr Nc Er Cr Agree
def noneV : Value := .agg #[.int .i64 0, .int .i64 0, .string .empty, .slice none 0 0]
def intV (n : Int) : Value := .agg #[.int .i64 1, .int .i64 n, .string .empty, .slice none 0 0]
theorem flat_txt (b : List UInt8) : flatV (txtV b) = true := by simp [txtV, flatV, simpleV]
theorem flat_none : flatV noneV = true := by simp [noneV, flatV, simpleV]
theorem flat_int (n : Int) : flatV (intV n) = true := by simp [intV, flatV, simpleV]
def ZV : List (FuncId × List Tmp) := [(176, [43, 69, 70])]
noncomputable def fA : An := .val (.bool false)
noncomputable def tA : An := .val (.bool true)
def neP (b : List UInt8) (t : Bool) : Value × Value := (.bool (!((strB b).toList == ByteArray.toList .empty)), .bool t)
def lnP (b : List UInt8) : Value × Value := (.bool (Nat.blt 24 (strB b).size), .bool false)
theorem empty_toList : ByteArray.toList .empty = [] := by simpa using strB_toList []
theorem neP_t {b : List UInt8} (h : b ≠ []) : (neP b true).1 = (neP b true).2 := by
  simp only [neP, strB_toList, empty_toList]
  cases b with
  | nil => exact absurd rfl h
  | cons x b => rfl
theorem neP_f : (neP [] false).1 = (neP [] false).2 := by
  simp only [neP, strB_toList, empty_toList]
  rfl
theorem lnP_ok {b : List UInt8} (h : b.length ≤ 24) : (lnP b).1 = (lnP b).2 := by
  have := strB_size b
  simp only [lnP, this, Value.bool.injEq]
  rw [← Bool.not_eq_true, Nat.blt_eq]
  omega
theorem noT {l : List An} (h : ∀ a ∈ l, ∃ v, a = .val v) : ∀ hd, An.call hd ∈ l → HOk Tryz.prog hd := fun hd hm => by
  obtain ⟨v, hv⟩ := h _ hm
  cases hv
theorem val1 (b : List UInt8) : runX [] ZV 122 [txtV b] 20 [tA, fA] = some ([lnP b, neP b true], txtV b) := by kernel_rfl
theorem val0 (b : List UInt8) : runX [] ZV 122 [txtV b] 20 [fA, fA] = some ([lnP b, neP b false], txtV b) := by kernel_rfl
theorem valid_calls {b : List UInt8} (hb : b.length ≤ 24) {H : AHeap} (hg : ∀ p ∈ globs, H.get p.1 = some (.row p.2)) : ACalls Tryz.prog 122 #[txtV b] H fun v H' => v = txtV b ∧ H' = H := by
  have h2 := lnP_ok hb
  by_cases h0 : b = []
  · subst h0
    refine closedX rfl (noT (by intro a ha; simp [fA] at ha; exact ⟨_, ha⟩)) (fun p hp => ?_) (val0 []) (by simp [flat_txt]) (flat_txt _) hg
    simp only [List.mem_cons, List.mem_nil_iff, or_false] at hp
    rcases hp with rfl | rfl
    · exact h2
    · exact neP_f
  · refine closedX rfl (noT (by intro a ha; simp [fA, tA] at ha; rcases ha with rfl | rfl <;> exact ⟨_, rfl⟩)) (fun p hp => ?_) (val1 b) (by simp [flat_txt]) (flat_txt _) hg
    simp only [List.mem_cons, List.mem_nil_iff, or_false] at hp
    rcases hp with rfl | rfl
    · exact h2
    · exact neP_t h0
theorem validN_run : runX [] [] 122 [noneV] 20 [] = some ([], noneV) := by kernel_rfl
theorem validN_calls {H : AHeap} (hg : ∀ p ∈ globs, H.get p.1 = some (.row p.2)) : ACalls Tryz.prog 122 #[noneV] H fun v H' => v = noneV ∧ H' = H :=
  closedX rfl (noT (by simp)) (by simp) validN_run (by simp [flat_none]) flat_none hg
/-! ### order -/
def ZO : List (FuncId × List Tmp) := [(269, [45, 51])]
def txN (a b : List UInt8) (t : Bool) : Value × Value := (.bool (!((strB a).toList == (strB b).toList)), .bool t)
def txL (a b : List UInt8) (t : Bool) : Value × Value := (.bool (Op.bytesLess (strB a).toList (strB b).toList), .bool t)
theorem ord_eq (a b : List UInt8) : runX [] ZO 269 [txtV a, txtV b] 20 [fA] = some ([txN a b false], .int .i64 0) := by kernel_rfl
theorem ord_lt (a b : List UInt8) : runX [] ZO 269 [txtV a, txtV b] 20 [tA, tA] = some ([txL a b true, txN a b true], .int .i64 (-1)) := by kernel_rfl
theorem ord_gt (a b : List UInt8) : runX [] ZO 269 [txtV a, txtV b] 20 [tA, fA] = some ([txL a b false, txN a b true], .int .i64 1) := by kernel_rfl
theorem ord_none (b : List UInt8) : runX [] [] 269 [noneV, txtV b] 20 [] = some ([], .int .i64 (-1)) := by kernel_rfl
def cmpB (a b : List UInt8) : Int := if a = b then 0 else if ltB a b = true then -1 else 1
theorem order_calls (a b : List UInt8) {H : AHeap} (hg : ∀ p ∈ globs, H.get p.1 = some (.row p.2)) : ACalls Tryz.prog 269 #[txtV a, txtV b] H fun v H' => v = .int .i64 (cmpB a b) ∧ H' = H := by
  have hfl : ([txtV a, txtV b] : List Value).all flatV = true := by simp [flat_txt]
  have e1 : ∀ t, (txN a b t).1 = (txN a b t).2 ↔ (!(a == b)) = t := fun t => by simp only [txN, strB_toList, Value.bool.injEq]
  have e2 : ∀ t, (txL a b t).1 = (txL a b t).2 ↔ ltB a b = t := fun t => by simp only [txL, strB_toList, Value.bool.injEq, ltB]
  unfold cmpB
  by_cases h : a = b
  · rw [if_pos h]
    refine closedX rfl (noT (by intro x hx; simp [fA] at hx; exact ⟨_, hx⟩)) (fun p hp => ?_) (ord_eq a b) hfl rfl hg
    rw [List.mem_singleton] at hp
    subst hp
    exact (e1 false).2 (by simp [h])
  · rw [if_neg h]
    by_cases hl : ltB a b = true
    · rw [if_pos hl]
      refine closedX rfl (noT (by intro x hx; simp [tA] at hx; exact ⟨_, hx⟩)) (fun p hp => ?_) (ord_lt a b) hfl rfl hg
      simp only [List.mem_cons, List.mem_nil_iff, or_false] at hp
      rcases hp with rfl | rfl
      · exact (e2 true).2 hl
      · exact (e1 true).2 (by simp [h])
    · rw [if_neg hl]
      refine closedX rfl (noT (by intro x hx; simp [fA, tA] at hx; rcases hx with rfl | rfl <;> exact ⟨_, rfl⟩)) (fun p hp => ?_) (ord_gt a b) hfl rfl hg
      simp only [List.mem_cons, List.mem_nil_iff, or_false] at hp
      rcases hp with rfl | rfl
      · exact (e2 false).2 (by simpa using hl)
      · exact (e1 true).2 (by simp [h])
theorem orderN_calls (b : List UInt8) {H : AHeap} (hg : ∀ p ∈ globs, H.get p.1 = some (.row p.2)) : ACalls Tryz.prog 269 #[noneV, txtV b] H fun v H' => v = .int .i64 (-1) ∧ H' = H :=
  closedX rfl (noT (by simp)) (by simp) (ord_none b) (by simp [flat_txt, flat_none]) rfl hg
/-! ### Compare, worth -/
theorem glob14 : ∀ p ∈ globs, p.1 < 14 := by
  intro p hp
  have : globs.map (·.1) = [0, 1, 2, 3, 4, 5, 6, 7, 8, 9, 10, 11, 12, 13] := rfl
  have hm : p.1 ∈ globs.map (·.1) := List.mem_map.2 ⟨p, hp, rfl⟩
  rw [this] at hm
  simp at hm
  omega
theorem gk {H H' : AHeap} (hg : ∀ p ∈ globs, H.get p.1 = some (.row p.2)) (hn : 14 ≤ H.next) (hk : Keep No H H') : ∀ p ∈ globs, H'.get p.1 = some (.row p.2) := fun p hp => hk.row0 (hg p hp) (Nat.lt_of_lt_of_le (glob14 p hp) hn)
def tbl254 : Tbl := [(1, [0, 2, 1, 3, 4, 5], [0, 1, 0, 7, 15, 31])]
theorem compare_keep {s u : List UInt8} (hs : s.length ≤ 24) (hu : u.length ≤ 24) {H : AHeap} (hg : ∀ p ∈ globs, H.get p.1 = some (.row p.2)) (hn : 14 ≤ H.next) :
    ACalls Tryz.prog 254 #[txtV s, txtV u] H fun v H' => v = .int .i64 (cmpB s u) ∧ flatV v = true ∧ Keep No H H' := by
  refine k_open (args := [txtV s, txtV u]) (E0 := [(0, txtV s), (1, txtV u)]) tbl254 Tryz.func254 rfl follows (by kernel_rfl) Tryz.ntmps254 rfl rfl ?_
  repeat' (first
    | (show EW _ _ _ _ _; first | refine ew_p (h := ?_) | refine ew_ld (h := ?_) | (refine ew_fresh ?_; intro b hb; refine ew_nw hb (h := ?_); (try simp only [AHeap.push_next, AHeap.put_next] at hb)) | (refine ew_cf (hc := cr_call) (hR := valid_calls hs (gk hg hn (by exact kp))) (h := ?_); rintro _ rfl) | (refine ew_cf (hc := cr_call) (hR := valid_calls hu (gk hg hn (by exact kp))) (h := ?_); rintro _ rfl) | (refine ew_cf (hc := cr_call) (hR := order_calls s u (gk hg hn (by exact kp))) (h := ?_); rintro _ rfl) | refine w_nil ?_ | refine w_nilD ?_)
    | (show EC _ _ _ _ _ _ _; first | refine k_seq ?_ | refine k_region ?_ | refine k_draw (h := ?_) | refine k_skip ?_ | refine k_ret ?_ | refine k_exit ?_ | refine k_block ?_ | refine k_true (h := ?_) | refine k_false (h := ?_))
    | (show EX _ (bodyA _ _ _) _ _ _; first | refine x_end1 (hq := ?_))
    | (show EX _ _ _ _ _; first | refine x_normal ?_ | refine x_ret ?_ | refine x_exit ?_ | refine x_same ?_ | refine x_other (h := ?_) | refine x_bnormal ?_ | refine x_bret ?_))
  all_goals exact ⟨rfl, rfl, by exact kp⟩
end Go.Ae
set_option linter.unusedVariables false
set_option linter.unusedSimpArgs false
set_option maxRecDepth 100000
namespace Go.Ae
open Go.Proofs Go.Proofs.YtmibkoadjehdaaaGreatDoor
/-- What value.Print gives of a text. -/
def PrOk (X : List UInt8 → List UInt8) : Prop := ∀ b : List UInt8, b.length ≤ 12 → (X b).length ≤ 1000 ∧ (X b).flatMap pByte = quoteB b ∧ ∀ H : AHeap, (∀ p ∈ globs, H.get p.1 = some (.row p.2)) → ACalls Tryz.prog 79 #[txtV b] H fun v H' => v = .string (strB (X b)) ∧ H' = H
noncomputable def prA (X : List UInt8 → List UInt8) (b : List UInt8) : List An := [.call (puO 79 [txtV b] (.string (strB (X b))) globs), .call (puO 94 [.string (strB (X b))] (.string (strB (quoteB b))) [])]
def glP : List (Value × Value) := globs.map fun p => (.agg ⟨p.2.cells⟩, .agg ⟨p.2.cells⟩)
def prP (X : List UInt8 → List UInt8) (b : List UInt8) : List (Value × Value) := (.agg ⟨[txtV b]⟩, .agg ⟨[txtV b]⟩) :: (glP ++ [(.agg ⟨[.string (strB (X b))]⟩, .agg ⟨[.string (strB (X b))]⟩)])
noncomputable def tapeC (X : List UInt8 → List UInt8) (bs : List (List UInt8)) : List An := tapeP bs ++ (bs.flatMap (prA X) ++ [.call (joO (outF 0 bs))])
def pairsC (X : List UInt8 → List UInt8) (bs : List (List UInt8)) : List (Value × Value) := pairsP bs ++ (bs.flatMap (prP X) ++ [(.agg ⟨strV (outF 0 bs)⟩, .agg ⟨strV (outF 0 bs)⟩)])
theorem glP_ok : ∀ p ∈ glP, p.1 = p.2 := by
  intro p hp
  obtain ⟨q, _, rfl⟩ := List.mem_map.1 hp
  rfl
theorem prP_ok {X : List UInt8 → List UInt8} {b : List UInt8} : ∀ p ∈ prP X b, p.1 = p.2 := by
  intro p hp
  rcases List.mem_cons.1 hp with rfl | hp
  · rfl
  rcases List.mem_append.1 hp with hp | hp
  · exact glP_ok p hp
  · rw [List.mem_singleton] at hp; subst hp; rfl
theorem pairsC_ok {X : List UInt8 → List UInt8} {bs : List (List UInt8)} (hs : (textK bs).length ≤ 100) : ∀ p ∈ pairsC X bs, p.1 = p.2 := by
  intro p hp
  rcases List.mem_append.1 hp with hp | hp
  · exact pairsP_ok hs p hp
  rcases List.mem_append.1 hp with hp | hp
  · obtain ⟨b, _, hp⟩ := List.mem_flatMap.1 hp
    exact prP_ok p hp
  · rw [List.mem_singleton] at hp; subst hp; rfl
theorem wordy_quote (b : List UInt8) : wordyB (quoteB b) = false := rfl
theorem w_if : wordyB [105, 102] = true := rfl
theorem w_key : wordyB [107, 101, 121] = true := rfl
theorem w_lt : wordyB [60] = false := rfl
theorem w_then : wordyB [116, 104, 101, 110] = true := rfl
theorem w_else : wordyB [101, 108, 115, 101] = true := rfl
theorem w_n0 : wordyB (numK 0) = false := rfl
theorem w_n1 : wordyB (numK 1) = false := rfl
theorem w_n2 : wordyB (numK 2) = false := rfl
theorem w_n3 : wordyB (numK 3) = false := rfl
theorem join_text {bs : List (List UInt8)} (h1 : bs ≠ []) (hk : bs.length ≤ 3) : joinB (outF 0 bs) = textK bs := by
  rcases three h1 hk with ⟨b, rfl⟩ | ⟨b, c, rfl⟩ | ⟨b, c, d, rfl⟩ <;>
    simp [joinB, joinP, textK, toks, toksF, tkI, srcT, Tk.all, Tk.src, outF, w_if, w_key, w_lt, w_then, w_else, w_n0, w_n1, w_n2, w_n3, List.range_succ, wordy_quote, wordsL, List.getD, List.replicate]
theorem outF_ne (bs : List (List UInt8)) : outF 0 bs ≠ [] := by cases bs <;> simp [outF]
theorem outF_len : ∀ (i : Nat) (bs : List (List UInt8)), (outF i bs).length = 7 * bs.length + 1
  | i, [] => rfl
  | i, b :: bs => by simp only [outF, List.length_append, outF_len (i + 1) bs, List.length_cons, List.length_nil]; omega
theorem tapeC_ok {X : List UInt8 → List UInt8} (hX : PrOk X) {bs : List (List UInt8)} (h1 : bs ≠ []) (hk : bs.length ≤ 3) (hb : ∀ b ∈ bs, b.length ≤ 12) (hs : (textK bs).length ≤ 100) : ∀ hd, An.call hd ∈ tapeC X bs → HOk Tryz.prog hd := by
  intro hd hm
  rcases List.mem_append.1 hm with hm | hm
  · exact tapeP_ok hk hb hs hd hm
  rcases List.mem_append.1 hm with hm | hm
  · obtain ⟨b, hbm, hm⟩ := List.mem_flatMap.1 hm
    obtain ⟨hx1, hx2, hx3⟩ := hX b (hb b hbm)
    simp only [prA, List.mem_cons, List.mem_nil_iff, or_false] at hm
    rcases hm with h | h
    · obtain rfl := An.call.inj h
      exact puO_ok fun H hg => hx3 H hg
    · obtain rfl := An.call.inj h
      refine puO_ok fun H _ => ?_
      have := plain_calls (H := H) (X b) (by omega)
      rw [hx2] at this
      exact this
  · rw [List.mem_singleton] at hm
    obtain rfl := An.call.inj hm
    exact joO_ok (outF_ne bs) (by rw [outF_len]; omega) (by rw [join_text h1 hk]; omega)
def XC : List FuncId := [132, 79, 94, 45]
theorem okC4 : XC.all okX = true := by kernel_rfl
theorem canon1 (X : List UInt8 → List UInt8) (b : List UInt8) : runX XC ZP 27 [.string (strB (textK [b]))] 40 (tapeC X [b]) = some ((pairsC X [b]).reverse, .tuple #[.string (strB (joinB (outF 0 [b]))), .nilIface]) := by kernel_rfl
theorem canon2 (X : List UInt8 → List UInt8) (b c : List UInt8) : runX XC ZP 27 [.string (strB (textK [b, c]))] 40 (tapeC X [b, c]) = some ((pairsC X [b, c]).reverse, .tuple #[.string (strB (joinB (outF 0 [b, c]))), .nilIface]) := by kernel_rfl
theorem canon3 (X : List UInt8 → List UInt8) (b c d : List UInt8) : runX XC ZP 27 [.string (strB (textK [b, c, d]))] 40 (tapeC X [b, c, d]) = some ((pairsC X [b, c, d]).reverse, .tuple #[.string (strB (joinB (outF 0 [b, c, d]))), .nilIface]) := by kernel_rfl
/-- expr.Canon gives the text back. -/
theorem canon_calls {X : List UInt8 → List UInt8} (hX : PrOk X) {bs : List (List UInt8)} (h1 : bs ≠ []) (hk : bs.length ≤ 3) (hb : ∀ b ∈ bs, b.length ≤ 12) (hs : (textK bs).length ≤ 100) {H : AHeap} (hg : ∀ p ∈ globs, H.get p.1 = some (.row p.2)) :
    ACalls Tryz.prog 27 #[.string (strB (textK bs))] H fun v H' => v = .tuple #[.string (strB (textK bs)), .nilIface] ∧ H' = H := by
  have go : ∀ {L : List (Value × Value)}, L = (pairsC X bs).reverse → runX XC ZP 27 [.string (strB (textK bs))] 40 (tapeC X bs) = some (L, .tuple #[.string (strB (joinB (outF 0 bs))), .nilIface]) → ACalls Tryz.prog 27 #[.string (strB (textK bs))] H fun v H' => v = .tuple #[.string (strB (textK bs)), .nilIface] ∧ H' = H := fun hL h => by
    subst hL
    rw [join_text h1 hk] at h
    exact closedX okC4 (tapeC_ok hX h1 hk hb hs) (fun p hp => pairsC_ok hs p (List.mem_reverse.1 hp)) h (by simp [flatV, simpleV]) (by simp [flatV, simpleV]) hg
  rcases three h1 hk with ⟨b, rfl⟩ | ⟨b, c, rfl⟩ | ⟨b, c, d, rfl⟩
  · exact go rfl (canon1 X b)
  · exact go rfl (canon2 X b c)
  · exact go rfl (canon3 X b c d)
end Go.Ae
set_option linter.unusedVariables false
set_option linter.unusedSimpArgs false
set_option linter.unnecessarySimpa false
set_option maxRecDepth 100000
namespace Go.Ae
open Go.Proofs Go.Proofs.YtmibkoadjehdaaaGreatDoor
attribute [local irreducible] awC wpSeq wpS nRes aw aE acall ACalls szT isAggT zeroT byT elemSz fieldOff Program.underlying appendA copyA thenA inBlockA bodyA AHeap.push AHeap.put AHeap.cellsAt AHeap.setCells resV loadA intBin EW EC EX Nr Nc Er Cr Agree
theorem compare_calls {s u : List UInt8} (hs : s.length ≤ 24) (hu : u.length ≤ 24) {H : AHeap} (hg : ∀ p ∈ globs, H.get p.1 = some (.row p.2)) (hn : 14 ≤ H.next) : ACalls Tryz.prog 254 #[txtV s, txtV u] H fun v H' => v = .int .i64 (cmpB s u) ∧ H' = H := (compare_keep hs hu hg hn).forget
theorem compareN_keep {u : List UInt8} (hu : u.length ≤ 24) {H : AHeap} (hg : ∀ p ∈ globs, H.get p.1 = some (.row p.2)) (hn : 14 ≤ H.next) :
    ACalls Tryz.prog 254 #[noneV, txtV u] H fun v H' => v = .int .i64 (-1) ∧ flatV v = true ∧ Keep No H H' := by
  refine k_open (args := [noneV, txtV u]) (E0 := [(0, noneV), (1, txtV u)]) tbl254 Tryz.func254 rfl follows (by kernel_rfl) Tryz.ntmps254 rfl rfl ?_
  repeat' (first
    | (show EW _ _ _ _ _; first | refine ew_p (h := ?_) | refine ew_ld (h := ?_) | (refine ew_fresh ?_; intro b hb; refine ew_nw hb (h := ?_); (try simp only [AHeap.push_next, AHeap.put_next] at hb)) | (refine ew_cf (hc := cr_call) (hR := validN_calls (gk hg hn (by exact kp))) (h := ?_); rintro _ rfl) | (refine ew_cf (hc := cr_call) (hR := valid_calls hu (gk hg hn (by exact kp))) (h := ?_); rintro _ rfl) | (refine ew_cf (hc := cr_call) (hR := orderN_calls u (gk hg hn (by exact kp))) (h := ?_); rintro _ rfl) | refine w_nil ?_ | refine w_nilD ?_)
    | (show EC _ _ _ _ _ _ _; first | refine k_seq ?_ | refine k_region ?_ | refine k_draw (h := ?_) | refine k_skip ?_ | refine k_ret ?_ | refine k_exit ?_ | refine k_block ?_ | refine k_true (h := ?_) | refine k_false (h := ?_))
    | (show EX _ (bodyA _ _ _) _ _ _; first | refine x_end1 (hq := ?_))
    | (show EX _ _ _ _ _; first | refine x_normal ?_ | refine x_ret ?_ | refine x_exit ?_ | refine x_same ?_ | refine x_other (h := ?_) | refine x_bnormal ?_ | refine x_bret ?_))
  all_goals exact ⟨rfl, rfl, by exact kp⟩
theorem compareN_calls {u : List UInt8} (hu : u.length ≤ 24) {H : AHeap} (hg : ∀ p ∈ globs, H.get p.1 = some (.row p.2)) (hn : 14 ≤ H.next) : ACalls Tryz.prog 254 #[noneV, txtV u] H fun v H' => v = .int .i64 (-1) ∧ H' = H := (compareN_keep hu hg hn).forget
/-! ### worth -/
noncomputable def cpA (kv : Value) (u : List UInt8) (c : Int) : An := .call (puN 254 [kv, txtV u] (.int .i64 c) globs)
def cpP (kv : Value) (u : List UInt8) : List (Value × Value) := (.agg ⟨[kv, txtV u]⟩, .agg ⟨[kv, txtV u]⟩) :: glP
theorem ok254 : ([254] : List FuncId).all okX = true := by kernel_rfl
theorem wo_lt (s u : List UInt8) : runX [254] [] 334 [.string (strB [60]), txtV s, txtV u] 20 [cpA (txtV s) u (-1)] = some ((cpP (txtV s) u).reverse, intV 1) := by kernel_rfl
theorem wo_eq (s u : List UInt8) : runX [254] [] 334 [.string (strB [60]), txtV s, txtV u] 20 [cpA (txtV s) u 0] = some ((cpP (txtV s) u).reverse, intV 0) := by kernel_rfl
theorem wo_gt (s u : List UInt8) : runX [254] [] 334 [.string (strB [60]), txtV s, txtV u] 20 [cpA (txtV s) u 1] = some ((cpP (txtV s) u).reverse, intV 0) := by kernel_rfl
theorem wo_no (u : List UInt8) : runX [254] [] 334 [.string (strB [60]), noneV, txtV u] 20 [cpA noneV u (-1)] = some ((cpP noneV u).reverse, intV 1) := by kernel_rfl
theorem cpP_ok {kv : Value} {u : List UInt8} : ∀ p ∈ (cpP kv u).reverse, p.1 = p.2 := by
  intro p hp
  rcases List.mem_cons.1 (List.mem_reverse.1 hp) with rfl | hp
  · rfl
  · exact glP_ok p hp
theorem cpT {kv : Value} {u : List UInt8} {c : Int} (hC : ∀ H : AHeap, 14 ≤ H.next → (∀ p ∈ globs, H.get p.1 = some (.row p.2)) → ACalls Tryz.prog 254 #[kv, txtV u] H fun v H' => v = .int .i64 c ∧ H' = H) : ∀ hd, An.call hd ∈ [cpA kv u c] → HOk Tryz.prog hd := by
  intro hd hm
  rw [List.mem_singleton] at hm
  obtain rfl := An.call.inj hm
  exact puN_ok fun H hn hg => hC H hn hg
theorem flat_w {kv : Value} (hk : flatV kv = true) (u : List UInt8) : ([.string (strB [60]), kv, txtV u] : List Value).all flatV = true := by
  simp only [List.all_cons, List.all_nil, hk, flat_txt, Bool.and_true]
  rfl
theorem less_asymm : ∀ {x y : List UInt8}, Op.bytesLess x y = true → Op.bytesLess y x = true → False
  | [], [], h, _ => by simp [Op.bytesLess] at h
  | [], _ :: _, _, h => by simp [Op.bytesLess] at h
  | _ :: _, [], h, _ => by simp [Op.bytesLess] at h
  | a :: x, b :: y, h, h' => by
    simp only [Op.bytesLess, Bool.or_eq_true, decide_eq_true_eq, Bool.and_eq_true, beq_iff_eq] at h h'
    rcases h with h | ⟨rfl, h⟩
    · rcases h' with h' | ⟨rfl, h'⟩
      · exact UInt8.lt_irrefl _ (UInt8.lt_trans h h')
      · exact UInt8.lt_irrefl _ h
    · rcases h' with h' | ⟨_, h'⟩
      · exact UInt8.lt_irrefl _ h'
      · exact less_asymm h h'
theorem less_total : ∀ {x y : List UInt8}, Op.bytesLess x y = false → Op.bytesLess y x = false → x = y
  | [], [], _, _ => rfl
  | [], _ :: _, h, _ => by simp [Op.bytesLess] at h
  | _ :: _, [], _, h => by simp [Op.bytesLess] at h
  | a :: x, b :: y, h, h' => by
    simp only [Op.bytesLess, Bool.or_eq_false_iff, decide_eq_false_iff_not, Bool.and_eq_false_iff, beq_eq_false_iff_ne] at h h'
    have hab : a = b := by
      have h1 := UInt8.not_lt.1 h.1
      have h2 := UInt8.not_lt.1 h'.1
      exact UInt8.le_antisymm h2 h1
    subst hab
    rcases h.2 with h2 | h2
    · exact absurd rfl h2
    rcases h'.2 with h3 | h3
    · exact absurd rfl h3
    rw [less_total h2 h3]
theorem cmpB_three (s u : List UInt8) : cmpB s u = -1 ∨ cmpB s u = 0 ∨ cmpB s u = 1 := by
  unfold cmpB
  split
  · exact .inr (.inl rfl)
  · split
    · exact .inl rfl
    · exact .inr (.inr rfl)
theorem cmpB_lt (s u : List UInt8) : cmpB s u = -1 ↔ leB u s = false := by
  unfold cmpB leB ltB
  by_cases h : s = u
  · subst h; simp
  · rw [if_neg h]
    have hn : (u == s) = false := by simp; exact fun e => h e.symm
    rw [hn, Bool.or_false]
    by_cases hl : Op.bytesLess s u = true
    · rw [if_pos hl]
      simp
      cases hu : Op.bytesLess u s with
      | false => rfl
      | true => exact (less_asymm hl hu).elim
    · rw [if_neg hl]
      simp
      cases hu : Op.bytesLess u s with
      | true => rfl
      | false => exact absurd (less_total (by simpa using hl) hu) h
theorem worth_calls {s u : List UInt8} (hs : s.length ≤ 24) (hu : u.length ≤ 24) {H : AHeap} (hg : ∀ p ∈ globs, H.get p.1 = some (.row p.2)) :
    ACalls Tryz.prog 334 #[.string (strB [60]), txtV s, txtV u] H fun v H' => v = intV (if leB u s = true then 0 else 1) ∧ H' = H := by
  have hC : ∀ H : AHeap, 14 ≤ H.next → (∀ p ∈ globs, H.get p.1 = some (.row p.2)) → ACalls Tryz.prog 254 #[txtV s, txtV u] H fun v H' => v = .int .i64 (cmpB s u) ∧ H' = H := fun H hn hg => compare_calls hs hu hg hn
  by_cases h : leB u s = true
  · rw [if_pos h]
    have h1 : cmpB s u ≠ -1 := fun h' => by rw [(cmpB_lt s u).1 h'] at h; cases h
    rcases cmpB_three s u with e | e | e
    · exact absurd e h1
    · rw [e] at hC; exact closedX ok254 (cpT hC) cpP_ok (wo_eq s u) (flat_w (flat_txt s) u) (flat_int _) hg
    · rw [e] at hC; exact closedX ok254 (cpT hC) cpP_ok (wo_gt s u) (flat_w (flat_txt s) u) (flat_int _) hg
  · rw [if_neg h]
    have e := (cmpB_lt s u).2 (by simpa using h)
    rw [e] at hC
    exact closedX ok254 (cpT hC) cpP_ok (wo_lt s u) (flat_w (flat_txt s) u) (flat_int _) hg
theorem worthN_calls {u : List UInt8} (hu : u.length ≤ 24) {H : AHeap} (hg : ∀ p ∈ globs, H.get p.1 = some (.row p.2)) :
    ACalls Tryz.prog 334 #[.string (strB [60]), noneV, txtV u] H fun v H' => v = intV 1 ∧ H' = H :=
  closedX ok254 (cpT fun H hn hg => compareN_calls hu hg hn) cpP_ok (wo_no u) (flat_w flat_none u) (flat_int _) hg
end Go.Ae
set_option linter.unusedSimpArgs false
set_option linter.unusedVariables false
set_option linter.unnecessarySimpa false
set_option maxRecDepth 100000
namespace Go.Ae
open Go.Proofs
theorem less_trans : ∀ {x y z : List UInt8}, Op.bytesLess x y = true → Op.bytesLess y z = true → Op.bytesLess x z = true
  | _, [], _, h, _ => by simp [Op.bytesLess] at h
  | [], _ :: _, [], _, h => by simp [Op.bytesLess] at h
  | [], _ :: _, _ :: _, _, _ => by simp [Op.bytesLess]
  | _ :: _, _ :: _, [], _, h => by simp [Op.bytesLess] at h
  | a :: x, b :: y, c :: z, h, h' => by
    simp only [Op.bytesLess, Bool.or_eq_true, decide_eq_true_eq, Bool.and_eq_true, beq_iff_eq] at h h' ⊢
    rcases h with h | ⟨rfl, h⟩
    · rcases h' with h' | ⟨rfl, _⟩
      · exact .inl (UInt8.lt_trans h h')
      · exact .inl h
    · rcases h' with h' | ⟨rfl, h'⟩
      · exact .inl h'
      · exact .inr ⟨rfl, less_trans h h'⟩
theorem le_of_lt_le {b c k : List UInt8} (h : ltB b c = true) (h' : leB c k = true) : leB b k = true := by
  unfold leB at h' ⊢
  unfold ltB at h
  simp only [Bool.or_eq_true, beq_iff_eq] at h' ⊢
  rcases h' with h' | rfl
  · exact .inl (less_trans h h')
  · exact .inl h
/-- The bounds that are not above a key are the first ones. -/
theorem place_lt {bs : List (List UInt8)} (hR : Ris bs) (key : List UInt8) : ∀ (i : Nat) (b : List UInt8), bs[i]? = some b → (leB b key = true ↔ i < placeN key bs) := by
  obtain ⟨h1, h3, hok⟩ := hR
  rcases bs with _ | ⟨b0, _ | ⟨b1, _ | ⟨b2, _ | ⟨b3, bs⟩⟩⟩⟩
  · simp at h1
  · intro i b hi
    have : i = 0 := by have := (List.getElem?_eq_some_iff.1 hi).1; simp at this; omega
    subst this
    simp only [List.getElem?_cons_zero, Option.some.injEq] at hi
    subst hi
    cases h : leB b0 key <;> simp [placeN, h]
  · have l01 : ltB b0 b1 = true := by simpa using (hok 1 (by simp)).2 (by omega)
    have m := @le_of_lt_le b0 b1 key l01
    intro i b hi
    have : i = 0 ∨ i = 1 := by have := (List.getElem?_eq_some_iff.1 hi).1; simp at this; omega
    rcases this with rfl | rfl <;> simp only [List.getElem?_cons_zero, List.getElem?_cons_succ, Option.some.injEq] at hi <;> subst hi <;>
      cases h0 : leB b0 key <;> cases h1 : leB b1 key <;> first | (exfalso; rw [m h1] at h0; cases h0; done) | simp [placeN, h0, h1]
  · have l01 : ltB b0 b1 = true := by simpa using (hok 1 (by simp)).2 (by omega)
    have l12 : ltB b1 b2 = true := by simpa using (hok 2 (by simp)).2 (by omega)
    have m0 := @le_of_lt_le b0 b1 key l01
    have m1 := @le_of_lt_le b1 b2 key l12
    intro i b hi
    have : i = 0 ∨ i = 1 ∨ i = 2 := by have := (List.getElem?_eq_some_iff.1 hi).1; simp at this; omega
    rcases this with rfl | rfl | rfl <;> simp only [List.getElem?_cons_zero, List.getElem?_cons_succ, Option.some.injEq] at hi <;> subst hi <;>
      cases h0 : leB b0 key <;> cases h1 : leB b1 key <;> cases h2 : leB b2 key <;> first | (exfalso; rw [m0 h1] at h0; cases h0; done) | (exfalso; rw [m1 h2] at h1; cases h1; done) | simp [placeN, h0, h1, h2]
  · simp at h3
theorem pl_nil (key : List UInt8) (c : Nat) : runV 9 [.string (strB key), .slice none 0 c] 20 = some (.int .i64 0) := by kernel_rfl
/-- scale.Place, any slice of bounds. -/
theorem place_any {H : AHeap} {z : Option Addr} {c : Nat} {key : List UInt8} {bs : List (List UInt8)} (hd : SR2 H (fun _ => True) (.slice z bs.length c) bs) (hl : bs.length ≤ 8796093022000) (hg : ∀ p ∈ globs, H.get p.1 = some (.row p.2)) :
    ACalls Tryz.prog 9 #[.string (strB key), .slice z bs.length c] H fun v H' => v = .int .i64 (placeN key bs) ∧ H' = H := by
  cases z with
  | some ad => exact ((place_calls (k := key) hd hl).mono fun v H' ⟨h1, h2⟩ => (⟨h1, by rw [h1]; rfl, h2⟩ : v = .int .i64 (placeN key bs) ∧ flatV v = true ∧ Keep No H H')).forget
  | none =>
    have h0 : bs = [] := by
      have key : ∀ (v : Value) (n : Nat) (cells : List Value), Rd H (fun _ => True) 1 v n cells → ∀ n' c', v = .slice none n' c' → n = 0 := by
        intro v n cells h
        cases h with
        | empty => intro _ _ _; rfl
        | full => intro _ _ h; cases h
      exact List.eq_nil_of_length_eq_zero (key _ _ _ hd _ _ rfl)
    subst h0
    exact closed_v (args := [.string (strB key), .slice none 0 c]) (pl_nil key c) rfl rfl hg
end Go.Ae

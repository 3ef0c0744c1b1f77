/- scale's condition. Conditions: what value.Print gives of a text (PrOk), what expr.Canon gives of a text that is too long (LongOk). -/
import Derived.Test.YtmibkoadjehdaaaGreatDoorKy22
import Derived.Test.YtmibkoadjehdaaaGreatDoorKy38
set_option linter.unusedVariables false
set_option linter.unusedSimpArgs false
set_option linter.unusedSimpArgs false
set_option linter.unusedVariables false
set_option linter.unnecessarySimpa false
set_option maxRecDepth 100000
set_option maxHeartbeats 400000
namespace Go.Ae
open Go.Proofs Go.Proofs.YtmibkoadjehdaaaGreatDoor
theorem r_nilI {P : Program} {N : Nat} {E : Env} {H : AHeap} {d : Nat} {t yt ty : TypeId} {p : String} {af : Array Edge} {g : Option (Nat × Bool)} {x : Operand} {ms : Array (String × TypeId)} (un : UnT P t (.interface ms) := by exact inferInstance) (hx : evE E x = some .nilIface := by exact rfl) : Nr P N E H ⟨some d, .binOp .eql t x (.const .nilIface) yt, ty, p, af, g⟩ (.bool true) H := ⟨rfl, rfl, fun a ha => by
  have hx := ha.eval hx
  have hy : a.eval (.const .nilIface) = .nilIface := rfl
  have he : quiet P (Op.equal t .nilIface .nilIface) = some true := by
    unfold Op.equal Op.maxDepth Op.equalIn
    simp [quiet_bind, quiet_underlying, un.h, quiet_pure]
  have hq : quiet P (execOp a.eval ⟨some d, .binOp .eql t x (.const .nilIface) yt, ty, p, af, g⟩) = some (.value (.bool true)) := by
    simp [execOp, hx, hy, quiet_bind, quiet_pure, quiet_map, eqGuard, binOp, he]
  have h2 : quietOp P a.eval ⟨some d, .binOp .eql t x (.const .nilIface) yt, ty, p, af, g⟩ = some _ := quietOp_of (by simp [Op.operands, hx, hy, simpleV]) hq rfl
  simp [nRes, aP, hx, hy, simpleV, h2]⟩
attribute [local irreducible] awC wpSeq wpS nRes aw aE acall ACalls szT isAggT zeroT byT elemSz fieldOff Program.underlying appendA copyA thenA inBlockA bodyA AHeap.push AHeap.put AHeap.cellsAt AHeap.setCells resV loadA intBin EW EC EX Nr Nc Er Cr Agree
/-- What expr.Canon gives of a text that is too long. -/
def LongOk : Prop := ∀ s : List UInt8, 100 < s.length → s.length ≤ 1000000 → ∀ H : AHeap, (∀ p ∈ globs, H.get p.1 = some (.row p.2)) → 14 ≤ H.next → ACalls Tryz.prog 27 #[.string (strB s)] H fun v H' => (∃ t q, v = .tuple #[.string (strB []), .iface t (.pointer (some q))]) ∧ Keep No H H'
def condP (i : Nat) (b : List UInt8) : List UInt8 := (if i = 0 then [] else [32]) ++ ([105, 102, 32, 107, 101, 121, 60] ++ quoteB b ++ [116, 104, 101, 110] ++ numK i ++ [101, 108, 115, 101])
def preT (bs : List (List UInt8)) (i : Nat) : List UInt8 := (List.range i).flatMap fun j => condP j (bs.getD j [])
theorem preT_succ (bs : List (List UInt8)) (i : Nat) : preT bs (i + 1) = preT bs i ++ condP i (bs.getD i []) := by simp [preT, List.range_succ]
theorem pre_text {bs : List (List UInt8)} (h1 : bs ≠ []) (hk : bs.length ≤ 3) : preT bs bs.length ++ numK bs.length = textK bs := by
  rcases three h1 hk with ⟨b, rfl⟩ | ⟨b, c, rfl⟩ | ⟨b, c, d, rfl⟩ <;>
    simp [preT, condP, textK, toks, toksF, tkI, srcT, Tk.all, Tk.src, List.range_succ, wordsL, List.getD, List.replicate]
theorem condP_len {i : Nat} {b : List UInt8} (hb : b.length ≤ 12) : (condP i b).length ≤ 67 := by
  have := quoteB_le b
  unfold condP
  split <;> (simp only [List.length_append, List.length_cons, List.length_nil, numK]; omega)
theorem preT_len {bs : List (List UInt8)} : ∀ {i : Nat}, (∀ j, j < i → okB bs j) → (preT bs i).length ≤ 67 * i
  | 0, _ => by simp [preT]
  | i + 1, h => by
    rw [preT_succ, List.length_append]
    have := preT_len fun j hj => h j (Nat.lt_succ_of_lt hj)
    have h2 := condP_len (i := i) (h i (Nat.lt_succ_self i)).1
    omega
theorem ito0 : runV 104 [.int .i64 0] 20 = some (.string (strB (numK 0))) := by kernel_rfl
theorem ito1 : runV 104 [.int .i64 1] 20 = some (.string (strB (numK 1))) := by kernel_rfl
theorem ito2 : runV 104 [.int .i64 2] 20 = some (.string (strB (numK 2))) := by kernel_rfl
theorem ito3 : runV 104 [.int .i64 3] 20 = some (.string (strB (numK 3))) := by kernel_rfl
theorem itoa_calls {i : Nat} (hi : i < 4) {H : AHeap} (hg : ∀ p ∈ globs, H.get p.1 = some (.row p.2)) : ACalls Tryz.prog 104 #[.int .i64 (i : Int)] H fun v H' => v = .string (strB (numK i)) ∧ H' = H := by
  have : i = 0 ∨ i = 1 ∨ i = 2 ∨ i = 3 := by omega
  rcases this with rfl | rfl | rfl | rfl
  · exact closed_v (args := [.int .i64 0]) ito0 rfl rfl hg
  · exact closed_v (args := [.int .i64 1]) ito1 rfl rfl hg
  · exact closed_v (args := [.int .i64 2]) ito2 rfl rfl hg
  · exact closed_v (args := [.int .i64 3]) ito3 rfl rfl hg
def tbl57 : Tbl := [(15, [0, 1, 2, 3, 4], [0, 0, 2, 1, 15])]
def CdI (H0 : AHeap) (q : Nat) (F : Blks) (dv : Value) (bs : List (List UInt8)) (n : Nat) (E : Env) (H : AHeap) : Prop :=
  Keep No H0 H ∧ q = H0.next ∧ ∃ i : Nat, i ≤ bs.length ∧ n = bs.length - i ∧ (∀ j, j < i → okB bs j) ∧ Bu H q (fun i => q < i) (preT bs i) ∧ E = [(19, .int .i64 i), (18, .int .i64 bs.length), (17, dv), (0, dv), (2, .string .empty), (3, .bool false), (4, .pointer (some ⟨q, 0, none⟩))]
/-- What condition gives. -/
def CoV (bs : List (List UInt8)) (v : Value) : Prop := (Ris bs ∧ (textK bs).length ≤ 100 ∧ v = .tuple #[.string (strB (textK bs)), .bool true]) ∨ ((¬ Ris bs ∨ 100 < (textK bs).length) ∧ v = .tuple #[.string (strB []), .bool false])
theorem cond_keep {X : List UInt8 → List UInt8} (hX : PrOk X) (hLong : LongOk) {H : AHeap} {F : Blks} {dv : Value} {bs : List (List UInt8)} (hd : SR2 H F dv bs) (hl : bs.length ≤ 8796093022000) (hg : ∀ p ∈ globs, H.get p.1 = some (.row p.2)) (hn14 : 14 ≤ H.next) :
    ACalls Tryz.prog 57 #[dv] H fun v H' => CoV bs v ∧ flatV v = true ∧ Keep No H H' := by
  obtain ⟨zd, cd, rfl⟩ := Rd.slice hd
  refine k_open (args := [.slice zd bs.length cd]) (E0 := [(0, .slice zd bs.length cd)]) tbl57 Tryz.func57 rfl follows (by kernel_rfl) Tryz.ntmps57 rfl rfl ?_
  repeat' (first
    | (show EW _ _ _ _ _; first | refine ew_p (h := ?_) | refine ew_skip (h := ?_) | refine ew_ld (h := ?_) | (refine ew_fresh ?_; intro b hb; refine ew_nw hb (h := ?_); (try simp only [AHeap.push_next, AHeap.put_next] at hb)) | (refine ew_df (ht := ?_) (hf := ?_) <;> intro _) | refine ew_ar (h := ?_) | refine w_nil ?_ | refine w_nilD ?_)
    | (show EC _ _ _ _ _ _ _; first | refine k_seq ?_ | refine k_region ?_ | refine k_draw (h := ?_) | refine k_skip ?_ | refine k_ret ?_ | refine k_exit ?_ | refine k_block ?_ | refine k_true (h := ?_) | refine k_false (h := ?_))
    | (show EX _ (bodyA _ _ _) _ _ _; first | refine x_end2 (hq := ?_))
    | (show EX _ _ _ _ _; first | refine x_normal ?_ | refine x_ret ?_ | refine x_exit ?_ | refine x_same ?_ | refine x_other (h := ?_) | refine x_bnormal ?_ | refine x_bret ?_))
  · exact ⟨.inr ⟨.inl fun hR => absurd hR.1 (by omega), rfl⟩, by simp [flatV, simpleV], Keep.refl⟩
  · exact ⟨.inr ⟨.inl fun hR => absurd hR.2.1 (by omega), rfl⟩, by simp [flatV, simpleV], Keep.refl⟩
  have hbu := Bu.new (H := H) (X := fun i => b < i) hb (fun h => absurd h (Nat.lt_irrefl _))
  have k0 : Keep No H (H.push (.row ⟨[.pointer none, .slice none 0 0], 172, 0, true⟩)) := Keep.refl.push
  have n0 : (H.push (.row ⟨[.pointer none, .slice none 0 0], 172, 0, true⟩)).next = H.next + 1 := AHeap.push_next ..
  generalize H.push (.row ⟨[.pointer none, .slice none 0 0], 172, 0, true⟩) = H1 at hbu k0 n0 ⊢
  have hb3 : bs.length ≤ 3 := by omega
  have hb1 : 1 ≤ bs.length := by omega
  have hne : bs ≠ [] := fun h => by rw [h] at hb1; simp at hb1
  refine k_loop follows (CdI H b F (.slice zd bs.length cd) bs) (bs.length - 0) [(19, _), (18, _), (17, _), (0, _), (2, _), (3, _), (4, _)] (by kernel_rfl) ⟨rfl, rfl, rfl, rfl, rfl, rfl, rfl, trivial⟩ ⟨k0, hb, 0, by omega, rfl, fun j hj => absurd hj (by omega), by simpa [preT] using hbu, rfl⟩ ?_
  clear hbu k0 n0
  rintro n E H4 ⟨hk, hq, i, hi, rfl, hok, hb4, rfl⟩
  have hn4 := hk.1
  have hq4 : b < H4.next := by obtain ⟨_, _, _, _, _, _, h, _⟩ := hb4; exact h
  have hg4 := gk hg hn14 hk
  have hpl := preT_len hok
  by_cases hlt : i < bs.length
  · obtain ⟨ad, c, hv, hF, hadl, hcell⟩ := SR2.at (Rd.keep0 hd hk) hlt
    simp only [Value.slice.injEq, true_and] at hv
    obtain ⟨rfl, rfl⟩ := hv
    have hsz := strB_size bs[i]
    have hqle := quoteB_le bs[i]
    have g1 : bs.getD i [] = bs[i] := by simp [List.getD_eq_getElem?_getD, hlt]
    have hsucc := preT_succ bs i
    rw [g1] at hsucc
    by_cases hb12 : bs[i].length ≤ 12
    · have hl1 : ([105, 102, 32, 107, 101, 121, 60] : List UInt8).length + (quoteB bs[i]).length ≤ 9223372036854775807 := by simp only [List.length_cons, List.length_nil]; omega
      have hl2 : (([105, 102, 32, 107, 101, 121, 60] : List UInt8) ++ quoteB bs[i]).length + ([116, 104, 101, 110] : List UInt8).length ≤ 9223372036854775807 := by simp only [List.length_append, List.length_cons, List.length_nil]; omega
      have hl3 : (([105, 102, 32, 107, 101, 121, 60] : List UInt8) ++ quoteB bs[i] ++ [116, 104, 101, 110]).length + (numK i).length ≤ 9223372036854775807 := by simp only [numK, List.length_append, List.length_cons, List.length_nil]; omega
      have hl4 : (([105, 102, 32, 107, 101, 121, 60] : List UInt8) ++ quoteB bs[i] ++ [116, 104, 101, 110] ++ numK i).length + ([101, 108, 115, 101] : List UInt8).length ≤ 1000 := by simp only [numK, List.length_append, List.length_cons, List.length_nil]; omega
      have hl4' := Nat.le_trans hl4 (show 1000 ≤ 9223372036854775807 by omega)
      by_cases h0 : i = 0
      · have hok' : ∀ j, j < i + 1 → okB bs j := fun j hj => by
          obtain rfl : j = i := by omega
          exact ⟨by rw [g1]; omega, fun h => absurd h (by omega)⟩
        repeat' (first
    | (show EW _ _ _ _ _; first | refine ew_n (hn := r_stradd (bs := [105, 102, 32, 107, 101, 121, 60]) (cs := quoteB bs[i]) (hl := hl1)) (h := ?_) | refine ew_n (hn := r_stradd (bs := [105, 102, 32, 107, 101, 121, 60] ++ quoteB bs[i]) (cs := [116, 104, 101, 110]) (hl := hl2)) (h := ?_) | refine ew_n (hn := r_stradd (bs := [105, 102, 32, 107, 101, 121, 60] ++ quoteB bs[i] ++ [116, 104, 101, 110]) (cs := numK i) (hl := hl3)) (h := ?_) | refine ew_n (hn := r_stradd (bs := [105, 102, 32, 107, 101, 121, 60] ++ quoteB bs[i] ++ [116, 104, 101, 110] ++ numK i) (cs := [101, 108, 115, 101]) (hl := hl4')) (h := ?_) | refine ew_p (h := ?_) | refine ew_skip (h := ?_) | refine ew_ld (h := ?_) | (refine ew_fresh ?_; intro b hb; refine ew_nw hb (h := ?_); (try simp only [AHeap.push_next, AHeap.put_next] at hb)) | (refine ew_df (ht := ?_) (hf := ?_) <;> intro _) | refine ew_ar (h := ?_) | refine ew_p2 (h := ?_) | (refine ew_df2 (ht := ?_) (hf := ?_) <;> intro _) | (refine ew_callS (hc := cr_call) (hR := quoted_calls bs[i] (by omega)) (h := ?_); rintro _ Hz ⟨rfl, he⟩; obtain rfl := he.symm) | (refine ew_callS (hc := cr_call) (hR := itoa_calls (i := i) (by omega) hg4) (h := ?_); rintro _ Hz ⟨rfl, he⟩; obtain rfl := he.symm) | refine w_nil ?_ | refine w_nilD ?_)
    | (show EC _ _ _ _ _ _ _; first | refine k_seq ?_ | refine k_region ?_ | refine k_draw (h := ?_) | refine k_skip ?_ | refine k_ret ?_ | refine k_exit ?_ | refine k_block ?_ | refine k_true (h := ?_) | refine k_false (h := ?_))
    | (show EX _ (bodyA _ _ _) _ _ _; first | refine x_end2 (hq := ?_))
    | (show EX _ _ _ _ _; first | refine x_normal ?_ | refine x_ret ?_ | refine x_exit ?_ | refine x_same ?_ | refine x_other (h := ?_) | refine x_bnormal ?_ | refine x_bret ?_))
        refine ew_callS (hc := cr_call) (hR := ws_calls ([105, 102, 32, 107, 101, 121, 60] ++ quoteB bs[i] ++ [116, 104, 101, 110] ++ numK i ++ [101, 108, 115, 101]) hb4 (fun i hi => by show b < i; omega) (by simp only [numK, List.length_append, List.length_cons, List.length_nil] at hl4 ⊢; omega)) (h := ?_)
        rintro _ H6 ⟨rfl, hb6, k6⟩
        have n6 := k6.1
        repeat' (first
    | (show EW _ _ _ _ _; first | refine ew_p (h := ?_) | refine ew_skip (h := ?_) | refine ew_ld (h := ?_) | (refine ew_fresh ?_; intro b hb; refine ew_nw hb (h := ?_); (try simp only [AHeap.push_next, AHeap.put_next] at hb)) | (refine ew_df (ht := ?_) (hf := ?_) <;> intro _) | refine ew_ar (h := ?_) | refine w_nil ?_ | refine w_nilD ?_)
    | (show EC _ _ _ _ _ _ _; first | refine k_seq ?_ | refine k_region ?_ | refine k_draw (h := ?_) | refine k_skip ?_ | refine k_ret ?_ | refine k_exit ?_ | refine k_block ?_ | refine k_true (h := ?_) | refine k_false (h := ?_))
    | (show EX _ (bodyA _ _ _) _ _ _; first | refine x_end2 (hq := ?_))
    | (show EX _ _ _ _ _; first | refine x_normal ?_ | refine x_ret ?_ | refine x_exit ?_ | refine x_same ?_ | refine x_other (h := ?_) | refine x_bnormal ?_ | refine x_bret ?_))
        exact x_again (bs.length - (i + 1)) [(19, _), (18, _), (17, _), (0, _), (2, _), (3, _), (4, _)] ⟨rfl, rfl, rfl, rfl, rfl, rfl, rfl, trivial⟩ (by omega) ⟨hk.bu (k6) (by omega) fun i h => Nat.le_of_lt h, hq, i + 1, by omega, rfl, hok', by rw [hsucc]; simpa [condP, h0] using hb6, rfl⟩
      · obtain ⟨_, _, hv2, _, _, hcell2⟩ := SR2.at (i := i - 1) (Rd.keep0 hd hk) (by omega)
        simp only [Value.slice.injEq, true_and, Option.some.injEq] at hv2
        obtain ⟨rfl, _⟩ := hv2
        have hci : ((i - 1 : Nat) : Int) = (i : Int) - 1 := by omega
        rw [hci] at hcell2
        have g2 : bs.getD (i - 1) [] = bs[i - 1] := by simp [List.getD_eq_getElem?_getD, List.getElem?_eq_getElem (show i - 1 < bs.length by omega)]
        have hpos : 0 < i := by omega
        repeat' (first
    | (show EW _ _ _ _ _; first | refine ew_p (h := ?_) | refine ew_skip (h := ?_) | refine ew_ld (h := ?_) | (refine ew_fresh ?_; intro b hb; refine ew_nw hb (h := ?_); (try simp only [AHeap.push_next, AHeap.put_next] at hb)) | (refine ew_df (ht := ?_) (hf := ?_) <;> intro _) | refine ew_ar (h := ?_) | refine ew_p2 (h := ?_) | (refine ew_df2 (ht := ?_) (hf := ?_) <;> intro _) | refine w_nil ?_ | refine w_nilD ?_)
    | (show EC _ _ _ _ _ _ _; first | refine k_seq ?_ | refine k_region ?_ | refine k_draw (h := ?_) | refine k_skip ?_ | refine k_ret ?_ | refine k_exit ?_ | refine k_block ?_ | refine k_true (h := ?_) | refine k_false (h := ?_))
    | (show EX _ (bodyA _ _ _) _ _ _; first | refine x_end2 (hq := ?_))
    | (show EX _ _ _ _ _; first | refine x_normal ?_ | refine x_ret ?_ | refine x_exit ?_ | refine x_same ?_ | refine x_other (h := ?_) | refine x_bnormal ?_ | refine x_bret ?_))
        · rename_i hno
          refine ⟨.inr ⟨.inl fun hR => ?_, rfl⟩, by simp [flatV, simpleV], hk⟩
          have := (hR.2.2 i hlt).2 hpos
          rw [g1, g2] at this
          exact hno this
        · rename_i hyes
          have hok' : ∀ j, j < i + 1 → okB bs j := fun j hj => by
            by_cases hji : j < i
            · exact hok j hji
            · obtain rfl : j = i := by omega
              exact ⟨by rw [g1]; omega, fun _ => by rw [g1, g2]; simpa using hyes⟩
          refine ew_callS (hc := cr_call) (hR := wb_calls 32 hb4 (fun i hi => by show b < i; omega) (by omega)) (h := ?_)
          rintro _ H5 ⟨rfl, hb5, k5⟩
          have n5 := k5.1
          have hk5 : Keep No H H5 := hk.bu k5 (by omega) fun i h => Nat.le_of_lt h
          have hg5 := gk hg hn14 hk5
          repeat' (first
    | (show EW _ _ _ _ _; first | refine ew_n (hn := r_stradd (bs := [105, 102, 32, 107, 101, 121, 60]) (cs := quoteB bs[i]) (hl := hl1)) (h := ?_) | refine ew_n (hn := r_stradd (bs := [105, 102, 32, 107, 101, 121, 60] ++ quoteB bs[i]) (cs := [116, 104, 101, 110]) (hl := hl2)) (h := ?_) | refine ew_n (hn := r_stradd (bs := [105, 102, 32, 107, 101, 121, 60] ++ quoteB bs[i] ++ [116, 104, 101, 110]) (cs := numK i) (hl := hl3)) (h := ?_) | refine ew_n (hn := r_stradd (bs := [105, 102, 32, 107, 101, 121, 60] ++ quoteB bs[i] ++ [116, 104, 101, 110] ++ numK i) (cs := [101, 108, 115, 101]) (hl := hl4')) (h := ?_) | refine ew_p (h := ?_) | refine ew_skip (h := ?_) | refine ew_ld (h := ?_) | (refine ew_fresh ?_; intro b hb; refine ew_nw hb (h := ?_); (try simp only [AHeap.push_next, AHeap.put_next] at hb)) | (refine ew_df (ht := ?_) (hf := ?_) <;> intro _) | refine ew_ar (h := ?_) | refine ew_p2 (h := ?_) | (refine ew_df2 (ht := ?_) (hf := ?_) <;> intro _) | (refine ew_callS (hc := cr_call) (hR := quoted_calls bs[i] (by omega)) (h := ?_); rintro _ Hz ⟨rfl, he⟩; obtain rfl := he.symm) | (refine ew_callS (hc := cr_call) (hR := itoa_calls (i := i) (by omega) hg5) (h := ?_); rintro _ Hz ⟨rfl, he⟩; obtain rfl := he.symm) | refine w_nil ?_ | refine w_nilD ?_)
    | (show EC _ _ _ _ _ _ _; first | refine k_seq ?_ | refine k_region ?_ | refine k_draw (h := ?_) | refine k_skip ?_ | refine k_ret ?_ | refine k_exit ?_ | refine k_block ?_ | refine k_true (h := ?_) | refine k_false (h := ?_))
    | (show EX _ (bodyA _ _ _) _ _ _; first | refine x_end2 (hq := ?_))
    | (show EX _ _ _ _ _; first | refine x_normal ?_ | refine x_ret ?_ | refine x_exit ?_ | refine x_same ?_ | refine x_other (h := ?_) | refine x_bnormal ?_ | refine x_bret ?_))
          refine ew_callS (hc := cr_call) (hR := ws_calls ([105, 102, 32, 107, 101, 121, 60] ++ quoteB bs[i] ++ [116, 104, 101, 110] ++ numK i ++ [101, 108, 115, 101]) hb5 (fun i hi => by show b < i; omega) (by simp only [numK, List.length_append, List.length_cons, List.length_nil] at hl4 ⊢; omega)) (h := ?_)
          rintro _ H6 ⟨rfl, hb6, k6⟩
          have n6 := k6.1
          repeat' (first
    | (show EW _ _ _ _ _; first | refine ew_p (h := ?_) | refine ew_skip (h := ?_) | refine ew_ld (h := ?_) | (refine ew_fresh ?_; intro b hb; refine ew_nw hb (h := ?_); (try simp only [AHeap.push_next, AHeap.put_next] at hb)) | (refine ew_df (ht := ?_) (hf := ?_) <;> intro _) | refine ew_ar (h := ?_) | refine w_nil ?_ | refine w_nilD ?_)
    | (show EC _ _ _ _ _ _ _; first | refine k_seq ?_ | refine k_region ?_ | refine k_draw (h := ?_) | refine k_skip ?_ | refine k_ret ?_ | refine k_exit ?_ | refine k_block ?_ | refine k_true (h := ?_) | refine k_false (h := ?_))
    | (show EX _ (bodyA _ _ _) _ _ _; first | refine x_end2 (hq := ?_))
    | (show EX _ _ _ _ _; first | refine x_normal ?_ | refine x_ret ?_ | refine x_exit ?_ | refine x_same ?_ | refine x_other (h := ?_) | refine x_bnormal ?_ | refine x_bret ?_))
          exact x_again (bs.length - (i + 1)) [(19, _), (18, _), (17, _), (0, _), (2, _), (3, _), (4, _)] ⟨rfl, rfl, rfl, rfl, rfl, rfl, rfl, trivial⟩ (by omega) ⟨hk5.bu (k6) (by omega) fun i h => Nat.le_of_lt h, hq, i + 1, by omega, rfl, hok', by rw [hsucc]; simpa [condP, h0] using hb6, rfl⟩
    · repeat' (first
    | (show EW _ _ _ _ _; first | refine ew_p (h := ?_) | refine ew_skip (h := ?_) | refine ew_ld (h := ?_) | (refine ew_fresh ?_; intro b hb; refine ew_nw hb (h := ?_); (try simp only [AHeap.push_next, AHeap.put_next] at hb)) | (refine ew_df (ht := ?_) (hf := ?_) <;> intro _) | refine ew_ar (h := ?_) | refine ew_p2 (h := ?_) | (refine ew_df2 (ht := ?_) (hf := ?_) <;> intro _) | refine w_nil ?_ | refine w_nilD ?_)
    | (show EC _ _ _ _ _ _ _; first | refine k_seq ?_ | refine k_region ?_ | refine k_draw (h := ?_) | refine k_skip ?_ | refine k_ret ?_ | refine k_exit ?_ | refine k_block ?_ | refine k_true (h := ?_) | refine k_false (h := ?_))
    | (show EX _ (bodyA _ _ _) _ _ _; first | refine x_end2 (hq := ?_))
    | (show EX _ _ _ _ _; first | refine x_normal ?_ | refine x_ret ?_ | refine x_exit ?_ | refine x_same ?_ | refine x_other (h := ?_) | refine x_bnormal ?_ | refine x_bret ?_))
      refine ⟨.inr ⟨.inl fun hR => ?_, rfl⟩, by simp [flatV, simpleV], hk⟩
      have := (hR.2.2 i hlt).1
      rw [g1] at this
      exact hb12 this
  · obtain rfl : i = bs.length := by omega
    have hR : Ris bs := ⟨hb1, hb3, hok⟩
    have hb : ∀ s ∈ bs, s.length ≤ 12 := fun s hs => by
      obtain ⟨j, hj, rfl⟩ := List.getElem_of_mem hs
      have := (hok j hj).1
      simpa [List.getD_eq_getElem?_getD, hj] using this
    have ht := pre_text hne hb3
    repeat' (first
    | (show EW _ _ _ _ _; first | refine ew_p (h := ?_) | refine ew_skip (h := ?_) | refine ew_ld (h := ?_) | (refine ew_fresh ?_; intro b hb; refine ew_nw hb (h := ?_); (try simp only [AHeap.push_next, AHeap.put_next] at hb)) | (refine ew_df (ht := ?_) (hf := ?_) <;> intro _) | refine ew_ar (h := ?_) | (refine ew_callS (hc := cr_call) (hR := itoa_calls (i := bs.length) (by omega) hg4) (h := ?_); rintro _ Hz ⟨rfl, he⟩; obtain rfl := he.symm) | refine w_nil ?_ | refine w_nilD ?_)
    | (show EC _ _ _ _ _ _ _; first | refine k_seq ?_ | refine k_region ?_ | refine k_draw (h := ?_) | refine k_skip ?_ | refine k_ret ?_ | refine k_exit ?_ | refine k_block ?_ | refine k_true (h := ?_) | refine k_false (h := ?_))
    | (show EX _ (bodyA _ _ _) _ _ _; first | refine x_end2 (hq := ?_))
    | (show EX _ _ _ _ _; first | refine x_normal ?_ | refine x_ret ?_ | refine x_exit ?_ | refine x_same ?_ | refine x_other (h := ?_) | refine x_bnormal ?_ | refine x_bret ?_))
    refine ew_callS (hc := cr_call) (hR := ws_calls (numK bs.length) hb4 (fun i hi => by show b < i; omega) (by simp only [numK, List.length_cons, List.length_nil]; omega)) (h := ?_)
    rintro _ H6 ⟨rfl, hb6, k6⟩
    have n6 := k6.1
    rw [ht] at hb6
    have hk6 : Keep No H H6 := hk.bu k6 (by omega) fun i h => Nat.le_of_lt h
    have htl : (textK bs).length ≤ 1000 := by rw [← ht, List.length_append]; simp only [numK, List.length_cons, List.length_nil]; omega
    repeat' (first
    | (show EW _ _ _ _ _; first | refine ew_p (h := ?_) | refine ew_skip (h := ?_) | refine ew_ld (h := ?_) | (refine ew_fresh ?_; intro b hb; refine ew_nw hb (h := ?_); (try simp only [AHeap.push_next, AHeap.put_next] at hb)) | (refine ew_df (ht := ?_) (hf := ?_) <;> intro _) | refine ew_ar (h := ?_) | refine w_nil ?_ | refine w_nilD ?_)
    | (show EC _ _ _ _ _ _ _; first | refine k_seq ?_ | refine k_region ?_ | refine k_draw (h := ?_) | refine k_skip ?_ | refine k_ret ?_ | refine k_exit ?_ | refine k_block ?_ | refine k_true (h := ?_) | refine k_false (h := ?_))
    | (show EX _ (bodyA _ _ _) _ _ _; first | refine x_end2 (hq := ?_))
    | (show EX _ _ _ _ _; first | refine x_normal ?_ | refine x_ret ?_ | refine x_exit ?_ | refine x_same ?_ | refine x_other (h := ?_) | refine x_bnormal ?_ | refine x_bret ?_))
    refine ew_callS (hc := cr_call) (hR := st_calls hb6 (by omega)) (h := ?_)
    rintro _ H7 ⟨rfl, k7⟩
    have n7 := k7.1
    have hk7 : Keep No H H7 := hk6.bu (q := b) (k7.weak fun _ _ h => .inr h) (by omega) fun i h => Nat.le_of_lt h
    have hg7 := gk hg hn14 hk7
    have un77 : UnT Tryz.prog 77 _ := ⟨Tryz.underlying77⟩
    by_cases hlen : (textK bs).length ≤ 100
    · repeat' (first
    | (show EW _ _ _ _ _; first | refine ew_n (hn := r_nilI un77) (h := ?_) | refine ew_p (h := ?_) | refine ew_skip (h := ?_) | refine ew_ld (h := ?_) | (refine ew_fresh ?_; intro b hb; refine ew_nw hb (h := ?_); (try simp only [AHeap.push_next, AHeap.put_next] at hb)) | (refine ew_df (ht := ?_) (hf := ?_) <;> intro _) | refine ew_ar (h := ?_) | refine ew_p2 (h := ?_) | (refine ew_df2 (ht := ?_) (hf := ?_) <;> intro _) | (refine ew_callS (hc := cr_call) (hR := canon_calls hX hne hb3 hb hlen hg7) (h := ?_); rintro _ Hz ⟨rfl, he⟩; obtain rfl := he.symm) | refine w_nil ?_ | refine w_nilD ?_)
    | (show EC _ _ _ _ _ _ _; first | refine k_seq ?_ | refine k_region ?_ | refine k_draw (h := ?_) | refine k_skip ?_ | refine k_ret ?_ | refine k_exit ?_ | refine k_block ?_ | refine k_true (h := ?_) | refine k_false (h := ?_))
    | (show EX _ (bodyA _ _ _) _ _ _; first | refine x_end2 (hq := ?_))
    | (show EX _ _ _ _ _; first | refine x_normal ?_ | refine x_ret ?_ | refine x_exit ?_ | refine x_same ?_ | refine x_other (h := ?_) | refine x_bnormal ?_ | refine x_bret ?_))
      exact ⟨.inl ⟨hR, hlen, rfl⟩, by simp [flatV, simpleV], hk7⟩
    · refine ew_callS (hc := cr_call) (hR := hLong (textK bs) (by omega) (by omega) H7 hg7 (by omega)) (h := ?_)
      rintro _ H8 ⟨⟨t, q, rfl⟩, k8⟩
      repeat' (first
    | (show EW _ _ _ _ _; first | refine ew_p (h := ?_) | refine ew_skip (h := ?_) | refine ew_ld (h := ?_) | (refine ew_fresh ?_; intro b hb; refine ew_nw hb (h := ?_); (try simp only [AHeap.push_next, AHeap.put_next] at hb)) | (refine ew_df (ht := ?_) (hf := ?_) <;> intro _) | refine ew_ar (h := ?_) | refine w_nil ?_ | refine w_nilD ?_)
    | (show EC _ _ _ _ _ _ _; first | refine k_seq ?_ | refine k_region ?_ | refine k_draw (h := ?_) | refine k_skip ?_ | refine k_ret ?_ | refine k_exit ?_ | refine k_block ?_ | refine k_true (h := ?_) | refine k_false (h := ?_))
    | (show EX _ (bodyA _ _ _) _ _ _; first | refine x_end2 (hq := ?_))
    | (show EX _ _ _ _ _; first | refine x_normal ?_ | refine x_ret ?_ | refine x_exit ?_ | refine x_same ?_ | refine x_other (h := ?_) | refine x_bnormal ?_ | refine x_bret ?_))
      exact ⟨.inr ⟨.inr (by omega), rfl⟩, by simp [flatV, simpleV], hk7.after k8⟩
theorem cond_calls {X : List UInt8 → List UInt8} (hX : PrOk X) (hLong : LongOk) {H : AHeap} {F : Blks} {dv : Value} {bs : List (List UInt8)} (hd : SR2 H F dv bs) (hl : bs.length ≤ 8796093022000) (hg : ∀ p ∈ globs, H.get p.1 = some (.row p.2)) (hn14 : 14 ≤ H.next) :
    ACalls Tryz.prog 57 #[dv] H fun v H' => CoV bs v ∧ H' = H := (cond_keep hX hLong hd hl hg hn14).forget
end Go.Ae

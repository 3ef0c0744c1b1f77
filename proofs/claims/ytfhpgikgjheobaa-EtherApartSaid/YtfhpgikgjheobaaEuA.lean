/- eddykept's book over the abstract heap: its row, sameBytes, the lists that are never used. No condition. -/
import Derived.Test.YtfhpgikgjheobaaEtQ
set_option linter.unusedSimpArgs false
set_option linter.unusedVariables false
set_option linter.unnecessarySimpa false
set_option maxRecDepth 100000
set_option maxHeartbeats 1600000
namespace Go.Ae
open Go.Proofs
attribute [local irreducible] awC wpSeq wpS nRes aw aE acall ACalls szT isAggT zeroT byT elemSz fieldOff Program.underlying appendA copyA thenA inBlockA bodyA AHeap.push AHeap.put AHeap.cellsAt AHeap.setCells resV loadA intBin EW EC EX Nr Nc Er Cr Agree

def bkZ7 (r : List Value) : List Value := .slice none 0 0 :: .slice none 0 0 :: .slice none 0 0 :: .slice none 0 0 :: .slice none 0 0 :: .slice none 0 0 :: .int .i64 0 :: r
/-- The book's cells: only its lists of bytes are ever used. -/
def bkC (bad : Bool) (o t w n m l : Value) (s : Int) : List Value :=
  .bool false :: .bool bad :: o :: t :: w :: n :: m :: l :: .int .i64 s :: bkZ7 (bkZ7 (bkZ7 (bkZ7 (bkZ7 (bkZ7 (bkZ7 (bkZ7 (bkZ7 (bkZ7 (bkZ7 (bkZ7 (bkZ7 (bkZ7 [])))))))))))))
section
variable {bad : Bool} {o t w n m l v : Value} {s : Int}
theorem bk1 {b : Bool} : lset (bkC bad o t w n m l s) 1 [.bool b] = bkC b o t w n m l s := rfl
theorem bk2 : lset (bkC bad o t w n m l s) 2 [v] = bkC bad v t w n m l s := rfl
theorem bk3 : lset (bkC bad o t w n m l s) 3 [v] = bkC bad o v w n m l s := rfl
theorem bk4 : lset (bkC bad o t w n m l s) 4 [v] = bkC bad o t v n m l s := rfl
theorem bk5 : lset (bkC bad o t w n m l s) 5 [v] = bkC bad o t w v m l s := rfl
theorem bk6 : lset (bkC bad o t w n m l s) 6 [v] = bkC bad o t w n v l s := rfl
theorem bk7 : lset (bkC bad o t w n m l s) 7 [v] = bkC bad o t w n m v s := rfl
theorem bk8 {z : Int} : lset (bkC bad o t w n m l s) 8 [.int .i64 z] = bkC bad o t w n m l z := rfl
/-- A field of the book is written. -/
theorem bk_store {H : AHeap} {k i : Nat} {c c' : List Value} (hg : H.get k = some (.row ⟨c, 61, 0, true⟩)) (hl : i < c.length) (h1 : v.oneCell' = true) (hc : lset c i [v] = c') : H.setCells (aadd ⟨k, 0, none⟩ i) [v] = some (H.put k (.row ⟨c', 61, 0, true⟩)) :=
  setCells_of' (ad := aadd ⟨k, 0, none⟩ i) hg rfl rfl (by simp; omega) (by simp [h1]) (by simpa using hc)
end
/-- The same, as a step of a walk. -/
theorem ew_bk {P : Program} {N : Nat} {m m' : Mode} {E : Env} {H : AHeap} {v : Value} {d' : Option Nat} {ty : TypeId} {p : String} {af : Array Edge} {g : Option (Nat × Bool)} {x y : Operand} {t : TypeId} {k i : Nat} {c c' : List Value}
    (hm : m.head = some (⟨d', .store t x y, ty, p, af, g⟩, m') := by exact rfl) (hw : wantE m.ops E g = some true := by exact rfl) (hd : bltO d' N = true := by exact rfl) (sz : SzT P t 1 := by exact inferInstance)
    (hx : evE E x = some (.pointer (some (aadd ⟨k, 0, none⟩ i))) := by exact rfl) (hy : evE E y = some v := by exact rfl) (hg : H.get k = some (.row ⟨c, 61, 0, true⟩) := by exact rdx) (hl : Nat.blt i c.length = true := by exact rfl) (hn : v.cells = #[v] := by exact rfl)
    (h1 : v.oneCell' = true := by exact rfl) (hc : lset c i [v] = c' := by first | with_reducible exact bk1 | with_reducible exact bk2 | with_reducible exact bk3 | with_reducible exact bk4 | with_reducible exact bk5 | with_reducible exact bk6 | with_reducible exact bk7 | with_reducible exact bk8) (hk : m.kept (H.put k (.row ⟨c', 61, 0, true⟩)) := by (first | exact Mode.kept_seq rfl | (dsimp only [Mode.kept, Mode.logged, Mode.at]; (repeat' (first | exact (fun _ h => absurd h List.not_mem_nil) | (refine List.forall_mem_cons.2 ⟨?_, ?_⟩) | (refine .inl ?_; exact rfl) | (refine .inl ?_; dsimp only; decide))); done)))
    (h : EW P N m' (putO d' undef E) (H.put k (.row ⟨c', 61, 0, true⟩))) : EW P N m E H :=
  ew_e hm hw hd (er_store sz hx hy (by rw [hn]; rfl) (by rw [hn]; exact bk_store hg (by simpa [Nat.blt_eq] using hl) h1 hc)) hk h

def tbl64 : Tbl := []
def SbI (H0 : AHeap) (x y : Value) (xs bs : List UInt8) (n : Nat) (E : Env) (H : AHeap) : Prop :=
  H0 = H ∧ ∃ i, n + i = xs.length ∧ E = [(5, .int .i64 (i : Nat)), (0, x), (1, y)] ∧ xs.take i = bs.take i
theorem ksame_calls {F G : Blks} {x y : Value} {xs bs : List UInt8} (H : AHeap) (hx : BR H F x xs) (hy : BR H G y bs) (hl : xs.length ≤ 140737488355328) :
    ACalls Try.prog 64 #[x, y] H fun v H' => v = .bool (decide (xs = bs)) ∧ H' = H := by
  obtain ⟨zx, cx, rfl⟩ := Rd.slice hx
  obtain ⟨zy, cy, rfl⟩ := Rd.slice hy
  refine k_open (args := [.slice zx xs.length cx, .slice zy bs.length cy]) (E0 := [(0, .slice zx xs.length cx), (1, .slice zy bs.length cy)]) tbl64 Try.func64 rfl follows (by kernel_rfl) Try.ntmps64 rfl rfl ?_
  by_cases hab : xs.length = bs.length
  case neg =>
    repeat' (first
    | (show EW _ _ _ _ _; first | refine ew_p (h := ?_) | refine ew_ld (h := ?_) | (refine ew_df (ht := ?_) (hf := ?_) <;> intro _) | refine ew_ar (h := ?_) | refine w_nil ?_)
    | (show EC _ _ _ _ _ _ _; first | refine k_seq ?_ | refine k_region ?_ | refine k_skip ?_ | refine k_ret ?_ | refine k_exit ?_ | refine k_block ?_ | refine k_true (h := ?_) | refine k_false (h := ?_))
    | (show EX _ (bodyA _ _ _) _ _ _; first | refine x_end1 (hq := ?_))
    | (show EX _ _ _ _ _; first | refine x_normal ?_ | refine x_ret ?_ | refine x_exit ?_ | refine x_same ?_ | refine x_other (h := ?_) | refine x_bnormal ?_ | refine x_bret ?_))
    exact ⟨by rw [decide_eq_false (fun h => hab (by rw [h]))], rfl⟩
  repeat' (first
    | (show EW _ _ _ _ _; first | refine ew_p (h := ?_) | refine ew_ld (h := ?_) | (refine ew_df (ht := ?_) (hf := ?_) <;> intro _) | refine ew_ar (h := ?_) | refine w_nil ?_)
    | (show EC _ _ _ _ _ _ _; first | refine k_seq ?_ | refine k_region ?_ | refine k_skip ?_ | refine k_ret ?_ | refine k_exit ?_ | refine k_block ?_ | refine k_true (h := ?_) | refine k_false (h := ?_))
    | (show EX _ (bodyA _ _ _) _ _ _; first | refine x_end1 (hq := ?_))
    | (show EX _ _ _ _ _; first | refine x_normal ?_ | refine x_ret ?_ | refine x_exit ?_ | refine x_same ?_ | refine x_other (h := ?_) | refine x_bnormal ?_ | refine x_bret ?_))
  refine k_loop follows (SbI H (.slice zx xs.length cx) (.slice zy bs.length cy) xs bs) xs.length [(5, _), (0, _), (1, _)] (by kernel_rfl) ⟨rfl, rfl, rfl, trivial⟩ ⟨rfl, 0, by omega, rfl, by simp⟩ ?_
  rintro n E H1 ⟨rfl, i, hi, rfl, hpre⟩
  by_cases hlt : i < xs.length
  · have ha : xs[i]? = some xs[i] := List.getElem?_eq_getElem hlt
    have hb : bs[i]? = some (bs[i]'(by omega)) := List.getElem?_eq_getElem (by omega)
    generalize xs[i] = xa at ha
    generalize (bs[i]'(by omega)) = xb at hb
    obtain ⟨ad, c, hv, _, _, hc1⟩ := BR.at hx ha
    obtain ⟨ad', c', hv', _, _, hc2⟩ := BR.at hy hb
    simp only [Value.slice.injEq, true_and] at hv hv'
    obtain ⟨rfl, rfl⟩ := hv
    obtain ⟨rfl, rfl⟩ := hv'
    have hxa := xa.toNat_lt
    have hxb := xb.toNat_lt
    by_cases hx' : xa.toNat = xb.toNat
    · have hxx : xa = xb := UInt8.toNat_inj.1 hx'
      repeat' (first
    | (show EW _ _ _ _ _; first | refine ew_p (h := ?_) | refine ew_ld (h := ?_) | (refine ew_df (ht := ?_) (hf := ?_) <;> intro _) | refine ew_ar (h := ?_) | refine w_nil ?_)
    | (show EC _ _ _ _ _ _ _; first | refine k_seq ?_ | refine k_region ?_ | refine k_skip ?_ | refine k_ret ?_ | refine k_exit ?_ | refine k_block ?_ | refine k_true (h := ?_) | refine k_false (h := ?_))
    | (show EX _ (bodyA _ _ _) _ _ _; first | refine x_end1 (hq := ?_))
    | (show EX _ _ _ _ _; first | refine x_normal ?_ | refine x_ret ?_ | refine x_exit ?_ | refine x_same ?_ | refine x_other (h := ?_) | refine x_bnormal ?_ | refine x_bret ?_))
      refine x_again (n - 1) [(5, _), (0, _), (1, _)] ⟨rfl, rfl, rfl, trivial⟩ (by omega) ⟨rfl, i + 1, by omega, rfl, ?_⟩
      rw [List.take_add_one, List.take_add_one, hpre, ha, hb, hxx]
    · repeat' (first
    | (show EW _ _ _ _ _; first | refine ew_p (h := ?_) | refine ew_ld (h := ?_) | (refine ew_df (ht := ?_) (hf := ?_) <;> intro _) | refine ew_ar (h := ?_) | refine w_nil ?_)
    | (show EC _ _ _ _ _ _ _; first | refine k_seq ?_ | refine k_region ?_ | refine k_skip ?_ | refine k_ret ?_ | refine k_exit ?_ | refine k_block ?_ | refine k_true (h := ?_) | refine k_false (h := ?_))
    | (show EX _ (bodyA _ _ _) _ _ _; first | refine x_end1 (hq := ?_))
    | (show EX _ _ _ _ _; first | refine x_normal ?_ | refine x_ret ?_ | refine x_exit ?_ | refine x_same ?_ | refine x_other (h := ?_) | refine x_bnormal ?_ | refine x_bret ?_))
      refine ⟨?_, rfl⟩
      rw [decide_eq_false]
      rintro rfl
      rw [ha] at hb
      exact hx' (by rw [Option.some.inj hb])
  · have he : xs = bs := by
      have h1 : xs.take i = xs := List.take_of_length_le (by omega)
      have h2 : bs.take i = bs := List.take_of_length_le (by omega)
      rw [← h1, hpre, h2]
    repeat' (first
    | (show EW _ _ _ _ _; first | refine ew_p (h := ?_) | refine ew_ld (h := ?_) | (refine ew_df (ht := ?_) (hf := ?_) <;> intro _) | refine ew_ar (h := ?_) | refine w_nil ?_)
    | (show EC _ _ _ _ _ _ _; first | refine k_seq ?_ | refine k_region ?_ | refine k_skip ?_ | refine k_ret ?_ | refine k_exit ?_ | refine k_block ?_ | refine k_true (h := ?_) | refine k_false (h := ?_))
    | (show EX _ (bodyA _ _ _) _ _ _; first | refine x_end1 (hq := ?_))
    | (show EX _ _ _ _ _; first | refine x_normal ?_ | refine x_ret ?_ | refine x_exit ?_ | refine x_same ?_ | refine x_other (h := ?_) | refine x_bnormal ?_ | refine x_bret ?_))
    exact ⟨by rw [decide_eq_true he], rfl⟩
end Go.Ae

/- The document's own network (eddyref22): the small functions. No condition. -/
import Derived.Test.YtfhpgikgjheobaaEtO
set_option linter.unusedSimpArgs false
set_option linter.unusedVariables false
set_option linter.unnecessarySimpa false
set_option maxRecDepth 100000
set_option maxHeartbeats 800000
namespace Go.Ae
open Go.Proofs
attribute [local irreducible] awC wpSeq wpS nRes aw aE acall ACalls szT isAggT zeroT byT elemSz fieldOff Program.underlying appendA copyA thenA inBlockA bodyA AHeap.push AHeap.put AHeap.cellsAt AHeap.setCells resV loadA intBin EW EC EX Nr Nc Er Cr Agree

def tbl87 : Tbl := []
def tbl86 : Tbl := []
def tbl55 : Tbl := []

theorem fresh_calls {G : Blks} {H : AHeap} {dv : Value} {bs : List UInt8} (hd : BR H G dv bs) (hl : bs.length ≤ 140737488355328) :
    ACalls Try.prog 87 #[dv] H fun v H' => BR H' (New H H') v bs ∧ Keep No H H' := by
  refine k_open (args := [dv]) (E0 := [(0, dv)]) tbl87 Try.func87 rfl follows (by kernel_rfl) Try.ntmps87 rfl rfl ?_
  repeat' (first
    | (show EW _ _ _ _ _; first | refine ew_p (h := ?_) | refine w_nil ?_)
    | (show EC _ _ _ _ _ _ _; first | refine k_seq ?_ | refine k_region ?_ | refine k_skip ?_ | refine k_ret ?_ | refine k_exit ?_ | refine k_block ?_ | refine k_true (h := ?_) | refine k_false (h := ?_))
    | (show EX _ (bodyA _ _ _) _ _ _; first | refine x_end1 (hq := ?_))
    | (show EX _ _ _ _ _; first | refine x_normal ?_ | refine x_ret ?_ | refine x_exit ?_ | refine x_same ?_ | refine x_other (h := ?_) | refine x_bnormal ?_ | refine x_bret ?_))
  (first | (refine' ew_appS (hR := ?_) (h := ?_); rotate_left 1) | (refine' ew_app (hR := ?_) (h := ?_); rotate_left 1))
  · exact app_bytes hd hl
  rintro v H1 ⟨h1, h2, h3⟩
  repeat' (first
    | (show EW _ _ _ _ _; first | refine ew_p (h := ?_) | refine w_nil ?_)
    | (show EC _ _ _ _ _ _ _; first | refine k_seq ?_ | refine k_region ?_ | refine k_skip ?_ | refine k_ret ?_ | refine k_exit ?_ | refine k_block ?_ | refine k_true (h := ?_) | refine k_false (h := ?_))
    | (show EX _ (bodyA _ _ _) _ _ _; first | refine x_end1 (hq := ?_))
    | (show EX _ _ _ _ _; first | refine x_normal ?_ | refine x_ret ?_ | refine x_exit ?_ | refine x_same ?_ | refine x_other (h := ?_) | refine x_bnormal ?_ | refine x_bret ?_))
  exact ⟨h1, h2⟩

/-- One packet of all that ever were; none: it is out. -/
def ElR (H : AHeap) (D : Blks) (c : List Value) : Option Msg → Prop
  | none => c = [.int .i64 0, .int .i64 0, .slice none 0 0, .bool true]
  | some x => ∃ dv, c = [.int .i64 x.1, .int .i64 x.2.1, dv, .bool false] ∧ BR H D dv x.2.2
theorem ElR.keep {H H' : AHeap} {D G : Blks} {c : List Value} {a : Option Msg} (h : ElR H D c a) (hk : Keep G H H') (hd : ∀ b, b < H.next → D b → ¬ G b) : ElR H' D c a := by
  cases a with
  | none => exact h
  | some x => obtain ⟨dv, h1, h2⟩ := h; exact ⟨dv, h1, Rd.keep h2 hk hd⟩
theorem ElR.weak {H : AHeap} {D G : Blks} {c : List Value} {a : Option Msg} (h : ElR H D c a) (hd : ∀ b, D b → G b) : ElR H G c a := by
  cases a with
  | none => exact h
  | some x => obtain ⟨dv, h1, h2⟩ := h; exact ⟨dv, h1, Rd.weak h2 fun b _ hb => hd b hb⟩
/-- All packets, as they read. -/
def AllR (H : AHeap) (O D : Blks) (sv : Value) (A : List (Option Msg)) : Prop := ∃ cells, Rd H O 4 sv A.length cells ∧ ∀ i a, A[i]? = some a → ElR H D ((cells.drop (i * 4)).take 4) a
theorem AllR.slice {H : AHeap} {O D : Blks} {sv : Value} {A : List (Option Msg)} (h : AllR H O D sv A) : ∃ z c, sv = .slice z A.length c := by
  obtain ⟨cells, h1, _⟩ := h
  exact h1.slice
theorem AllR.at {H : AHeap} {O D : Blks} {sv : Value} {A : List (Option Msg)} {i : Nat} {a : Option Msg} (h : AllR H O D sv A) (ha : A[i]? = some a) :
    ∃ ad c cs, sv = .slice (some ad) A.length c ∧ O ad.block ∧ ad.block < H.next ∧ H.cellsAt (aadd ad ((i : Int).toNat * 4)) 4 = some cs ∧ ElR H D cs a ∧ H.cellsAt (aadd (aadd ad ((i : Int).toNat * 4)) 3) 1 = some [.bool a.isNone] := by
  obtain ⟨cells, h1, h2⟩ := h
  obtain ⟨ad, c, hv, hF, hlt, hc⟩ := h1.at (List.getElem?_eq_some_iff.1 ha).1
  have he := h2 i a ha
  refine ⟨ad, c, _, hv, hF, hlt, hc, he, ?_⟩
  have h3 := cellsAt_sub hc (j := 3) (i := 1) (by omega)
  rw [Int.toNat_natCast, h3]
  cases a with
  | none => rw [show (cells.drop (i * 4)).take 4 = _ from he]; rfl
  | some x =>
    obtain ⟨dv, h4, _⟩ := he
    rw [h4]; rfl
/-- The place of the i-th that is in flight; -1: there is none. -/
def placeF : List (Option Msg) → Int → Nat → Int
  | [], _, _ => -1
  | none :: A, i, k => placeF A i (k + 1)
  | some _ :: A, i, k => if i = 0 then k else placeF A (i - 1) (k + 1)
def placeP (A : List (Option Msg)) (i : Int) : Int := if i < 0 then -1 else placeF A i 0
def PlaceI (H0 : AHeap) (k : Nat) (A : List (Option Msg)) (r : Int) (n : Nat) (E : Env) (H : AHeap) : Prop :=
  H0 = H ∧ ∃ (q : Nat) (i : Int), n + q = A.length ∧ 0 ≤ i ∧ i ≤ 9223372036854775807 ∧ placeF (A.drop q) i q = r ∧ E = [(0, .pointer (some ⟨k, 0, none⟩)), (1, .int .i64 i), (5, .int .i64 q)]
theorem place_calls {H : AHeap} {O D : Blks} {k : Nat} {sv : Value} {m l : Int} {A : List (Option Msg)} (i : Int) (hr : H.get k = some (.row ⟨[.int .i64 m, sv, .int .i64 l], 123, 0, true⟩)) (hA : AllR H O D sv A) (hl : A.length ≤ 4611686018427387904) (hi2 : i ≤ 9223372036854775807) :
    ACalls Try.prog 86 #[.pointer (some ⟨k, 0, none⟩), .int .i64 i] H fun v H' => v = .int .i64 (placeP A i) ∧ H' = H := by
  obtain ⟨z, c, rfl⟩ := hA.slice
  refine k_open (args := [.pointer (some ⟨k, 0, none⟩), .int .i64 i]) (E0 := [(0, .pointer (some ⟨k, 0, none⟩)), (1, .int .i64 i)]) tbl86 Try.func86 rfl follows (by kernel_rfl) Try.ntmps86 rfl rfl ?_
  by_cases hi : i < 0
  · repeat' (first
    | (show EW _ _ _ _ _; first | refine ew_p (h := ?_) | refine ew_ld (h := ?_) | (refine ew_df (ht := ?_) (hf := ?_) <;> intro _) | refine ew_ar (h := ?_) | refine w_nil ?_)
    | (show EC _ _ _ _ _ _ _; first | refine k_seq ?_ | refine k_region ?_ | refine k_skip ?_ | refine k_ret ?_ | refine k_exit ?_ | refine k_block ?_ | refine k_true (h := ?_) | refine k_false (h := ?_))
    | (show EX _ (bodyA _ _ _) _ _ _; first | refine x_end1 (hq := ?_))
    | (show EX _ _ _ _ _; first | refine x_normal ?_ | refine x_ret ?_ | refine x_exit ?_ | refine x_same ?_ | refine x_other (h := ?_) | refine x_bnormal ?_ | refine x_bret ?_))
    exact ⟨by rw [placeP, if_pos hi], rfl⟩
  repeat' (first
    | (show EW _ _ _ _ _; first | refine ew_p (h := ?_) | refine ew_ld (h := ?_) | (refine ew_df (ht := ?_) (hf := ?_) <;> intro _) | refine ew_ar (h := ?_) | refine w_nil ?_)
    | (show EC _ _ _ _ _ _ _; first | refine k_seq ?_ | refine k_region ?_ | refine k_skip ?_ | refine k_ret ?_ | refine k_exit ?_ | refine k_block ?_ | refine k_true (h := ?_) | refine k_false (h := ?_))
    | (show EX _ (bodyA _ _ _) _ _ _; first | refine x_end1 (hq := ?_))
    | (show EX _ _ _ _ _; first | refine x_normal ?_ | refine x_ret ?_ | refine x_exit ?_ | refine x_same ?_ | refine x_other (h := ?_) | refine x_bnormal ?_ | refine x_bret ?_))
  refine k_loop follows (PlaceI H k A (placeP A i)) A.length [(0, _), (1, _), (5, _)] (by kernel_rfl) ⟨rfl, rfl, rfl, trivial⟩ ⟨rfl, 0, i, by omega, by omega, hi2, by rw [List.drop_zero, placeP, if_neg hi], rfl⟩ ?_
  rintro n E _ ⟨rfl, q, i', hn, hi0, hi2', hp, rfl⟩
  by_cases hlt : q < A.length
  · obtain ⟨a, ha⟩ : ∃ a, A[q]? = some a := ⟨A[q], List.getElem?_eq_getElem hlt⟩
    obtain ⟨ad, c', cs, hv, hO, hltb, hc4, he, hc1⟩ := hA.at ha
    simp only [Value.slice.injEq, true_and] at hv
    obtain ⟨rfl, rfl⟩ := hv
    rw [List.drop_eq_getElem_cons hlt] at hp
    have hq : A[q] = a := by rw [List.getElem?_eq_getElem hlt] at ha; exact Option.some.inj ha
    rw [hq] at hp
    cases a with
    | none =>
      repeat' (first
    | (show EW _ _ _ _ _; first | refine ew_p (h := ?_) | refine ew_ld (h := ?_) | (refine ew_df (ht := ?_) (hf := ?_) <;> intro _) | refine ew_ar (h := ?_) | refine w_nil ?_)
    | (show EC _ _ _ _ _ _ _; first | refine k_seq ?_ | refine k_region ?_ | refine k_skip ?_ | refine k_ret ?_ | refine k_exit ?_ | refine k_block ?_ | refine k_true (h := ?_) | refine k_false (h := ?_))
    | (show EX _ (bodyA _ _ _) _ _ _; first | refine x_end1 (hq := ?_))
    | (show EX _ _ _ _ _; first | refine x_normal ?_ | refine x_ret ?_ | refine x_exit ?_ | refine x_same ?_ | refine x_other (h := ?_) | refine x_bnormal ?_ | refine x_bret ?_))
      exact x_again (n - 1) [(0, _), (1, _), (5, _)] ⟨rfl, rfl, rfl, trivial⟩ (by omega) ⟨rfl, q + 1, i', by omega, hi0, hi2', hp, rfl⟩
    | some x =>
      by_cases h0 : i' = 0
      · subst h0
        repeat' (first
    | (show EW _ _ _ _ _; first | refine ew_p (h := ?_) | refine ew_ld (h := ?_) | (refine ew_df (ht := ?_) (hf := ?_) <;> intro _) | refine ew_ar (h := ?_) | refine w_nil ?_)
    | (show EC _ _ _ _ _ _ _; first | refine k_seq ?_ | refine k_region ?_ | refine k_skip ?_ | refine k_ret ?_ | refine k_exit ?_ | refine k_block ?_ | refine k_true (h := ?_) | refine k_false (h := ?_))
    | (show EX _ (bodyA _ _ _) _ _ _; first | refine x_end1 (hq := ?_))
    | (show EX _ _ _ _ _; first | refine x_normal ?_ | refine x_ret ?_ | refine x_exit ?_ | refine x_same ?_ | refine x_other (h := ?_) | refine x_bnormal ?_ | refine x_bret ?_))
        simp only [placeF, if_true] at hp
        exact ⟨by rw [hp], rfl⟩
      · repeat' (first
    | (show EW _ _ _ _ _; first | refine ew_p (h := ?_) | refine ew_ld (h := ?_) | (refine ew_df (ht := ?_) (hf := ?_) <;> intro _) | refine ew_ar (h := ?_) | refine w_nil ?_)
    | (show EC _ _ _ _ _ _ _; first | refine k_seq ?_ | refine k_region ?_ | refine k_skip ?_ | refine k_ret ?_ | refine k_exit ?_ | refine k_block ?_ | refine k_true (h := ?_) | refine k_false (h := ?_))
    | (show EX _ (bodyA _ _ _) _ _ _; first | refine x_end1 (hq := ?_))
    | (show EX _ _ _ _ _; first | refine x_normal ?_ | refine x_ret ?_ | refine x_exit ?_ | refine x_same ?_ | refine x_other (h := ?_) | refine x_bnormal ?_ | refine x_bret ?_))
        simp only [placeF, if_neg h0] at hp
        exact x_again (n - 1) [(0, _), (1, _), (5, _)] ⟨rfl, rfl, rfl, trivial⟩ (by omega) ⟨rfl, q + 1, i' - 1, by omega, by omega, by omega, hp, rfl⟩
  · repeat' (first
    | (show EW _ _ _ _ _; first | refine ew_p (h := ?_) | refine ew_ld (h := ?_) | (refine ew_df (ht := ?_) (hf := ?_) <;> intro _) | refine ew_ar (h := ?_) | refine w_nil ?_)
    | (show EC _ _ _ _ _ _ _; first | refine k_seq ?_ | refine k_region ?_ | refine k_skip ?_ | refine k_ret ?_ | refine k_exit ?_ | refine k_block ?_ | refine k_true (h := ?_) | refine k_false (h := ?_))
    | (show EX _ (bodyA _ _ _) _ _ _; first | refine x_end1 (hq := ?_))
    | (show EX _ _ _ _ _; first | refine x_normal ?_ | refine x_ret ?_ | refine x_exit ?_ | refine x_same ?_ | refine x_other (h := ?_) | refine x_bnormal ?_ | refine x_bret ?_))
    rw [List.drop_of_length_le (by omega)] at hp
    exact ⟨by rw [← hp]; rfl, rfl⟩

end Go.Ae

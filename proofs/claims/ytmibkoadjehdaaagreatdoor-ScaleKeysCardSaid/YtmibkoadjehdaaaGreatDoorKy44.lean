/- The text's form by runes and the text's form by bytes. unicode/utf8.DecodeRuneInString over the abstract heap, by the shelf's contract. -/
import Derived.Test.YtmibkoadjehdaaaGreatDoorKy43
import Derived.Test.YtmibkoadjehdaaaGreatDoorKy20
import Derived.Lib.MapLaws
import Derived.Lib.TrimAscii
import Derived.Shelf.Unicode.DecodeAny
import Derived.Test.YtmibkoadjehdaaaGreatDoorKy36
import Derived.Test.YtmibkoadjehdaaaGreatDoorKy16
import Derived.KernelRfl
set_option linter.unusedVariables false
set_option linter.unusedSimpArgs false
set_option linter.unusedSimpArgs false
set_option linter.unusedVariables false
set_option linter.unnecessarySimpa false
namespace Go.Ae
open Go.Proofs
def plainN (c n : Nat) : Bool := (decide (32 ≤ c) && decide (c ≤ 126)) || (decide (160 ≤ c) && decide (1 < n))
def hexQ (x : UInt8) : List UInt8 := [92, 120, hexD (x.toNat / 16), hexD (x.toNat % 16)]
def outD (l : List UInt8) (d : Nat × Nat) : List UInt8 :=
  if d.1 = 34 ∨ d.1 = 92 then [92, l.getD 0 0] else if d.1 = 10 then [92, 110] else if d.1 = 9 then [92, 116] else if plainN d.1 d.2 = true then encN d.1 else (l.take d.2).flatMap hexQ
def outR (l : List UInt8) : List UInt8 := outD l (Lib.decodeL l)
def bodyF : Nat → List UInt8 → List UInt8
  | 0, _ => []
  | k + 1, l => if l = [] then [] else outR l ++ bodyF k (l.drop (Lib.decodeL l).2)
def valT (b : List UInt8) : List UInt8 := [34] ++ bodyF b.length b ++ [34]
theorem rune_ok (l : List UInt8) : (Lib.decodeL l).1 ≤ 1114111 ∧ ((Lib.decodeL l).1 < 55296 ∨ 57343 < (Lib.decodeL l).1) := by
  rw [Lib.decodeL_N]
  rcases Lib.decodeN_shape l.length (l.getD 0 0).toNat (l.getD 1 0).toNat (l.getD 2 0).toNat (l.getD 3 0).toNat with ⟨c, e⟩ | ⟨c1, c2, c3, cv, e⟩ | ⟨c1, c2, c3, c4, cv, cs, e⟩ | ⟨c1, c2, c3, c4, c5, cv, cw, e⟩ | e
  all_goals
    rw [e]
    dsimp only
    omega
theorem rune_high {l : List UInt8} (hne : l ≠ []) (h : 128 ≤ (l.getD 0 0).toNat) : 128 ≤ (Lib.decodeL l).1 ∧ ∀ y ∈ l.take (Lib.decodeL l).2, 128 ≤ y.toNat := by
  have hl : 0 < l.length := List.length_pos_iff.2 hne
  rw [Lib.decodeL_N]
  rcases Lib.decodeN_shape l.length (l.getD 0 0).toNat (l.getD 1 0).toNat (l.getD 2 0).toNat (l.getD 3 0).toNat with ⟨c, e⟩ | ⟨c1, c2, c3, cv, e⟩ | ⟨c1, c2, c3, c4, cv, cs, e⟩ | ⟨c1, c2, c3, c4, c5, cv, cw, e⟩ | e
  · omega
  · rw [e]
    refine ⟨by dsimp only; omega, fun y hy => ?_⟩
    simp only [Lib.takeB l c2, List.mem_cons, List.not_mem_nil, or_false] at hy
    rcases hy with rfl | rfl <;> omega
  · rw [e]
    refine ⟨by dsimp only; omega, fun y hy => ?_⟩
    simp only [Lib.takeC l c2, List.mem_cons, List.not_mem_nil, or_false] at hy
    rcases hy with rfl | rfl | rfl <;> omega
  · rw [e]
    refine ⟨by dsimp only; omega, fun y hy => ?_⟩
    simp only [Lib.takeD l c2, List.mem_cons, List.not_mem_nil, or_false] at hy
    rcases hy with rfl | rfl | rfl | rfl <;> omega
  · rw [e]
    refine ⟨by dsimp only; omega, fun y hy => ?_⟩
    simp only [Lib.takeA l hl, List.mem_cons, List.not_mem_nil, or_false] at hy
    rcases hy with rfl
    omega
theorem enc_eq {c : Nat} (hc2 : c ≤ 1114111) (hs : c < 55296 ∨ 57343 < c) : encN c = Lib.encodeRune (c : Int) := by
  have key : ∀ {n : Nat} {z : Int}, (n : Int) = z → UInt8.ofNat n = z.toNat.toUInt8 := fun h => by rw [← h]; rfl
  unfold encN Lib.encodeRune
  by_cases h1 : c ≤ 127
  · rw [if_pos h1, Lib.encodeRuneZ_one (by omega) (by omega)]
    simp only [List.map_cons, List.map_nil]
    rw [key (n := c % 256) (z := c) (by omega)]
  by_cases h2 : c ≤ 2047
  · rw [if_neg h1, if_pos h2, Lib.encodeRuneZ_two (by omega) (by omega)]
    simp only [List.map_cons, List.map_nil]
    rw [key (n := 192 + c / 64 % 256) (z := 192 + (c : Int) / 64) (by omega), key (n := 128 + c % 256 % 64) (z := 128 + (c : Int) % 64) (by omega)]
  by_cases h3 : c ≤ 65535
  · rw [if_neg h1, if_neg h2, if_pos h3, Lib.encodeRuneZ_three (by omega)]
    simp only [List.map_cons, List.map_nil]
    rw [key (n := 224 + c / 4096 % 256) (z := 224 + (c : Int) / 4096) (by omega), key (n := 128 + c / 64 % 256 % 64) (z := 128 + (c : Int) / 64 % 64) (by omega), key (n := 128 + c % 256 % 64) (z := 128 + (c : Int) % 64) (by omega)]
  · rw [if_neg h1, if_neg h2, if_neg h3, Lib.encodeRuneZ_four (by omega) (by omega)]
    simp only [List.map_cons, List.map_nil]
    rw [key (n := 240 + c / 262144 % 256) (z := 240 + (c : Int) / 262144) (by omega), key (n := 128 + c / 4096 % 256 % 64) (z := 128 + (c : Int) / 4096 % 64) (by omega), key (n := 128 + c / 64 % 256 % 64) (z := 128 + (c : Int) / 64 % 64) (by omega), key (n := 128 + c % 256 % 64) (z := 128 + (c : Int) % 64) (by omega)]
theorem hexD_low {n : Nat} (h : n < 16) : (hexD n).toNat < 128 := by
  have : ∀ m : Fin 16, (hexD m.val).toNat < 128 := by decide
  exact this ⟨n, h⟩
theorem pByte_low {x : UInt8} (h : x.toNat < 128) : pByte x = [x] := by unfold pByte; exact if_neg (by omega)
theorem pByte_hex (x : UInt8) : (hexQ x).flatMap pByte = hexQ x := by
  have h1 := hexD_low (n := x.toNat / 16) (by have := x.toNat_lt; omega)
  have h2 := hexD_low (n := x.toNat % 16) (by omega)
  unfold hexQ
  simp only [List.flatMap_cons, List.flatMap_nil]
  rw [pByte_low h1, pByte_low h2, pByte_low (by decide), pByte_low (by decide)]
  rfl
theorem q_high {x : UInt8} (h : 128 ≤ x.toNat) : qByte x = hexQ x ∧ pByte x = hexQ x := by
  constructor
  · unfold qByte
    rw [if_neg (by omega), if_neg (by omega), if_neg (by omega), if_neg (by omega)]
    rfl
  · unfold pByte
    rw [if_pos h]
    rfl
theorem flat_high {f h : UInt8 → List UInt8} : ∀ {l : List UInt8}, (∀ y ∈ l, f y = h y) → l.flatMap f = l.flatMap h
  | [], _ => rfl
  | x :: l, hy => by rw [List.flatMap_cons, List.flatMap_cons, hy x List.mem_cons_self, flat_high fun y hm => hy y (List.mem_cons_of_mem _ hm)]
theorem out_law {l : List UInt8} (hne : l ≠ []) : (outR l).flatMap pByte = (l.take (Lib.decodeL l).2).flatMap qByte := by
  unfold outR outD
  by_cases hb : 128 ≤ (l.getD 0 0).toNat
  · obtain ⟨h1, h2⟩ := rune_high hne hb
    obtain ⟨o1, o2⟩ := rune_ok l
    rw [if_neg (by omega), if_neg (by omega), if_neg (by omega)]
    split
    · rename_i hp
      have hp : 160 ≤ (Lib.decodeL l).1 ∧ 1 < (Lib.decodeL l).2 := by
        simp only [plainN, Bool.or_eq_true, Bool.and_eq_true, decide_eq_true_eq] at hp
        omega
      rw [enc_eq o1 o2, Lib.encode_decode l hne (by omega)]
      exact flat_high fun y hy => ((q_high (h2 y hy)).2).trans (q_high (h2 y hy)).1.symm
    · rw [List.flatMap_assoc]
      refine flat_high fun y hy => ?_
      rw [pByte_hex, (q_high (h2 y hy)).1]
  · cases l with
    | nil => exact absurd rfl hne
    | cons x t =>
      simp only [List.getD_cons_zero] at hb ⊢
      have hx : x.toNat < 128 := by omega
      rw [Lib.decodeL_ascii x t hx]
      dsimp only
      simp only [List.take_succ_cons, List.take_zero, List.flatMap_cons, List.flatMap_nil, List.append_nil]
      unfold qByte
      by_cases h : x.toNat = 34 ∨ x.toNat = 92
      · rw [if_pos h, if_pos h]
        simp only [List.flatMap_cons, List.flatMap_nil]
        rw [pByte_low hx, pByte_low (by decide)]
        rfl
      rw [if_neg h, if_neg h]
      by_cases h3 : x.toNat = 10
      · rw [if_pos h3, if_pos h3]
        rfl
      rw [if_neg h3, if_neg h3]
      by_cases h4 : x.toNat = 9
      · rw [if_pos h4, if_pos h4]
        rfl
      rw [if_neg h4, if_neg h4]
      by_cases h5 : 32 ≤ x.toNat ∧ x.toNat ≤ 126
      · rw [if_pos (by simp [plainN, h5.1, h5.2]), if_pos h5]
        have : encN x.toNat = [x] := by
          unfold encN
          rw [if_pos (by omega), Nat.mod_eq_of_lt (by omega)]
          simp
        rw [this]
        simp only [List.flatMap_cons, List.flatMap_nil]
        rw [pByte_low hx]
        rfl
      · have hp : plainN x.toNat 1 = false := by
          cases hp : plainN x.toNat 1 with
          | false => rfl
          | true =>
            simp only [plainN, Bool.or_eq_true, Bool.and_eq_true, decide_eq_true_eq] at hp
            omega
        rw [if_neg (by rw [hp]; simp), if_neg h5]
        exact pByte_hex x
theorem body_law : ∀ (k : Nat) {l : List UInt8}, l.length ≤ k → (bodyF k l).flatMap pByte = l.flatMap qByte
  | 0, l, h => by
    have : l = [] := List.eq_nil_of_length_eq_zero (by omega)
    subst this
    rfl
  | k + 1, l, h => by
    unfold bodyF
    by_cases h0 : l = []
    · rw [if_pos h0, h0]; rfl
    · rw [if_neg h0, List.flatMap_append, out_law h0, body_law k (by have := Lib.decodeL_width l; have := List.length_pos_iff.2 h0; rw [List.length_drop]; omega), ← List.flatMap_append, List.take_append_drop]
theorem val_law (b : List UInt8) : (valT b).flatMap pByte = quoteB b := by
  unfold valT quoteB
  rw [List.flatMap_append, List.flatMap_append, body_law _ (Nat.le_refl _)]
  rfl
theorem pByte_pos (x : UInt8) : 1 ≤ (pByte x).length := by unfold pByte; split <;> simp
theorem flat_ge : ∀ l : List UInt8, l.length ≤ (l.flatMap pByte).length
  | [] => by simp
  | x :: l => by
    have := flat_ge l
    have := pByte_pos x
    simp only [List.flatMap_cons, List.length_append, List.length_cons]
    omega
theorem val_len (b : List UInt8) : (valT b).length ≤ 4 * b.length + 2 := by
  have h := flat_ge (valT b)
  rw [val_law] at h
  have h2 := flat_len qByte_len b
  simp only [quoteB, List.length_append, List.length_cons, List.length_nil] at h
  omega
end Go.Ae
set_option linter.unusedVariables false
set_option maxRecDepth 100000
namespace Go.Ae
open Go.Proofs Go.Shelf Go.Proofs.YtmibkoadjehdaaaGreatDoor
def ρ197 : Go.Shelf.Ren where
  f := fun n => if n = 197 then 203 else 217
  t := fun n => match n with
    | 0 => 0 | 3 => 3 | 4 => 4 | 5 => 5 | 9 => 9 | 21 => 21 | 46 => 279 | 105 => 366 | 119 => 407 | 138 => 409 | 139 => 410 | _ => 0
  g := fun n => if n = 3 then 7 else 8
theorem lays197 : Lays.n197 Tryz.prog ρ197 := by
  constructor
  all_goals first
    | kernel_rfl
    | (intro w; kernel_rfl)
theorem first_list : flatD 5 Rows.laid_unicode_utf8_first = (List.range 256).map fun c => .int .u8 (Lib.firstT c) := by kernel_rfl
theorem first_eq {c : Nat} (hc : c < 256) : (flatD 5 Rows.laid_unicode_utf8_first)[c]? = some (.int .u8 (Lib.firstT c)) := by
  rw [first_list, List.getElem?_map, List.getElem?_range hc]
  rfl
theorem acc_list : flatD 5 Rows.laid_unicode_utf8_acceptRanges = (List.range 32).map fun c => .int .u8 (if c % 2 = 0 then Lib.accLo (c / 2) else Lib.accHi (c / 2)) := by kernel_rfl
theorem acc_eq {i : Nat} (hi : i < 16) : (flatD 5 Rows.laid_unicode_utf8_acceptRanges)[2 * i]? = some (.int .u8 (Lib.accLo i)) ∧ (flatD 5 Rows.laid_unicode_utf8_acceptRanges)[2 * i + 1]? = some (.int .u8 (Lib.accHi i)) := by
  rw [acc_list, List.getElem?_map, List.getElem?_range (by omega), List.getElem?_map, List.getElem?_range (by omega)]
  refine ⟨?_, ?_⟩
  · rw [Option.map_some, if_pos (by omega), show 2 * i / 2 = i by omega]
  · rw [Option.map_some, if_neg (by omega), show (2 * i + 1) / 2 = i by omega]
/-- The globals of unicode/utf8, as the abstract heap has them. -/
theorem glob_cell {ρ : Go.Ae.Ren} {H : AHeap} {w : World} (hH : RelH Tryz.prog ρ H w) {g : Nat} (hg14 : g < 14) {cells : List Value} {e : TypeId} (hg : H.get g = some (.row ⟨cells, e, 0, false⟩)) {i : Nat} {x : Value} (hx : cells[i]? = some x) (hs : simpleV x = true) : w.cell? ⟨g, i, none⟩ = some x := by
  obtain ⟨s, h1, h2, h3, h4⟩ := hH.glob g hg14
  obtain ⟨a1, a2, a3, c, fz, a4, a5, a6, a7, a8⟩ := hH.row g _ hg s h1
  obtain ⟨y, hy, hv⟩ := a7 i x (by rw [h4]; exact Nat.zero_le _) hx
  have := VR.simple_eq hs hv
  subst this
  rw [h3, h4] at hy
  simp only [Nat.zero_add, Nat.sub_zero] at hy
  unfold World.cell?
  rw [h2] at a4
  simp only [a4]
  simpa using hy
theorem tabs_of {ρ : Go.Ae.Ren} {H : AHeap} {w : World} (hH : RelH Tryz.prog ρ H w) (hg : ∀ p ∈ globs, H.get p.1 = some (.row p.2)) : Lib.Utf8Tabs (ρ197.g 3) (ρ197.g 4) w := by
  have h7 : H.get 7 = some (.row ⟨flatD 5 Rows.laid_unicode_utf8_first, 407, 0, false⟩) := hg (7, ⟨_, _, _, _⟩) (by unfold globs; repeat (first | exact List.mem_cons_self | apply List.mem_cons_of_mem))
  have h8 : H.get 8 = some (.row ⟨flatD 5 Rows.laid_unicode_utf8_acceptRanges, 410, 0, false⟩) := hg (8, ⟨_, _, _, _⟩) (by unfold globs; repeat (first | exact List.mem_cons_self | apply List.mem_cons_of_mem))
  refine ⟨fun c hc => glob_cell hH (by omega) h7 (first_eq hc) rfl, fun i hi => ?_⟩
  obtain ⟨h1, h2⟩ := acc_eq hi
  exact ⟨glob_cell hH (by omega) h8 h1 rfl, glob_cell hH (by omega) h8 h2 rfl⟩
/-- What DecodeRuneInString gives. -/
theorem rune_calls {H : AHeap} (hg : ∀ p ∈ globs, H.get p.1 = some (.row p.2)) (s : List UInt8) (hs : s ≠ []) : ACalls Tryz.prog 203 #[.string (strB s)] H fun v H' => v = .tuple #[.int .i32 (Lib.decodeL s).1, .int .i64 (Lib.decodeL s).2] ∧ H' = H := by
  refine ACalls.of_calls (args := [.string (strB s)]) rfl (by simp [flatV, simpleV]) fun ρ w hH => ?_
  have := Any.utf8_DecodeRuneInString lays197 (strB s) w (tabs_of hH hg)
  have he : Lib.decodeGo (strB s) = Lib.decodeL s := by
    unfold Lib.decodeGo Lib.decodeL
    have : ¬ (strB s).size = 0 := by
      have e : (strB s).size = s.length := by simp [strB, ByteArray.size]
      rw [e]
      exact fun h => hs (List.eq_nil_of_length_eq_zero h)
    rw [if_neg this]
    rfl
  rw [he] at this
  exact this
end Go.Ae

/- scale.Spread's runs: two and three bounds. scale.Spread of the fixed plan: two and three bounds, refused bounds; all in one. expr.Eval of the split's text (PRINTED by wip/tools/mkEl.py). expr.Eval of the split's text, all cases in one. works() of the scale's statements holds: worked out by the kernel. -/
import Derived.Test.YtmibkoadjehdaaaGreatDoorKy40
import Derived.Test.YtmibkoadjehdaaaGreatDoorKy38
import Derived.Test.YtmibkoadjehdaaaGreatDoorKy36
set_option linter.unusedVariables false
set_option linter.unusedSimpArgs false
set_option linter.unusedVariables false
set_option maxRecDepth 100000
namespace Go.Ae
open Go.Proofs Go.Proofs.YtmibkoadjehdaaaGreatDoor
theorem spr2 (x y : List UInt8) (e : TypeId) (c : Nat) (T : List UInt8) : runS (strV [x, y]) e (bvS 2 c) (planK T 7) (tapeS (strV [x, y]) (bvS 2 c) T 2) = some ((pairsS (strV [x, y]) (bvS 2 c) T 2).reverse, .nilIface) := by kernel_rfl
theorem spr3 (x y z : List UInt8) (e : TypeId) (c : Nat) (T : List UInt8) : runS (strV [x, y, z]) e (bvS 3 c) (planK T 8) (tapeS (strV [x, y, z]) (bvS 3 c) T 3) = some ((pairsS (strV [x, y, z]) (bvS 3 c) T 3).reverse, .nilIface) := by kernel_rfl
end Go.Ae
set_option linter.unusedVariables false
set_option linter.unusedSimpArgs false
set_option linter.unnecessarySimpa false
set_option maxRecDepth 100000
namespace Go.Ae
open Go.Proofs Go.Proofs.YtmibkoadjehdaaaGreatDoor
/-- Refused bounds. -/
def badV : Value := .tuple #[.agg #[.int .i64 0, .slice none 0 0, .slice none 0 0], .int .i64 201]
noncomputable def tapeB (cells : List Value) (bv : Value) : List An := [ckA e0, ckA e1, cdA cells bv (.tuple #[.string .empty, .bool false])]
def pairsB (cells : List Value) (bv : Value) : List (Value × Value) := ckP e0 ++ (ckP e1 ++ cdP cells bv)
theorem sprB (cells : List Value) (e : TypeId) (z : Option Addr) (n c : Nat) : runS cells e (.slice z n c) okV (tapeB cells (.slice z n c)) = some ((pairsB cells (.slice z n c)).reverse, badV) := by kernel_rfl
theorem glQ_ok : ∀ p ∈ glQ, p.1 = p.2 := by
  intro p hp
  obtain ⟨q, _, rfl⟩ := List.mem_map.1 hp
  rfl
theorem ckP_ok {x : Value} : ∀ p ∈ ckP x, p.1 = p.2 := by
  intro p hp
  rcases List.mem_cons.1 hp with rfl | hp
  · rfl
  · exact glQ_ok p hp
theorem cdP_ok {cells : List Value} {bv : Value} : ∀ p ∈ cdP cells bv, p.1 = p.2 := by
  intro p hp
  rcases List.mem_cons.1 hp with rfl | hp
  · rfl
  rcases List.mem_cons.1 hp with rfl | hp
  · rfl
  · exact glQ_ok p hp
theorem pairsS_ok {cells : List Value} {bv : Value} {T : List UInt8} {k : Nat} : ∀ p ∈ pairsS cells bv T k, p.1 = p.2 := by
  intro p hp
  rcases List.mem_append.1 hp with hp | hp
  · exact ckP_ok p hp
  rcases List.mem_append.1 hp with hp | hp
  · exact ckP_ok p hp
  rcases List.mem_append.1 hp with hp | hp
  · exact cdP_ok p hp
  rcases List.mem_append.1 hp with hp | hp
  · exact ckP_ok p hp
  rcases List.mem_append.1 hp with hp | hp
  · exact ckP_ok p hp
  rcases List.mem_append.1 hp with hp | hp
  · exact ckP_ok p hp
  rcases List.mem_append.1 hp with hp | hp
  · obtain ⟨l, hl, hp⟩ := List.mem_flatten.1 hp
    obtain rfl := List.eq_of_mem_replicate hl
    rcases List.mem_append.1 hp with hp | hp
    · exact ckP_ok p hp
    · exact ckP_ok p hp
  rcases List.mem_append.1 hp with hp | hp
  · simp only [List.mem_cons, List.mem_nil_iff, or_false] at hp
    rcases hp with rfl | rfl | rfl <;> rfl
  · exact glQ_ok p hp
theorem pairsB_ok {cells : List Value} {bv : Value} : ∀ p ∈ pairsB cells bv, p.1 = p.2 := by
  intro p hp
  rcases List.mem_append.1 hp with hp | hp
  · exact ckP_ok p hp
  rcases List.mem_append.1 hp with hp | hp
  · exact ckP_ok p hp
  · exact cdP_ok p hp
theorem ckA_ok {x : Value} (hC : ∀ H : AHeap, (∀ p ∈ globs, H.get p.1 = some (.row p.2)) → ACalls Tryz.prog 179 #[x] H fun v H' => v = .nilIface ∧ H' = H) : ∀ hd, An.call hd = ckA x → HOk Tryz.prog hd := by
  intro hd hm
  obtain rfl := An.call.inj hm
  exact puO_ok fun H hg => hC H hg
theorem ck0_ok : ∀ hd, An.call hd = ckA e0 → HOk Tryz.prog hd := ckA_ok fun H hg => closed_v (args := [e0]) ck0 rfl rfl hg
theorem ck1_ok : ∀ hd, An.call hd = ckA e1 → HOk Tryz.prog hd := ckA_ok fun H hg => closed_v (args := [e1]) ck1 rfl rfl hg
/-- What scale's condition gives. -/
def CondIs (bs : List (List UInt8)) (bv v : Value) : Prop := ∀ (H : AHeap) (r : Row), 15 ≤ H.next → H.get 14 = some (.row r) → r.cells = strV bs → r.ver = 0 → (∀ p ∈ globs, H.get p.1 = some (.row p.2)) → ACalls Tryz.prog 57 #[bv] H fun v' H' => v' = v ∧ H' = H
theorem cdA_ok {bs : List (List UInt8)} {bv v : Value} (hC : CondIs bs bv v) : ∀ hd, An.call hd = cdA (strV bs) bv v → HOk Tryz.prog hd := by
  intro hd hm
  obtain rfl := An.call.inj hm
  exact coO_ok fun H r h1 h2 h3 h4 h5 => hC H r h1 h2 h3 h4 h5
theorem tapeS_ok {bs : List (List UInt8)} {bv : Value} {T : List UInt8} {k : Nat} (hC : CondIs bs bv (.tuple #[.string (strB T), .bool true])) (hT : ∀ H : AHeap, (∀ p ∈ globs, H.get p.1 = some (.row p.2)) → ACalls Tryz.prog 179 #[.string (strB T)] H fun v H' => v = .nilIface ∧ H' = H) : ∀ hd, An.call hd ∈ tapeS (strV bs) bv T k → HOk Tryz.prog hd := by
  intro hd hm
  rcases List.mem_append.1 hm with hm | hm
  · simp only [List.mem_cons, List.mem_nil_iff, or_false] at hm
    rcases hm with hm | hm | hm | hm | hm | hm
    · exact ck0_ok hd hm
    · exact ck1_ok hd hm
    · exact cdA_ok hC hd hm
    · exact ck0_ok hd hm
    · exact ck1_ok hd hm
    · exact ckA_ok hT hd hm
  · obtain ⟨l, hl, hm⟩ := List.mem_flatten.1 hm
    obtain rfl := List.eq_of_mem_replicate hl
    simp only [List.mem_cons, List.mem_nil_iff, or_false] at hm
    rcases hm with hm | hm
    · exact ck0_ok hd hm
    · exact ck1_ok hd hm
theorem spread_ok {bs : List (List UInt8)} (h1 : bs ≠ []) (hk : bs.length ≤ 3) {c : Nat} {T : List UInt8} {e : TypeId} (hC : CondIs bs (bvS bs.length c) (.tuple #[.string (strB T), .bool true]))
    (hT : ∀ H : AHeap, (∀ p ∈ globs, H.get p.1 = some (.row p.2)) → ACalls Tryz.prog 179 #[.string (strB T)] H fun v H' => v = .nilIface ∧ H' = H) {H : AHeap} (hH : IsH (strV bs) e H) :
    ∃ v1 h1 v2 h2, (ACalls Tryz.prog 26 #[] H fun v H' => v = v1 ∧ H' = toH h1) ∧ (ACalls Tryz.prog 15 #[v1, .int .i64 1, bvS bs.length c] (toH h1) fun v H' => v = v2 ∧ H' = toH h2) ∧ PlanOk T (bs.length + 5) v2 (toH h2) := by
  have go : ∀ {L : List (Value × Value)}, L = (pairsS (strV bs) (bvS bs.length c) T bs.length).reverse → runS (strV bs) e (bvS bs.length c) (planK T (bs.length + 5)) (tapeS (strV bs) (bvS bs.length c) T bs.length) = some (L, .nilIface) →
      ∃ v1 h1 v2 h2, (ACalls Tryz.prog 26 #[] H fun v H' => v = v1 ∧ H' = toH h1) ∧ (ACalls Tryz.prog 15 #[v1, .int .i64 1, bvS bs.length c] (toH h1) fun v H' => v = v2 ∧ H' = toH h2) ∧ PlanOk T (bs.length + 5) v2 (toH h2) := fun hL h => by
    subst hL
    obtain ⟨v1, g1, v2, g2, a1, a2, ex, fr, df, g3, y, hr, _⟩ := runS_calls (tapeS_ok hC hT) (fun p hp => pairsS_ok p (List.mem_reverse.1 hp)) h hH
    exact ⟨v1, g1, v2, g2, a1, a2, planK_ok hr⟩
  rcases three h1 hk with ⟨x, rfl⟩ | ⟨x, y, rfl⟩ | ⟨x, y, z, rfl⟩
  · exact go rfl (spr1 x e c T)
  · exact go rfl (spr2 x y e c T)
  · exact go rfl (spr3 x y z e c T)
theorem spread_bad {bs : List (List UInt8)} {z : Option Addr} {n c : Nat} {e : TypeId} (hC : CondIs bs (.slice z n c) (.tuple #[.string .empty, .bool false])) {H : AHeap} (hH : IsH (strV bs) e H) :
    ∃ v1 h1 h2, (ACalls Tryz.prog 26 #[] H fun v H' => v = v1 ∧ H' = toH h1) ∧ (ACalls Tryz.prog 15 #[v1, .int .i64 1, .slice z n c] (toH h1) fun v H' => v = badV ∧ H' = toH h2) := by
  have hT : ∀ hd, An.call hd ∈ tapeB (strV bs) (.slice z n c) → HOk Tryz.prog hd := by
    intro hd hm
    simp only [tapeB, List.mem_cons, List.mem_nil_iff, or_false] at hm
    rcases hm with hm | hm | hm
    · exact ck0_ok hd hm
    · exact ck1_ok hd hm
    · exact cdA_ok hC hd hm
  obtain ⟨v1, g1, v2, g2, a1, a2, ex, fr, df, g3, y, hr, hg⟩ := runS_calls hT (fun p hp => pairsB_ok p (List.mem_reverse.1 hp)) (sprB (strV bs) e z n c) hH
  unfold okV at hr
  obtain ⟨_, rfl, _, _, _⟩ := Res.inj hr
  rw [getV_zero] at hg
  obtain rfl := Option.some.inj hg
  exact ⟨v1, g1, g2, a1, a2⟩
end Go.Ae
set_option linter.unusedVariables false
set_option linter.unusedSimpArgs false
set_option linter.unnecessarySimpa false
set_option maxRecDepth 100000
namespace Go.Ae
open Go.Proofs Go.Proofs.YtmibkoadjehdaaaGreatDoor
/-! ### Eval -/
noncomputable def woA (kv : Value) (u : List UInt8) (r : Int) : An := .call (puO 334 [.string (strB [60]), kv, txtV u] (intV r) globs)
def woP (kv : Value) (u : List UInt8) : List (Value × Value) := (.agg ⟨[.string (strB [60]), kv, txtV u]⟩, .agg ⟨[.string (strB [60]), kv, txtV u]⟩) :: glP
noncomputable def ffA : List An := [fA, fA]
def ffP : List (Value × Value) := [neP [] false, lnP []]
noncomputable def cmpsA (kv : Value) : List (List UInt8) → Nat → List An
  | [], _ => []
  | b :: _, 0 => woA kv b 1 :: ffA
  | b :: bs, n + 1 => woA kv b 0 :: (ffA ++ cmpsA kv bs n)
def cmpsP (kv : Value) : List (List UInt8) → Nat → List (Value × Value)
  | [], _ => []
  | b :: _, 0 => woP kv b ++ ffP
  | b :: bs, n + 1 => woP kv b ++ (ffP ++ cmpsP kv bs n)
def l12 (k : List UInt8) (t : Bool) : Value × Value := (.bool (Nat.ble (strB k).size 12), .bool t)
noncomputable def tapeE (X : List UInt8 → List UInt8) (bs : List (List UInt8)) (kv : Value) (t : Bool) (n : Nat) : List An := tapeC X bs ++ (ffA ++ (ffA ++ (.val (.bool t) :: cmpsA kv bs n)))
def pairsE (X : List UInt8 → List UInt8) (bs : List (List UInt8)) (k : List UInt8) (kv : Value) (t : Bool) (n : Nat) : List (Value × Value) := pairsC X bs ++ (ffP ++ (ffP ++ (l12 k t :: cmpsP kv bs n)))
def recV (k : List UInt8) : Value := .agg #[.string (strB k), .int .i64 0, .int .i64 0, .string .empty, .slice none 0 0, .slice none 0 0]
def XE : List FuncId := [132, 79, 94, 45, 334]
def ZE : List (FuncId × List Tmp) := [(44, [8, 9]), (176, [43, 69, 70]), (49, [28, 29])]
theorem okE : XE.all okX = true := by kernel_rfl
theorem ev10 (X : List UInt8 → List UInt8) (k b : List UInt8) : runX XE ZE 28 [.string (strB (textK [b])), recV k, noneV] 40 (tapeE X [b] (txtV k) true 0) = some ((pairsE X [b] k (txtV k) true 0).reverse, .tuple #[intV 0, .nilIface]) := by kernel_rfl
theorem ev11 (X : List UInt8 → List UInt8) (k b : List UInt8) : runX XE ZE 28 [.string (strB (textK [b])), recV k, noneV] 40 (tapeE X [b] (txtV k) true 1) = some ((pairsE X [b] k (txtV k) true 1).reverse, .tuple #[intV 1, .nilIface]) := by kernel_rfl
theorem evL1 (X : List UInt8 → List UInt8) (k b : List UInt8) : runX XE ZE 28 [.string (strB (textK [b])), recV k, noneV] 40 (tapeE X [b] noneV false 0) = some ((pairsE X [b] k noneV false 0).reverse, .tuple #[intV 0, .nilIface]) := by kernel_rfl
theorem ev20 (X : List UInt8 → List UInt8) (k b c : List UInt8) : runX XE ZE 28 [.string (strB (textK [b, c])), recV k, noneV] 40 (tapeE X [b, c] (txtV k) true 0) = some ((pairsE X [b, c] k (txtV k) true 0).reverse, .tuple #[intV 0, .nilIface]) := by kernel_rfl
theorem ev21 (X : List UInt8 → List UInt8) (k b c : List UInt8) : runX XE ZE 28 [.string (strB (textK [b, c])), recV k, noneV] 40 (tapeE X [b, c] (txtV k) true 1) = some ((pairsE X [b, c] k (txtV k) true 1).reverse, .tuple #[intV 1, .nilIface]) := by kernel_rfl
theorem ev22 (X : List UInt8 → List UInt8) (k b c : List UInt8) : runX XE ZE 28 [.string (strB (textK [b, c])), recV k, noneV] 40 (tapeE X [b, c] (txtV k) true 2) = some ((pairsE X [b, c] k (txtV k) true 2).reverse, .tuple #[intV 2, .nilIface]) := by kernel_rfl
theorem evL2 (X : List UInt8 → List UInt8) (k b c : List UInt8) : runX XE ZE 28 [.string (strB (textK [b, c])), recV k, noneV] 40 (tapeE X [b, c] noneV false 0) = some ((pairsE X [b, c] k noneV false 0).reverse, .tuple #[intV 0, .nilIface]) := by kernel_rfl
theorem ev30 (X : List UInt8 → List UInt8) (k b c d : List UInt8) : runX XE ZE 28 [.string (strB (textK [b, c, d])), recV k, noneV] 40 (tapeE X [b, c, d] (txtV k) true 0) = some ((pairsE X [b, c, d] k (txtV k) true 0).reverse, .tuple #[intV 0, .nilIface]) := by kernel_rfl
theorem ev31 (X : List UInt8 → List UInt8) (k b c d : List UInt8) : runX XE ZE 28 [.string (strB (textK [b, c, d])), recV k, noneV] 40 (tapeE X [b, c, d] (txtV k) true 1) = some ((pairsE X [b, c, d] k (txtV k) true 1).reverse, .tuple #[intV 1, .nilIface]) := by kernel_rfl
theorem ev32 (X : List UInt8 → List UInt8) (k b c d : List UInt8) : runX XE ZE 28 [.string (strB (textK [b, c, d])), recV k, noneV] 40 (tapeE X [b, c, d] (txtV k) true 2) = some ((pairsE X [b, c, d] k (txtV k) true 2).reverse, .tuple #[intV 2, .nilIface]) := by kernel_rfl
theorem ev33 (X : List UInt8 → List UInt8) (k b c d : List UInt8) : runX XE ZE 28 [.string (strB (textK [b, c, d])), recV k, noneV] 40 (tapeE X [b, c, d] (txtV k) true 3) = some ((pairsE X [b, c, d] k (txtV k) true 3).reverse, .tuple #[intV 3, .nilIface]) := by kernel_rfl
theorem evL3 (X : List UInt8 → List UInt8) (k b c d : List UInt8) : runX XE ZE 28 [.string (strB (textK [b, c, d])), recV k, noneV] 40 (tapeE X [b, c, d] noneV false 0) = some ((pairsE X [b, c, d] k noneV false 0).reverse, .tuple #[intV 0, .nilIface]) := by kernel_rfl
end Go.Ae
set_option linter.unusedVariables false
set_option linter.unusedSimpArgs false
set_option linter.unnecessarySimpa false
set_option maxRecDepth 100000
namespace Go.Ae
open Go.Proofs Go.Proofs.YtmibkoadjehdaaaGreatDoor
theorem ffP_ok : ∀ p ∈ ffP, p.1 = p.2 := by
  intro p hp
  simp only [ffP, List.mem_cons, List.mem_nil_iff, or_false] at hp
  rcases hp with rfl | rfl
  · exact neP_f
  · exact lnP_ok (by simp)
theorem woP_ok {kv : Value} {u : List UInt8} : ∀ p ∈ woP kv u, p.1 = p.2 := by
  intro p hp
  rcases List.mem_cons.1 hp with rfl | hp
  · rfl
  · exact glP_ok p hp
theorem cmpsP_ok {kv : Value} : ∀ (bs : List (List UInt8)) (n : Nat), ∀ p ∈ cmpsP kv bs n, p.1 = p.2
  | [], _, p, hp => by cases hp
  | b :: bs, 0, p, hp => by
    rcases List.mem_append.1 hp with hp | hp
    · exact woP_ok p hp
    · exact ffP_ok p hp
  | b :: bs, n + 1, p, hp => by
    rcases List.mem_append.1 hp with hp | hp
    · exact woP_ok p hp
    rcases List.mem_append.1 hp with hp | hp
    · exact ffP_ok p hp
    · exact cmpsP_ok bs n p hp
/-- The place that a key has among the bounds. -/
def At (kv : Value) (r : List UInt8 → Int) (bs : List (List UInt8)) (n : Nat) : Prop := ∀ (i : Nat) (b : List UInt8), bs[i]? = some b → i ≤ n → (i < n → r b = 0) ∧ (i = n → r b = 1)
theorem cmpsA_ok {kv : Value} {r : List UInt8 → Int} (hr : ∀ b : List UInt8, b.length ≤ 24 → ∀ H : AHeap, (∀ p ∈ globs, H.get p.1 = some (.row p.2)) → ACalls Tryz.prog 334 #[.string (strB [60]), kv, txtV b] H fun v H' => v = intV (r b) ∧ H' = H) :
    ∀ (bs : List (List UInt8)) (n : Nat), (∀ b ∈ bs, b.length ≤ 12) → At kv r bs n → ∀ hd, An.call hd ∈ cmpsA kv bs n → HOk Tryz.prog hd
  | [], _, _, _, hd, hm => by cases hm
  | b :: bs, 0, hb, ha, hd, hm => by
    have h1 := (ha 0 b rfl (Nat.le_refl _)).2 rfl
    simp only [cmpsA, ffA, fA, List.mem_cons, List.mem_nil_iff, or_false, reduceCtorEq] at hm
    obtain rfl := An.call.inj hm
    refine puO_ok fun H hg => ?_
    have := hr b (by have := hb b (by simp); omega) H hg
    rw [h1] at this
    exact this
  | b :: bs, n + 1, hb, ha, hd, hm => by
    have h1 := (ha 0 b rfl (Nat.zero_le _)).1 (Nat.succ_pos _)
    rcases List.mem_cons.1 hm with hm | hm
    · obtain rfl := An.call.inj hm
      refine puO_ok fun H hg => ?_
      have := hr b (by have := hb b (by simp); omega) H hg
      rw [h1] at this
      exact this
    rcases List.mem_append.1 hm with hm | hm
    · simp only [ffA, fA, List.mem_cons, List.mem_nil_iff, or_false, reduceCtorEq] at hm
    · exact cmpsA_ok hr bs n (fun b hm => hb b (List.mem_cons_of_mem _ hm)) (fun i b hi hle => by
        obtain ⟨h2, h3⟩ := ha (i + 1) b (by simpa using hi) (by omega)
        exact ⟨fun h => h2 (by omega), fun h => h3 (by omega)⟩) hd hm
theorem eval_of {X : List UInt8 → List UInt8} (hX : PrOk X) {bs : List (List UInt8)} (h1 : bs ≠ []) (hk : bs.length ≤ 3) (hb : ∀ b ∈ bs, b.length ≤ 12) (hs : (textK bs).length ≤ 100) {key : List UInt8} {kv : Value} {t : Bool} {n : Nat} {r : List UInt8 → Int}
    (ht : Nat.ble key.length 12 = t) (hr : ∀ b : List UInt8, b.length ≤ 24 → ∀ H : AHeap, (∀ p ∈ globs, H.get p.1 = some (.row p.2)) → ACalls Tryz.prog 334 #[.string (strB [60]), kv, txtV b] H fun v H' => v = intV (r b) ∧ H' = H) (ha : At kv r bs n)
    {L : List (Value × Value)} (hL : L = (pairsE X bs key kv t n).reverse) (hrun : runX XE ZE 28 [.string (strB (textK bs)), recV key, noneV] 40 (tapeE X bs kv t n) = some (L, .tuple #[intV n, .nilIface])) {H : AHeap} (hg : ∀ p ∈ globs, H.get p.1 = some (.row p.2)) :
    ACalls Tryz.prog 28 #[.string (strB (textK bs)), recV key, noneV] H fun v H' => v = .tuple #[intV n, .nilIface] ∧ H' = H := by
  subst hL
  refine closedX2 okE (fun hd hm => ?_) (fun p hp => ?_) hrun ?_ ?_ hg
  · rcases List.mem_append.1 hm with hm | hm
    · exact tapeC_ok hX h1 hk hb hs hd hm
    rcases List.mem_append.1 hm with hm | hm
    · simp [ffA, fA] at hm
    rcases List.mem_append.1 hm with hm | hm
    · simp [ffA, fA] at hm
    rcases List.mem_cons.1 hm with hm | hm
    · cases hm
    · exact cmpsA_ok hr bs n hb ha hd hm
  · rcases List.mem_append.1 (List.mem_reverse.1 hp) with hp | hp
    · exact pairsC_ok hs p hp
    rcases List.mem_append.1 hp with hp | hp
    · exact ffP_ok p hp
    rcases List.mem_append.1 hp with hp | hp
    · exact ffP_ok p hp
    rcases List.mem_cons.1 hp with rfl | hp
    · have : (strB key).size = key.length := strB_size _
      simp only [l12, this, ht]
    · exact cmpsP_ok bs n p hp
  · simp [recV, noneV, flatV, simpleV]
  · refine Array.all_eq_true_iff_forall_mem.2 fun x hx => ?_
    simp only [List.mem_toArray, List.mem_cons, List.mem_nil_iff, or_false] at hx
    rcases hx with rfl | rfl
    · exact flat_int _
    · rfl
/-- A key that a record may bear. -/
theorem eval_short {X : List UInt8 → List UInt8} (hX : PrOk X) {bs : List (List UInt8)} (h1 : bs ≠ []) (hk : bs.length ≤ 3) (hb : ∀ b ∈ bs, b.length ≤ 12) (hs : (textK bs).length ≤ 100) {key : List UInt8} (hkey : key.length ≤ 12) {n : Nat} (hn : n ≤ bs.length)
    (hlo : ∀ (i : Nat) (b : List UInt8), bs[i]? = some b → i < n → leB b key = true) (hhi : ∀ b : List UInt8, bs[n]? = some b → leB b key = false) {H : AHeap} (hg : ∀ p ∈ globs, H.get p.1 = some (.row p.2)) :
    ACalls Tryz.prog 28 #[.string (strB (textK bs)), recV key, noneV] H fun v H' => v = .tuple #[intV n, .nilIface] ∧ H' = H := by
  have ht : Nat.ble key.length 12 = true := Nat.ble_eq_true_of_le hkey
  have hr : ∀ b : List UInt8, b.length ≤ 24 → ∀ H : AHeap, (∀ p ∈ globs, H.get p.1 = some (.row p.2)) → ACalls Tryz.prog 334 #[.string (strB [60]), txtV key, txtV b] H fun v H' => v = intV (if leB b key = true then 0 else 1) ∧ H' = H := fun b hb H hg => worth_calls (by omega) hb hg
  have ha : At (txtV key) (fun b => if leB b key = true then 0 else 1) bs n := fun i b hi hle => ⟨fun h => if_pos (hlo i b hi h), fun h => by
    subst h
    exact if_neg (by rw [hhi b hi]; simp)⟩
  rcases three h1 hk with ⟨b, rfl⟩ | ⟨b, c, rfl⟩ | ⟨b, c, d, rfl⟩
  · have : n = 0 ∨ n = 1 := by simp at hn; omega
    rcases this with rfl | rfl
    · exact eval_of hX h1 hk hb hs ht hr ha rfl (ev10 X key b) hg
    · exact eval_of hX h1 hk hb hs ht hr ha rfl (ev11 X key b) hg
  · have : n = 0 ∨ n = 1 ∨ n = 2 := by simp at hn; omega
    rcases this with rfl | rfl | rfl
    · exact eval_of hX h1 hk hb hs ht hr ha rfl (ev20 X key b c) hg
    · exact eval_of hX h1 hk hb hs ht hr ha rfl (ev21 X key b c) hg
    · exact eval_of hX h1 hk hb hs ht hr ha rfl (ev22 X key b c) hg
  · have : n = 0 ∨ n = 1 ∨ n = 2 ∨ n = 3 := by simp at hn; omega
    rcases this with rfl | rfl | rfl | rfl
    · exact eval_of hX h1 hk hb hs ht hr ha rfl (ev30 X key b c d) hg
    · exact eval_of hX h1 hk hb hs ht hr ha rfl (ev31 X key b c d) hg
    · exact eval_of hX h1 hk hb hs ht hr ha rfl (ev32 X key b c d) hg
    · exact eval_of hX h1 hk hb hs ht hr ha rfl (ev33 X key b c d) hg
/-- A longer one. -/
theorem eval_long {X : List UInt8 → List UInt8} (hX : PrOk X) {bs : List (List UInt8)} (h1 : bs ≠ []) (hk : bs.length ≤ 3) (hb : ∀ b ∈ bs, b.length ≤ 12) (hs : (textK bs).length ≤ 100) {key : List UInt8} (hkey : 12 < key.length) {H : AHeap} (hg : ∀ p ∈ globs, H.get p.1 = some (.row p.2)) :
    ACalls Tryz.prog 28 #[.string (strB (textK bs)), recV key, noneV] H fun v H' => v = .tuple #[intV 0, .nilIface] ∧ H' = H := by
  have ht : Nat.ble key.length 12 = false := by rw [← Bool.not_eq_true, Nat.ble_eq]; omega
  have hr : ∀ b : List UInt8, b.length ≤ 24 → ∀ H : AHeap, (∀ p ∈ globs, H.get p.1 = some (.row p.2)) → ACalls Tryz.prog 334 #[.string (strB [60]), noneV, txtV b] H fun v H' => v = intV ((fun _ => 1) b) ∧ H' = H := fun b hb H hg => worthN_calls hb hg
  have ha : At noneV (fun _ => 1) bs 0 := fun i b hi hle => ⟨fun h => absurd h (by omega), fun _ => rfl⟩
  rcases three h1 hk with ⟨b, rfl⟩ | ⟨b, c, rfl⟩ | ⟨b, c, d, rfl⟩
  · exact eval_of hX h1 hk hb hs ht hr ha rfl (evL1 X key b) hg
  · exact eval_of hX h1 hk hb hs ht hr ha rfl (evL2 X key b c) hg
  · exact eval_of hX h1 hk hb hs ht hr ha rfl (evL3 X key b c d) hg
end Go.Ae
namespace Go.Ae
open Go.Proofs
theorem works_run : runB 13 40 = true := by kernel_rfl
theorem works_calls {H : AHeap} (hg : ∀ p ∈ globs, H.get p.1 = some (.row p.2)) : ACalls Tryz.prog 13 #[] H fun v H' => v = .bool true ∧ H' = H := closed_calls works_run hg
end Go.Ae

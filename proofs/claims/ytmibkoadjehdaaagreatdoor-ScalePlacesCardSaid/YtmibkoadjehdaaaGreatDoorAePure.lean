/- Operations that neither read nor write memory: what they give over the abstract heap's values is what the model gives over its own. No condition. -/
import Derived.Test.YtmibkoadjehdaaaGreatDoorAeRel
import Derived.Laws.Tables
import Derived.Laws.Entries
namespace Go.Ae

/-! ### What asks nothing of the world -/

def quiet {α : Type} (P : Program) : Sem α → Option α
  | .pure a => some a
  | .program k => quiet P (k P)
  | .mark _ k => quiet P k
  | _ => none
theorem quiet_run {α : Type} {P : Program} : ∀ {s : Sem α} {a : α}, quiet P s = some a → ∀ w, s.run P w = .ok a w
  | .pure a, b, h, w => by simp only [quiet, Option.some.injEq] at h; subst h; rfl
  | .program k, b, h, w => by simp only [quiet] at h; exact quiet_run (s := k P) h w
  | .mark m k, b, h, w => by simp only [quiet] at h; exact quiet_run (s := k) h w
  | .load .., _, h, _ | .store .., _, h, _ | .new .., _, h, _ | .shape .., _, h, _ | .freeze .., _, h, _ | .frozen .., _, h, _ | .getObj .., _, h, _
  | .setObj .., _, h, _ | .choose .., _, h, _ | .sys .., _, h, _ | .halt .., _, h, _ => by simp [quiet] at h
theorem quiet_bind {α β : Type} {P : Program} : ∀ (s : Sem α) (f : α → Sem β), quiet P (s >>= f) = (quiet P s).bind fun a => quiet P (f a) := by
  intro s
  induction s with
  | pure a => intro f; rfl
  | program k ih => intro f; exact ih P f
  | mark m k ih => intro f; exact ih f
  | _ => intros; rfl
theorem quiet_pure {α : Type} {P : Program} (a : α) : quiet P (pure a : Sem α) = some a := rfl
theorem quiet_ite {α : Type} {P : Program} (c : Prop) [Decidable c] (s t : Sem α) : quiet P (if c then s else t) = if c then quiet P s else quiet P t := by split <;> rfl
theorem quiet_program {P : Program} : quiet P program = some P := rfl
theorem quiet_underlying {P : Program} (t : TypeId) : quiet P (underlying t) = P.underlying t := by
  unfold underlying
  rw [quiet_bind, quiet_program, Option.bind_some]
  cases P.underlying t <;> rfl
theorem quiet_typeInfo {P : Program} (t : TypeId) : quiet P (typeInfo t) = P.info? t := by
  unfold typeInfo
  rw [quiet_bind, quiet_program, Option.bind_some]
  cases P.info? t <;> rfl

/-! ### Types -/

def szT (P : Program) (t : TypeId) : Option Nat := (P.info? t).map (·.size)
def byT (P : Program) (t : TypeId) : Option Nat := (P.info? t).map (·.bytes)
def zeroT (P : Program) (t : TypeId) : Option (List Value) := match P.info? t with
  | some i => match i.zero with
    | some z => if z.cells.all simpleV && z.cells.size == i.size then some z.cells.toList else none
    | none => none
  | none => none
def isAggT (P : Program) (t : TypeId) : Option Bool := (P.underlying t).map fun
  | .struct _ | .array _ _ => true
  | _ => false

theorem run_sizeT {P : Program} {t : TypeId} {n : Nat} (h : szT P t = some n) (w : World) : (sizeOf t).run P w = .ok n w := by
  unfold szT at h
  cases hi : P.info? t with
  | none => simp [hi] at h
  | some i =>
    simp only [hi, Option.map_some, Option.some.injEq] at h
    subst h
    simp [sizeOf, typeInfo, hi]
theorem run_infoT {P : Program} {t : TypeId} {i : TypeInfo} (h : P.info? t = some i) (w : World) : (typeInfo t).run P w = .ok i w := by
  simp [typeInfo, h]
theorem run_isAggT {P : Program} {t : TypeId} {b : Bool} (h : isAggT P t = some b) (w : World) : (isAgg t).run P w = .ok b w := by
  unfold isAggT at h
  cases hu : P.underlying t with
  | none => simp [hu] at h
  | some d =>
    simp only [hu, Option.map_some, Option.some.injEq] at h
    simp only [isAgg, Sem.run_bind, run_underlying hu, Result.andThen_ok]
    cases d <;> simp_all
theorem zeroT_spec {P : Program} {t : TypeId} {l : List Value} (h : zeroT P t = some l) :
    ∃ i z, P.info? t = some i ∧ i.zero = some z ∧ z.cells.toList = l ∧ (∀ x ∈ l, simpleV x = true) ∧ l.length = i.size := by
  unfold zeroT at h
  cases hi : P.info? t with
  | none => simp [hi] at h
  | some i =>
    simp only [hi] at h
    cases hz : i.zero with
    | none => simp [hz] at h
    | some z =>
      simp only [hz] at h
      split at h
      · rename_i hc
        simp only [Bool.and_eq_true, beq_iff_eq] at hc
        obtain rfl := Option.some.inj h
        exact ⟨i, z, rfl, hz, rfl, fun x hx => Array.all_eq_true_iff_forall_mem.1 hc.1 x (by simpa using hx), by simpa using hc.2⟩
      · cases h
theorem run_zeroT {P : Program} {t : TypeId} {l : List Value} (h : zeroT P t = some l) (w : World) : ∃ z : Value, z.cells.toList = l ∧ (zeroValue t).run P w = .ok z w := by
  obtain ⟨i, z, h1, h2, h3, _⟩ := zeroT_spec h
  exact ⟨z, h3, by simp [zeroValue, typeInfo, h1, h2]⟩
theorem VRs.of_simple {ρ : Ren} : ∀ {l : List Value}, (∀ x ∈ l, simpleV x = true) → VRs ρ l l
  | [], _ => .nil
  | x :: xs, h => .cons (VR.of_simple (h x (by simp))) (VRs.of_simple fun y hy => h y (by simp [hy]))

/-! ### Values that are the same in both -/

theorem VR.simple_eq {ρ : Ren} {x y : Value} (hx : simpleV x = true) (h : VR ρ x y) : y = x := by
  cases h <;> first | rfl | (simp [simpleV] at hx)

/-- The part of an aggregate's cells. -/
def apart (P : Program) (t : TypeId) (cs : Array Value) (off : Nat) : Option Value :=
  match isAggT P t, szT P t with
  | some true, some n => some (.agg (cs.extract off (off + n)))
  | some false, some _ => cs[off]?
  | _, _ => none
theorem apart_sim {P : Program} {ρ : Ren} {t : TypeId} {cs ds : Array Value} {off : Nat} {v : Value} (h : apart P t cs off = some v) (hv : VRs ρ cs.toList ds.toList) :
    ∃ v', VR ρ v v' ∧ ∀ w, (part t ds off).run P w = .ok v' w := by
  unfold apart at h
  split at h
  · rename_i n ha hs
    obtain rfl := Option.some.inj h
    refine ⟨.agg (ds.extract off (off + n)), VR.agg' ?_, fun w => ?_⟩
    · simp only [Array.toList_extract, List.extract_eq_take_drop, Nat.add_sub_cancel_left]
      exact (hv.drop off).take n
    · simp [part, run_isAggT ha, run_sizeT hs]
  · rename_i n ha hs
    obtain ⟨y, hy, hvy⟩ := hv.get off v (by simpa using h)
    refine ⟨y, hvy, fun w => ?_⟩
    simp only [Array.getElem?_toList] at hy
    simp [part, run_isAggT ha, hy]
  · cases h

/-! ### Comparisons with nil -/

def eqlNil : TypeDesc → Value → Value → Option Bool
  | .pointer _, .pointer none, .pointer b => some b.isNone
  | .pointer _, .pointer _, .pointer none => some false
  | .slice _, .slice none _ _, .slice b _ _ => some b.isNone
  | .slice _, .slice (some _) _ _, .slice none _ _ => some false
  | .map _ _, .map none, .map b => some b.isNone
  | .map _ _, .map _, .map none => some false
  | .func _ _ _, .nilFunc, .nilFunc => some true
  | .func _ _ _, .nilFunc, .func _ _ _ => some false
  | .func _ _ _, .func _ _ _, .nilFunc => some false
  | .interface _, .nilIface, .iface _ _ => some false
  | .interface _, .iface _ _, .nilIface => some false
  | _, _, _ => none
theorem eqlNil_sim {P : Program} {ρ : Ren} {t : TypeId} {d : TypeDesc} {x y x' y' : Value} {b : Bool} (hu : P.underlying t = some d) (h : eqlNil d x y = some b)
    (hx : VR ρ x x') (hy : VR ρ y y') (w : World) (n : Nat) : (Op.equalIn (n + 1) t x' y').run P w = .ok b w := by
  unfold eqlNil at h
  split at h <;> simp only [Option.some.injEq, reduceCtorEq] at h <;> (try subst h) <;> cases hx <;> cases hy <;> first | (simp [Op.equalIn, run_underlying hu]; done) | (exfalso; simp_all; done)

/-- Two pointers into one row. -/
def ptrEq (P : Program) (d : TypeDesc) (x y : Value) : Option Bool :=
  match d, x, y with
  | .pointer e, .pointer (some a), .pointer (some b) => match szT P e with
    | some (_ + 1) => if a.block = b.block ∧ verOf a = verOf b then some (decide (a.off = b.off)) else none
    | _ => none
  | _, _, _ => none
theorem ptrEq_sim {P : Program} {ρ : Ren} {t : TypeId} {d : TypeDesc} {x y x' y' : Value} {b : Bool} (hu : P.underlying t = some d) (h : ptrEq P d x y = some b)
    (hx : VR ρ x x') (hy : VR ρ y y') (w : World) (n : Nat) : (∃ u v, x' = .pointer (some u) ∧ y' = .pointer (some v)) ∧ (Op.equalIn (n + 1) t x' y').run P w = .ok b w := by
  unfold ptrEq at h
  split at h
  · rename_i e a1 a2
    split at h
    · rename_i k hs
      split at h
      · rename_i hc
        obtain rfl := Option.some.inj h
        cases hx with
        | ptr hp =>
          cases hy with
          | ptr hq =>
            obtain ⟨s, h1, h2, rfl⟩ := hp
            obtain ⟨s', h3, h4, rfl⟩ := hq
            rw [← hc.1, ← hc.2, h1] at h3
            obtain rfl := Option.some.inj h3
            refine ⟨⟨_, _, rfl, rfl⟩, ?_⟩
            have he : (s.at a1.off == s.at a2.off) = decide (a1.off = a2.off) := by
              by_cases h : a1.off = a2.off
              · rw [h, decide_eq_true rfl]; exact beq_self_eq_true _
              · rw [decide_eq_false h]
                refine beq_eq_false_iff_ne.2 fun he => h ?_
                simp only [Seg.at, Addr.mk.injEq] at he
                omega
            simp [Op.equalIn, run_underlying hu, run_sizeT hs, sameAddr, Seg.at] at he ⊢
            exact he
      · cases h
    · cases h
  · cases h
def eqA (P : Program) (d : TypeDesc) (x y : Value) : Option Bool :=
  match eqlNil d x y with
  | some b => some b
  | none => ptrEq P d x y
theorem eqA_nil {P : Program} {d : TypeDesc} {x y : Value} {b : Bool} (h : eqlNil d x y = some b) : eqA P d x y = some b := by simp [eqA, h]

/-! ### The operations -/

def lenA (P : Program) (t : TypeId) (x : Value) : Option Value :=
  match P.underlying t, x with
  | some (.slice _), .slice _ n _ => some (.int .i64 n)
  | some (.array n _), _ => some (.int .i64 n)
  | _, _ => none
theorem lenA_sim {P : Program} {ρ : Ren} {t ty : TypeId} {x x' v : Value} (h : lenA P t x = some v) (hx : VR ρ x x') :
    VR ρ v v ∧ ∀ w, (Builtin.len_ #[t] ty #[x']).run P w = .ok v w := by
  unfold lenA at h
  split at h
  · rename_i hu
    obtain rfl := Option.some.inj h
    cases hx <;> exact ⟨.int _ _, fun w => by simp [Builtin.len_, run_underlying hu, goInt]⟩
  · rename_i hu
    obtain rfl := Option.some.inj h
    exact ⟨.int _ _, fun w => by simp [Builtin.len_, run_underlying hu, goInt]⟩
  · cases h

def boundA (x : Value) (y : Nat) : Option Nat :=
  match x with
  | .int _ i => if 0 ≤ i ∧ i ≤ y then some i.toNat else none
  | _ => none
def lowA (lo : Option Value) (h : Nat) : Option Nat := match lo with | some v => boundA v h | none => some 0
def boundsA (lo hi mx : Option Value) (len cap : Nat) : Option (Nat × Nat × Nat) :=
  (match mx with | some v => boundA v cap | none => some cap).bind fun m =>
  (match hi, mx with | some v, some _ => boundA v m | some v, none => boundA v cap | none, none => some len | none, some _ => none).bind fun h =>
  (lowA lo h).bind fun l => some (l, h, m)
def advA (a : Addr) (l m n : Nat) : Addr := if m = l then a else aadd a (l * n)
/-- A slice of a slice. -/
def sliceA (P : Program) (t : TypeId) (x : Value) (lo hi mx : Option Value) : Option Value :=
  match P.underlying t, x with
  | some (.slice e), .slice a len cap =>
    match szT P e, a with
    | none, _ => none
    | some _, none => (boundsA lo hi mx len cap).map fun b => .slice none (b.2.1 - b.1) (b.2.2 - b.1)
    | some n, some a =>
      if openCap ≤ cap then
        if cap = openCap + n then (boundsA lo hi mx len len).map fun b =>
          if mx.isSome then .slice (some (advA a b.1 b.2.2 n)) (b.2.1 - b.1) (b.2.2 - b.1) else .slice (some (aadd a (b.1 * n))) (b.2.1 - b.1) cap
        else none
      else (boundsA lo hi mx len cap).map fun b => .slice (some (advA a b.1 b.2.2 n)) (b.2.1 - b.1) (b.2.2 - b.1)
  | _, _ => none

def VRo (ρ : Ren) : Option Value → Option Value → Prop
  | none, none => True
  | some x, some y => VR ρ x y
  | _, _ => False
theorem boundA_sim {P : Program} {ρ : Ren} {x x' : Value} {y m : Nat} (h : boundA x y = some m) (hx : VR ρ x x') :
    m ≤ y ∧ ∀ (z : Nat) (code : BoundsCode) (w : World), y ≤ z → (Instr.sliceBound x' z code).run P w = .ok m w := by
  unfold boundA at h
  split at h
  · rename_i k i
    split at h
    · rename_i hc
      obtain rfl := Option.some.inj h
      cases hx
      refine ⟨by omega, fun z code w hz => ?_⟩
      have h1 : 0 ≤ i ∧ i ≤ (z : Int) := ⟨hc.1, by omega⟩
      simp [Instr.sliceBound, asIntOf, h1]
    · cases h
  · cases h
theorem boundsA_le {lo hi mx : Option Value} {len cap l h m : Nat} (hb : boundsA lo hi mx len cap = some (l, h, m)) (hlc : len ≤ cap) : l ≤ h ∧ h ≤ m ∧ m ≤ cap := by
  have ba : ∀ {x : Value} {y m : Nat}, boundA x y = some m → m ≤ y := by
    intro x y m h
    unfold boundA at h
    split at h
    · split at h
      · obtain rfl := Option.some.inj h; omega
      · cases h
    · cases h
  unfold boundsA at hb
  cases mx with
  | none =>
    simp only [Option.bind_some] at hb
    cases hi with
    | none =>
      simp only [Option.bind_some] at hb
      cases lo with
      | none => simp [lowA] at hb; omega
      | some v =>
        simp only [Option.bind_eq_some_iff] at hb
        obtain ⟨a, ha, hb⟩ := hb
        simp at hb
        have := ba (show boundA v _ = some a from ha)
        omega
    | some v =>
      simp only [Option.bind_eq_some_iff] at hb
      obtain ⟨b, hb0, a, ha, hb⟩ := hb
      simp at hb
      have h1 := ba hb0
      cases lo with
      | none => simp [lowA] at ha; omega
      | some v => have := ba (show boundA v _ = some a from ha); omega
  | some u =>
    cases hi with
    | none => simp at hb
    | some v =>
      simp only [Option.bind_eq_some_iff] at hb
      obtain ⟨c, hc, b, hb0, a, ha, hb⟩ := hb
      simp at hb
      have h0 := ba hc
      have h1 := ba hb0
      cases lo with
      | none => simp [lowA] at ha; omega
      | some v => have := ba (show boundA v _ = some a from ha); omega
theorem lowA_sim (P : Program) {ρ : Ren} {lo lo' : Option Value} {h a : Nat} (ha : lowA lo h = some a) (h1 : VRo ρ lo lo') :
    (lo' = none ∧ a = 0) ∨ ∃ v', lo' = some v' ∧ ∀ c w, (Instr.sliceBound v' h c).run P w = .ok a w := by
  cases lo <;> cases lo' <;> simp only [VRo] at h1 <;> simp only [lowA] at ha
  · simp at ha; exact .inl ⟨rfl, ha.symm⟩
  · exact .inr ⟨_, rfl, fun c w => (boundA_sim (P := P) ha h1).2 h c w (Nat.le_refl _)⟩
theorem boundsA_sim {P : Program} {ρ : Ren} {lo hi mx lo' hi' mx' : Option Value} {len cap l h m : Nat} (hb : boundsA lo hi mx len cap = some (l, h, m))
    (h1 : VRo ρ lo lo') (h2 : VRo ρ hi hi') (h3 : VRo ρ mx mx') (cap' : Nat) (hc : cap ≤ cap') (w : World) :
    (Instr.sliceBounds true len cap' lo' hi' mx').run P w = .ok (l, h, if mx.isSome then m else cap') w := by
  unfold boundsA at hb
  unfold Instr.sliceBounds
  cases mx with
  | none =>
    cases mx' with
    | some _ => exact h3.elim
    | none =>
      simp only [Option.bind_some] at hb
      simp only [Sem.run_bind, Sem.run_pure, Result.andThen_ok]
      cases hi with
      | none =>
        cases hi' with
        | some _ => exact h2.elim
        | none =>
          simp only [Option.bind_some, Option.bind_eq_some_iff] at hb
          obtain ⟨a, ha, hb⟩ := hb
          simp at hb
          obtain ⟨rfl, rfl, rfl⟩ := hb
          rcases lowA_sim P ha h1 with ⟨rfl, rfl⟩ | ⟨v0, rfl, hl⟩
          · simp
          · simp [hl]
      | some v =>
        cases hi' with
        | none => exact h2.elim
        | some v' =>
          simp only [Option.bind_eq_some_iff] at hb
          obtain ⟨b, hb0, a, ha, hb⟩ := hb
          simp at hb
          obtain ⟨rfl, rfl, rfl⟩ := hb
          have hs := (boundA_sim (P := P) hb0 h2).2 cap' .sliceAcap w hc
          rcases lowA_sim P ha h1 with ⟨rfl, rfl⟩ | ⟨v0, rfl, hl⟩
          · simp [hs]
          · simp [hs, hl]
  | some u =>
    cases mx' with
    | none => exact h3.elim
    | some u' =>
      cases hi with
      | none => simp at hb
      | some v =>
        cases hi' with
        | none => exact h2.elim
        | some v' =>
          simp only [Option.bind_eq_some_iff] at hb
          obtain ⟨c, hc0, b, hb0, a, ha, hb⟩ := hb
          simp at hb
          obtain ⟨rfl, rfl, rfl⟩ := hb
          have hs0 := (boundA_sim (P := P) hc0 h3).2 cap' .slice3Acap w hc
          have hs := (boundA_sim (P := P) hb0 h2).2 c .slice3B w (Nat.le_refl _)
          rcases lowA_sim P ha h1 with ⟨rfl, rfl⟩ | ⟨v0, rfl, hl⟩
          · simp [hs0, hs]
          · simp [hs0, hs, hl]

theorem Seg.at_add (s : Seg) {i : Nat} (h : s.lo ≤ i) (n : Nat) : (s.at i).add n = s.at (i + n) := by
  unfold Seg.at Addr.add
  split
  · subst_vars; rfl
  · simp only [Addr.mk.injEq, and_true, true_and]; omega
theorem PR.add {ρ : Ren} {a b : Addr} (h : PR ρ a b) (n : Nat) : PR ρ (aadd a n) (b.add n) := by
  obtain ⟨s, h1, h2, rfl⟩ := h
  exact ⟨s, h1, by simp; omega, by rw [Seg.at_add s h2]; rfl⟩

end Go.Ae

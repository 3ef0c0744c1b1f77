/- Operations that neither read nor write memory: what they give over the abstract heap's values is what the model gives over its own. Operations that neither read nor write memory, gathered: 'aP'. -/
import Derived.Test.YtmibkoadjehdaaaGreatDoorKy01
import Derived.Laws.Tables
import Derived.Laws.Entries
set_option linter.unusedVariables false
set_option linter.unusedSimpArgs false
namespace Go.Ae

/-! ### What asks nothing of the world -/

def quiet {α : Type} (P : Program) : Sem α → Option α
  | .pure a => some a
  | .program k => quiet P (k P)
  | .mark _ k => quiet P k
  | _ => none
theorem quiet_run {α : Type} {P : Program} : ∀ {s : Sem α} {a : α}, quiet P s = some a → ∀ w, s.run P w = .ok a w
  | .pure a, b, h, w => by simp only [quiet, Option.some.injEq] at h; subst h; rfl
  | .program k, b, h, w => by simp only [quiet] at h; exact quiet_run (s := k P) h w
  | .mark m k, b, h, w => by simp only [quiet] at h; exact quiet_run (s := k) h w
  | .load .., _, h, _ | .store .., _, h, _ | .new .., _, h, _ | .shape .., _, h, _ | .freeze .., _, h, _ | .frozen .., _, h, _ | .getObj .., _, h, _
  | .setObj .., _, h, _ | .choose .., _, h, _ | .sys .., _, h, _ | .halt .., _, h, _ => by simp [quiet] at h
theorem quiet_bind {α β : Type} {P : Program} : ∀ (s : Sem α) (f : α → Sem β), quiet P (s >>= f) = (quiet P s).bind fun a => quiet P (f a) := by
  intro s
  induction s with
  | pure a => intro f; rfl
  | program k ih => intro f; exact ih P f
  | mark m k ih => intro f; exact ih f
  | _ => intros; rfl
theorem quiet_pure {α : Type} {P : Program} (a : α) : quiet P (pure a : Sem α) = some a := rfl
theorem quiet_program {P : Program} : quiet P program = some P := rfl
theorem quiet_underlying {P : Program} (t : TypeId) : quiet P (underlying t) = P.underlying t := by
  unfold underlying
  rw [quiet_bind, quiet_program, Option.bind_some]
  cases P.underlying t <;> rfl
/-! ### Types -/

def szT (P : Program) (t : TypeId) : Option Nat := (P.info? t).map (·.size)
def byT (P : Program) (t : TypeId) : Option Nat := (P.info? t).map (·.bytes)
def zeroT (P : Program) (t : TypeId) : Option (List Value) := match P.info? t with
  | some i => match i.zero with
    | some z => if z.cells.all simpleV && z.cells.size == i.size then some z.cells.toList else none
    | none => none
  | none => none
def isAggT (P : Program) (t : TypeId) : Option Bool := (P.underlying t).map fun
  | .struct _ | .array _ _ => true
  | _ => false

theorem run_sizeT {P : Program} {t : TypeId} {n : Nat} (h : szT P t = some n) (w : World) : (sizeOf t).run P w = .ok n w := by
  unfold szT at h
  cases hi : P.info? t with
  | none => simp [hi] at h
  | some i =>
    simp only [hi, Option.map_some, Option.some.injEq] at h
    subst h
    simp [sizeOf, typeInfo, hi]
theorem run_infoT {P : Program} {t : TypeId} {i : TypeInfo} (h : P.info? t = some i) (w : World) : (typeInfo t).run P w = .ok i w := by
  simp [typeInfo, h]
theorem run_isAggT {P : Program} {t : TypeId} {b : Bool} (h : isAggT P t = some b) (w : World) : (isAgg t).run P w = .ok b w := by
  unfold isAggT at h
  cases hu : P.underlying t with
  | none => simp [hu] at h
  | some d =>
    simp only [hu, Option.map_some, Option.some.injEq] at h
    simp only [isAgg, Sem.run_bind, run_underlying hu, Result.andThen_ok]
    cases d <;> simp_all
theorem zeroT_spec {P : Program} {t : TypeId} {l : List Value} (h : zeroT P t = some l) :
    ∃ i z, P.info? t = some i ∧ i.zero = some z ∧ z.cells.toList = l ∧ (∀ x ∈ l, simpleV x = true) ∧ l.length = i.size := by
  unfold zeroT at h
  cases hi : P.info? t with
  | none => simp [hi] at h
  | some i =>
    simp only [hi] at h
    cases hz : i.zero with
    | none => simp [hz] at h
    | some z =>
      simp only [hz] at h
      split at h
      · rename_i hc
        simp only [Bool.and_eq_true, beq_iff_eq] at hc
        obtain rfl := Option.some.inj h
        exact ⟨i, z, rfl, hz, rfl, fun x hx => Array.all_eq_true_iff_forall_mem.1 hc.1 x (by simpa using hx), by simpa using hc.2⟩
      · cases h
theorem VRs.of_simple {ρ : Ren} : ∀ {l : List Value}, (∀ x ∈ l, simpleV x = true) → VRs ρ l l
  | [], _ => .nil
  | x :: xs, h => .cons (VR.of_simple (h x (by simp))) (VRs.of_simple fun y hy => h y (by simp [hy]))

/-! ### Values that are the same in both -/

theorem VR.simple_eq {ρ : Ren} {x y : Value} (hx : simpleV x = true) (h : VR ρ x y) : y = x := by
  cases h <;> first | rfl | (simp [simpleV] at hx)

/-- The part of an aggregate's cells. -/
def apart (P : Program) (t : TypeId) (cs : Array Value) (off : Nat) : Option Value :=
  match isAggT P t, szT P t with
  | some true, some n => some (.agg (cs.extract off (off + n)))
  | some false, some _ => cs[off]?
  | _, _ => none
theorem apart_sim {P : Program} {ρ : Ren} {t : TypeId} {cs ds : Array Value} {off : Nat} {v : Value} (h : apart P t cs off = some v) (hv : VRs ρ cs.toList ds.toList) :
    ∃ v', VR ρ v v' ∧ ∀ w, (part t ds off).run P w = .ok v' w := by
  unfold apart at h
  split at h
  · rename_i n ha hs
    obtain rfl := Option.some.inj h
    refine ⟨.agg (ds.extract off (off + n)), VR.agg' ?_, fun w => ?_⟩
    · simp only [Array.toList_extract, List.extract_eq_take_drop, Nat.add_sub_cancel_left]
      exact (hv.drop off).take n
    · simp [part, run_isAggT ha, run_sizeT hs]
  · rename_i n ha hs
    obtain ⟨y, hy, hvy⟩ := hv.get off v (by simpa using h)
    refine ⟨y, hvy, fun w => ?_⟩
    simp only [Array.getElem?_toList] at hy
    simp [part, run_isAggT ha, hy]
  · cases h

/-! ### Comparisons with nil -/

def eqlNil : TypeDesc → Value → Value → Option Bool
  | .pointer _, .pointer none, .pointer b => some b.isNone
  | .pointer _, .pointer _, .pointer none => some false
  | .slice _, .slice none _ _, .slice b _ _ => some b.isNone
  | .slice _, .slice (some _) _ _, .slice none _ _ => some false
  | .map _ _, .map none, .map b => some b.isNone
  | .map _ _, .map _, .map none => some false
  | .func _ _ _, .nilFunc, .nilFunc => some true
  | .func _ _ _, .nilFunc, .func _ _ _ => some false
  | .func _ _ _, .func _ _ _, .nilFunc => some false
  | .interface _, .nilIface, .iface _ _ => some false
  | .interface _, .iface _ _, .nilIface => some false
  | _, _, _ => none
theorem eqlNil_sim {P : Program} {ρ : Ren} {t : TypeId} {d : TypeDesc} {x y x' y' : Value} {b : Bool} (hu : P.underlying t = some d) (h : eqlNil d x y = some b)
    (hx : VR ρ x x') (hy : VR ρ y y') (w : World) (n : Nat) : (Op.equalIn (n + 1) t x' y').run P w = .ok b w := by
  unfold eqlNil at h
  split at h <;> simp only [Option.some.injEq, reduceCtorEq] at h <;> (try subst h) <;> cases hx <;> cases hy <;> first | (simp [Op.equalIn, run_underlying hu]; done) | (exfalso; simp_all; done)

/-- Two pointers into one row. -/
def ptrEq (P : Program) (d : TypeDesc) (x y : Value) : Option Bool :=
  match d, x, y with
  | .pointer e, .pointer (some a), .pointer (some b) => match szT P e with
    | some (_ + 1) => if a.block = b.block ∧ verOf a = verOf b then some (decide (a.off = b.off)) else none
    | _ => none
  | _, _, _ => none
theorem ptrEq_sim {P : Program} {ρ : Ren} {t : TypeId} {d : TypeDesc} {x y x' y' : Value} {b : Bool} (hu : P.underlying t = some d) (h : ptrEq P d x y = some b)
    (hx : VR ρ x x') (hy : VR ρ y y') (w : World) (n : Nat) : (∃ u v, x' = .pointer (some u) ∧ y' = .pointer (some v)) ∧ (Op.equalIn (n + 1) t x' y').run P w = .ok b w := by
  unfold ptrEq at h
  split at h
  · rename_i e a1 a2
    split at h
    · rename_i k hs
      split at h
      · rename_i hc
        obtain rfl := Option.some.inj h
        cases hx with
        | ptr hp =>
          cases hy with
          | ptr hq =>
            obtain ⟨s, h1, h2, rfl⟩ := hp
            obtain ⟨s', h3, h4, rfl⟩ := hq
            rw [← hc.1, ← hc.2, h1] at h3
            obtain rfl := Option.some.inj h3
            refine ⟨⟨_, _, rfl, rfl⟩, ?_⟩
            have he : (s.at a1.off == s.at a2.off) = decide (a1.off = a2.off) := by
              by_cases h : a1.off = a2.off
              · rw [h, decide_eq_true rfl]; exact beq_self_eq_true _
              · rw [decide_eq_false h]
                refine beq_eq_false_iff_ne.2 fun he => h ?_
                simp only [Seg.at, Addr.mk.injEq] at he
                omega
            simp [Op.equalIn, run_underlying hu, run_sizeT hs, sameAddr, Seg.at] at he ⊢
            exact he
      · cases h
    · cases h
  · cases h
def eqA (P : Program) (d : TypeDesc) (x y : Value) : Option Bool :=
  match eqlNil d x y with
  | some b => some b
  | none => ptrEq P d x y
theorem eqA_nil {P : Program} {d : TypeDesc} {x y : Value} {b : Bool} (h : eqlNil d x y = some b) : eqA P d x y = some b := by simp [eqA, h]

/-! ### The operations -/

def lenA (P : Program) (t : TypeId) (x : Value) : Option Value :=
  match P.underlying t, x with
  | some (.slice _), .slice _ n _ => some (.int .i64 n)
  | some (.array n _), _ => some (.int .i64 n)
  | _, _ => none
theorem lenA_sim {P : Program} {ρ : Ren} {t ty : TypeId} {x x' v : Value} (h : lenA P t x = some v) (hx : VR ρ x x') :
    VR ρ v v ∧ ∀ w, (Builtin.len_ #[t] ty #[x']).run P w = .ok v w := by
  unfold lenA at h
  split at h
  · rename_i hu
    obtain rfl := Option.some.inj h
    cases hx <;> exact ⟨.int _ _, fun w => by simp [Builtin.len_, run_underlying hu, goInt]⟩
  · rename_i hu
    obtain rfl := Option.some.inj h
    exact ⟨.int _ _, fun w => by simp [Builtin.len_, run_underlying hu, goInt]⟩
  · cases h

def boundA (x : Value) (y : Nat) : Option Nat :=
  match x with
  | .int _ i => if 0 ≤ i ∧ i ≤ y then some i.toNat else none
  | _ => none
def lowA (lo : Option Value) (h : Nat) : Option Nat := match lo with | some v => boundA v h | none => some 0
def boundsA (lo hi mx : Option Value) (len cap : Nat) : Option (Nat × Nat × Nat) :=
  (match mx with | some v => boundA v cap | none => some cap).bind fun m =>
  (match hi, mx with | some v, some _ => boundA v m | some v, none => boundA v cap | none, none => some len | none, some _ => none).bind fun h =>
  (lowA lo h).bind fun l => some (l, h, m)
def advA (a : Addr) (l m n : Nat) : Addr := if m = l then a else aadd a (l * n)
/-- A slice of a slice. -/
def sliceA (P : Program) (t : TypeId) (x : Value) (lo hi mx : Option Value) : Option Value :=
  match P.underlying t, x with
  | some (.slice e), .slice a len cap =>
    match szT P e, a with
    | none, _ => none
    | some _, none => (boundsA lo hi mx len cap).map fun b => .slice none (b.2.1 - b.1) (b.2.2 - b.1)
    | some n, some a =>
      if openCap ≤ cap then
        if cap = openCap + n then (boundsA lo hi mx len len).map fun b =>
          if mx.isSome then .slice (some (advA a b.1 b.2.2 n)) (b.2.1 - b.1) (b.2.2 - b.1) else .slice (some (aadd a (b.1 * n))) (b.2.1 - b.1) cap
        else none
      else (boundsA lo hi mx len cap).map fun b => .slice (some (advA a b.1 b.2.2 n)) (b.2.1 - b.1) (b.2.2 - b.1)
  | _, _ => none

def VRo (ρ : Ren) : Option Value → Option Value → Prop
  | none, none => True
  | some x, some y => VR ρ x y
  | _, _ => False
theorem boundA_sim {P : Program} {ρ : Ren} {x x' : Value} {y m : Nat} (h : boundA x y = some m) (hx : VR ρ x x') :
    m ≤ y ∧ ∀ (z : Nat) (code : BoundsCode) (w : World), y ≤ z → (Instr.sliceBound x' z code).run P w = .ok m w := by
  unfold boundA at h
  split at h
  · rename_i k i
    split at h
    · rename_i hc
      obtain rfl := Option.some.inj h
      cases hx
      refine ⟨by omega, fun z code w hz => ?_⟩
      have h1 : 0 ≤ i ∧ i ≤ (z : Int) := ⟨hc.1, by omega⟩
      simp [Instr.sliceBound, asIntOf, h1]
    · cases h
  · cases h
theorem boundsA_le {lo hi mx : Option Value} {len cap l h m : Nat} (hb : boundsA lo hi mx len cap = some (l, h, m)) (hlc : len ≤ cap) : l ≤ h ∧ h ≤ m ∧ m ≤ cap := by
  have ba : ∀ {x : Value} {y m : Nat}, boundA x y = some m → m ≤ y := by
    intro x y m h
    unfold boundA at h
    split at h
    · split at h
      · obtain rfl := Option.some.inj h; omega
      · cases h
    · cases h
  unfold boundsA at hb
  cases mx with
  | none =>
    simp only [Option.bind_some] at hb
    cases hi with
    | none =>
      simp only [Option.bind_some] at hb
      cases lo with
      | none => simp [lowA] at hb; omega
      | some v =>
        simp only [Option.bind_eq_some_iff] at hb
        obtain ⟨a, ha, hb⟩ := hb
        simp at hb
        have := ba (show boundA v _ = some a from ha)
        omega
    | some v =>
      simp only [Option.bind_eq_some_iff] at hb
      obtain ⟨b, hb0, a, ha, hb⟩ := hb
      simp at hb
      have h1 := ba hb0
      cases lo with
      | none => simp [lowA] at ha; omega
      | some v => have := ba (show boundA v _ = some a from ha); omega
  | some u =>
    cases hi with
    | none => simp at hb
    | some v =>
      simp only [Option.bind_eq_some_iff] at hb
      obtain ⟨c, hc, b, hb0, a, ha, hb⟩ := hb
      simp at hb
      have h0 := ba hc
      have h1 := ba hb0
      cases lo with
      | none => simp [lowA] at ha; omega
      | some v => have := ba (show boundA v _ = some a from ha); omega
theorem lowA_sim (P : Program) {ρ : Ren} {lo lo' : Option Value} {h a : Nat} (ha : lowA lo h = some a) (h1 : VRo ρ lo lo') :
    (lo' = none ∧ a = 0) ∨ ∃ v', lo' = some v' ∧ ∀ c w, (Instr.sliceBound v' h c).run P w = .ok a w := by
  cases lo <;> cases lo' <;> simp only [VRo] at h1 <;> simp only [lowA] at ha
  · simp at ha; exact .inl ⟨rfl, ha.symm⟩
  · exact .inr ⟨_, rfl, fun c w => (boundA_sim (P := P) ha h1).2 h c w (Nat.le_refl _)⟩
theorem boundsA_sim {P : Program} {ρ : Ren} {lo hi mx lo' hi' mx' : Option Value} {len cap l h m : Nat} (hb : boundsA lo hi mx len cap = some (l, h, m))
    (h1 : VRo ρ lo lo') (h2 : VRo ρ hi hi') (h3 : VRo ρ mx mx') (cap' : Nat) (hc : cap ≤ cap') (w : World) :
    (Instr.sliceBounds true len cap' lo' hi' mx').run P w = .ok (l, h, if mx.isSome then m else cap') w := by
  unfold boundsA at hb
  unfold Instr.sliceBounds
  cases mx with
  | none =>
    cases mx' with
    | some _ => exact h3.elim
    | none =>
      simp only [Option.bind_some] at hb
      simp only [Sem.run_bind, Sem.run_pure, Result.andThen_ok]
      cases hi with
      | none =>
        cases hi' with
        | some _ => exact h2.elim
        | none =>
          simp only [Option.bind_some, Option.bind_eq_some_iff] at hb
          obtain ⟨a, ha, hb⟩ := hb
          simp at hb
          obtain ⟨rfl, rfl, rfl⟩ := hb
          rcases lowA_sim P ha h1 with ⟨rfl, rfl⟩ | ⟨v0, rfl, hl⟩
          · simp
          · simp [hl]
      | some v =>
        cases hi' with
        | none => exact h2.elim
        | some v' =>
          simp only [Option.bind_eq_some_iff] at hb
          obtain ⟨b, hb0, a, ha, hb⟩ := hb
          simp at hb
          obtain ⟨rfl, rfl, rfl⟩ := hb
          have hs := (boundA_sim (P := P) hb0 h2).2 cap' .sliceAcap w hc
          rcases lowA_sim P ha h1 with ⟨rfl, rfl⟩ | ⟨v0, rfl, hl⟩
          · simp [hs]
          · simp [hs, hl]
  | some u =>
    cases mx' with
    | none => exact h3.elim
    | some u' =>
      cases hi with
      | none => simp at hb
      | some v =>
        cases hi' with
        | none => exact h2.elim
        | some v' =>
          simp only [Option.bind_eq_some_iff] at hb
          obtain ⟨c, hc0, b, hb0, a, ha, hb⟩ := hb
          simp at hb
          obtain ⟨rfl, rfl, rfl⟩ := hb
          have hs0 := (boundA_sim (P := P) hc0 h3).2 cap' .slice3Acap w hc
          have hs := (boundA_sim (P := P) hb0 h2).2 c .slice3B w (Nat.le_refl _)
          rcases lowA_sim P ha h1 with ⟨rfl, rfl⟩ | ⟨v0, rfl, hl⟩
          · simp [hs0, hs]
          · simp [hs0, hs, hl]

theorem Seg.at_add (s : Seg) {i : Nat} (h : s.lo ≤ i) (n : Nat) : (s.at i).add n = s.at (i + n) := by
  unfold Seg.at Addr.add
  split
  · subst_vars; rfl
  · simp only [Addr.mk.injEq, and_true, true_and]; omega
theorem PR.add {ρ : Ren} {a b : Addr} (h : PR ρ a b) (n : Nat) : PR ρ (aadd a n) (b.add n) := by
  obtain ⟨s, h1, h2, rfl⟩ := h
  exact ⟨s, h1, by simp; omega, by rw [Seg.at_add s h2]; rfl⟩

end Go.Ae
namespace Go.Ae

theorem sliceA_sim {P : Program} {ρ : Ren} {t : TypeId} {x x' v : Value} {lo hi mx lo' hi' mx' : Option Value} (h : sliceA P t x lo hi mx = some v)
    (hx : VR ρ x x') (h1 : VRo ρ lo lo') (h2 : VRo ρ hi hi') (h3 : VRo ρ mx mx') : ∃ v', VR ρ v v' ∧ ∀ w, (Instr.sliceAt t x' lo' hi' mx').run P w = .ok v' w := by
  have h3s : mx'.isSome = mx.isSome := by cases mx <;> cases mx' <;> simp_all [VRo]
  unfold sliceA at h
  split at h
  case h_2 => cases h
  rename_i e a len cap hu
  split at h
  · cases h
  · rename_i n hs
    simp only [Option.map_eq_some_iff] at h
    obtain ⟨⟨l, hh, m⟩, hb, rfl⟩ := h
    cases hx
    refine ⟨.slice none (hh - l) ((if mx.isSome then m else cap) - l), ?_, fun w => ?_⟩
    · have : m = if mx.isSome then m else cap := by
        unfold boundsA at hb
        cases mx with
        | some _ => simp
        | none => simp only [Option.bind_some, Option.bind_eq_some_iff] at hb; obtain ⟨_, _, _, _, hb⟩ := hb; simp at hb; simp [hb.2.2]
      rw [← this]
      exact .nilslice _ _
    · simp [Instr.sliceAt, Instr.slice, run_underlying hu, boundsA_sim (P := P) hb h1 h2 h3 cap (Nat.le_refl _) w, run_sizeT hs]
  · rename_i n a0 hs
    cases hx
    rename_i b cap' hsr
    split at h
    · rename_i hop
      split at h
      · rename_i hcap
        simp only [Option.map_eq_some_iff] at h
        obtain ⟨⟨l, hh, m⟩, hb, rfl⟩ := h
        obtain ⟨hlh, hhm, hml⟩ := boundsA_le hb (Nat.le_refl _)
        have hlc : len ≤ cap' := by
          rcases hsr with ⟨e1, e2, _⟩ | ⟨e1, _⟩ | ⟨_, s, _, _, _, _, _, e1, _⟩ <;> omega
        refine ⟨.slice (some (if (if mx.isSome then m else cap') = l then b else b.add (l * n))) (hh - l) ((if mx.isSome then m else cap') - l), ?_, fun w => ?_⟩
        · rcases hsr with ⟨e1, e2, e3⟩ | ⟨e1, _⟩ | ⟨_, s, hρ, hlo, rfl, hc, hlt, _, hb1, hb2⟩
          · obtain rfl : m = 0 := by omega
            obtain rfl : l = 0 := by omega
            obtain rfl : hh = 0 := by omega
            cases mx with
            | none => simp only [Option.isSome_none, Bool.false_eq_true, if_false]; exact .slice (.inl ⟨by omega, by omega, .inr (by
                rcases e3 with e3 | ⟨s, e3, e4, e5, e6⟩
                · have : 0 < openCap := by decide
                  omega
                · exact ⟨s, e3, by simpa using e4, by simpa using e5, e6⟩)⟩)
            | some u => simp only [Option.isSome_some, if_true]; exact .slice (.inl ⟨by omega, by omega, .inl (by omega)⟩)
          · omega
          · obtain rfl : s.esz = n := by omega
            cases mx with
            | none =>
              simp only [Option.isSome_none, Bool.false_eq_true, if_false]
              by_cases hcl : cap' = l
              · have hat : (s.at a0.off).off = s.base + (a0.off - s.lo) := rfl
                rw [hat, hcl] at hb1
                exact .slice (.inl ⟨by omega, by omega, .inr ⟨s, hρ, by simp; omega, by simp; omega, hc⟩⟩)
              · simp only [hcl, if_false]
                have hat : (s.at a0.off).off = s.base + (a0.off - s.lo) := rfl
                have hmul : (cap' - l) * s.esz + l * s.esz = cap' * s.esz := by rw [← Nat.add_mul]; congr 1; omega
                rw [Seg.at_add s hlo]
                have hat2 : (s.at (a0.off + l * s.esz)).off = s.base + (a0.off + l * s.esz - s.lo) := rfl
                refine .slice (.inr (.inr ⟨hop, s, hρ, by simp; omega, rfl, hc, by omega, by omega, ?_, ?_⟩))
                · rw [hat2]; rw [hat] at hb1; omega
                · rw [hat2]; rw [hat] at hb2; omega
            | some u =>
              simp only [Option.isSome_some, if_true]
              have hpr : PR ρ a0 (s.at a0.off) := ⟨s, hρ, hlo, rfl⟩
              refine .slice (.inr (.inl ⟨by omega, rfl, ?_⟩))
              · unfold advA
                split
                · exact hpr
                · exact hpr.add _
        · have := boundsA_sim (P := P) hb h1 h2 h3 cap' hlc w
          simp [Instr.sliceAt, Instr.slice, run_underlying hu, this, run_sizeT hs]
          repeat' split
          all_goals rfl
      · cases h
    · rename_i hop
      simp only [Option.map_eq_some_iff] at h
      obtain ⟨⟨l, hh, m⟩, hb, rfl⟩ := h
      have hm : m = if mx.isSome then m else cap := by
        unfold boundsA at hb
        cases mx with
        | some _ => simp
        | none => simp only [Option.bind_some, Option.bind_eq_some_iff] at hb; obtain ⟨_, _, _, _, hb⟩ := hb; simp at hb; simp [hb.2.2]
      rcases hsr with ⟨e1, e2, e3⟩ | ⟨e1, rfl, hpr⟩ | ⟨e1, _⟩
      · have hcap : cap = 0 := by
          rcases e3 with e3 | ⟨s, _, _, _, e3⟩ <;> omega
        subst hcap e1 e2
        obtain ⟨hlh, hhm, hml⟩ := boundsA_le hb (Nat.le_refl _)
        obtain rfl : m = 0 := by omega
        obtain rfl : hh = 0 := by omega
        obtain rfl : l = 0 := by omega
        refine ⟨.slice (some b) 0 0, .slice (.inl ⟨rfl, rfl, .inl rfl⟩), fun w => ?_⟩
        have := boundsA_sim (P := P) hb h1 h2 h3 0 (Nat.le_refl _) w
        rw [← hm] at this
        simp [Instr.sliceAt, Instr.slice, run_underlying hu, this, run_sizeT hs]
      · refine ⟨.slice (some (if m = l then b else b.add (l * n))) (hh - l) (m - l), ?_, fun w => ?_⟩
        · by_cases hlc : len ≤ cap'
          · obtain ⟨hlh, hhm, hml⟩ := boundsA_le hb hlc
            have hmc : m ≤ cap' := hml
            refine .slice (.inr (.inl ⟨show m - l < openCap by omega, rfl, ?_⟩))
            unfold advA
            split
            · exact hpr
            · exact hpr.add _
          · refine .slice (.inr (.inl ⟨?_, rfl, ?_⟩))
            · show m - l < openCap
              have hmc : m ≤ cap' := by
                cases mx with
                | none => simp at hm; omega
                | some u =>
                  unfold boundsA at hb
                  simp only [Option.bind_eq_some_iff] at hb
                  obtain ⟨c, hc, b1, _, a1, _, hb⟩ := hb
                  simp at hb
                  unfold boundA at hc
                  split at hc
                  · split at hc
                    · simp at hc; omega
                    · cases hc
                  · cases hc
              omega
            · unfold advA
              split
              · exact hpr
              · exact hpr.add _
        · have := boundsA_sim (P := P) hb h1 h2 h3 cap' (Nat.le_refl _) w
          rw [← hm] at this
          simp [Instr.sliceAt, Instr.slice, run_underlying hu, this, run_sizeT hs]
          split <;> rfl
      · omega

def fieldAddrA (P : Program) (s : TypeId) (x : Value) (f : Nat) : Option Value :=
  match P.underlying s, x with
  | some (.struct fs), .pointer (some a) => match fs[f]? with
    | some fd => match szT P fd.type with
      | some (_ + 1) => some (.pointer (some (aadd a fd.offset)))
      | _ => none
    | none => none
  | _, _ => none
theorem fieldAddrA_sim {P : Program} {ρ : Ren} {s : TypeId} {x x' v : Value} {f : Nat} (h : fieldAddrA P s x f = some v) (hx : VR ρ x x') :
    ∃ v', VR ρ v v' ∧ ∀ w, (Instr.fieldAt s x' f).run P w = .ok v' w := by
  unfold fieldAddrA at h
  split at h
  · rename_i fs a hu
    split at h
    · rename_i fd hf
      split at h
      · rename_i n hs
        obtain rfl := Option.some.inj h
        cases hx with
        | ptr hp =>
          rename_i b
          refine ⟨.pointer (some (b.add fd.offset)), .ptr (hp.add _), fun w => ?_⟩
          simp [Instr.fieldAt, run_underlying hu, hf, Instr.sureAddr, fieldPlace, run_sizeT hs]
      · cases h
    · cases h
  · cases h

def indexAddrA (P : Program) (t : TypeId) (x ix : Value) : Option Value :=
  match P.underlying t, x, ix with
  | some (.slice e), .slice (some a) len _, .int _ i =>
    match szT P e with
    | some n => if 0 ≤ i ∧ i < len then some (.pointer (some (aadd a (i.toNat * n)))) else none
    | none => none
  | some (.array len e), .pointer (some a), .int _ i =>
    match szT P e with
    | some n => if 0 ≤ i ∧ i < len then some (.pointer (some (aadd a (i.toNat * n)))) else none
    | none => none
  | _, _, _ => none
theorem indexAddrA_sim {P : Program} {ρ : Ren} {t : TypeId} {x x' ix ix' v : Value} (h : indexAddrA P t x ix = some v) (hx : VR ρ x x') (hi : VR ρ ix ix') :
    ∃ v', VR ρ v v' ∧ ∀ w, (Instr.indexAt t x' ix').run P w = .ok v' w := by
  unfold indexAddrA at h
  split at h
  · rename_i e a len cap k i hu
    split at h
    · rename_i n hs
      split at h
      · rename_i hc
        obtain rfl := Option.some.inj h
        cases hi
        cases hx with
        | slice hp =>
          rename_i b cap'
          have hpr : PR ρ a b := by
            rcases hp with ⟨e1, _⟩ | ⟨_, _, hp⟩ | ⟨_, s, h1, h2, h3, _⟩
            · omega
            · exact hp
            · exact ⟨s, h1, h2, h3⟩
          refine ⟨.pointer (some (b.add (i.toNat * n))), .ptr (hpr.add _), fun w => ?_⟩
          simp [Instr.indexAt, run_underlying hu, asIntOf, hc, run_sizeT hs]
      · cases h
    · cases h
  · rename_i len e a k i hu
    split at h
    · rename_i n hs
      split at h
      · rename_i hc
        obtain rfl := Option.some.inj h
        cases hi
        cases hx with
        | ptr hp =>
          rename_i b
          refine ⟨.pointer (some (b.add (i.toNat * n))), .ptr (hp.add _), fun w => ?_⟩
          simp [Instr.indexAt, run_underlying hu, asIntOf, hc, run_sizeT hs, Instr.sureAddr]
      · cases h
    · cases h
  · cases h

def fieldA (P : Program) (t : TypeId) (x : Value) (f : Nat) : Option Value :=
  match P.underlying t, x with
  | some (.struct fs), .agg cs => match fs[f]? with
    | some fd => apart P fd.type cs fd.offset
    | none => none
  | _, _ => none
theorem fieldA_sim {P : Program} {ρ : Ren} {t : TypeId} {x x' v : Value} {f : Nat} (h : fieldA P t x f = some v) (hx : VR ρ x x') :
    ∃ v', VR ρ v v' ∧ ∀ w, (Instr.field t x' f).run P w = .ok v' w := by
  unfold fieldA at h
  split at h
  · rename_i fs cs hu
    split at h
    · rename_i fd hf
      cases hx with
      | agg hs hX =>
        obtain ⟨v', hv, hr⟩ := apart_sim h (VRs.of_agg hs hX)
        exact ⟨v', hv, fun w => by simp [Instr.field, run_underlying hu, hf, asAgg, hr w]⟩
    · cases h
  · cases h

def extractA (x : Value) (i : Nat) : Option Value :=
  match x with
  | .tuple vs => vs[i]?
  | _ => none
theorem extractA_sim {P : Program} {ρ : Ren} {x x' v : Value} {i : Nat} (h : extractA x i = some v) (hx : VR ρ x x') :
    ∃ v', VR ρ v v' ∧ ∀ w, (Instr.extract x' i).run P w = .ok v' w := by
  unfold extractA at h
  split at h
  · cases hx with
    | tuple hs hX =>
      obtain ⟨y, hy, hv⟩ := (VRs.of_agg hs hX).get i v (by simpa using h)
      simp only [Array.getElem?_toList] at hy
      exact ⟨y, hv, fun w => by simp [Instr.extract, hy]⟩
  · cases h

/-- An element of an array. -/
def indexA (P : Program) (t : TypeId) (x ix : Value) : Option Value :=
  match P.underlying t, x, ix with
  | some (.array len e), .agg cs, .int _ i => match szT P e with
    | some n => if 0 ≤ i ∧ i < len then apart P e cs (i.toNat * n) else none
    | none => none
  | _, _, _ => none
theorem indexA_sim {P : Program} {ρ : Ren} {t : TypeId} {x x' ix ix' v : Value} (h : indexA P t x ix = some v) (hx : VR ρ x x') (hi : VR ρ ix ix') :
    ∃ v', VR ρ v v' ∧ ∀ w, (Instr.index t x' ix').run P w = .ok v' w := by
  unfold indexA at h
  split at h
  · rename_i len e cs k i hu
    split at h
    · rename_i n hs
      split at h
      · rename_i hc
        cases hi
        cases hx with
        | agg hs' hX =>
          obtain ⟨v', hv, hr⟩ := apart_sim h (VRs.of_agg hs' hX)
          exact ⟨v', hv, fun w => by simp [Instr.index, asIntOf, run_underlying hu, hc, run_sizeT hs, hr w]⟩
      · cases h
    · cases h
  · cases h
/-- The value of a type that nothing was laid into. -/
def zeroV (P : Program) (t : TypeId) : Option Value := match P.info? t with
  | some i => match i.zero with
    | some z => if flatV z then some z else none
    | none => none
  | none => none
theorem zeroV_sim {P : Program} {ρ : Ren} {t : TypeId} {z : Value} (h : zeroV P t = some z) : VR ρ z z ∧ ∀ w, (zeroValue t).run P w = .ok z w := by
  unfold zeroV at h
  split at h
  · rename_i i hi
    split at h
    · rename_i z' hz
      split at h
      · rename_i hf
        obtain rfl := Option.some.inj h
        exact ⟨VR.of_flat hf, fun w => by simp [zeroValue, typeInfo, hi, hz]⟩
      · cases h
    · cases h
  · cases h
def isIfaceD : TypeDesc → Bool
  | .interface _ => true
  | _ => false
/-- Is the value within an interface of this type? -/
def assertA (P : Program) (x : Value) (t : TypeId) (ok : Bool) : Option Value :=
  match P.underlying t with
  | some d => if isIfaceD d then none else match x with
    | .iface t' v => if t' = t then some (if ok then .tuple #[v, .bool true] else v) else if ok then (zeroV P t).map fun z => .tuple #[z, .bool false] else none
    | .nilIface => if ok then (zeroV P t).map fun z => .tuple #[z, .bool false] else none
    | _ => none
  | none => none
theorem VR.pair {ρ : Ren} {x y x' y' : Value} (h : VR ρ x x') (h' : VR ρ y y') : VR ρ (.tuple #[x, y]) (.tuple #[x', y']) := VR.tuple' (.cons h (.cons h' .nil))
theorem assertA_sim {P : Program} {ρ : Ren} {x x' v : Value} {xt t : TypeId} {ok : Bool} (h : assertA P x t ok = some v) (hx : VR ρ x x') :
    ∃ v', VR ρ v v' ∧ ∀ w, (Instr.typeAssert x' xt t ok).run P w = .ok v' w := by
  unfold assertA at h
  split at h
  case h_2 => cases h
  rename_i d hu
  split at h
  · cases h
  rename_i hd
  split at h
  · rename_i t' u
    cases hx with
    | iface _ hv =>
      rename_i u'
      split at h
      · rename_i he
        subst he
        obtain rfl := Option.some.inj h
        cases ok with
        | true => exact ⟨.tuple #[u', .bool true], hv.pair (.bool true), fun w => by cases d <;> first | (exact absurd rfl hd) | simp [Instr.typeAssert, run_underlying hu]⟩
        | false => exact ⟨u', hv, fun w => by cases d <;> first | (exact absurd rfl hd) | simp [Instr.typeAssert, run_underlying hu]⟩
      · rename_i hne
        split at h
        · rename_i hok
          subst hok
          simp only [Option.map_eq_some_iff] at h
          obtain ⟨z, hz, rfl⟩ := h
          obtain ⟨h1, h2⟩ := zeroV_sim (ρ := ρ) hz
          exact ⟨.tuple #[z, .bool false], h1.pair (.bool false), fun w => by cases d <;> first | (exact absurd rfl hd) | simp [Instr.typeAssert, run_underlying hu, hne, h2 w]⟩
        · cases h
  · cases hx
    split at h
    · rename_i hok
      subst hok
      simp only [Option.map_eq_some_iff] at h
      obtain ⟨z, hz, rfl⟩ := h
      obtain ⟨h1, h2⟩ := zeroV_sim (ρ := ρ) hz
      exact ⟨.tuple #[z, .bool false], h1.pair (.bool false), fun w => by cases d <;> first | (exact absurd rfl hd) | simp [Instr.typeAssert, run_underlying hu, h2 w]⟩
    · cases h
  · cases h

/-! ### A struct or an array put together -/

def PartsR (ρ : Ren) : List (Nat × Value) → List (Nat × Value) → Prop := All2 fun p q => p.1 = q.1 ∧ VR ρ p.2 q.2
theorem VRs.set {ρ : Ren} : ∀ {xs ys : List Value} (_ : VRs ρ xs ys) (i : Nat) {v v' : Value}, VR ρ v v' → VRs ρ (xs.set i v) (ys.set i v')
  | _, _, .nil, _, _, _, _ => .nil
  | _, _, .cons _ h2, 0, _, _, hv => .cons hv h2
  | _, _, .cons h1 h2, i + 1, _, _, hv => .cons h1 (VRs.set h2 i hv)
theorem fold_sim {ρ : Ren} (off : Nat) : ∀ (cs ds : List Value) (k : Nat) (xs ys : Array Value), VRs ρ cs ds → VRs ρ xs.toList ys.toList →
    VRs ρ ((cs.zipIdx k).foldl (fun a p => a.setIfInBounds (off + p.2) p.1) xs).toList ((ds.zipIdx k).foldl (fun a p => a.setIfInBounds (off + p.2) p.1) ys).toList := by
  intro cs
  induction cs with
  | nil => intro ds k xs ys h1 h2; cases h1; exact h2
  | cons c cs ih =>
    intro ds k xs ys h1 h2
    cases h1 with
    | cons h h1 =>
      simp only [List.zipIdx_cons, List.foldl_cons]
      refine ih _ _ _ _ h1 ?_
      simp only [Array.toList_setIfInBounds]
      exact h2.set _ h
theorem fill_sim {ρ : Ren} (place : Nat → Option (Nat × Nat)) : ∀ (ps qs : List (Nat × Value)) (xs ys cells : Array Value), PartsR ρ ps qs → VRs ρ xs.toList ys.toList →
    Instr.fill place xs ps = some cells → ∃ cells', Instr.fill place ys qs = some cells' ∧ VRs ρ cells.toList cells'.toList
  | _, _, xs, ys, cells, .nil, hv, h => by
    simp only [Instr.fill, Option.some.injEq] at h
    subst h
    exact ⟨ys, rfl, hv⟩
  | (i, v) :: ps, (j, v') :: qs, xs, ys, cells, .cons hp hps, hv, h => by
    obtain ⟨e, hvv⟩ := hp
    dsimp only at e hvv
    subst e
    simp only [Instr.fill] at h ⊢
    have hl := hvv.cells.length
    have hl2 := hv.length
    simp only [Array.length_toList] at hl hl2
    split at h
    · cases h
    · rename_i off size hpl
      split at h
      · cases h
      · rename_i hc
        rw [if_neg (by rw [← hl, ← hl2]; exact hc)]
        refine fill_sim place ps qs _ _ cells hps ?_ h
        have := fold_sim off _ _ 0 xs ys hvv.cells hv
        have conv : ∀ (a x : Array Value), Array.foldl (fun cs (p : Value × Nat) => cs.setIfInBounds (off + p.2) p.1) x a.zipIdx = List.foldl (fun cs p => cs.setIfInBounds (off + p.2) p.1) x a.toList.zipIdx := by
          intro a x
          rw [← Array.foldl_toList, Array.toList_zipIdx]
        rw [conv, conv]
        exact this
def builtA (P : Program) (t : TypeId) (parts : List (Nat × Value)) : Option Value :=
  match zeroT P t with
  | some _ => (P.built t parts).map .agg
  | none => none
theorem builtA_sim {P : Program} {ρ : Ren} {t : TypeId} {ps qs : Array (Nat × Value)} {v : Value} (h : builtA P t ps.toList = some v) (hp : PartsR ρ ps.toList qs.toList) :
    ∃ v', VR ρ v v' ∧ ∀ w, (Instr.build t qs).run P w = .ok v' w := by
  unfold builtA at h
  split at h
  · rename_i zs hz
    simp only [Option.map_eq_some_iff] at h
    obtain ⟨cells, hb, rfl⟩ := h
    obtain ⟨i, z, hi, hiz, rfl, hsm, _⟩ := zeroT_spec hz
    have hzz : VRs ρ z.cells.toList z.cells.toList := VRs.of_simple hsm
    have key : ∃ cells', P.built t qs.toList = some cells' ∧ VRs ρ cells.toList cells'.toList := by
      unfold Program.built at hb ⊢
      rw [hi] at hb ⊢
      split at hb
      · rename_i it it' len e h1 h2
        obtain rfl := Option.some.inj h1
        simp only [hiz] at hb ⊢
        split at hb
        · rename_i z' ie hz' hie
          obtain rfl := Option.some.inj hz'
          exact fill_sim _ _ _ _ _ _ hp hzz hb
        · cases hb
      · rename_i it it' fields h1 h2
        obtain rfl := Option.some.inj h1
        simp only [hiz] at hb ⊢
        split at hb
        · rename_i z' places hz' hpl
          obtain rfl := Option.some.inj hz'
          exact fill_sim _ _ _ _ _ _ hp hzz hb
        · cases hb
      · cases hb
    obtain ⟨cells', hb', hv⟩ := key
    exact ⟨.agg cells', VR.agg' hv, fun w => run_build w t qs cells' hb'⟩
  · cases h

end Go.Ae

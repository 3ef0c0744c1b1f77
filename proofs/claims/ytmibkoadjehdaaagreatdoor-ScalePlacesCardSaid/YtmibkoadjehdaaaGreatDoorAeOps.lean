/- Operations that neither read nor write memory, gathered: 'aP'. No condition. -/
import Derived.Test.YtmibkoadjehdaaaGreatDoorAePure
namespace Go.Ae

theorem sliceA_sim {P : Program} {ρ : Ren} {t : TypeId} {x x' v : Value} {lo hi mx lo' hi' mx' : Option Value} (h : sliceA P t x lo hi mx = some v)
    (hx : VR ρ x x') (h1 : VRo ρ lo lo') (h2 : VRo ρ hi hi') (h3 : VRo ρ mx mx') : ∃ v', VR ρ v v' ∧ ∀ w, (Instr.sliceAt t x' lo' hi' mx').run P w = .ok v' w := by
  have h3s : mx'.isSome = mx.isSome := by cases mx <;> cases mx' <;> simp_all [VRo]
  unfold sliceA at h
  split at h
  case h_2 => cases h
  rename_i e a len cap hu
  split at h
  · cases h
  · rename_i n hs
    simp only [Option.map_eq_some_iff] at h
    obtain ⟨⟨l, hh, m⟩, hb, rfl⟩ := h
    cases hx
    refine ⟨.slice none (hh - l) ((if mx.isSome then m else cap) - l), ?_, fun w => ?_⟩
    · have : m = if mx.isSome then m else cap := by
        unfold boundsA at hb
        cases mx with
        | some _ => simp
        | none => simp only [Option.bind_some, Option.bind_eq_some_iff] at hb; obtain ⟨_, _, _, _, hb⟩ := hb; simp at hb; simp [hb.2.2]
      rw [← this]
      exact .nilslice _ _
    · simp [Instr.sliceAt, Instr.slice, run_underlying hu, boundsA_sim (P := P) hb h1 h2 h3 cap (Nat.le_refl _) w, run_sizeT hs]
  · rename_i n a0 hs
    cases hx
    rename_i b cap' hsr
    split at h
    · rename_i hop
      split at h
      · rename_i hcap
        simp only [Option.map_eq_some_iff] at h
        obtain ⟨⟨l, hh, m⟩, hb, rfl⟩ := h
        obtain ⟨hlh, hhm, hml⟩ := boundsA_le hb (Nat.le_refl _)
        have hlc : len ≤ cap' := by
          rcases hsr with ⟨e1, e2, _⟩ | ⟨e1, _⟩ | ⟨_, s, _, _, _, _, _, e1, _⟩ <;> omega
        refine ⟨.slice (some (if (if mx.isSome then m else cap') = l then b else b.add (l * n))) (hh - l) ((if mx.isSome then m else cap') - l), ?_, fun w => ?_⟩
        · rcases hsr with ⟨e1, e2, e3⟩ | ⟨e1, _⟩ | ⟨_, s, hρ, hlo, rfl, hc, hlt, _, hb1, hb2⟩
          · obtain rfl : m = 0 := by omega
            obtain rfl : l = 0 := by omega
            obtain rfl : hh = 0 := by omega
            cases mx with
            | none => simp only [Option.isSome_none, Bool.false_eq_true, if_false]; exact .slice (.inl ⟨by omega, by omega, .inr (by
                rcases e3 with e3 | ⟨s, e3, e4, e5, e6⟩
                · have : 0 < openCap := by decide
                  omega
                · exact ⟨s, e3, by simpa using e4, by simpa using e5, e6⟩)⟩)
            | some u => simp only [Option.isSome_some, if_true]; exact .slice (.inl ⟨by omega, by omega, .inl (by omega)⟩)
          · omega
          · obtain rfl : s.esz = n := by omega
            cases mx with
            | none =>
              simp only [Option.isSome_none, Bool.false_eq_true, if_false]
              by_cases hcl : cap' = l
              · have hat : (s.at a0.off).off = s.base + (a0.off - s.lo) := rfl
                rw [hat, hcl] at hb1
                exact .slice (.inl ⟨by omega, by omega, .inr ⟨s, hρ, by simp; omega, by simp; omega, hc⟩⟩)
              · simp only [hcl, if_false]
                have hat : (s.at a0.off).off = s.base + (a0.off - s.lo) := rfl
                have hmul : (cap' - l) * s.esz + l * s.esz = cap' * s.esz := by rw [← Nat.add_mul]; congr 1; omega
                rw [Seg.at_add s hlo]
                have hat2 : (s.at (a0.off + l * s.esz)).off = s.base + (a0.off + l * s.esz - s.lo) := rfl
                refine .slice (.inr (.inr ⟨hop, s, hρ, by simp; omega, rfl, hc, by omega, by omega, ?_, ?_⟩))
                · rw [hat2]; rw [hat] at hb1; omega
                · rw [hat2]; rw [hat] at hb2; omega
            | some u =>
              simp only [Option.isSome_some, if_true]
              have hpr : PR ρ a0 (s.at a0.off) := ⟨s, hρ, hlo, rfl⟩
              refine .slice (.inr (.inl ⟨by omega, rfl, ?_⟩))
              · unfold advA
                split
                · exact hpr
                · exact hpr.add _
        · have := boundsA_sim (P := P) hb h1 h2 h3 cap' hlc w
          simp [Instr.sliceAt, Instr.slice, run_underlying hu, this, run_sizeT hs]
          repeat' split
          all_goals rfl
      · cases h
    · rename_i hop
      simp only [Option.map_eq_some_iff] at h
      obtain ⟨⟨l, hh, m⟩, hb, rfl⟩ := h
      have hm : m = if mx.isSome then m else cap := by
        unfold boundsA at hb
        cases mx with
        | some _ => simp
        | none => simp only [Option.bind_some, Option.bind_eq_some_iff] at hb; obtain ⟨_, _, _, _, hb⟩ := hb; simp at hb; simp [hb.2.2]
      rcases hsr with ⟨e1, e2, e3⟩ | ⟨e1, rfl, hpr⟩ | ⟨e1, _⟩
      · have hcap : cap = 0 := by
          rcases e3 with e3 | ⟨s, _, _, _, e3⟩ <;> omega
        subst hcap e1 e2
        obtain ⟨hlh, hhm, hml⟩ := boundsA_le hb (Nat.le_refl _)
        obtain rfl : m = 0 := by omega
        obtain rfl : hh = 0 := by omega
        obtain rfl : l = 0 := by omega
        refine ⟨.slice (some b) 0 0, .slice (.inl ⟨rfl, rfl, .inl rfl⟩), fun w => ?_⟩
        have := boundsA_sim (P := P) hb h1 h2 h3 0 (Nat.le_refl _) w
        rw [← hm] at this
        simp [Instr.sliceAt, Instr.slice, run_underlying hu, this, run_sizeT hs]
      · refine ⟨.slice (some (if m = l then b else b.add (l * n))) (hh - l) (m - l), ?_, fun w => ?_⟩
        · by_cases hlc : len ≤ cap'
          · obtain ⟨hlh, hhm, hml⟩ := boundsA_le hb hlc
            have hmc : m ≤ cap' := hml
            refine .slice (.inr (.inl ⟨show m - l < openCap by omega, rfl, ?_⟩))
            unfold advA
            split
            · exact hpr
            · exact hpr.add _
          · refine .slice (.inr (.inl ⟨?_, rfl, ?_⟩))
            · show m - l < openCap
              have hmc : m ≤ cap' := by
                cases mx with
                | none => simp at hm; omega
                | some u =>
                  unfold boundsA at hb
                  simp only [Option.bind_eq_some_iff] at hb
                  obtain ⟨c, hc, b1, _, a1, _, hb⟩ := hb
                  simp at hb
                  unfold boundA at hc
                  split at hc
                  · split at hc
                    · simp at hc; omega
                    · cases hc
                  · cases hc
              omega
            · unfold advA
              split
              · exact hpr
              · exact hpr.add _
        · have := boundsA_sim (P := P) hb h1 h2 h3 cap' (Nat.le_refl _) w
          rw [← hm] at this
          simp [Instr.sliceAt, Instr.slice, run_underlying hu, this, run_sizeT hs]
          split <;> rfl
      · omega

def fieldAddrA (P : Program) (s : TypeId) (x : Value) (f : Nat) : Option Value :=
  match P.underlying s, x with
  | some (.struct fs), .pointer (some a) => match fs[f]? with
    | some fd => match szT P fd.type with
      | some (_ + 1) => some (.pointer (some (aadd a fd.offset)))
      | _ => none
    | none => none
  | _, _ => none
theorem fieldAddrA_sim {P : Program} {ρ : Ren} {s : TypeId} {x x' v : Value} {f : Nat} (h : fieldAddrA P s x f = some v) (hx : VR ρ x x') :
    ∃ v', VR ρ v v' ∧ ∀ w, (Instr.fieldAt s x' f).run P w = .ok v' w := by
  unfold fieldAddrA at h
  split at h
  · rename_i fs a hu
    split at h
    · rename_i fd hf
      split at h
      · rename_i n hs
        obtain rfl := Option.some.inj h
        cases hx with
        | ptr hp =>
          rename_i b
          refine ⟨.pointer (some (b.add fd.offset)), .ptr (hp.add _), fun w => ?_⟩
          simp [Instr.fieldAt, run_underlying hu, hf, Instr.sureAddr, fieldPlace, run_sizeT hs]
      · cases h
    · cases h
  · cases h

def indexAddrA (P : Program) (t : TypeId) (x ix : Value) : Option Value :=
  match P.underlying t, x, ix with
  | some (.slice e), .slice (some a) len _, .int _ i =>
    match szT P e with
    | some n => if 0 ≤ i ∧ i < len then some (.pointer (some (aadd a (i.toNat * n)))) else none
    | none => none
  | some (.array len e), .pointer (some a), .int _ i =>
    match szT P e with
    | some n => if 0 ≤ i ∧ i < len then some (.pointer (some (aadd a (i.toNat * n)))) else none
    | none => none
  | _, _, _ => none
theorem indexAddrA_sim {P : Program} {ρ : Ren} {t : TypeId} {x x' ix ix' v : Value} (h : indexAddrA P t x ix = some v) (hx : VR ρ x x') (hi : VR ρ ix ix') :
    ∃ v', VR ρ v v' ∧ ∀ w, (Instr.indexAt t x' ix').run P w = .ok v' w := by
  unfold indexAddrA at h
  split at h
  · rename_i e a len cap k i hu
    split at h
    · rename_i n hs
      split at h
      · rename_i hc
        obtain rfl := Option.some.inj h
        cases hi
        cases hx with
        | slice hp =>
          rename_i b cap'
          have hpr : PR ρ a b := by
            rcases hp with ⟨e1, _⟩ | ⟨_, _, hp⟩ | ⟨_, s, h1, h2, h3, _⟩
            · omega
            · exact hp
            · exact ⟨s, h1, h2, h3⟩
          refine ⟨.pointer (some (b.add (i.toNat * n))), .ptr (hpr.add _), fun w => ?_⟩
          simp [Instr.indexAt, run_underlying hu, asIntOf, hc, run_sizeT hs]
      · cases h
    · cases h
  · rename_i len e a k i hu
    split at h
    · rename_i n hs
      split at h
      · rename_i hc
        obtain rfl := Option.some.inj h
        cases hi
        cases hx with
        | ptr hp =>
          rename_i b
          refine ⟨.pointer (some (b.add (i.toNat * n))), .ptr (hp.add _), fun w => ?_⟩
          simp [Instr.indexAt, run_underlying hu, asIntOf, hc, run_sizeT hs, Instr.sureAddr]
      · cases h
    · cases h
  · cases h

def fieldA (P : Program) (t : TypeId) (x : Value) (f : Nat) : Option Value :=
  match P.underlying t, x with
  | some (.struct fs), .agg cs => match fs[f]? with
    | some fd => apart P fd.type cs fd.offset
    | none => none
  | _, _ => none
theorem fieldA_sim {P : Program} {ρ : Ren} {t : TypeId} {x x' v : Value} {f : Nat} (h : fieldA P t x f = some v) (hx : VR ρ x x') :
    ∃ v', VR ρ v v' ∧ ∀ w, (Instr.field t x' f).run P w = .ok v' w := by
  unfold fieldA at h
  split at h
  · rename_i fs cs hu
    split at h
    · rename_i fd hf
      cases hx with
      | agg hs hX =>
        obtain ⟨v', hv, hr⟩ := apart_sim h (VRs.of_agg hs hX)
        exact ⟨v', hv, fun w => by simp [Instr.field, run_underlying hu, hf, asAgg, hr w]⟩
    · cases h
  · cases h

def extractA (x : Value) (i : Nat) : Option Value :=
  match x with
  | .tuple vs => vs[i]?
  | _ => none
theorem extractA_sim {P : Program} {ρ : Ren} {x x' v : Value} {i : Nat} (h : extractA x i = some v) (hx : VR ρ x x') :
    ∃ v', VR ρ v v' ∧ ∀ w, (Instr.extract x' i).run P w = .ok v' w := by
  unfold extractA at h
  split at h
  · cases hx with
    | tuple hs hX =>
      obtain ⟨y, hy, hv⟩ := (VRs.of_agg hs hX).get i v (by simpa using h)
      simp only [Array.getElem?_toList] at hy
      exact ⟨y, hv, fun w => by simp [Instr.extract, hy]⟩
  · cases h

/-- An element of an array. -/
def indexA (P : Program) (t : TypeId) (x ix : Value) : Option Value :=
  match P.underlying t, x, ix with
  | some (.array len e), .agg cs, .int _ i => match szT P e with
    | some n => if 0 ≤ i ∧ i < len then apart P e cs (i.toNat * n) else none
    | none => none
  | _, _, _ => none
theorem indexA_sim {P : Program} {ρ : Ren} {t : TypeId} {x x' ix ix' v : Value} (h : indexA P t x ix = some v) (hx : VR ρ x x') (hi : VR ρ ix ix') :
    ∃ v', VR ρ v v' ∧ ∀ w, (Instr.index t x' ix').run P w = .ok v' w := by
  unfold indexA at h
  split at h
  · rename_i len e cs k i hu
    split at h
    · rename_i n hs
      split at h
      · rename_i hc
        cases hi
        cases hx with
        | agg hs' hX =>
          obtain ⟨v', hv, hr⟩ := apart_sim h (VRs.of_agg hs' hX)
          exact ⟨v', hv, fun w => by simp [Instr.index, asIntOf, run_underlying hu, hc, run_sizeT hs, hr w]⟩
      · cases h
    · cases h
  · cases h
/-- The value of a type that nothing was laid into. -/
def zeroV (P : Program) (t : TypeId) : Option Value := match P.info? t with
  | some i => match i.zero with
    | some z => if flatV z then some z else none
    | none => none
  | none => none
theorem zeroV_sim {P : Program} {ρ : Ren} {t : TypeId} {z : Value} (h : zeroV P t = some z) : VR ρ z z ∧ ∀ w, (zeroValue t).run P w = .ok z w := by
  unfold zeroV at h
  split at h
  · rename_i i hi
    split at h
    · rename_i z' hz
      split at h
      · rename_i hf
        obtain rfl := Option.some.inj h
        exact ⟨VR.of_flat hf, fun w => by simp [zeroValue, typeInfo, hi, hz]⟩
      · cases h
    · cases h
  · cases h
def isIfaceD : TypeDesc → Bool
  | .interface _ => true
  | _ => false
/-- Is the value within an interface of this type? -/
def assertA (P : Program) (x : Value) (t : TypeId) (ok : Bool) : Option Value :=
  match P.underlying t with
  | some d => if isIfaceD d then none else match x with
    | .iface t' v => if t' = t then some (if ok then .tuple #[v, .bool true] else v) else if ok then (zeroV P t).map fun z => .tuple #[z, .bool false] else none
    | .nilIface => if ok then (zeroV P t).map fun z => .tuple #[z, .bool false] else none
    | _ => none
  | none => none
theorem VR.pair {ρ : Ren} {x y x' y' : Value} (h : VR ρ x x') (h' : VR ρ y y') : VR ρ (.tuple #[x, y]) (.tuple #[x', y']) := VR.tuple' (.cons h (.cons h' .nil))
theorem assertA_sim {P : Program} {ρ : Ren} {x x' v : Value} {xt t : TypeId} {ok : Bool} (h : assertA P x t ok = some v) (hx : VR ρ x x') :
    ∃ v', VR ρ v v' ∧ ∀ w, (Instr.typeAssert x' xt t ok).run P w = .ok v' w := by
  unfold assertA at h
  split at h
  case h_2 => cases h
  rename_i d hu
  split at h
  · cases h
  rename_i hd
  split at h
  · rename_i t' u
    cases hx with
    | iface _ hv =>
      rename_i u'
      split at h
      · rename_i he
        subst he
        obtain rfl := Option.some.inj h
        cases ok with
        | true => exact ⟨.tuple #[u', .bool true], hv.pair (.bool true), fun w => by cases d <;> first | (exact absurd rfl hd) | simp [Instr.typeAssert, run_underlying hu]⟩
        | false => exact ⟨u', hv, fun w => by cases d <;> first | (exact absurd rfl hd) | simp [Instr.typeAssert, run_underlying hu]⟩
      · rename_i hne
        split at h
        · rename_i hok
          subst hok
          simp only [Option.map_eq_some_iff] at h
          obtain ⟨z, hz, rfl⟩ := h
          obtain ⟨h1, h2⟩ := zeroV_sim (ρ := ρ) hz
          exact ⟨.tuple #[z, .bool false], h1.pair (.bool false), fun w => by cases d <;> first | (exact absurd rfl hd) | simp [Instr.typeAssert, run_underlying hu, hne, h2 w]⟩
        · cases h
  · cases hx
    split at h
    · rename_i hok
      subst hok
      simp only [Option.map_eq_some_iff] at h
      obtain ⟨z, hz, rfl⟩ := h
      obtain ⟨h1, h2⟩ := zeroV_sim (ρ := ρ) hz
      exact ⟨.tuple #[z, .bool false], h1.pair (.bool false), fun w => by cases d <;> first | (exact absurd rfl hd) | simp [Instr.typeAssert, run_underlying hu, h2 w]⟩
    · cases h
  · cases h

/-! ### A struct or an array put together -/

def PartsR (ρ : Ren) : List (Nat × Value) → List (Nat × Value) → Prop := All2 fun p q => p.1 = q.1 ∧ VR ρ p.2 q.2
theorem VRs.set {ρ : Ren} : ∀ {xs ys : List Value} (_ : VRs ρ xs ys) (i : Nat) {v v' : Value}, VR ρ v v' → VRs ρ (xs.set i v) (ys.set i v')
  | _, _, .nil, _, _, _, _ => .nil
  | _, _, .cons _ h2, 0, _, _, hv => .cons hv h2
  | _, _, .cons h1 h2, i + 1, _, _, hv => .cons h1 (VRs.set h2 i hv)
theorem fold_sim {ρ : Ren} (off : Nat) : ∀ (cs ds : List Value) (k : Nat) (xs ys : Array Value), VRs ρ cs ds → VRs ρ xs.toList ys.toList →
    VRs ρ ((cs.zipIdx k).foldl (fun a p => a.setIfInBounds (off + p.2) p.1) xs).toList ((ds.zipIdx k).foldl (fun a p => a.setIfInBounds (off + p.2) p.1) ys).toList := by
  intro cs
  induction cs with
  | nil => intro ds k xs ys h1 h2; cases h1; exact h2
  | cons c cs ih =>
    intro ds k xs ys h1 h2
    cases h1 with
    | cons h h1 =>
      simp only [List.zipIdx_cons, List.foldl_cons]
      refine ih _ _ _ _ h1 ?_
      simp only [Array.toList_setIfInBounds]
      exact h2.set _ h
theorem fill_sim {ρ : Ren} (place : Nat → Option (Nat × Nat)) : ∀ (ps qs : List (Nat × Value)) (xs ys cells : Array Value), PartsR ρ ps qs → VRs ρ xs.toList ys.toList →
    Instr.fill place xs ps = some cells → ∃ cells', Instr.fill place ys qs = some cells' ∧ VRs ρ cells.toList cells'.toList
  | _, _, xs, ys, cells, .nil, hv, h => by
    simp only [Instr.fill, Option.some.injEq] at h
    subst h
    exact ⟨ys, rfl, hv⟩
  | (i, v) :: ps, (j, v') :: qs, xs, ys, cells, .cons hp hps, hv, h => by
    obtain ⟨e, hvv⟩ := hp
    dsimp only at e hvv
    subst e
    simp only [Instr.fill] at h ⊢
    have hl := hvv.cells.length
    have hl2 := hv.length
    simp only [Array.length_toList] at hl hl2
    split at h
    · cases h
    · rename_i off size hpl
      split at h
      · cases h
      · rename_i hc
        rw [if_neg (by rw [← hl, ← hl2]; exact hc)]
        refine fill_sim place ps qs _ _ cells hps ?_ h
        have := fold_sim off _ _ 0 xs ys hvv.cells hv
        have conv : ∀ (a x : Array Value), Array.foldl (fun cs (p : Value × Nat) => cs.setIfInBounds (off + p.2) p.1) x a.zipIdx = List.foldl (fun cs p => cs.setIfInBounds (off + p.2) p.1) x a.toList.zipIdx := by
          intro a x
          rw [← Array.foldl_toList, Array.toList_zipIdx]
        rw [conv, conv]
        exact this
def builtA (P : Program) (t : TypeId) (parts : List (Nat × Value)) : Option Value :=
  match zeroT P t with
  | some _ => (P.built t parts).map .agg
  | none => none
theorem builtA_sim {P : Program} {ρ : Ren} {t : TypeId} {ps qs : Array (Nat × Value)} {v : Value} (h : builtA P t ps.toList = some v) (hp : PartsR ρ ps.toList qs.toList) :
    ∃ v', VR ρ v v' ∧ ∀ w, (Instr.build t qs).run P w = .ok v' w := by
  unfold builtA at h
  split at h
  · rename_i zs hz
    simp only [Option.map_eq_some_iff] at h
    obtain ⟨cells, hb, rfl⟩ := h
    obtain ⟨i, z, hi, hiz, rfl, hsm, _⟩ := zeroT_spec hz
    have hzz : VRs ρ z.cells.toList z.cells.toList := VRs.of_simple hsm
    have key : ∃ cells', P.built t qs.toList = some cells' ∧ VRs ρ cells.toList cells'.toList := by
      unfold Program.built at hb ⊢
      rw [hi] at hb ⊢
      split at hb
      · rename_i it it' len e h1 h2
        obtain rfl := Option.some.inj h1
        simp only [hiz] at hb ⊢
        split at hb
        · rename_i z' ie hz' hie
          obtain rfl := Option.some.inj hz'
          exact fill_sim _ _ _ _ _ _ hp hzz hb
        · cases hb
      · rename_i it it' fields h1 h2
        obtain rfl := Option.some.inj h1
        simp only [hiz] at hb ⊢
        split at hb
        · rename_i z' places hz' hpl
          obtain rfl := Option.some.inj hz'
          exact fill_sim _ _ _ _ _ _ hp hzz hb
        · cases hb
      · cases hb
    obtain ⟨cells', hb', hv⟩ := key
    exact ⟨.agg cells', VR.agg' hv, fun w => run_build w t qs cells' hb'⟩
  · cases h

end Go.Ae

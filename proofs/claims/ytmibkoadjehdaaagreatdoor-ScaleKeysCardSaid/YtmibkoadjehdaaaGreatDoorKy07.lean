/- What strings.Builder asks of package unsafe, over the abstract heap. copy, and the operations that write gathered: 'aE'. -/
import Derived.Test.YtmibkoadjehdaaaGreatDoorKy06
import Derived.Lib.UnsafeStr
import Derived.KernelRfl
set_option linter.unusedVariables false
set_option linter.unusedSimpArgs false
namespace Go.Ae

/-- The place of a slice's first element. -/
def sliceDataA (H : AHeap) (x : Value) : Option (Value × AHeap) :=
  match x with
  | .slice none _ _ => some (.pointer none, H)
  | .slice (some a) n c => if n ≠ 0 ∧ c ≠ 0 then some (.pointer (some a), H) else none
  | _ => none
theorem sliceDataA_sim {P : Program} {ρ : Ren} {H H' : AHeap} {w : World} (hH : RelH P ρ H w) {ts : Array TypeId} {ty : TypeId} {x x' v : Value} (h : sliceDataA H x = some (v, H')) (hx : VR ρ x x') :
    ∃ v', (Builtin.unsafeSliceData_ ts ty #[x']).run P w = .ok v' w ∧ VR ρ v v' ∧ RelH P ρ H' w := by
  unfold sliceDataA at h
  split at h
  · simp only [Option.some.injEq, Prod.mk.injEq] at h
    obtain ⟨rfl, rfl⟩ := h
    cases hx
    exact ⟨_, rfl, .nilptr, hH⟩
  · rename_i a n c
    split at h
    case isFalse => cases h
    rename_i hc
    simp only [Option.some.injEq, Prod.mk.injEq] at h
    obtain ⟨rfl, rfl⟩ := h
    cases hx with
    | slice hp =>
      rename_i b cap'
      have hpr : PR ρ a b ∧ cap' ≠ 0 := by
        rcases hp with ⟨e1, _⟩ | ⟨_, e2, hp⟩ | ⟨_, s, h1, h2, h3, _, _, h4, _⟩
        · exact absurd e1 hc.1
        · exact ⟨hp, by rw [e2]; exact hc.2⟩
        · exact ⟨⟨s, h1, h2, h3⟩, by omega⟩
      exact ⟨_, Lib.run_unsafeSliceData_row _ _ _ _ _ _ hpr.2, .ptr hpr.1, hH⟩
  · cases h

theorem run_loadBytesI {P : Program} (w : World) : ∀ (ns : List Int) (a : Addr) (acc : ByteArray), (∀ j v, (ns.map (Value.int .u8))[j]? = some v → w.cell? (a.add j) = some v) →
    (loadBytes a acc ns.length).run P w = .ok (ns.foldl (fun r n => r.push (UInt8.ofNat n.toNat)) acc) w
  | [], a, acc, _ => by simp [loadBytes]
  | x :: l, a, acc, h => by
    have h0 : w.cell? a = some (.int .u8 x) := by
      have := h 0 _ rfl
      simpa [Addr.add] using this
    have ih := run_loadBytesI (P := P) w l (a.add 1) (acc.push (UInt8.ofNat x.toNat)) (fun j y hy => by
      have := h (j + 1) y (by simpa using hy)
      have e : (a.add 1).add j = a.add (j + 1) := by
        unfold Addr.add
        by_cases hj : j = 0
        · subst hj; simp
        · simp [hj]; omega
      rw [e]; exact this)
    simp only [List.length_cons, loadBytes, Sem.run_bind, run_load, h0, Result.andThen, List.foldl_cons]
    exact ih

/-- Bytes as a string; from then on they are read alone. -/
def unsafeStrA (P : Program) (H : AHeap) (ts : List TypeId) (p n : Value) : Option (Value × AHeap) :=
  match p, n, ts with
  | .pointer _, .int .i64 (.ofNat 0), [_, _] => some (.string .empty, H)
  | .pointer (some a), .int .i64 (.ofNat (n + 1)), [pt, _] => match P.underlying pt, H.rowAt a with
    | some (.pointer e), some r => if szT P e = some 1 ∧ r.elem = e ∧ r.rw = true ∧ n < 9223372036854775807 then
        ((H.cellsAt a (n + 1)).bind bytesOf).map fun ns => (.string (strOf ns), H.put a.block (.row { r with rw := false }))
      else none
    | _, _ => none
  | _, _, _ => none
theorem unsafeStrA_sim {P : Program} {ρ : Ren} {H H' : AHeap} {w : World} (hH : RelH P ρ H w) {ts : List TypeId} {ty : TypeId} {p n p' n' v : Value} (h : unsafeStrA P H ts p n = some (v, H')) (hp : VR ρ p p') (hn : VR ρ n n') :
    ∃ w', (Builtin.unsafeString_ ts.toArray ty #[p', n']).run P w = .ok v w' ∧ VR ρ v v ∧ RelH P ρ H' w' ∧ Ext ρ H w ρ H' w' := by
  unfold unsafeStrA at h
  split at h
  · rename_i a pt it
    simp only [Option.some.injEq, Prod.mk.injEq] at h
    obtain ⟨rfl, rfl⟩ := h
    cases hn
    refine ⟨w, ?_, .string _, hH, ExtN.refl _ _ _ _⟩
    cases hp
    · exact Lib.run_unsafeString_none w pt it ty none
    · exact Lib.run_unsafeString_none w pt it ty (some _)
  · rename_i a n pt it
    split at h
    case h_2 => cases h
    rename_i e r hu hr
    split at h
    case isFalse => cases h
    rename_i hc
    obtain ⟨hsz, he, hrw, hn63⟩ := hc
    simp only [Option.map_eq_some_iff, Option.bind_eq_some_iff, Prod.mk.injEq] at h
    obtain ⟨ns, ⟨l, hl, hb⟩, rfl, rfl⟩ := h
    cases hn
    cases hp with
    | ptr hpr =>
      obtain ⟨hll, l', hv, hcell⟩ := cellsAt_sim hH hpr hl
      obtain ⟨hg, hver⟩ := AHeap.rowAt_spec hr
      have hlen0 : a.off + (n + 1) ≤ r.cells.length := by
        unfold AHeap.cellsAt at hl
        rw [hr, Option.bind_some] at hl
        split at hl
        · assumption
        · cases hl
      obtain ⟨s, h1, h2, rfl, g1, g2, g3, c, fz, hcc, hcs, hfit, hcells, hfz⟩ := rowAt_world hH hr hpr
      obtain rfl := bytesOf_eq hb
      obtain rfl := hv.ints
      have hnl : ns.length = n + 1 := by simpa using hll
      subst he
      have hsh : w.shape? s.blk = some (r.elem, c.size) := by simp [World.shape?, hcc]
      have hco := cellsOf_sz hsz
      have hlies := liesAt_own (P := P) (m := 0) (by simpa using hco) c.size (s.base + (a.off - s.lo)) (n + 1) (by omega)
      simp only [Nat.zero_add, Nat.mul_one] at hlies
      have hload := run_loadBytesI (P := P) w ns (s.at a.off) .empty hcell
      rw [hnl] at hload
      have hmax : IntKind.i64.max = 9223372036854775807 := rfl
      have hge : ¬ (9223372036854775807 : Int) < ((n : Int) + 1) := by omega
      have hneg : ¬ ((n : Int) + 1) < 0 := by omega
      have hne : ¬ ((n : Int) + 1) = 0 := by omega
      have htn : ((n : Int) + 1).toNat = n + 1 := by omega
      refine ⟨w.freeze (s.at a.off) (n + 1), ?_, .string _, ?_⟩
      · have hlies' : liesAt P P.depth r.elem (c.size / P.cellsOf r.elem) (s.at a.off).off r.elem (n + 1) = true := by
          rw [hco, Nat.div_one]; exact hlies
        have hsh' : w.shape? (s.at a.off).block = some (r.elem, c.size) := hsh
        generalize s.at a.off = b at *
        have hdef : Builtin.unsafeString_ #[pt, it] ty #[.pointer (some b), .int .i64 (Int.ofNat (n + 1))] =
            (do
              let n ← asInt (.int .i64 (Int.ofNat (n + 1)))
              if n < 0 then runtimePanic (.error "unsafe.String: len out of range")
              if n > IntKind.i64.max then unsupported (.unsafePointer "String: a length above the largest int")
              if n = 0 then pure (.string .empty)
              else if ← variablesAt b (← elemOf pt) n.toNat then do
                let s ← loadBytes b .empty n.toNat
                freeze b n.toNat
                pure (.string s)
              else unsupported (.unsafePointer "String: not so many bytes at ptr")) := rfl
        show (Builtin.unsafeString_ #[pt, it] ty #[.pointer (some b), .int .i64 (Int.ofNat (n + 1))]).run P w = _
        rw [hdef]
        simp [asInt, asIntOf, hmax, hge, hneg, hne, htn, variablesAt, hsh', elemOf, run_underlying hu, hlies', hload, strOf]
      · have hlt : s.blk < w.heap.size := (hH.dom _ _ _ h1).2
        have hget : (w.freeze (s.at a.off) (n + 1)).heap[s.blk]? = some (.cells c r.elem (if fz.1 == fz.2 then (s.base + (a.off - s.lo), s.base + (a.off - s.lo) + (n + 1)) else (min fz.1 (s.base + (a.off - s.lo)), max fz.2 (s.base + (a.off - s.lo) + (n + 1))))) := by
          unfold World.freeze
          rw [if_neg (by omega)]
          simp only [Seg.at, Array.getElem?_modify, if_true, hcc, Option.map_some]
        refine put_place (r' := { r with rw := false }) hH hg hrw rfl h1 ⟨g1, g2, (fun h => by cases h), c, _, hget, hcs, hfit, hcells, (fun h => by cases h)⟩ (fun k hk => ?_) ?_ ?_ ?_
        · unfold World.freeze
          rw [if_neg (by omega)]
          simp only [Seg.at, Array.getElem?_modify]
          rw [if_neg (fun e => hk e.symm)]
        · unfold World.freeze
          rw [if_neg (by omega)]
          simp
        · unfold World.freeze
          rw [if_neg (by omega)]
        · unfold World.freeze
          rw [if_neg (by omega)]
  · cases h

/-- abi.NoEscape: the same value. -/
def isNoEscape (P : Program) (g : FuncId) : Bool := match P.funcs[g]? with
  | some fn => fn.name == "internal/abi.NoEscape" && fn.origin == "" && fn.body.isNone
  | none => false
theorem noEscape_b1 : Extern.allNextRows.lookup "internal/abi.NoEscape" = none := by kernel_rfl
theorem noEscape_b2 : Extern.allNextRows.lookup "" = none := by kernel_rfl
theorem noEscape_b3 : (Extern.allGenericRows.lookup "internal/abi.NoEscape").isNone = true := by kernel_rfl
theorem noEscape_b4 : (Extern.allTypedRows.lookup "internal/abi.NoEscape").isNone = true := by kernel_rfl
theorem noEscape_b5 : Extern.allRows.lookup "internal/abi.NoEscape" = some Extern.AbiNoEscape.same := by kernel_rfl
theorem run_noEscape {P : Program} {g : FuncId} (h : isNoEscape P g = true) (x : Value) (w : World) : (callFunc g #[x]).run P w = .ok (.value x) w := by
  unfold isNoEscape at h
  split at h
  case h_2 => cases h
  rename_i fn hfn
  simp only [Bool.and_eq_true, beq_iff_eq] at h
  obtain ⟨⟨h1, h2⟩, h3⟩ := h
  have n1 : Extern.findNext fn = none := by
    unfold Extern.findNext
    rw [h1, h2]
    simp only [noEscape_b1, noEscape_b2]
    rfl
  have n2 : Extern.find fn = some Extern.AbiNoEscape.same := by
    unfold Extern.find
    rw [h1]
    simp only [Option.isNone_iff_eq_none.1 noEscape_b3, Option.isNone_iff_eq_none.1 noEscape_b4, noEscape_b5]
    rfl
  have hn : ¬ (fn.name == "runtime.NumGoroutine") = true := by rw [h1]; decide
  have hs : Extern.AbiNoEscape.same #[x] = pure x := rfl
  simp only [callFunc, Sem.run_bind, run_program, Result.andThen_ok, hfn, if_neg hn, if_pos h3, run_mark, n1, n2, hs, Sem.run_pure]
end Go.Ae
namespace Go.Ae

/-- The first m elements' cells. -/
def srcN (H : AHeap) (k m : Nat) (x : Value) : Option (List Value) :=
  match x with
  | .slice (some a) _ _ => H.cellsAt a (m * k)
  | .string s => if k = 1 then some ((s.extract 0 m).data.toList.map fun b => .int .u8 b.toNat) else none
  | _ => none
def lenV (x : Value) : Option Nat :=
  match x with
  | .slice _ n _ => some n
  | .string s => some s.size
  | _ => none
def copyA (P : Program) (H : AHeap) (t : TypeId) (d x : Value) : Option (Value × AHeap) :=
  match P.underlying t, d, lenV x with
  | some (.slice e), .slice base dLen _, some n =>
    match szT P e with
    | some (k + 1) =>
      if Nat.min n dLen = 0 then some (.int .i64 0, H)
      else match base, srcN H (k + 1) (Nat.min n dLen) x with
        | some a, some l => (H.setCells a l).map fun H' => (.int .i64 (Nat.min n dLen), H')
        | _, _ => none
    | _ => none
  | _, _, _ => none

theorem copyA_sim {P : Program} {ρ : Ren} {H H' : AHeap} {w : World} (hH : RelH P ρ H w) {t u ty : TypeId} {d d' x x' v : Value} (h : copyA P H t d x = some (v, H')) (hd : VR ρ d d') (hx : VR ρ x x') :
    ∃ w', (Builtin.copy_ #[t, u] ty #[d', x']).run P w = .ok v w' ∧ VR ρ v v ∧ RelH P ρ H' w' ∧ Ext ρ H w ρ H' w' := by
  unfold copyA at h
  split at h
  case h_2 => cases h
  rename_i e base dLen dCap n hu hn
  split at h
  case h_2 => cases h
  rename_i k hs
  have hlen : ∀ w1, (Builtin.lenOf x').run P w1 = .ok n w1 := by
    intro w1
    unfold lenV at hn
    split at hn <;> simp only [Option.some.injEq, reduceCtorEq] at hn <;> subst hn <;> cases hx <;> simp [Builtin.lenOf]
  split at h
  · rename_i h0
    simp only [Option.some.injEq, Prod.mk.injEq] at h
    obtain ⟨rfl, rfl⟩ := h
    have hf : (Builtin.firstCells (k + 1) 0 x').run P w = .ok #[] w := by
      unfold lenV at hn
      split at hn <;> simp only [Option.some.injEq, reduceCtorEq] at hn <;> cases hx <;> simp [Builtin.firstCells, loadCells, loadCellsFrom]
    refine ⟨w, ?_, .int _ _, hH, ExtN.refl _ _ _ _⟩
    cases hd with
    | nilslice => simp [Builtin.copy_, run_underlying hu, run_sizeT hs, hlen, h0, hf, goInt]
    | slice hp => simp [Builtin.copy_, run_underlying hu, run_sizeT hs, hlen, h0, hf, goInt, storeCells]
  · rename_i h0
    split at h
    case h_2 => cases h
    rename_i a l hl
    simp only [Option.map_eq_some_iff, Prod.mk.injEq] at h
    obtain ⟨H1, hset, rfl, rfl⟩ := h
    cases hd with
    | slice hp =>
    rename_i b cap'
    have hmin : Nat.min n dLen ≤ n ∧ Nat.min n dLen ≤ dLen := ⟨Nat.min_le_left _ _, Nat.min_le_right _ _⟩
    have hpr : PR ρ a b := by
      rcases hp with ⟨e1, _⟩ | ⟨_, _, hp⟩ | ⟨_, s, h1, h2, h3, _⟩
      · omega
      · exact hp
      · exact ⟨s, h1, h2, h3⟩
    have hsrc : ∃ l', VRs ρ l l' ∧ (Builtin.firstCells (k + 1) (Nat.min n dLen) x').run P w = .ok l'.toArray w := by
      unfold srcN at hl
      unfold lenV at hn
      split at hl
      · rename_i ax m cx
        simp only [Option.some.injEq] at hn
        subst hn
        cases hx with
        | slice hq =>
          rename_i bx cx'
          have hqr : PR ρ ax bx := by
            rcases hq with ⟨e1, _⟩ | ⟨_, _, hp⟩ | ⟨_, s, h1, h2, h3, _⟩
            · omega
            · exact hp
            · exact ⟨s, h1, h2, h3⟩
          obtain ⟨hn1, l', hv, hc⟩ := cellsAt_sim hH hqr hl
          have hr := run_loadCells_list (P := P) w bx l' hc
          rw [← hv.length, hn1] at hr
          exact ⟨l', hv, by simpa [Builtin.firstCells] using hr⟩
      · rename_i s
        split at hl
        case isFalse => cases hl
        rename_i hk
        simp only [Option.some.injEq] at hl
        subst hl
        cases hx
        refine ⟨_, VRs.of_simple (fun x hx => ?_), ?_⟩
        · simp only [List.mem_map] at hx
          obtain ⟨b, _, rfl⟩ := hx
          rfl
        · simp only [Builtin.firstCells, Sem.run_pure]
          congr 1
          apply Array.ext'
          simp
      · cases hl
    obtain ⟨l', hv, hr⟩ := hsrc
    obtain ⟨w', h1, h2, h3⟩ := setCells_sim hH hpr hset hv
    exact ⟨w', by simp [Builtin.copy_, run_underlying hu, run_sizeT hs, hlen, hr, goInt, h1], .int _ _, h2, h3⟩

def noEscA (P : Program) (H : AHeap) (f x : Value) : Option (Value × AHeap) :=
  match f with
  | .func (.func g) ⟨[]⟩ ⟨[]⟩ => if isNoEscape P g then some (x, H) else none
  | _ => none
/-- The operations that write. -/
def aE (P : Program) (ev : Operand → Value) (H : AHeap) (o : Oper) : Option (Value × AHeap) :=
  match o.op with
  | .store t x v => (storeA P H t (ev x) (ev v)).map fun H' => (undef, H')
  | .call c => match c.callee, c.args.toList, c.argTypes.toList with
    | .builtin .append, [s, x], [t, u] => appendA P H t u (ev s) (ev x)
    | .builtin .copy, [d, x], [t, _] => copyA P H t (ev d) (ev x)
    | .builtin .unsafeSliceData, [x], _ => sliceDataA H (ev x)
    | .builtin .unsafeString, [p, n], ts => unsafeStrA P H ts (ev p) (ev n)
    | .value f, [x], _ => noEscA P H (ev f) (ev x)
    | _, _, _ => none
  | _ => aO P ev H o
theorem aE_sim {P : Program} {ρ : Ren} {H H' : AHeap} {w : World} (hH : RelH P ρ H w) {ev ev' : Operand → Value} {o : Oper} {v : Value} (h : aE P ev H o = some (v, H'))
    (hv : ∀ x ∈ o.op.operands, VR ρ (ev x) (ev' x)) :
    ∃ v' ρ' w', ((execOp ev' o).run P w = .ok (.value v') w' ∨ (v' = undef ∧ (execOp ev' o).run P w = .ok .skip w')) ∧ VR ρ' v v' ∧ RelH P ρ' H' w' ∧ Ext ρ H w ρ' H' w' := by
  obtain ⟨dst, op, type, pos, after, guard⟩ := o
  unfold aE at h
  split at h
  · rename_i t x y heq
    dsimp only at heq; subst heq
    simp only [Option.map_eq_some_iff, Prod.mk.injEq] at h
    obtain ⟨H1, hst, rfl, rfl⟩ := h
    obtain ⟨w', h1, h2, h3⟩ := storeA_sim hH hst (hv x (by simp [Op.operands])) (hv y (by simp [Op.operands]))
    exact ⟨undef, ρ, w', .inr ⟨rfl, by simp [execOp, h1]⟩, .tuple rfl (by simp), h2, h3⟩
  · rename_i c heq
    dsimp only at heq; subst heq
    obtain ⟨callee, args, argTypes⟩ := c
    obtain ⟨args⟩ := args
    obtain ⟨argTypes⟩ := argTypes
    split at h
    · rename_i s x t u hc ha ht
      dsimp only at hc ha ht
      subst hc ha ht
      obtain ⟨v', ρ', w', h1, h2, h3, h4⟩ := appendA_sim (ty := type) hH h (hv s (by simp [Op.operands, Call.operands])) (hv x (by simp [Op.operands, Call.operands]))
      exact ⟨v', ρ', w', .inl (by simp [execOp, resolve, invoke, builtin, h1]), h2, h3, h4⟩
    · rename_i d x t u hc ha ht
      dsimp only at hc ha ht
      subst hc ha ht
      obtain ⟨w', h1, h2, h3, h4⟩ := copyA_sim (u := u) (ty := type) hH h (hv d (by simp [Op.operands, Call.operands])) (hv x (by simp [Op.operands, Call.operands]))
      exact ⟨v, ρ, w', .inl (by simp [execOp, resolve, invoke, builtin, h1]), h2, h3, h4⟩
    · rename_i ts x hc ha
      dsimp only at hc ha
      subst hc ha
      obtain ⟨v', h1, h2, h3⟩ := sliceDataA_sim (ts := ⟨argTypes⟩) (ty := type) hH h (hv x (by simp [Op.operands, Call.operands]))
      have hHH : H' = H := by
        unfold sliceDataA at h
        split at h
        · simp only [Option.some.injEq, Prod.mk.injEq] at h; exact h.2.symm
        · split at h
          · simp only [Option.some.injEq, Prod.mk.injEq] at h; exact h.2.symm
          · cases h
        · cases h
      subst hHH
      exact ⟨v', ρ, w, .inl (by simp [execOp, resolve, invoke, builtin, h1]), h2, h3, ExtN.refl _ _ _ _⟩
    · rename_i ts p n hc ha
      dsimp only at hc ha
      subst hc ha
      obtain ⟨w', h1, h2, h3, h4⟩ := unsafeStrA_sim (ty := type) hH h (hv p (by simp [Op.operands, Call.operands])) (hv n (by simp [Op.operands, Call.operands]))
      exact ⟨v, ρ, w', .inl (by simp [execOp, resolve, invoke, builtin] at h1 ⊢; simp [h1]), h2, h3, h4⟩
    · rename_i ts f x hc ha
      dsimp only at hc ha
      subst hc ha
      unfold noEscA at h
      split at h
      case h_2 => cases h
      rename_i g hf
      split at h
      case isFalse => cases h
      rename_i hg
      simp only [Option.some.injEq, Prod.mk.injEq] at h
      obtain ⟨rfl, rfl⟩ := h
      have hfv := hv f (by simp [Op.operands, Call.operands])
      rw [hf] at hfv
      generalize hz : ev' f = z at hfv
      cases hfv
      rename_i ys vs hx hX hu hU
      obtain rfl : ys = #[] := by simpa using hx.symm
      obtain rfl : vs = #[] := by simpa using hu.symm
      refine ⟨ev' x, ρ, w, .inl ?_, hv x (by simp [Op.operands, Call.operands]), hH, ExtN.refl _ _ _ _⟩
      have := run_noEscape hg (ev' x) w
      simp [execOp, resolve, hz, Deferred.ofValue, invoke, this]
    · cases h
  · exact aO_sim hH h hv

end Go.Ae

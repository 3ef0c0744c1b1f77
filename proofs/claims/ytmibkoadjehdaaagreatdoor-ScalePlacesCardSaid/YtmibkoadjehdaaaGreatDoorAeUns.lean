/- What strings.Builder asks of package unsafe, over the abstract heap. No condition. -/
import Derived.Test.YtmibkoadjehdaaaGreatDoorAeObj
import Derived.Lib.UnsafeStr
import Derived.KernelRfl
namespace Go.Ae

/-- The place of a slice's first element. -/
def sliceDataA (H : AHeap) (x : Value) : Option (Value × AHeap) :=
  match x with
  | .slice none _ _ => some (.pointer none, H)
  | .slice (some a) n c => if n ≠ 0 ∧ c ≠ 0 then some (.pointer (some a), H) else none
  | _ => none
theorem sliceDataA_sim {P : Program} {ρ : Ren} {H H' : AHeap} {w : World} (hH : RelH P ρ H w) {ts : Array TypeId} {ty : TypeId} {x x' v : Value} (h : sliceDataA H x = some (v, H')) (hx : VR ρ x x') :
    ∃ v', (Builtin.unsafeSliceData_ ts ty #[x']).run P w = .ok v' w ∧ VR ρ v v' ∧ RelH P ρ H' w := by
  unfold sliceDataA at h
  split at h
  · simp only [Option.some.injEq, Prod.mk.injEq] at h
    obtain ⟨rfl, rfl⟩ := h
    cases hx
    exact ⟨_, rfl, .nilptr, hH⟩
  · rename_i a n c
    split at h
    case isFalse => cases h
    rename_i hc
    simp only [Option.some.injEq, Prod.mk.injEq] at h
    obtain ⟨rfl, rfl⟩ := h
    cases hx with
    | slice hp =>
      rename_i b cap'
      have hpr : PR ρ a b ∧ cap' ≠ 0 := by
        rcases hp with ⟨e1, _⟩ | ⟨_, e2, hp⟩ | ⟨_, s, h1, h2, h3, _, _, h4, _⟩
        · exact absurd e1 hc.1
        · exact ⟨hp, by rw [e2]; exact hc.2⟩
        · exact ⟨⟨s, h1, h2, h3⟩, by omega⟩
      exact ⟨_, Lib.run_unsafeSliceData_row _ _ _ _ _ _ hpr.2, .ptr hpr.1, hH⟩
  · cases h

theorem run_loadBytesI {P : Program} (w : World) : ∀ (ns : List Int) (a : Addr) (acc : ByteArray), (∀ j v, (ns.map (Value.int .u8))[j]? = some v → w.cell? (a.add j) = some v) →
    (loadBytes a acc ns.length).run P w = .ok (ns.foldl (fun r n => r.push (UInt8.ofNat n.toNat)) acc) w
  | [], a, acc, _ => by simp [loadBytes]
  | x :: l, a, acc, h => by
    have h0 : w.cell? a = some (.int .u8 x) := by
      have := h 0 _ rfl
      simpa [Addr.add] using this
    have ih := run_loadBytesI (P := P) w l (a.add 1) (acc.push (UInt8.ofNat x.toNat)) (fun j y hy => by
      have := h (j + 1) y (by simpa using hy)
      have e : (a.add 1).add j = a.add (j + 1) := by
        unfold Addr.add
        by_cases hj : j = 0
        · subst hj; simp
        · simp [hj]; omega
      rw [e]; exact this)
    simp only [List.length_cons, loadBytes, Sem.run_bind, run_load, h0, Result.andThen, List.foldl_cons]
    exact ih

/-- Bytes as a string; from then on they are read alone. -/
def unsafeStrA (P : Program) (H : AHeap) (ts : List TypeId) (p n : Value) : Option (Value × AHeap) :=
  match p, n, ts with
  | .pointer _, .int .i64 (.ofNat 0), [_, _] => some (.string .empty, H)
  | .pointer (some a), .int .i64 (.ofNat (n + 1)), [pt, _] => match P.underlying pt, H.rowAt a with
    | some (.pointer e), some r => if szT P e = some 1 ∧ r.elem = e ∧ r.rw = true ∧ n < 9223372036854775807 then
        ((H.cellsAt a (n + 1)).bind bytesOf).map fun ns => (.string (strOf ns), H.put a.block (.row { r with rw := false }))
      else none
    | _, _ => none
  | _, _, _ => none
theorem unsafeStrA_sim {P : Program} {ρ : Ren} {H H' : AHeap} {w : World} (hH : RelH P ρ H w) {ts : List TypeId} {ty : TypeId} {p n p' n' v : Value} (h : unsafeStrA P H ts p n = some (v, H')) (hp : VR ρ p p') (hn : VR ρ n n') :
    ∃ w', (Builtin.unsafeString_ ts.toArray ty #[p', n']).run P w = .ok v w' ∧ VR ρ v v ∧ RelH P ρ H' w' ∧ Ext ρ H w ρ H' w' := by
  unfold unsafeStrA at h
  split at h
  · rename_i a pt it
    simp only [Option.some.injEq, Prod.mk.injEq] at h
    obtain ⟨rfl, rfl⟩ := h
    cases hn
    refine ⟨w, ?_, .string _, hH, ExtN.refl _ _ _ _⟩
    cases hp
    · exact Lib.run_unsafeString_none w pt it ty none
    · exact Lib.run_unsafeString_none w pt it ty (some _)
  · rename_i a n pt it
    split at h
    case h_2 => cases h
    rename_i e r hu hr
    split at h
    case isFalse => cases h
    rename_i hc
    obtain ⟨hsz, he, hrw, hn63⟩ := hc
    simp only [Option.map_eq_some_iff, Option.bind_eq_some_iff, Prod.mk.injEq] at h
    obtain ⟨ns, ⟨l, hl, hb⟩, rfl, rfl⟩ := h
    cases hn
    cases hp with
    | ptr hpr =>
      obtain ⟨hll, l', hv, hcell⟩ := cellsAt_sim hH hpr hl
      obtain ⟨hg, hver⟩ := AHeap.rowAt_spec hr
      have hlen0 : a.off + (n + 1) ≤ r.cells.length := by
        unfold AHeap.cellsAt at hl
        rw [hr, Option.bind_some] at hl
        split at hl
        · assumption
        · cases hl
      obtain ⟨s, h1, h2, rfl, g1, g2, g3, c, fz, hcc, hcs, hfit, hcells, hfz⟩ := rowAt_world hH hr hpr
      obtain rfl := bytesOf_eq hb
      obtain rfl := hv.ints
      have hnl : ns.length = n + 1 := by simpa using hll
      subst he
      have hsh : w.shape? s.blk = some (r.elem, c.size) := by simp [World.shape?, hcc]
      have hco := cellsOf_sz hsz
      have hlies := liesAt_own (P := P) (m := 0) (by simpa using hco) c.size (s.base + (a.off - s.lo)) (n + 1) (by omega)
      simp only [Nat.zero_add, Nat.mul_one] at hlies
      have hload := run_loadBytesI (P := P) w ns (s.at a.off) .empty hcell
      rw [hnl] at hload
      have hmax : IntKind.i64.max = 9223372036854775807 := rfl
      have hge : ¬ (9223372036854775807 : Int) < ((n : Int) + 1) := by omega
      have hneg : ¬ ((n : Int) + 1) < 0 := by omega
      have hne : ¬ ((n : Int) + 1) = 0 := by omega
      have htn : ((n : Int) + 1).toNat = n + 1 := by omega
      refine ⟨w.freeze (s.at a.off) (n + 1), ?_, .string _, ?_⟩
      · have hlies' : liesAt P P.depth r.elem (c.size / P.cellsOf r.elem) (s.at a.off).off r.elem (n + 1) = true := by
          rw [hco, Nat.div_one]; exact hlies
        have hsh' : w.shape? (s.at a.off).block = some (r.elem, c.size) := hsh
        generalize s.at a.off = b at *
        have hdef : Builtin.unsafeString_ #[pt, it] ty #[.pointer (some b), .int .i64 (Int.ofNat (n + 1))] =
            (do
              let n ← asInt (.int .i64 (Int.ofNat (n + 1)))
              if n < 0 then runtimePanic (.error "unsafe.String: len out of range")
              if n > IntKind.i64.max then unsupported (.unsafePointer "String: a length above the largest int")
              if n = 0 then pure (.string .empty)
              else if ← variablesAt b (← elemOf pt) n.toNat then do
                let s ← loadBytes b .empty n.toNat
                freeze b n.toNat
                pure (.string s)
              else unsupported (.unsafePointer "String: not so many bytes at ptr")) := rfl
        show (Builtin.unsafeString_ #[pt, it] ty #[.pointer (some b), .int .i64 (Int.ofNat (n + 1))]).run P w = _
        rw [hdef]
        simp [asInt, asIntOf, hmax, hge, hneg, hne, htn, variablesAt, hsh', elemOf, run_underlying hu, hlies', hload, strOf]
      · have hlt : s.blk < w.heap.size := (hH.dom _ _ _ h1).2
        have hget : (w.freeze (s.at a.off) (n + 1)).heap[s.blk]? = some (.cells c r.elem (if fz.1 == fz.2 then (s.base + (a.off - s.lo), s.base + (a.off - s.lo) + (n + 1)) else (min fz.1 (s.base + (a.off - s.lo)), max fz.2 (s.base + (a.off - s.lo) + (n + 1))))) := by
          unfold World.freeze
          rw [if_neg (by omega)]
          simp only [Seg.at, Array.getElem?_modify, if_true, hcc, Option.map_some]
        refine put_place (r' := { r with rw := false }) hH hg hrw rfl h1 ⟨g1, g2, (fun h => by cases h), c, _, hget, hcs, hfit, hcells, (fun h => by cases h)⟩ (fun k hk => ?_) ?_ ?_ ?_
        · unfold World.freeze
          rw [if_neg (by omega)]
          simp only [Seg.at, Array.getElem?_modify]
          rw [if_neg (fun e => hk e.symm)]
        · unfold World.freeze
          rw [if_neg (by omega)]
          simp
        · unfold World.freeze
          rw [if_neg (by omega)]
        · unfold World.freeze
          rw [if_neg (by omega)]
  · cases h

/-- abi.NoEscape: the same value. -/
def isNoEscape (P : Program) (g : FuncId) : Bool := match P.funcs[g]? with
  | some fn => fn.name == "internal/abi.NoEscape" && fn.origin == "" && fn.body.isNone
  | none => false
theorem noEscape_b1 : Extern.allNextRows.lookup "internal/abi.NoEscape" = none := by kernel_rfl
theorem noEscape_b2 : Extern.allNextRows.lookup "" = none := by kernel_rfl
theorem noEscape_b3 : (Extern.allGenericRows.lookup "internal/abi.NoEscape").isNone = true := by kernel_rfl
theorem noEscape_b4 : (Extern.allTypedRows.lookup "internal/abi.NoEscape").isNone = true := by kernel_rfl
theorem noEscape_b5 : Extern.allRows.lookup "internal/abi.NoEscape" = some Extern.AbiNoEscape.same := by kernel_rfl
theorem run_noEscape {P : Program} {g : FuncId} (h : isNoEscape P g = true) (x : Value) (w : World) : (callFunc g #[x]).run P w = .ok (.value x) w := by
  unfold isNoEscape at h
  split at h
  case h_2 => cases h
  rename_i fn hfn
  simp only [Bool.and_eq_true, beq_iff_eq] at h
  obtain ⟨⟨h1, h2⟩, h3⟩ := h
  have n1 : Extern.findNext fn = none := by
    unfold Extern.findNext
    rw [h1, h2]
    simp only [noEscape_b1, noEscape_b2]
    rfl
  have n2 : Extern.find fn = some Extern.AbiNoEscape.same := by
    unfold Extern.find
    rw [h1]
    simp only [Option.isNone_iff_eq_none.1 noEscape_b3, Option.isNone_iff_eq_none.1 noEscape_b4, noEscape_b5]
    rfl
  have hn : ¬ (fn.name == "runtime.NumGoroutine") = true := by rw [h1]; decide
  have hs : Extern.AbiNoEscape.same #[x] = pure x := rfl
  simp only [callFunc, Sem.run_bind, run_program, Result.andThen_ok, hfn, if_neg hn, if_pos h3, run_mark, n1, n2, hs, Sem.run_pure]
end Go.Ae

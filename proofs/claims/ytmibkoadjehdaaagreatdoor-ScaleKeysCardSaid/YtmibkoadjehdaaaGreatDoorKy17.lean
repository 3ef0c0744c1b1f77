/- More of what one operation gives: texts by their bytes, interfaces, arrays' elements, what a strings.Builder asks. Facts on the types of this program, for ScaleKeys. -/
import Derived.Test.YtmibkoadjehdaaaGreatDoorKy14
import Derived.Test.YtmibkoadjehdaaaGreatDoorKy16
import Derived.Test.YtmibkoadjehdaaaGreatDoorKy13
import Derived.Test.YtmibkoadjehdaaaGreatDoorKy15
set_option linter.unusedVariables false
set_option linter.unusedSimpArgs false
set_option linter.unusedVariables false
set_option linter.unusedSimpArgs false
namespace Go.Ae

/-! Texts by their bytes -/
theorem strB_size (bs : List UInt8) : (strB bs).size = bs.length := by simp [strB, ByteArray.size]
theorem strB_get (bs : List UInt8) (i : Nat) : (strB bs)[i]? = bs[i]? := by
  by_cases h : i < bs.length
  · have h' : i < (strB bs).size := by rw [strB_size]; exact h
    rw [getElem?_pos (strB bs) i h', getElem?_pos bs i h]
    congr 1
  · have h' : ¬ i < (strB bs).size := by rw [strB_size]; exact h
    rw [getElem?_neg (strB bs) i h', getElem?_neg bs i h]
theorem strB_extract (bs : List UInt8) (l h : Nat) : (strB bs).extract l h = strB ((bs.drop l).take (h - l)) := by
  apply ByteArray.ext
  simp [strB, List.extract_eq_take_drop]
theorem strB_append (a b : List UInt8) : strB a ++ strB b = strB (a ++ b) := by
  apply ByteArray.ext
  simp [strB]
section
variable {P : Program} {N : Nat} {E : Env} {H H' : AHeap} {u v : Value} {d : Nat} {d' : Option Nat} {t yt ty : TypeId} {p : String} {af : Array Edge} {g : Option (Nat × Bool)} {x y : Operand}

theorem r_strix {bs : List UInt8} {k : IntKind} {i : Int} {j : Nat} {b : UInt8} [un : UnT P t .string] (hx : evE E x = some (.string (strB bs)) := by exact rfl) (hy : evE E y = some (.int k i) := by exact rfl) (hi : i = (j : Int)) (hb : bs[j]? = some b) :
    Nr P N E H ⟨some d, .index t x y, ty, p, af, g⟩ (.int .u8 (b.toNat : Int)) H := ⟨rfl, rfl, fun a ha => by
  have hx := ha.eval hx
  have hy := ha.eval hy
  have hu := un.h
  subst hi
  have hq : quiet P (execOp a.eval ⟨some d, .index t x y, ty, p, af, g⟩) = some (.value (.int .u8 (b.toNat : Int))) := by
    have h1 : quiet P (asIntOf (.int k (j : Int))) = some (k, (j : Int)) := rfl
    have h2 : (if (0 : Int) ≤ (j : Int) then (strB bs)[(j : Int).toNat]? else none) = some b := by
      rw [if_pos (by omega), Int.toNat_natCast, strB_get, hb]
    simp only [execOp, hx, hy, Instr.index, quiet_map, quiet_bind, h1, Option.bind_some, quiet_underlying, hu, h2, quiet_pure, Option.map_some]
  have h2 : quietOp P a.eval ⟨some d, .index t x y, ty, p, af, g⟩ = some _ := quietOp_of (by simp [Op.operands, hx, hy, simpleV]) hq rfl
  simp [nRes, aP, hx, simpleV, h2]⟩
theorem r_strsl {bs : List UInt8} {lo hi : Option Operand} {lv hv : Option Value} {l h : Nat} [un : UnT P t .string] (hx : evE E x = some (.string (strB bs)) := by exact rfl) (hl : evO E lo = some lv := by exact rfl) (hh : evO E hi = some hv := by exact rfl)
    (h1 : (lv = none ∧ l = 0) ∨ ∃ k, lv = some (.int k (l : Int))) (h2 : (hv = none ∧ h = bs.length) ∨ ∃ k, hv = some (.int k (h : Int))) (h3 : l ≤ h) (h4 : h ≤ bs.length) :
    Nr P N E H ⟨some d, .slice t x lo hi none, ty, p, af, g⟩ (.string (strB ((bs.drop l).take (h - l)))) H := ⟨rfl, rfl, fun a ha => by
  have hx := ha.eval hx
  have hl := evO_eval ha hl
  have hh := evO_eval ha hh
  have hu := un.h
  have bnd : ∀ (k : IntKind) (n m : Nat) (c : BoundsCode), n ≤ m → quiet P (Instr.sliceBound (.int k (n : Int)) m c) = some n := by
    intro k n m c hnm
    have h1 : quiet P (asIntOf (.int k (n : Int))) = some (k, (n : Int)) := rfl
    simp only [Instr.sliceBound, quiet_bind, h1, Option.bind_some]
    rw [if_pos (by omega), quiet_pure, Int.toNat_natCast]
  have hb : quiet P (Instr.sliceBounds false (strB bs).size (strB bs).size (lo.map a.eval) (hi.map a.eval) none) = some (l, h, (strB bs).size) := by
    rw [hl, hh, strB_size]
    unfold Instr.sliceBounds
    rcases h1 with ⟨rfl, rfl⟩ | ⟨k, rfl⟩ <;> rcases h2 with ⟨rfl, rfl⟩ | ⟨k', rfl⟩ <;> simp [quiet_bind, quiet_pure, quiet_map, bnd, h3, h4]
  have hq : quiet P (execOp a.eval ⟨some d, .slice t x lo hi none, ty, p, af, g⟩) = some (.value (.string (strB ((bs.drop l).take (h - l))))) := by
    rw [← strB_extract]
    simp only [execOp, hx, Instr.sliceAt, Instr.slice, Option.map_none, Option.isSome_none, Bool.false_eq_true, if_false, quiet_map, quiet_bind, quiet_underlying, hu, Option.bind_some, hb, quiet_pure, Option.map_some]
    try rfl
  have hs : (Op.slice t x lo hi none).operands.all (fun x => simpleV (a.eval x)) = true := by
    rcases h1 with ⟨rfl, _⟩ | ⟨k, rfl⟩ <;> rcases h2 with ⟨rfl, _⟩ | ⟨k', rfl⟩ <;> cases lo <;> cases hi <;> simp_all [Op.operands, simpleV]
  have h5 : quietOp P a.eval ⟨some d, .slice t x lo hi none, ty, p, af, g⟩ = some _ := quietOp_of hs hq rfl
  simp [nRes, aP, hx, isStrV, h5]⟩
theorem r_stradd {bs cs : List UInt8} (hx : evE E x = some (.string (strB bs)) := by exact rfl) (hy : evE E y = some (.string (strB cs)) := by exact rfl) (hl : bs.length + cs.length ≤ 9223372036854775807) :
    Nr P N E H ⟨some d, .binOp .add t x y yt, ty, p, af, g⟩ (.string (strB (bs ++ cs))) H := r_str hx hy (by simp only [strBin, strB_size, if_pos hl, strB_append])
def ltB (bs cs : List UInt8) : Bool := Op.bytesLess bs cs
theorem r_strlt {bs cs : List UInt8} (hx : evE E x = some (.string (strB bs)) := by exact rfl) (hy : evE E y = some (.string (strB cs)) := by exact rfl) : Nr P N E H ⟨some d, .binOp .lss t x y yt, ty, p, af, g⟩ (.bool (decide (ltB bs cs = true))) H :=
  r_str hx hy (by
    simp only [strBin, strB_toList, Option.some.injEq, Value.bool.injEq, Bool.decide_eq_true]
    rfl)
theorem r_strgt {bs cs : List UInt8} (hx : evE E x = some (.string (strB bs)) := by exact rfl) (hy : evE E y = some (.string (strB cs)) := by exact rfl) : Nr P N E H ⟨some d, .binOp .gtr t x y yt, ty, p, af, g⟩ (.bool (decide (¬ leB bs cs = true))) H :=
  r_str hx hy (by
    simp only [strBin, strB_toList, Option.some.injEq, Value.bool.injEq]
    cases h : leB bs cs <;> (unfold leB at h; simp [h]))
theorem r_strge {bs cs : List UInt8} (hx : evE E x = some (.string (strB bs)) := by exact rfl) (hy : evE E y = some (.string (strB cs)) := by exact rfl) : Nr P N E H ⟨some d, .binOp .geq t x y yt, ty, p, af, g⟩ (.bool (decide (¬ ltB bs cs = true))) H :=
  r_str hx hy (by
    simp only [strBin, strB_toList, Option.some.injEq, Value.bool.injEq]
    cases h : ltB bs cs <;> (unfold ltB at h; simp [h]))
/-! Interfaces; elements and fields of values -/
def nIf : TypeDesc → Bool
  | .interface _ => false
  | _ => true
theorem r_mki {D : TypeDesc} (un : UnT P t D := by exact inferInstance) (hx : evE E x = some v := by exact rfl) (hd : nIf D = true := by exact rfl) : Nr P N E H ⟨some d, .makeInterface t x, ty, p, af, g⟩ (.iface t v) H := ⟨rfl, rfl, fun a ha => by
  have hx := ha.eval hx
  have hu := un.h
  cases D <;> first | (cases hd; done) | simp [nRes, aP, hu, hx]⟩
theorem r_ix {i : Value} (hx : evE E x = some u := by exact rfl) (hy : evE E y = some i := by exact rfl) (hs : simpleV u = false := by exact rfl) (h : indexA P t u i = some v) : Nr P N E H ⟨some d, .index t x y, ty, p, af, g⟩ v H := ⟨rfl, rfl, fun a ha => by
  have hx := ha.eval hx
  have hy := ha.eval hy
  simp [nRes, aP, hx, hy, hs, h]⟩
theorem r_neA {b : Bool} {D : TypeDesc} (un : UnT P t D := by exact inferInstance) (hx : evE E x = some u := by exact rfl) (hy : evE E y = some v := by exact rfl) (hs : (simpleV u && simpleV v) = false := by exact rfl) (he : eqA P D u v = some b) :
    Nr P N E H ⟨some d, .binOp .neq t x y yt, ty, p, af, g⟩ (.bool !b) H := ⟨rfl, rfl, fun a ha => by
  have hx := ha.eval hx
  have hy := ha.eval hy
  simp only [nRes, aP, hx, hy, hs, Bool.false_eq_true, if_false, un.h, he, Option.map_some]⟩
theorem r_nil2 {e : TypeId} (un : UnT P t (.pointer e) := by exact inferInstance) (hx : evE E x = some (.pointer none) := by exact rfl) (hy : evE E y = some (.pointer none) := by exact rfl) : Nr P N E H ⟨some d, .binOp .eql t x y yt, ty, p, af, g⟩ (.bool true) H := ⟨rfl, rfl, fun a ha => by
  have hx := ha.eval hx
  have hy := ha.eval hy
  have he : quiet P (Op.equal t (.pointer none) (.pointer none)) = some true := by
    unfold Op.equal Op.maxDepth Op.equalIn
    simp [quiet_bind, quiet_underlying, un.h, quiet_pure]
  have hq : quiet P (execOp a.eval ⟨some d, .binOp .eql t x y yt, ty, p, af, g⟩) = some (.value (.bool true)) := by
    simp [execOp, hx, hy, quiet_bind, quiet_pure, quiet_map, eqGuard, binOp, he]
  have h2 : quietOp P a.eval ⟨some d, .binOp .eql t x y yt, ty, p, af, g⟩ = some _ := quietOp_of (by simp [Op.operands, hx, hy, simpleV]) hq rfl
  simp [nRes, aP, hx, hy, simpleV, h2]⟩
/-! Bytes of a text, in a row of their own -/
theorem r_bytes {b : Nat} (hb : b = H.next) {s e : TypeId} {bs : List UInt8} [us : UnT P s .string] [ut : UnT P t (.slice e)] [ue : UnT P e (.int .u8)] [sz : SzT P e 1] (hx : evE E x = some (.string (strB bs)) := by exact rfl) (hl : bs.length < openCap) :
    Nc P N E H ⟨some d, .convert s t x, ty, p, af, g⟩ (.slice (some ⟨b, 0, none⟩) bs.length (openCap + 1)) (H.push (.row ⟨bytesV bs, e, 0, true⟩)) := ⟨rfl, fun a ha => by
  have hx := ha.eval hx
  subst hb
  have h1 : aR P a.eval H ⟨some d, .convert s t x, ty, p, af, g⟩ = none := by simp [aR, toStrA, uptrA, us.h, ut.h]
  have h2 : aA P a.eval ⟨some d, .convert s t x, ty, p, af, g⟩ = some (⟨bytesV bs, e, 0, true⟩, fun n => .slice (some ⟨n, 0, none⟩) bs.length (openCap + 1)) := by
    simp only [aA, us.h, ut.h, hx, ue.h, sz.h, strB_size, if_pos hl]
    simp [strB, bytesV]
  simp only [nRes, h1, h2]⟩
/-! What a strings.Builder asks of package unsafe -/
theorem rc_uptr {s : TypeId} {ad : Addr} {k : Nat} {r : Row} (us : P.underlying s = some (.pointer t)) {dst : TypeId} (ud : P.underlying dst = some .unsafePointer) (sz : szT P t = some (k + 1)) (hx : evE E x = some (.pointer (some ad)) := by exact rfl)
    (hr : H.rowAt ad = some r) (hl : ad.off < r.cells.length) : Nc P N E H ⟨some d, .convert s dst x, ty, p, af, g⟩ (.pointer (some ad)) H := ⟨rfl, fun a ha => by
  have hx := ha.eval hx
  have h1 : toStrA P H s dst (.pointer (some ad)) = none := by simp [toStrA, us, ud]
  have h2 : uptrA P H s dst (.pointer (some ad)) = some (.pointer (some ad)) := by simp [uptrA, us, ud, sz, hr, hl]
  simp only [nRes, aR, hx, h1, h2]⟩
theorem rc_uptr' {s : TypeId} {ad : Addr} {k : Nat} {r : Row} (us : P.underlying s = some .unsafePointer) {dst : TypeId} (ud : P.underlying dst = some (.pointer t)) (sz : szT P t = some (k + 1)) (hx : evE E x = some (.pointer (some ad)) := by exact rfl)
    (hr : H.rowAt ad = some r) (hl : r.elem = t ∧ r.rw = true ∧ r.ver = 0 ∧ ad.off = 0 ∧ k + 1 ≤ r.cells.length) : Nc P N E H ⟨some d, .convert s dst x, ty, p, af, g⟩ (.pointer (some ad)) H := ⟨rfl, fun a ha => by
  have hx := ha.eval hx
  have h1 : toStrA P H s dst (.pointer (some ad)) = none := by simp [toStrA, us, ud]
  have h2 : uptrA P H s dst (.pointer (some ad)) = some (.pointer (some ad)) := by simp only [uptrA, us, ud, sz, hr, if_pos hl]
  simp only [nRes, aR, hx, h1, h2]⟩
theorem er_noesc {c : Call} {f : FuncId} (hc : c.callee = .value (.func f) := by exact rfl) (hl : c.args.toList = [x] := by exact rfl) (hn : isNoEscape P f = true) (hx : evE E x = some v := by exact rfl) : Er P N E H ⟨d', .call c, ty, p, af, g⟩ v H := ⟨by simp [isE, hc], fun a ha => by
  have hx := ha.eval hx
  refine ⟨?_, ?_⟩
  · unfold isNoEscape at hn
    cases hf : P.funcs[f]? with
    | none => rw [hf] at hn; cases hn
    | some fn =>
      rw [hf] at hn
      simp only [Bool.and_eq_true, beq_iff_eq] at hn
      unfold acall
      simp only [hc, Act.eval_func, hf, hn.2, Bool.or_true, if_true]
  · unfold aE
    simp only [hc, hl, hx, noEscA]
    rw [show a.eval (.func f) = .func (.func f) #[] #[] from rfl]
    dsimp only
    rw [if_pos hn]⟩
theorem er_sdata {c : Call} {ad : Addr} {n k : Nat} (hc : c.callee = .builtin .unsafeSliceData := by exact rfl) (hl : c.args.toList = [x] := by exact rfl) (hx : evE E x = some (.slice (some ad) n k) := by exact rfl) (h0 : n ≠ 0 ∧ k ≠ 0) : Er P N E H ⟨d', .call c, ty, p, af, g⟩ (.pointer (some ad)) H :=
  ⟨by simp [isE, hc], fun a ha => ⟨ac_builtin hc, by
    have hx := ha.eval hx
    unfold aE
    simp only [hc, hl, hx, sliceDataA, if_pos h0]⟩⟩
theorem er_sdata0 {c : Call} {n k : Nat} (hc : c.callee = .builtin .unsafeSliceData := by exact rfl) (hl : c.args.toList = [x] := by exact rfl) (hx : evE E x = some (.slice none n k) := by exact rfl) : Er P N E H ⟨d', .call c, ty, p, af, g⟩ (.pointer none) H :=
  ⟨by simp [isE, hc], fun a ha => ⟨ac_builtin hc, by
    have hx := ha.eval hx
    unfold aE
    simp only [hc, hl, hx, sliceDataA]⟩⟩
theorem er_ustr0 {c : Call} {z : Option Addr} {pt it : TypeId} (hc : c.callee = .builtin .unsafeString := by exact rfl) (hl : c.args.toList = [x, y] := by exact rfl) (ht : c.argTypes.toList = [pt, it] := by exact rfl) (hx : evE E x = some (.pointer z) := by exact rfl) (hy : evE E y = some (.int .i64 0) := by exact rfl) :
    Er P N E H ⟨d', .call c, ty, p, af, g⟩ (.string (strB [])) H :=
  ⟨by simp [isE, hc], fun a ha => ⟨ac_builtin hc, by
    have hx := ha.eval hx
    have hy := ha.eval hy
    unfold aE
    simp only [hc, hl, ht, hx, hy]
    show unsafeStrA P H [pt, it] (.pointer z) (.int .i64 (.ofNat 0)) = _
    unfold unsafeStrA
    rfl⟩⟩
theorem er_ustr {c : Call} {ad : Addr} {n : Nat} {pt it e : TypeId} {r : Row} {bs : List UInt8} (hc : c.callee = .builtin .unsafeString := by exact rfl) (hl : c.args.toList = [x, y] := by exact rfl) (ht : c.argTypes.toList = [pt, it] := by exact rfl) (hx : evE E x = some (.pointer (some ad)) := by exact rfl)
    (hy : evE E y = some (.int .i64 (n : Int)) := by exact rfl) (hn : n = bs.length) (h0 : bs ≠ []) (up : UnT P pt (.pointer e) := by exact inferInstance) (sz : SzT P e 1 := by exact inferInstance) (hr : H.rowAt ad = some r) (he : r.elem = e ∧ r.rw = true) (hlt : bs.length < 9223372036854775807)
    (hb : H.cellsAt ad bs.length = some (bytesV bs)) : Er P N E H ⟨d', .call c, ty, p, af, g⟩ (.string (strB bs)) (H.put ad.block (.row { r with rw := false })) :=
  ⟨by simp [isE, hc], fun a ha => ⟨ac_builtin hc, by
    have hx := ha.eval hx
    have hy := ha.eval hy
    subst hn
    obtain ⟨m, hm⟩ : ∃ m, bs.length = m + 1 := ⟨bs.length - 1, by have := List.length_pos_iff.2 h0; omega⟩
    rw [hm] at hy hb
    have hz : a.eval y = .int .i64 (.ofNat (m + 1)) := hy
    have hbv : bytesOf (bytesV bs) = some (bs.map fun b => (b.toNat : Int)) := by
      have := bytesOf_map (bs.map fun b => (b.toNat : Int))
      rwa [List.map_map] at this
    unfold aE
    simp only [hc, hl, ht, hx, hz, unsafeStrA, up.h, hr]
    rw [if_pos ⟨sz.h, he.1, he.2, by omega⟩, hb, Option.bind_some, hbv, Option.map_some, strOf_bytes]⟩⟩
end
section
variable {P : Program} {N : Nat} {m m' : Mode} {E : Env} {H H' : AHeap} {v : Value} {d : Nat} {op : Op} {ty : TypeId} {p : String} {af : Array Edge} {g : Option (Nat × Bool)} {x y : Operand}
theorem ew_p2 (hm : m.head = some (⟨some d, op, ty, p, af, g⟩, m') := by exact rfl) (hw : wantE m.ops E g = some true := by exact rfl) (hd : Nat.blt d N = true := by exact rfl)
    (hn : Nr P N E H ⟨some d, op, ty, p, af, g⟩ v H' := by first | exact r_mki | exact r_strix (hi := by first | rfl | omega) (hb := by assumption) | exact r_nil2 | exact r_stradd (hl := by first | omega | (simp; omega))) (h : EW P N m' ((d, v) :: E) H') : EW P N m E H := ew_n hm hw hd hn h
theorem ew_df2 {c : Prop} {_dc : Decidable c} (hm : m.head = some (⟨some d, op, ty, p, af, g⟩, m') := by exact rfl) (hw : wantE m.ops E g = some true := by exact rfl) (hd : Nat.blt d N = true := by exact rfl)
    (hn : Nr P N E H ⟨some d, op, ty, p, af, g⟩ (.bool (decide c)) H := by first | exact r_strlt | exact r_strgt | exact r_strge) (ht : c → EW P N m' ((d, .bool true) :: E) H) (hf : ¬ c → EW P N m' ((d, .bool false) :: E) H) : EW P N m E H := ew_dec hm hw hd hn ht hf
end
/-! A scope that nothing jumps in -/
def scQ (Q : Exit → Act → AHeap → Prop) : Exit → Act → AHeap → Prop
  | .goto _, _, _ => False
  | e, a, H => Q e a H
section
variable {P : Program} {tbl : Tbl} {N : Nat} {E : Env} {H : AHeap} {Q : Exit → Act → AHeap → Prop}
theorem k_scope {c : Code} (hm : P.follows .mixedOrders = true) (hok : codeOk tbl c = true) (h : EC P tbl N c (scQ Q) E H) : EC P tbl N (.scope c) Q E H := fun a ha => by
  show aw P (.scope c) Q a H
  refine aw_scope 1 (aw_mono (awC_sound hm c _ a H hok (h a ha)) fun e a' H' q => ?_)
  cases e <;> first | exact q | exact q.elim
theorem k_label {l : Nat} (h : EX N Q .normal E H) : EC P tbl N (.label l) Q E H := fun a ha => h a ha
theorem x_sn (h : EX N Q .normal E H) : EX N (scQ Q) .normal E H := fun a ha => h a ha
theorem x_sr (h : EX N Q .ret E H) : EX N (scQ Q) .ret E H := fun a ha => h a ha
theorem x_se {id : Nat} (h : EX N Q (.exit id) E H) : EX N (scQ Q) (.exit id) E H := fun a ha => h a ha
end
end Go.Ae
namespace Go.Ae
open Go.Proofs
theorem ag42 : isAggT Tryz.prog 42 = some true := by kernel_rfl
theorem ag44 : isAggT Tryz.prog 44 = some false := by kernel_rfl
theorem ag170 : isAggT Tryz.prog 170 = some false := by kernel_rfl
theorem ag186 : isAggT Tryz.prog 186 = some true := by kernel_rfl
theorem ag224 : isAggT Tryz.prog 224 = some true := by kernel_rfl
theorem ag330 : isAggT Tryz.prog 330 = some true := by kernel_rfl
theorem ag382 : isAggT Tryz.prog 382 = some true := by kernel_rfl
theorem ag404 : isAggT Tryz.prog 404 = some true := by kernel_rfl
theorem bu82 : placesT Tryz.prog 82 = some (#[(0, 1), (1, 1), (2, 1), (3, 1)], [.int .i64 0, .int .i64 0, .string .empty, .slice none 0 0]) := by kernel_rfl
theorem bu86 : placesT Tryz.prog 86 = some (#[(0, 1), (1, 4), (5, 1)], [.string .empty, .int .i64 0, .int .i64 0, .string .empty, .slice none 0 0, .slice none 0 0]) := by kernel_rfl
theorem bu186 : placesT Tryz.prog 186 = some (#[(0, 1), (1, 1), (2, 1), (3, 1)], [.int .i64 0, .int .i64 0, .string .empty, .int .i64 0]) := by kernel_rfl
theorem bu404 : placesT Tryz.prog 404 = some (#[(0, 1), (1, 1), (2, 1)], [.string .empty, .int .i64 0, .int .i64 0]) := by kernel_rfl
theorem fo42_1 : fieldOff Tryz.prog 42 1 = some 1 := by kernel_rfl
theorem fo75_3 : fieldOff Tryz.prog 75 3 = some 3 := by kernel_rfl
theorem fo172_0 : fieldOff Tryz.prog 172 0 = some 0 := by kernel_rfl
theorem fo172_1 : fieldOff Tryz.prog 172 1 = some 1 := by kernel_rfl
theorem fo186_0 : fieldOff Tryz.prog 186 0 = some 0 := by kernel_rfl
theorem fo186_1 : fieldOff Tryz.prog 186 1 = some 1 := by kernel_rfl
theorem fo186_2 : fieldOff Tryz.prog 186 2 = some 2 := by kernel_rfl
theorem fo186_3 : fieldOff Tryz.prog 186 3 = some 3 := by kernel_rfl
theorem fo188_0 : fieldOff Tryz.prog 188 0 = some 0 := by kernel_rfl
theorem fo188_1 : fieldOff Tryz.prog 188 1 = some 1 := by kernel_rfl
theorem fo404_0 : fieldOff Tryz.prog 404 0 = some 0 := by kernel_rfl
theorem fo404_1 : fieldOff Tryz.prog 404 1 = some 1 := by kernel_rfl
theorem fo404_2 : fieldOff Tryz.prog 404 2 = some 2 := by kernel_rfl
theorem sz42 : szT Tryz.prog 42 = some 3 := by kernel_rfl
theorem sz44 : szT Tryz.prog 44 = some 1 := by kernel_rfl
theorem sz170 : szT Tryz.prog 170 = some 1 := by kernel_rfl
theorem sz172 : szT Tryz.prog 172 = some 2 := by kernel_rfl
theorem sz186 : szT Tryz.prog 186 = some 4 := by kernel_rfl
theorem sz224 : szT Tryz.prog 224 = some 3 := by kernel_rfl
theorem sz330 : szT Tryz.prog 330 = some 16 := by kernel_rfl
theorem sz382 : szT Tryz.prog 382 = some 11 := by kernel_rfl
theorem sz404 : szT Tryz.prog 404 = some 3 := by kernel_rfl
theorem ze42 : zeroT Tryz.prog 42 = some [.int .i64 0, .slice none 0 0, .slice none 0 0] := by kernel_rfl
theorem ze44 : zeroT Tryz.prog 44 = some [.int .i64 0] := by kernel_rfl
theorem ze172 : zeroT Tryz.prog 172 = some [.pointer none, .slice none 0 0] := by kernel_rfl
theorem ze186 : zeroT Tryz.prog 186 = some [.int .i64 0, .int .i64 0, .string .empty, .int .i64 0] := by kernel_rfl
theorem ze224 : zeroT Tryz.prog 224 = some [.string .empty, .int .i64 0, .nilFunc] := by kernel_rfl
theorem ze404 : zeroT Tryz.prog 404 = some [.string .empty, .int .i64 0, .int .i64 0] := by kernel_rfl
theorem nm15 : (Tryz.f15.name == "runtime.NumGoroutine" || Tryz.f15.body.isNone) = false := by kernel_rfl
instance : FnT Tryz.prog 15 := ⟨_, Tryz.func15, nm15⟩
theorem nm25 : (Tryz.f25.name == "runtime.NumGoroutine" || Tryz.f25.body.isNone) = false := by kernel_rfl
instance : FnT Tryz.prog 25 := ⟨_, Tryz.func25, nm25⟩
theorem nm26 : (Tryz.f26.name == "runtime.NumGoroutine" || Tryz.f26.body.isNone) = false := by kernel_rfl
instance : FnT Tryz.prog 26 := ⟨_, Tryz.func26, nm26⟩
theorem nm27 : (Tryz.f27.name == "runtime.NumGoroutine" || Tryz.f27.body.isNone) = false := by kernel_rfl
instance : FnT Tryz.prog 27 := ⟨_, Tryz.func27, nm27⟩
theorem nm28 : (Tryz.f28.name == "runtime.NumGoroutine" || Tryz.f28.body.isNone) = false := by kernel_rfl
instance : FnT Tryz.prog 28 := ⟨_, Tryz.func28, nm28⟩
theorem nm44 : (Tryz.f44.name == "runtime.NumGoroutine" || Tryz.f44.body.isNone) = false := by kernel_rfl
instance : FnT Tryz.prog 44 := ⟨_, Tryz.func44, nm44⟩
theorem nm45 : (Tryz.f45.name == "runtime.NumGoroutine" || Tryz.f45.body.isNone) = false := by kernel_rfl
instance : FnT Tryz.prog 45 := ⟨_, Tryz.func45, nm45⟩
theorem nm46 : (Tryz.f46.name == "runtime.NumGoroutine" || Tryz.f46.body.isNone) = false := by kernel_rfl
instance : FnT Tryz.prog 46 := ⟨_, Tryz.func46, nm46⟩
theorem nm47 : (Tryz.f47.name == "runtime.NumGoroutine" || Tryz.f47.body.isNone) = false := by kernel_rfl
instance : FnT Tryz.prog 47 := ⟨_, Tryz.func47, nm47⟩
theorem nm77 : (Tryz.f77.name == "runtime.NumGoroutine" || Tryz.f77.body.isNone) = false := by kernel_rfl
instance : FnT Tryz.prog 77 := ⟨_, Tryz.func77, nm77⟩
theorem nm81 : (Tryz.f81.name == "runtime.NumGoroutine" || Tryz.f81.body.isNone) = false := by kernel_rfl
instance : FnT Tryz.prog 81 := ⟨_, Tryz.func81, nm81⟩
theorem nm87 : (Tryz.f87.name == "runtime.NumGoroutine" || Tryz.f87.body.isNone) = false := by kernel_rfl
instance : FnT Tryz.prog 87 := ⟨_, Tryz.func87, nm87⟩
theorem nm90 : (Tryz.f90.name == "runtime.NumGoroutine" || Tryz.f90.body.isNone) = false := by kernel_rfl
instance : FnT Tryz.prog 90 := ⟨_, Tryz.func90, nm90⟩
theorem nm91 : (Tryz.f91.name == "runtime.NumGoroutine" || Tryz.f91.body.isNone) = false := by kernel_rfl
instance : FnT Tryz.prog 91 := ⟨_, Tryz.func91, nm91⟩
theorem nm93 : (Tryz.f93.name == "runtime.NumGoroutine" || Tryz.f93.body.isNone) = false := by kernel_rfl
instance : FnT Tryz.prog 93 := ⟨_, Tryz.func93, nm93⟩
theorem nm103 : (Tryz.f103.name == "runtime.NumGoroutine" || Tryz.f103.body.isNone) = false := by kernel_rfl
instance : FnT Tryz.prog 103 := ⟨_, Tryz.func103, nm103⟩
theorem nm104 : (Tryz.f104.name == "runtime.NumGoroutine" || Tryz.f104.body.isNone) = false := by kernel_rfl
instance : FnT Tryz.prog 104 := ⟨_, Tryz.func104, nm104⟩
theorem nm120 : (Tryz.f120.name == "runtime.NumGoroutine" || Tryz.f120.body.isNone) = false := by kernel_rfl
instance : FnT Tryz.prog 120 := ⟨_, Tryz.func120, nm120⟩
theorem nm121 : (Tryz.f121.name == "runtime.NumGoroutine" || Tryz.f121.body.isNone) = false := by kernel_rfl
instance : FnT Tryz.prog 121 := ⟨_, Tryz.func121, nm121⟩
theorem nm122 : (Tryz.f122.name == "runtime.NumGoroutine" || Tryz.f122.body.isNone) = false := by kernel_rfl
instance : FnT Tryz.prog 122 := ⟨_, Tryz.func122, nm122⟩
theorem nm157 : (Tryz.f157.name == "runtime.NumGoroutine" || Tryz.f157.body.isNone) = false := by kernel_rfl
instance : FnT Tryz.prog 157 := ⟨_, Tryz.func157, nm157⟩
theorem nm168 : (Tryz.f168.name == "runtime.NumGoroutine" || Tryz.f168.body.isNone) = false := by kernel_rfl
instance : FnT Tryz.prog 168 := ⟨_, Tryz.func168, nm168⟩
theorem nm169 : (Tryz.f169.name == "runtime.NumGoroutine" || Tryz.f169.body.isNone) = false := by kernel_rfl
instance : FnT Tryz.prog 169 := ⟨_, Tryz.func169, nm169⟩
theorem nm170 : (Tryz.f170.name == "runtime.NumGoroutine" || Tryz.f170.body.isNone) = false := by kernel_rfl
instance : FnT Tryz.prog 170 := ⟨_, Tryz.func170, nm170⟩
theorem nm171 : (Tryz.f171.name == "runtime.NumGoroutine" || Tryz.f171.body.isNone) = false := by kernel_rfl
instance : FnT Tryz.prog 171 := ⟨_, Tryz.func171, nm171⟩
theorem nm203 : (Tryz.f203.name == "runtime.NumGoroutine" || Tryz.f203.body.isNone) = false := by kernel_rfl
instance : FnT Tryz.prog 203 := ⟨_, Tryz.func203, nm203⟩
theorem nm204 : (Tryz.f204.name == "runtime.NumGoroutine" || Tryz.f204.body.isNone) = false := by kernel_rfl
instance : FnT Tryz.prog 204 := ⟨_, Tryz.func204, nm204⟩
theorem nm205 : (Tryz.f205.name == "runtime.NumGoroutine" || Tryz.f205.body.isNone) = false := by kernel_rfl
instance : FnT Tryz.prog 205 := ⟨_, Tryz.func205, nm205⟩
theorem nm207 : (Tryz.f207.name == "runtime.NumGoroutine" || Tryz.f207.body.isNone) = false := by kernel_rfl
instance : FnT Tryz.prog 207 := ⟨_, Tryz.func207, nm207⟩
theorem nm208 : (Tryz.f208.name == "runtime.NumGoroutine" || Tryz.f208.body.isNone) = false := by kernel_rfl
instance : FnT Tryz.prog 208 := ⟨_, Tryz.func208, nm208⟩
theorem nm209 : (Tryz.f209.name == "runtime.NumGoroutine" || Tryz.f209.body.isNone) = false := by kernel_rfl
instance : FnT Tryz.prog 209 := ⟨_, Tryz.func209, nm209⟩
theorem nm218 : (Tryz.f218.name == "runtime.NumGoroutine" || Tryz.f218.body.isNone) = false := by kernel_rfl
instance : FnT Tryz.prog 218 := ⟨_, Tryz.func218, nm218⟩
theorem nm223 : (Tryz.f223.name == "runtime.NumGoroutine" || Tryz.f223.body.isNone) = false := by kernel_rfl
instance : FnT Tryz.prog 223 := ⟨_, Tryz.func223, nm223⟩
theorem nm224 : (Tryz.f224.name == "runtime.NumGoroutine" || Tryz.f224.body.isNone) = false := by kernel_rfl
instance : FnT Tryz.prog 224 := ⟨_, Tryz.func224, nm224⟩
theorem nm225 : (Tryz.f225.name == "runtime.NumGoroutine" || Tryz.f225.body.isNone) = false := by kernel_rfl
instance : FnT Tryz.prog 225 := ⟨_, Tryz.func225, nm225⟩
theorem nm228 : (Tryz.f228.name == "runtime.NumGoroutine" || Tryz.f228.body.isNone) = false := by kernel_rfl
instance : FnT Tryz.prog 228 := ⟨_, Tryz.func228, nm228⟩
theorem nm244 : (Tryz.f244.name == "runtime.NumGoroutine" || Tryz.f244.body.isNone) = false := by kernel_rfl
instance : FnT Tryz.prog 244 := ⟨_, Tryz.func244, nm244⟩
theorem nm245 : (Tryz.f245.name == "runtime.NumGoroutine" || Tryz.f245.body.isNone) = false := by kernel_rfl
instance : FnT Tryz.prog 245 := ⟨_, Tryz.func245, nm245⟩
theorem nm246 : (Tryz.f246.name == "runtime.NumGoroutine" || Tryz.f246.body.isNone) = false := by kernel_rfl
instance : FnT Tryz.prog 246 := ⟨_, Tryz.func246, nm246⟩
theorem nm247 : (Tryz.f247.name == "runtime.NumGoroutine" || Tryz.f247.body.isNone) = false := by kernel_rfl
instance : FnT Tryz.prog 247 := ⟨_, Tryz.func247, nm247⟩
theorem nm248 : (Tryz.f248.name == "runtime.NumGoroutine" || Tryz.f248.body.isNone) = false := by kernel_rfl
instance : FnT Tryz.prog 248 := ⟨_, Tryz.func248, nm248⟩
theorem nm264 : (Tryz.f264.name == "runtime.NumGoroutine" || Tryz.f264.body.isNone) = false := by kernel_rfl
instance : FnT Tryz.prog 264 := ⟨_, Tryz.func264, nm264⟩
theorem nm269 : (Tryz.f269.name == "runtime.NumGoroutine" || Tryz.f269.body.isNone) = false := by kernel_rfl
instance : FnT Tryz.prog 269 := ⟨_, Tryz.func269, nm269⟩
theorem nm272 : (Tryz.f272.name == "runtime.NumGoroutine" || Tryz.f272.body.isNone) = false := by kernel_rfl
instance : FnT Tryz.prog 272 := ⟨_, Tryz.func272, nm272⟩
instance : AgT Tryz.prog 42 (true) := ⟨ag42⟩
instance : AgT Tryz.prog 44 (false) := ⟨ag44⟩
instance : AgT Tryz.prog 170 (false) := ⟨ag170⟩
instance : AgT Tryz.prog 186 (true) := ⟨ag186⟩
instance : AgT Tryz.prog 224 (true) := ⟨ag224⟩
instance : AgT Tryz.prog 330 (true) := ⟨ag330⟩
instance : AgT Tryz.prog 382 (true) := ⟨ag382⟩
instance : AgT Tryz.prog 404 (true) := ⟨ag404⟩
instance : BuT Tryz.prog 82 #[(0, 1), (1, 1), (2, 1), (3, 1)] [.int .i64 0, .int .i64 0, .string .empty, .slice none 0 0] := ⟨bu82⟩
instance : BuT Tryz.prog 86 #[(0, 1), (1, 4), (5, 1)] [.string .empty, .int .i64 0, .int .i64 0, .string .empty, .slice none 0 0, .slice none 0 0] := ⟨bu86⟩
instance : BuT Tryz.prog 186 #[(0, 1), (1, 1), (2, 1), (3, 1)] [.int .i64 0, .int .i64 0, .string .empty, .int .i64 0] := ⟨bu186⟩
instance : BuT Tryz.prog 404 #[(0, 1), (1, 1), (2, 1)] [.string .empty, .int .i64 0, .int .i64 0] := ⟨bu404⟩
instance : FoT Tryz.prog 42 1 1 := ⟨fo42_1⟩
instance : FoT Tryz.prog 75 3 3 := ⟨fo75_3⟩
instance : FoT Tryz.prog 172 0 0 := ⟨fo172_0⟩
instance : FoT Tryz.prog 172 1 1 := ⟨fo172_1⟩
instance : FoT Tryz.prog 186 0 0 := ⟨fo186_0⟩
instance : FoT Tryz.prog 186 1 1 := ⟨fo186_1⟩
instance : FoT Tryz.prog 186 2 2 := ⟨fo186_2⟩
instance : FoT Tryz.prog 186 3 3 := ⟨fo186_3⟩
instance : FoT Tryz.prog 188 0 0 := ⟨fo188_0⟩
instance : FoT Tryz.prog 188 1 1 := ⟨fo188_1⟩
instance : FoT Tryz.prog 404 0 0 := ⟨fo404_0⟩
instance : FoT Tryz.prog 404 1 1 := ⟨fo404_1⟩
instance : FoT Tryz.prog 404 2 2 := ⟨fo404_2⟩
instance : SzT Tryz.prog 42 (3) := ⟨sz42⟩
instance : SzT Tryz.prog 44 (1) := ⟨sz44⟩
instance : SzT Tryz.prog 170 (1) := ⟨sz170⟩
instance : SzT Tryz.prog 172 (2) := ⟨sz172⟩
instance : SzT Tryz.prog 186 (4) := ⟨sz186⟩
instance : SzT Tryz.prog 224 (3) := ⟨sz224⟩
instance : SzT Tryz.prog 330 (16) := ⟨sz330⟩
instance : SzT Tryz.prog 382 (11) := ⟨sz382⟩
instance : SzT Tryz.prog 404 (3) := ⟨sz404⟩
instance : UnT Tryz.prog 21 (.int .i32) := ⟨Tryz.underlying21⟩
instance : UnT Tryz.prog 44 (.int .i64) := ⟨Tryz.underlying44⟩
instance : UnT Tryz.prog 53 (.int .u32) := ⟨Tryz.underlying53⟩
instance : UnT Tryz.prog 170 (.pointer 172) := ⟨Tryz.underlying170⟩
instance : UnT Tryz.prog 268 (.pointer 5) := ⟨Tryz.underlying268⟩
instance : ZeT Tryz.prog 42 ([.int .i64 0, .slice none 0 0, .slice none 0 0]) := ⟨ze42⟩
instance : ZeT Tryz.prog 44 ([.int .i64 0]) := ⟨ze44⟩
instance : ZeT Tryz.prog 172 ([.pointer none, .slice none 0 0]) := ⟨ze172⟩
instance : ZeT Tryz.prog 186 ([.int .i64 0, .int .i64 0, .string .empty, .int .i64 0]) := ⟨ze186⟩
instance : ZeT Tryz.prog 224 ([.string .empty, .int .i64 0, .nilFunc]) := ⟨ze224⟩
instance : ZeT Tryz.prog 404 ([.string .empty, .int .i64 0, .int .i64 0]) := ⟨ze404⟩
theorem ne156 : isNoEscape Tryz.prog 156 = true := by kernel_rfl
end Go.Ae

/- What one operation gives, kind by kind. No condition. -/
import Derived.Test.YtmibkoadjehdaaaGreatDoorKy10
set_option linter.unusedVariables false
set_option linter.unusedSimpArgs false
namespace Go.Ae

section
variable {P : Program} {a : Act} {H : AHeap} {d : Option Tmp} {ty : TypeId} {p : String} {af : Array Edge} {g : Option (Nat × Bool)} {x y : Operand} {u v : Value}

theorem n_move (hx : a.eval x = v) : nRes P a H ⟨d, .move x, ty, p, af, g⟩ = some (v, H) := by simp [nRes, aP, hx]
theorem n_assign (hx : a.eval x = v) : nRes P a H ⟨d, .assign x, ty, p, af, g⟩ = some (v, H) := by simp [nRes, aP, hx]
theorem n_pick_t {c : Operand} (hc : a.eval c = .bool true) (hx : a.eval x = v) : nRes P a H ⟨d, .pick c x y, ty, p, af, g⟩ = some (v, H) := by simp [nRes, aP, hx, hc]
theorem n_pick_f {c : Operand} (hc : a.eval c = .bool false) (hy : a.eval y = v) : nRes P a H ⟨d, .pick c x y, ty, p, af, g⟩ = some (v, H) := by simp [nRes, aP, hy, hc]
theorem n_nil_ptr {ad : Addr} (hx : a.eval x = .pointer (some ad)) : nRes P a H ⟨d, .nilCheck x, ty, p, af, g⟩ = some (.pointer (some ad), H) := by simp [nRes, aP, hx]

/-! Scalars: the model's own run. -/
theorem quietOp_of {ev : Operand → Value} {o : Oper} (hs : o.op.operands.all (fun x => simpleV (ev x)) = true) (hq : quiet P (execOp ev o) = some (.value v)) (hv : simpleV v = true) : quietOp P ev o = some v := by
  unfold quietOp
  rw [if_pos hs, hq]
  simp only [hv, if_true]

def intBin (op : BinOp) (k : IntKind) (m n : Int) : Option Value :=
  match op with
  | .add => some (.int k (k.wrap (m + n)))
  | .sub => some (.int k (k.wrap (m - n)))
  | .mul => some (.int k (k.wrap (m * n)))
  | .quo => if n = 0 then none else some (.int k (k.wrap (m.tdiv n)))
  | .rem => if n = 0 then none else some (.int k (m.tmod n))
  | .and => some (.int k (k.wrap (BitVec.ofInt k.bits m &&& BitVec.ofInt k.bits n).toNat))
  | .or => some (.int k (k.wrap (BitVec.ofInt k.bits m ||| BitVec.ofInt k.bits n).toNat))
  | .xor => some (.int k (k.wrap (BitVec.ofInt k.bits m ^^^ BitVec.ofInt k.bits n).toNat))
  | .eql => some (.bool (decide (m = n)))
  | .neq => some (.bool (decide (m ≠ n)))
  | .lss => some (.bool (decide (m < n)))
  | .leq => some (.bool (decide (m ≤ n)))
  | .gtr => some (.bool (decide (m > n)))
  | .geq => some (.bool (decide (m ≥ n)))
  | _ => none
theorem beq_dec (m n : Int) : (m == n) = decide (m = n) := by by_cases h : m = n <;> simp [h]
theorem bne_dec (m n : Int) : (m != n) = decide (m ≠ n) := by by_cases h : m = n <;> simp [h]
theorem intBin_simple {op : BinOp} {k : IntKind} {m n : Int} (h : intBin op k m n = some v) : simpleV v = true := by
  unfold intBin at h
  split at h <;> (try split at h) <;> simp only [Option.some.injEq, reduceCtorEq] at h <;> subst h <;> rfl
theorem n_bin {op : BinOp} {t yt : TypeId} {k : IntKind} {m n : Int} (hx : a.eval x = .int k m) (hy : a.eval y = .int k n) (hr : intBin op k m n = some v) :
    nRes P a H ⟨d, .binOp op t x y yt, ty, p, af, g⟩ = some (v, H) := by
  have hq : quiet P (execOp a.eval ⟨d, .binOp op t x y yt, ty, p, af, g⟩) = some (.value v) := by
    simp only [execOp, hx, hy, quiet_bind, quiet_pure]
    have h1 : quiet P (eqGuard op t x y (.int k m) (.int k n)) = some () := by
      unfold eqGuard
      cases op <;> simp [quiet_pure]
    rw [h1, Option.bind_some]
    unfold intBin at hr
    split at hr <;> (try split at hr) <;> simp only [Option.some.injEq, reduceCtorEq] at hr <;> subst hr <;>
      simp_all [binOp, Op.intArith, Op.intDiv, Op.intBits, Op.intCmp, quiet_pure, beq_dec, bne_dec]
  have hs := intBin_simple hr
  have h2 : quietOp P a.eval ⟨d, .binOp op t x y yt, ty, p, af, g⟩ = some v := quietOp_of (by simp [Op.operands, hx, hy, simpleV]) hq hs
  simp [nRes, aP, hx, hy, simpleV, h2]
theorem n_shl {t yt : TypeId} {k k' : IntKind} {m n : Int} (hx : a.eval x = .int k m) (hy : a.eval y = .int k' n) (hn : 0 ≤ n) :
    nRes P a H ⟨d, .binOp .shl t x y yt, ty, p, af, g⟩ = some (.int k (k.wrap (m * 2 ^ min n.toNat k.bits)), H) := by
  have hn' : ¬ n < 0 := by omega
  have hq : quiet P (execOp a.eval ⟨d, .binOp .shl t x y yt, ty, p, af, g⟩) = some (.value (.int k (k.wrap (m * 2 ^ min n.toNat k.bits)))) := by
    simp [execOp, hx, hy, quiet_pure, eqGuard, binOp, Op.shift, hn']
  have h2 : quietOp P a.eval ⟨d, .binOp .shl t x y yt, ty, p, af, g⟩ = some _ := quietOp_of (by simp [Op.operands, hx, hy, simpleV]) hq rfl
  simp [nRes, aP, hx, hy, simpleV, h2]
theorem n_shr {t yt : TypeId} {k k' : IntKind} {m n : Int} (hx : a.eval x = .int k m) (hy : a.eval y = .int k' n) (hn : 0 ≤ n) :
    nRes P a H ⟨d, .binOp .shr t x y yt, ty, p, af, g⟩ = some (.int k (m.fdiv (2 ^ min n.toNat k.bits)), H) := by
  have hn' : ¬ n < 0 := by omega
  have hq : quiet P (execOp a.eval ⟨d, .binOp .shr t x y yt, ty, p, af, g⟩) = some (.value (.int k (m.fdiv (2 ^ min n.toNat k.bits)))) := by
    simp [execOp, hx, hy, quiet_pure, eqGuard, binOp, Op.shift, hn']
  have h2 : quietOp P a.eval ⟨d, .binOp .shr t x y yt, ty, p, af, g⟩ = some _ := quietOp_of (by simp [Op.operands, hx, hy, simpleV]) hq rfl
  simp [nRes, aP, hx, hy, simpleV, h2]

def strBin (op : BinOp) (s t : ByteArray) : Option Value :=
  match op with
  | .add => if s.size + t.size ≤ 9223372036854775807 then some (.string (s ++ t)) else none
  | .eql => some (.bool (s.toList == t.toList))
  | .neq => some (.bool !(s.toList == t.toList))
  | .lss => some (.bool (Op.bytesLess s.toList t.toList))
  | .leq => some (.bool (Op.bytesLess s.toList t.toList || s.toList == t.toList))
  | .gtr => some (.bool !(Op.bytesLess s.toList t.toList || s.toList == t.toList))
  | .geq => some (.bool !(Op.bytesLess s.toList t.toList))
  | _ => none
theorem n_str {op : BinOp} {t yt : TypeId} {m n : ByteArray} (hx : a.eval x = .string m) (hy : a.eval y = .string n) (hr : strBin op m n = some v) :
    nRes P a H ⟨d, .binOp op t x y yt, ty, p, af, g⟩ = some (v, H) := by
  have hs : simpleV v = true := by
    unfold strBin at hr
    split at hr <;> (try split at hr) <;> simp only [Option.some.injEq, reduceCtorEq] at hr <;> subst hr <;> rfl
  have hq : quiet P (execOp a.eval ⟨d, .binOp op t x y yt, ty, p, af, g⟩) = some (.value v) := by
    simp only [execOp, hx, hy, quiet_bind, quiet_pure]
    have h1 : quiet P (eqGuard op t x y (.string m) (.string n)) = some () := by
      unfold eqGuard
      cases op <;> simp [quiet_pure]
    rw [h1, Option.bind_some]
    unfold strBin at hr
    split at hr
    · split at hr
      · rename_i hle
        simp only [Option.some.injEq] at hr
        subst hr
        have : ¬ (((m.size + n.size : Nat) : Int) > IntKind.i64.max) := by
          have : IntKind.i64.max = 9223372036854775807 := by decide
          omega
        simp only [binOp, Op.stringOp, if_neg this, quiet_pure, Option.bind_some]
      · cases hr
    all_goals simp only [Option.some.injEq, reduceCtorEq] at hr
    all_goals subst hr
    all_goals simp only [binOp, Op.stringOp, quiet_pure, Option.bind_some]
  have h2 : quietOp P a.eval ⟨d, .binOp op t x y yt, ty, p, af, g⟩ = some v := quietOp_of (by simp [Op.operands, hx, hy, simpleV]) hq hs
  simp [nRes, aP, hx, hy, simpleV, h2]
/-- Comparisons with nil, where one side is not. -/
theorem n_nil_eq {t yt : TypeId} {b : Bool} {D : TypeDesc} (hu : P.underlying t = some D) (hx : a.eval x = u) (hy : a.eval y = v) (hs : (simpleV u && simpleV v) = false) (he : eqlNil D u v = some b) :
    nRes P a H ⟨d, .binOp .eql t x y yt, ty, p, af, g⟩ = some (.bool b, H) := by
  simp [nRes, aP, hx, hy, hs, hu, eqA_nil he]
theorem n_nil_ne {t yt : TypeId} {b : Bool} {D : TypeDesc} (hu : P.underlying t = some D) (hx : a.eval x = u) (hy : a.eval y = v) (hs : (simpleV u && simpleV v) = false) (he : eqlNil D u v = some b) :
    nRes P a H ⟨d, .binOp .neq t x y yt, ty, p, af, g⟩ = some (.bool !b, H) := by
  simp [nRes, aP, hx, hy, hs, hu, eqA_nil he]
theorem n_not {t : TypeId} {b : Bool} (hx : a.eval x = .bool b) : nRes P a H ⟨d, .unOp .not t x, ty, p, af, g⟩ = some (.bool !b, H) := by
  have hq : quiet P (execOp a.eval ⟨d, .unOp .not t x, ty, p, af, g⟩) = some (.value (.bool !b)) := by simp [execOp, hx, quiet_pure, Op.unary]
  have h2 : quietOp P a.eval ⟨d, .unOp .not t x, ty, p, af, g⟩ = some _ := quietOp_of (by simp [Op.operands, hx, simpleV]) hq rfl
  simp [nRes, aP, h2]
theorem n_neg {t : TypeId} {k : IntKind} {n : Int} (hx : a.eval x = .int k n) : nRes P a H ⟨d, .unOp .neg t x, ty, p, af, g⟩ = some (.int k (k.wrap (0 - n)), H) := by
  have hq : quiet P (execOp a.eval ⟨d, .unOp .neg t x, ty, p, af, g⟩) = some (.value (.int k (k.wrap (0 - n)))) := by simp [execOp, hx, quiet_pure, Op.unary, Op.intArith]
  have h2 : quietOp P a.eval ⟨d, .unOp .neg t x, ty, p, af, g⟩ = some _ := quietOp_of (by simp [Op.operands, hx, simpleV]) hq rfl
  simp [nRes, aP, h2]
theorem n_conv_int {s t : TypeId} {k k' : IntKind} {n : Int} {ds : TypeDesc} (hs : P.underlying s = some ds) (ht : P.underlying t = some (.int k')) (hx : a.eval x = .int k n) :
    nRes P a H ⟨d, .convert s t x, ty, p, af, g⟩ = some (.int k' (k'.wrap n), H) := by
  have hq : quiet P (execOp a.eval ⟨d, .convert s t x, ty, p, af, g⟩) = some (.value (.int k' (k'.wrap n))) := by
    simp [execOp, hx, quiet_bind, quiet_pure, convert, quiet_underlying, hs, ht, Conv.intToInt]
  have h2 : quietOp P a.eval ⟨d, .convert s t x, ty, p, af, g⟩ = some _ := quietOp_of (by simp [Op.operands, hx, simpleV]) hq rfl
  have h3 : aR P a.eval H ⟨d, .convert s t x, ty, p, af, g⟩ = none := by simp [aR, toStrA, uptrA, hs, ht, hx]
  have h4 : aA P a.eval ⟨d, .convert s t x, ty, p, af, g⟩ = none := by simp [aA, hx]
  simp [nRes, aP, h2, h3, h4]
theorem n_str_bytes {s t e : TypeId} {ad : Addr} {len cap : Nat} {ns : List Int} (hs : P.underlying s = some (.slice e)) (ht : P.underlying t = some .string) (he : P.underlying e = some (.int .u8)) (hx : a.eval x = .slice (some ad) len cap)
    (hc : H.cellsAt ad len = some (ns.map (Value.int .u8))) : nRes P a H ⟨d, .convert s t x, ty, p, af, g⟩ = some (.string (strOf ns), H) := by
  have h3 : aR P a.eval H ⟨d, .convert s t x, ty, p, af, g⟩ = some (.string (strOf ns)) := by
    simp only [aR, toStrA, hs, ht, hx, he]
    by_cases h0 : len = 0
    · subst h0
      have : ns = [] := by
        unfold AHeap.cellsAt at hc
        simp only [Option.bind_eq_some_iff] at hc
        obtain ⟨r, _, hc⟩ := hc
        split at hc
        · simpa using hc.symm
        · cases hc
      subst this
      simp [strOf]
    · simp [h0, hc, bytesOf_map]
  simp [nRes, h3]
theorem n_str_nil {s t e : TypeId} {len cap : Nat} (hs : P.underlying s = some (.slice e)) (ht : P.underlying t = some .string) (he : P.underlying e = some (.int .u8)) (hx : a.eval x = .slice none len cap) :
    nRes P a H ⟨d, .convert s t x, ty, p, af, g⟩ = some (.string .empty, H) := by
  have h3 : aR P a.eval H ⟨d, .convert s t x, ty, p, af, g⟩ = some (.string .empty) := by simp [aR, toStrA, hs, ht, hx, he]
  simp [nRes, h3]

/-! Places -/
def fieldOff (P : Program) (s : TypeId) (f : Nat) : Option Nat :=
  match P.underlying s with
  | some (.struct fs) => match fs[f]? with
    | some fd => match szT P fd.type with
      | some (_ + 1) => some fd.offset
      | _ => none
    | none => none
  | _ => none
theorem n_fieldAddr {s : TypeId} {f off : Nat} {ad : Addr} (hf : fieldOff P s f = some off) (hx : a.eval x = .pointer (some ad)) : nRes P a H ⟨d, .fieldAddr s x f, ty, p, af, g⟩ = some (.pointer (some (aadd ad off)), H) := by
  have : fieldAddrA P s (.pointer (some ad)) f = some (.pointer (some (aadd ad off))) := by
    unfold fieldOff at hf
    unfold fieldAddrA
    split at hf
    · rename_i fs hu
      rw [hu]
      dsimp only
      split at hf
      · rename_i fd hfd
        simp only [hfd]
        split at hf
        · rename_i hs
          obtain rfl := Option.some.inj hf
          simp only [hs]
        · cases hf
      · cases hf
    · cases hf
  simp [nRes, aP, hx, this]
/-- The size of a slice type's element. -/
def elemSz (P : Program) (t : TypeId) : Option Nat :=
  match P.underlying t with
  | some (.slice e) => szT P e
  | _ => none
theorem elemSz_spec {t : TypeId} {n : Nat} (h : elemSz P t = some n) : ∃ e, P.underlying t = some (.slice e) ∧ szT P e = some n := by
  unfold elemSz at h
  split at h
  · rename_i e hu; exact ⟨e, hu, h⟩
  · cases h
theorem n_indexAddr {t : TypeId} {n len cap : Nat} {ad : Addr} {k : IntKind} {i : Int} (ht : elemSz P t = some n) (hx : a.eval x = .slice (some ad) len cap) (hy : a.eval y = .int k i) (h0 : 0 ≤ i) (h1 : i < len) :
    nRes P a H ⟨d, .indexAddr t x y, ty, p, af, g⟩ = some (.pointer (some (aadd ad (i.toNat * n))), H) := by
  obtain ⟨e, hu, hs⟩ := elemSz_spec ht
  simp [nRes, aP, hx, hy, indexAddrA, hu, hs, h0, h1]
theorem n_len_slice {t : TypeId} {c : Call} {e : TypeId} {z : Option Addr} {len cap : Nat} (hc : c.callee = .builtin .len) (ha : c.args.toList = [x]) (ht : c.argTypes.toList = [t]) (hu : P.underlying t = some (.slice e))
    (hx : a.eval x = .slice z len cap) : nRes P a H ⟨d, .call c, ty, p, af, g⟩ = some (.int .i64 len, H) := by
  cases z with
  | none =>
    have hq : quiet P (execOp a.eval ⟨d, .call c, ty, p, af, g⟩) = some (.value (.int .i64 len)) := by
      obtain ⟨callee, args, argTypes⟩ := c
      obtain ⟨args⟩ := args
      obtain ⟨argTypes⟩ := argTypes
      dsimp only at hc ha ht
      subst hc ha ht
      simp [execOp, resolve, invoke, builtin, Builtin.len_, hx, quiet_bind, quiet_pure, quiet_underlying, hu, goInt]
    have h2 : quietOp P a.eval ⟨d, .call c, ty, p, af, g⟩ = some _ := quietOp_of (by
      simp only [Op.operands, Call.operands, hc]
      rw [← Array.all_toList]
      simp [ha, hx, simpleV]) hq rfl
    simp [nRes, aP, hc, ha, ht, hx, simpleV, h2]
  | some ad => simp [nRes, aP, hc, ha, ht, hx, simpleV, lenA, hu]
theorem n_len_str {t : TypeId} {c : Call} {s : ByteArray} (hc : c.callee = .builtin .len) (ha : c.args.toList = [x]) (ht : c.argTypes.toList = [t]) (hu : P.underlying t = some .string)
    (hx : a.eval x = .string s) : nRes P a H ⟨d, .call c, ty, p, af, g⟩ = some (.int .i64 s.size, H) := by
  have hq : quiet P (execOp a.eval ⟨d, .call c, ty, p, af, g⟩) = some (.value (.int .i64 s.size)) := by
    obtain ⟨callee, args, argTypes⟩ := c
    obtain ⟨args⟩ := args
    obtain ⟨argTypes⟩ := argTypes
    dsimp only at hc ha ht
    subst hc ha ht
    simp [execOp, resolve, invoke, builtin, Builtin.len_, hx, quiet_bind, quiet_pure, quiet_underlying, hu, goInt]
  have h2 : quietOp P a.eval ⟨d, .call c, ty, p, af, g⟩ = some _ := quietOp_of (by
    simp only [Op.operands, Call.operands, hc]
    rw [← Array.all_toList]
    simp [ha, hx, simpleV]) hq rfl
  simp [nRes, aP, hc, ha, ht, hx, simpleV, h2]
theorem n_slice {t : TypeId} {lo hi mx : Option Operand} (hx : a.eval x = u) (hs : isStrV u = false) (h : sliceA P t u (lo.map a.eval) (hi.map a.eval) (mx.map a.eval) = some v) :
    nRes P a H ⟨d, .slice t x lo hi mx, ty, p, af, g⟩ = some (v, H) := by simp [nRes, aP, hx, hs, h]
theorem n_extract {i : Nat} {vs : Array Value} (hx : a.eval x = .tuple vs) (h : vs[i]? = some v) : nRes P a H ⟨d, .extract x i, ty, p, af, g⟩ = some (v, H) := by simp [nRes, aP, hx, extractA, h]
theorem n_build {t : TypeId} {ps : Array (Nat × Operand)} (h : builtA P t (evParts a.eval ps) = some v) : nRes P a H ⟨d, .build t ps, ty, p, af, g⟩ = some (v, H) := by simp [nRes, aP, h]
theorem n_load1 {t : TypeId} {ad : Addr} (hs : szT P t = some 1) (ha : isAggT P t = some false) (hx : a.eval x = .pointer (some ad)) (hc : H.cellsAt ad 1 = some [v]) : nRes P a H ⟨d, .load t x, ty, p, af, g⟩ = some (v, H) := by
  simp [nRes, aR, loadA, hx, hs, ha, hc]
theorem n_loadn {t : TypeId} {ad : Addr} {n : Nat} {l : List Value} (hs : szT P t = some n) (ha : isAggT P t = some true) (hx : a.eval x = .pointer (some ad)) (hc : H.cellsAt ad n = some l) :
    nRes P a H ⟨d, .load t x, ty, p, af, g⟩ = some (.agg l.toArray, H) := by simp [nRes, aR, loadA, hx, hs, ha, hc]
theorem n_alloc {t : TypeId} {z : List Value} {n : Nat} (hz : zeroT P t = some z) (hs : szT P t = some n) : nRes P a H ⟨d, .alloc t, ty, p, af, g⟩ = some (.pointer (some ⟨H.next, 0, none⟩), H.push (.row ⟨z, t, 0, true⟩)) := by
  simp [nRes, aA, hz, hs]
theorem n_box {t : TypeId} {n : Nat} (hs : szT P t = some n) (hx : a.eval x = v) : nRes P a H ⟨d, .box t x, ty, p, af, g⟩ = some (.pointer (some ⟨H.next, 0, none⟩), H.push (.row ⟨v.cells.toList, t, 0, true⟩)) := by
  simp [nRes, aA, hs, hx]
theorem n_buildSlice {t e : TypeId} {len k : Nat} {ps : Array (Nat × Operand)} {z : List Value} {cells : Array Value} (hu : P.underlying t = some (.slice e)) (hs : szT P e = some (k + 1)) (hz : zeroT P e = some z)
    (hl : len * (k + 1) ≤ 16777216) (hf : Instr.fill (fun i => some (i * (k + 1), k + 1)) (zrep len z).toArray (evParts a.eval ps) = some cells) :
    nRes P a H ⟨d, .buildSlice t len ps, ty, p, af, g⟩ = some (.slice (some ⟨H.next, 0, none⟩) len len, H.push (.row ⟨cells.toList, e, 0, true⟩)) := by
  simp [nRes, aA, hu, hs, hz, hl, hf]
theorem n_makeSlice {t e : TypeId} {l c : Operand} {k b : Nat} {j j' : IntKind} {m q : Int} {z : List Value} (hu : P.underlying t = some (.slice e)) (hs : szT P e = some (k + 1)) (hz : zeroT P e = some z) (hb : byT P e = some (b + 1))
    (hl : a.eval l = .int j m) (hc : a.eval c = .int j' q) (h0 : 0 ≤ m ∧ m ≤ q ∧ q * (b + 1) ≤ 281474976710656) :
    nRes P a H ⟨d, .makeSlice t l c, ty, p, af, g⟩ = some (.slice (some ⟨H.next, 0, none⟩) m.toNat q.toNat, H.push (.row ⟨zrep q.toNat z, e, 0, true⟩)) := by
  simp [nRes, aA, hu, hs, hz, hb, hl, hc, h0]
end

end Go.Ae

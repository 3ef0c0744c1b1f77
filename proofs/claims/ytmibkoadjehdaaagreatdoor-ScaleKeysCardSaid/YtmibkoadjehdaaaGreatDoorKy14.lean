/- What one operation gives, where a list of places is known: the rules of the walk. No condition. -/
import Derived.Test.YtmibkoadjehdaaaGreatDoorKy13
set_option linter.unusedVariables false
set_option linter.unusedSimpArgs false
set_option linter.unusedVariables false
set_option linter.unusedSimpArgs false
namespace Go.Ae

def evL : Env → List Operand → Option (List Value)
  | _, [] => some []
  | E, x :: l => match evE E x, evL E l with
    | some v, some vs => some (v :: vs)
    | _, _ => none
theorem evL_eval {N : Nat} {E : Env} {a : Act} (h : Agree N E a) : ∀ {l : List Operand} {vs : List Value}, evL E l = some vs → l.map a.eval = vs
  | [], vs, hl => by simpa [evL] using hl
  | x :: l, vs, hl => by
    unfold evL at hl
    split at hl
    · rename_i v vs' h1 h2
      obtain rfl := Option.some.inj hl
      rw [List.map_cons, h.eval h1, evL_eval h h2]
    · cases hl
def evPs : Env → List (Nat × Operand) → Option (List (Nat × Value))
  | _, [] => some []
  | E, (i, x) :: l => match evE E x, evPs E l with
    | some v, some vs => some ((i, v) :: vs)
    | _, _ => none
theorem evPs_eval {N : Nat} {E : Env} {a : Act} (h : Agree N E a) : ∀ {l : List (Nat × Operand)} {vs : List (Nat × Value)}, evPs E l = some vs → l.map (fun p => (p.1, a.eval p.2)) = vs
  | [], vs, hl => by simpa [evPs] using hl
  | (i, x) :: l, vs, hl => by
    unfold evPs at hl
    split at hl
    · rename_i v vs' h1 h2
      obtain rfl := Option.some.inj hl
      rw [List.map_cons, h.eval h1, evPs_eval h h2]
    · cases hl
def evO : Env → Option Operand → Option (Option Value)
  | _, none => some none
  | E, some x => match evE E x with
    | some v => some (some v)
    | none => none
theorem evO_eval {N : Nat} {E : Env} {a : Act} (h : Agree N E a) {x : Option Operand} {v : Option Value} (hx : evO E x = some v) : x.map a.eval = v := by
  cases x with
  | none => simpa [evO] using hx
  | some x =>
    simp only [evO] at hx
    split at hx
    · rename_i w h1
      obtain rfl := Option.some.inj hx
      rw [Option.map_some, h.eval h1]
    · cases hx
/-- A struct's cells out of its parts. -/
def fillC (pl : Array (Nat × Nat)) : List Value → List (Nat × Value) → Option (List Value)
  | cells, [] => some cells
  | cells, (i, v) :: l => match pl[i]? with
    | some (off, n) => bif Nat.beq v.cells.toList.length n && Nat.ble (off + n) cells.length then fillC pl (lset cells off v.cells.toList) l else none
    | none => none
theorem fillC_spec {pl : Array (Nat × Nat)} : ∀ {l : List (Nat × Value)} {cells out : List Value}, fillC pl cells l = some out → Instr.fill (pl[·]?) cells.toArray l = some out.toArray
  | [], cells, out, h => by
    obtain rfl := Option.some.inj h
    exact fill_nil rfl
  | (i, v) :: l, cells, out, h => by
    unfold fillC at h
    split at h
    · rename_i off n hp
      cases hb : (Nat.beq v.cells.toList.length n && Nat.ble (off + n) cells.length) with
      | false => rw [hb] at h; cases h
      | true =>
        rw [hb] at h
        simp only [Bool.and_eq_true] at hb
        exact fill_cons hp rfl (Nat.eq_of_beq_eq_true hb.1) (Nat.le_of_ble_eq_true hb.2) rfl (fillC_spec h)
    · cases h
def fillS (k : Nat) : List Value → List (Nat × Value) → Option (List Value)
  | cells, [] => some cells
  | cells, (i, v) :: l => bif Nat.beq v.cells.toList.length k && Nat.ble (i * k + k) cells.length then fillS k (lset cells (i * k) v.cells.toList) l else none
theorem fillS_spec {k : Nat} : ∀ {l : List (Nat × Value)} {cells out : List Value}, fillS k cells l = some out → Instr.fill (fun i => some (i * k, k)) cells.toArray l = some out.toArray
  | [], cells, out, h => by
    obtain rfl := Option.some.inj h
    exact fill_nil rfl
  | (i, v) :: l, cells, out, h => by
    unfold fillS at h
    cases hb : (Nat.beq v.cells.toList.length k && Nat.ble (i * k + k) cells.length) with
    | false => rw [hb] at h; cases h
    | true =>
      rw [hb] at h
      simp only [Bool.and_eq_true] at hb
      exact fill_cons rfl rfl (Nat.eq_of_beq_eq_true hb.1) (Nat.le_of_ble_eq_true hb.2) rfl (fillS_spec h)

class FnT (P : Program) (f : FuncId) : Prop where h : ∃ fn, P.funcs[f]? = some fn ∧ (fn.name == "runtime.NumGoroutine" || fn.body.isNone) = false

section
variable {P : Program} {N : Nat} {E : Env} {H H' : AHeap} {u v : Value} {d : Nat} {d' : Option Nat} {ty : TypeId} {p : String} {af : Array Edge} {g : Option (Nat × Bool)} {x y : Operand}

theorem r_move (h : evE E x = some v := by exact rfl) : Nr P N E H ⟨some d, .move x, ty, p, af, g⟩ v H := ⟨rfl, rfl, fun a ha => n_move (ha.eval h)⟩
theorem r_assign (h : evE E x = some v := by exact rfl) : Nr P N E H ⟨some d, .assign x, ty, p, af, g⟩ v H := ⟨rfl, rfl, fun a ha => n_assign (ha.eval h)⟩
theorem r_pick_t {c : Operand} (hc : evE E c = some (.bool true) := by exact rfl) (hx : evE E x = some v := by exact rfl) : Nr P N E H ⟨some d, .pick c x y, ty, p, af, g⟩ v H := ⟨rfl, rfl, fun a ha => n_pick_t (ha.eval hc) (ha.eval hx)⟩
theorem r_pick_f {c : Operand} (hc : evE E c = some (.bool false) := by exact rfl) (hy : evE E y = some v := by exact rfl) : Nr P N E H ⟨some d, .pick c x y, ty, p, af, g⟩ v H := ⟨rfl, rfl, fun a ha => n_pick_f (ha.eval hc) (ha.eval hy)⟩
theorem r_ptr {ad : Addr} (hx : evE E x = some (.pointer (some ad)) := by exact rfl) : Nr P N E H ⟨some d, .nilCheck x, ty, p, af, g⟩ (.pointer (some ad)) H := ⟨rfl, rfl, fun a ha => n_nil_ptr (ha.eval hx)⟩
theorem r_field {s : TypeId} {f off : Nat} {ad : Addr} [fo : FoT P s f off] (hx : evE E x = some (.pointer (some ad)) := by exact rfl) : Nr P N E H ⟨some d, .fieldAddr s x f, ty, p, af, g⟩ (.pointer (some (aadd ad off))) H :=
  ⟨rfl, rfl, fun a ha => n_fieldAddr fo.h (ha.eval hx)⟩
theorem r_bin {op : BinOp} {t yt : TypeId} {k : IntKind} {m n : Int} (hx : evE E x = some (.int k m) := by exact rfl) (hy : evE E y = some (.int k n) := by exact rfl) (hr : intBin op k m n = some v) : Nr P N E H ⟨some d, .binOp op t x y yt, ty, p, af, g⟩ v H :=
  ⟨rfl, rfl, fun a ha => n_bin (ha.eval hx) (ha.eval hy) hr⟩
theorem r_shl {t yt : TypeId} {k k' : IntKind} {m n : Int} (hx : evE E x = some (.int k m) := by exact rfl) (hy : evE E y = some (.int k' n) := by exact rfl) (hn : 0 ≤ n) : Nr P N E H ⟨some d, .binOp .shl t x y yt, ty, p, af, g⟩ (.int k (k.wrap (m * 2 ^ min n.toNat k.bits))) H :=
  ⟨rfl, rfl, fun a ha => n_shl (ha.eval hx) (ha.eval hy) hn⟩
theorem r_shr {t yt : TypeId} {k k' : IntKind} {m n : Int} (hx : evE E x = some (.int k m) := by exact rfl) (hy : evE E y = some (.int k' n) := by exact rfl) (hn : 0 ≤ n) : Nr P N E H ⟨some d, .binOp .shr t x y yt, ty, p, af, g⟩ (.int k (m.fdiv (2 ^ min n.toNat k.bits))) H :=
  ⟨rfl, rfl, fun a ha => n_shr (ha.eval hx) (ha.eval hy) hn⟩
theorem r_str {op : BinOp} {t yt : TypeId} {m n : ByteArray} (hx : evE E x = some (.string m) := by exact rfl) (hy : evE E y = some (.string n) := by exact rfl) (hr : strBin op m n = some v) : Nr P N E H ⟨some d, .binOp op t x y yt, ty, p, af, g⟩ v H :=
  ⟨rfl, rfl, fun a ha => n_str (ha.eval hx) (ha.eval hy) hr⟩
theorem r_streq {t yt : TypeId} {bs cs : List UInt8} (hx : evE E x = some (.string (strB bs)) := by exact rfl) (hy : evE E y = some (.string (strB cs)) := by exact rfl) : Nr P N E H ⟨some d, .binOp .eql t x y yt, ty, p, af, g⟩ (.bool (decide (bs = cs))) H :=
  ⟨rfl, rfl, fun a ha => n_streq (ha.eval hx) (ha.eval hy)⟩
theorem r_strne {t yt : TypeId} {bs cs : List UInt8} (hx : evE E x = some (.string (strB bs)) := by exact rfl) (hy : evE E y = some (.string (strB cs)) := by exact rfl) : Nr P N E H ⟨some d, .binOp .neq t x y yt, ty, p, af, g⟩ (.bool (decide (bs ≠ cs))) H :=
  r_str hx hy (by
    simp only [strBin, strB_toList, Option.some.injEq, Value.bool.injEq]
    by_cases h : bs = cs <;> simp [h])
def leB (bs cs : List UInt8) : Bool := Op.bytesLess bs cs || bs == cs
theorem r_strle {t yt : TypeId} {bs cs : List UInt8} (hx : evE E x = some (.string (strB bs)) := by exact rfl) (hy : evE E y = some (.string (strB cs)) := by exact rfl) : Nr P N E H ⟨some d, .binOp .leq t x y yt, ty, p, af, g⟩ (.bool (decide (leB bs cs = true))) H :=
  r_str hx hy (by
    simp only [strBin, strB_toList, Option.some.injEq, Value.bool.injEq, Bool.decide_eq_true]
    rfl)
theorem quiet_map {α β : Type} (f : α → β) (x : Sem α) : quiet P (f <$> x) = (quiet P x).map f := by
  have : f <$> x = x >>= fun a => pure (f a) := rfl
  rw [this, quiet_bind]
  cases quiet P x <;> simp [quiet_pure]
theorem quiet_beq {t : TypeId} {b c : Bool} (hu : P.underlying t = some .bool) : quiet P (Op.equal t (.bool b) (.bool c)) = some (b == c) := by
  unfold Op.equal Op.maxDepth Op.equalIn
  simp [quiet_bind, quiet_underlying, hu, quiet_pure]
theorem r_beq {t yt : TypeId} {b c : Bool} [un : UnT P t .bool] (hx : evE E x = some (.bool b) := by exact rfl) (hy : evE E y = some (.bool c) := by exact rfl) : Nr P N E H ⟨some d, .binOp .eql t x y yt, ty, p, af, g⟩ (.bool (b == c)) H := ⟨rfl, rfl, fun a ha => by
  have hx := ha.eval hx
  have hy := ha.eval hy
  have hq : quiet P (execOp a.eval ⟨some d, .binOp .eql t x y yt, ty, p, af, g⟩) = some (.value (.bool (b == c))) := by
    simp [execOp, hx, hy, quiet_bind, quiet_pure, quiet_map, eqGuard, binOp, quiet_beq un.h]
  have h2 : quietOp P a.eval ⟨some d, .binOp .eql t x y yt, ty, p, af, g⟩ = some _ := quietOp_of (by simp [Op.operands, hx, hy, simpleV]) hq rfl
  simp [nRes, aP, hx, hy, simpleV, h2]⟩
theorem r_bne {t yt : TypeId} {b c : Bool} [un : UnT P t .bool] (hx : evE E x = some (.bool b) := by exact rfl) (hy : evE E y = some (.bool c) := by exact rfl) : Nr P N E H ⟨some d, .binOp .neq t x y yt, ty, p, af, g⟩ (.bool (!(b == c))) H := ⟨rfl, rfl, fun a ha => by
  have hx := ha.eval hx
  have hy := ha.eval hy
  have hq : quiet P (execOp a.eval ⟨some d, .binOp .neq t x y yt, ty, p, af, g⟩) = some (.value (.bool (!(b == c)))) := by
    simp [execOp, hx, hy, quiet_bind, quiet_pure, quiet_map, eqGuard, binOp, quiet_beq un.h]
  have h2 : quietOp P a.eval ⟨some d, .binOp .neq t x y yt, ty, p, af, g⟩ = some _ := quietOp_of (by simp [Op.operands, hx, hy, simpleV]) hq rfl
  simp [nRes, aP, hx, hy, simpleV, h2]⟩
theorem r_nil_eq {t yt : TypeId} {b : Bool} {D : TypeDesc} (un : UnT P t D := by exact inferInstance) (hx : evE E x = some u := by exact rfl) (hy : evE E y = some v := by exact rfl) (hs : (simpleV u && simpleV v) = false := by exact rfl) (he : eqlNil D u v = some b := by exact rfl) :
    Nr P N E H ⟨some d, .binOp .eql t x y yt, ty, p, af, g⟩ (.bool b) H := ⟨rfl, rfl, fun a ha => n_nil_eq un.h (ha.eval hx) (ha.eval hy) hs he⟩
theorem r_nil_ne {t yt : TypeId} {b : Bool} {D : TypeDesc} (un : UnT P t D := by exact inferInstance) (hx : evE E x = some u := by exact rfl) (hy : evE E y = some v := by exact rfl) (hs : (simpleV u && simpleV v) = false := by exact rfl) (he : eqlNil D u v = some b := by exact rfl) :
    Nr P N E H ⟨some d, .binOp .neq t x y yt, ty, p, af, g⟩ (.bool !b) H := ⟨rfl, rfl, fun a ha => n_nil_ne un.h (ha.eval hx) (ha.eval hy) hs he⟩
theorem r_not {t : TypeId} {b : Bool} (hx : evE E x = some (.bool b) := by exact rfl) : Nr P N E H ⟨some d, .unOp .not t x, ty, p, af, g⟩ (.bool !b) H := ⟨rfl, rfl, fun a ha => n_not (ha.eval hx)⟩
theorem r_neg {t : TypeId} {k : IntKind} {n : Int} (hx : evE E x = some (.int k n) := by exact rfl) : Nr P N E H ⟨some d, .unOp .neg t x, ty, p, af, g⟩ (.int k (k.wrap (0 - n))) H := ⟨rfl, rfl, fun a ha => n_neg (ha.eval hx)⟩
theorem r_index {t : TypeId} {n len cap : Nat} {ad : Addr} {k : IntKind} {i : Int} [es : EsT P t n] (hx : evE E x = some (.slice (some ad) len cap) := by exact rfl) (hy : evE E y = some (.int k i) := by exact rfl) (h0 : 0 ≤ i) (h1 : i < len) :
    Nr P N E H ⟨some d, .indexAddr t x y, ty, p, af, g⟩ (.pointer (some (aadd ad (i.toNat * n)))) H := ⟨rfl, rfl, fun a ha => n_indexAddr es.h (ha.eval hx) (ha.eval hy) h0 h1⟩
theorem r_len {t : TypeId} {c : Call} {e : TypeId} {z : Option Addr} {len cap : Nat} [un : UnT P t (.slice e)] (hc : c.callee = .builtin .len := by exact rfl) (hl : c.args.toList = [x] := by exact rfl) (ht : c.argTypes.toList = [t] := by exact rfl)
    (hx : evE E x = some (.slice z len cap) := by exact rfl) : Nr P N E H ⟨some d, .call c, ty, p, af, g⟩ (.int .i64 len) H := ⟨by simp [isE, hc], rfl, fun a ha => n_len_slice hc hl ht un.h (ha.eval hx)⟩
theorem r_len_str {t : TypeId} {c : Call} {s : ByteArray} [un : UnT P t .string] (hc : c.callee = .builtin .len := by exact rfl) (hl : c.args.toList = [x] := by exact rfl) (ht : c.argTypes.toList = [t] := by exact rfl)
    (hx : evE E x = some (.string s) := by exact rfl) : Nr P N E H ⟨some d, .call c, ty, p, af, g⟩ (.int .i64 s.size) H := ⟨by simp [isE, hc], rfl, fun a ha => n_len_str hc hl ht un.h (ha.eval hx)⟩
theorem r_slice {t : TypeId} {lo hi mx : Option Operand} {lv hv mv : Option Value} (hx : evE E x = some u := by exact rfl) (hs : isStrV u = false := by exact rfl) (hl : evO E lo = some lv := by exact rfl) (hh : evO E hi = some hv := by exact rfl)
    (hm : evO E mx = some mv := by exact rfl) (h : sliceA P t u lv hv mv = some v) : Nr P N E H ⟨some d, .slice t x lo hi mx, ty, p, af, g⟩ v H := ⟨rfl, rfl, fun a ha => n_slice' (ha.eval hx) hs (evO_eval ha hl) (evO_eval ha hh) (evO_eval ha hm) h⟩
theorem r_extract {i : Nat} {vs : Array Value} (hx : evE E x = some (.tuple vs) := by exact rfl) (h : vs[i]? = some v := by exact rfl) : Nr P N E H ⟨some d, .extract x i, ty, p, af, g⟩ v H := ⟨rfl, rfl, fun a ha => n_extract (ha.eval hx) h⟩
theorem r_build {t : TypeId} {ps : Array (Nat × Operand)} {pl : Array (Nat × Nat)} {zs : List Value} {parts : List (Nat × Value)} (l : List Value) (bu : BuT P t pl zs := by exact inferInstance) (hp : evPs E ps.toList = some parts := by exact rfl) (hf : fillC pl zs parts = some l := by exact rfl) :
    Nr P N E H ⟨some d, .build t ps, ty, p, af, g⟩ (.agg l.toArray) H := ⟨rfl, rfl, fun a ha => n_build' bu.h rfl (evPs_eval ha hp) (fillC_spec hf)⟩
theorem r_alloc {b : Nat} (hb : b = H.next) {t : TypeId} {z : List Value} {n : Nat} [ze : ZeT P t z] [sz : SzT P t n] : Nr P N E H ⟨some d, .alloc t, ty, p, af, g⟩ (.pointer (some ⟨b, 0, none⟩)) (H.push (.row ⟨z, t, 0, true⟩)) :=
  ⟨rfl, rfl, fun a ha => m_alloc hb ze.h sz.h⟩
theorem r_box {b : Nat} (hb : b = H.next) {t : TypeId} {n : Nat} (l : List Value) [sz : SzT P t n] (hx : evE E x = some v := by exact rfl) (hl : v.cells.toList = l := by exact rfl) : Nr P N E H ⟨some d, .box t x, ty, p, af, g⟩ (.pointer (some ⟨b, 0, none⟩)) (H.push (.row ⟨l, t, 0, true⟩)) :=
  ⟨rfl, rfl, fun a ha => m_box hb sz.h (ha.eval hx) hl⟩
theorem r_buildSlice {b : Nat} (hb : b = H.next) {t e : TypeId} {len k : Nat} {ps : Array (Nat × Operand)} {z : List Value} {parts : List (Nat × Value)} (l : List Value) (un : UnT P t (.slice e) := by exact inferInstance) (sz : SzT P e (k + 1) := by exact inferInstance) (ze : ZeT P e z := by exact inferInstance)
    (hl : Nat.ble (len * (k + 1)) 16777216 = true := by exact rfl) (hp : evPs E ps.toList = some parts := by exact rfl) (hf : fillS (k + 1) (zrep len z) parts = some l := by exact rfl) :
    Nr P N E H ⟨some d, .buildSlice t len ps, ty, p, af, g⟩ (.slice (some ⟨b, 0, none⟩) len len) (H.push (.row ⟨l, e, 0, true⟩)) :=
  ⟨rfl, rfl, fun a ha => m_buildSlice hb un.h sz.h ze.h (Nat.le_of_ble_eq_true hl) rfl (evPs_eval ha hp) rfl (fillS_spec hf) rfl⟩
theorem r_makeSlice {b : Nat} (hb : b = H.next) {t e : TypeId} {l c : Operand} {k y : Nat} {j j' : IntKind} {m q : Int} {m' q' : Nat} {z : List Value} (un : UnT P t (.slice e) := by exact inferInstance) (sz : SzT P e (k + 1) := by exact inferInstance) (ze : ZeT P e z := by exact inferInstance) (by' : ByT P e (y + 1) := by exact inferInstance)
    (hl : evE E l = some (.int j m) := by exact rfl) (hc : evE E c = some (.int j' q) := by exact rfl) (h0 : 0 ≤ m ∧ m ≤ q ∧ q * (y + 1) ≤ 281474976710656) (hm : m.toNat = m') (hq : q.toNat = q') :
    Nr P N E H ⟨some d, .makeSlice t l c, ty, p, af, g⟩ (.slice (some ⟨b, 0, none⟩) m' q') (H.push (.row ⟨zrep q' z, e, 0, true⟩)) := ⟨rfl, rfl, fun a ha => m_makeSlice hb un.h sz.h ze.h by'.h (ha.eval hl) (ha.eval hc) h0 hm hq⟩
theorem er_store {t : TypeId} {ad : Addr} {n : Nat} (sz : SzT P t n := by exact inferInstance) (hx : evE E x = some (.pointer (some ad)) := by exact rfl) (hy : evE E y = some v := by exact rfl) (hn : v.cells.size = n := by exact rfl) (hc : H.setCells ad v.cells.toList = some H') :
    Er P N E H ⟨d', .store t x y, ty, p, af, g⟩ undef H' := ⟨rfl, fun a ha => ⟨ac_store, x_store sz.h (ha.eval hx) (ha.eval hy) hn hc⟩⟩
theorem cr_call {c : Call} {f : FuncId} {vs : List Value} [fn : FnT P f] (hc : c.callee = .value (.func f) := by exact rfl) (hl : evL E c.args.toList = some vs := by exact rfl) : Cr P N E ⟨d', .call c, ty, p, af, g⟩ f vs.toArray := by
  refine ⟨by simp [isE, hc], fun a ha => ?_⟩
  obtain ⟨fn, hf, hn⟩ := fn.h
  rw [x_call hc rfl hf hn, evL_eval ha hl]
end
theorem cr_clo {P : Program} {N : Nat} {E : Env} {d' : Option Tmp} {ty : TypeId} {p : String} {af : Array Edge} {g : Option (Nat × Bool)} {c : Call} {f : FuncId} {x : Operand} {first cap : Array Value} {vs : List Value} [fn : FnT P f] (hc : c.callee = .value x := by exact rfl)
    (hx : evE E x = some (.func (.func f) first cap) := by exact rfl) (hl : evL E c.args.toList = some vs := by exact rfl) : Cr P N E ⟨d', .call c, ty, p, af, g⟩ f (first ++ vs.toArray ++ cap) := by
  refine ⟨by simp [isE, hc], fun a ha => ?_⟩
  obtain ⟨fn, hf, hn⟩ := fn.h
  have hv := ha.eval hx
  have hl' := evL_eval ha hl
  unfold acall
  simp only [hc, hv, hf, hn, Bool.false_eq_true, if_false, Option.some.injEq, Prod.mk.injEq, true_and]
  apply Array.ext'
  simp [← hl']
theorem r_func {P : Program} {N : Nat} {E : Env} {H : AHeap} {d : Tmp} {ty : TypeId} {p : String} {af : Array Edge} {g : Option (Nat × Bool)} {fn : Fn} {xs cs : Array Operand} {us vs : List Value} (h1 : evL E xs.toList = some us := by exact rfl) (h2 : evL E cs.toList = some vs := by exact rfl) :
    Nr P N E H ⟨some d, .makeFunc fn xs cs, ty, p, af, g⟩ (.func fn us.toArray vs.toArray) H :=
  ⟨rfl, rfl, fun a ha => by
    have e1 : us.toArray = xs.map a.eval := by apply Array.ext'; simp [← evL_eval ha h1]
    have e2 : vs.toArray = cs.map a.eval := by apply Array.ext'; simp [← evL_eval ha h2]
    simp only [nRes, aP, e1, e2, Option.map_some]⟩

/-- A conversion of bytes or numbers, outside of drawn regions. -/
def Nc (P : Program) (N : Nat) (E : Env) (H : AHeap) (o : Oper) (v : Value) (H' : AHeap) : Prop := isE o = false ∧ ∀ a, Agree N E a → nRes P a H o = some (v, H')
theorem ew_conv {P : Program} {N : Nat} {E : Env} {H H' : AHeap} {v : Value} {d : Nat} {op : Op} {ty : TypeId} {p : String} {af : Array Edge} {g : Option (Nat × Bool)} {ops : Array Oper} {K : Act → AHeap → Prop} {rest : List Oper}
    (hw : wantE ops E g = some true := by exact rfl) (hd : Nat.blt d N = true := by exact rfl) (hn : Nc P N E H ⟨some d, op, ty, p, af, g⟩ v H') (h : EW P N (.seq ops K rest) ((d, v) :: E) H') : EW P N (.seq ops K (⟨some d, op, ty, p, af, g⟩ :: rest)) E H :=
  fun a ha => qn (ha.wanted hw) hn.1 (hn.2 a ha) (h _ (ha.put v hd))
section
variable {P : Program} {N : Nat} {E : Env} {H : AHeap} {v : Value} {d : Nat} {ty s t e : TypeId} {p : String} {af : Array Edge} {g : Option (Nat × Bool)} {x : Operand}
theorem r_conv_br {F : Blks} {bs : List UInt8} [us : UnT P s (.slice e)] [ut : UnT P t .string] [ue : UnT P e (.int .u8)] (hx : evE E x = some v := by exact rfl) (h : BR H F v bs) : Nc P N E H ⟨some d, .convert s t x, ty, p, af, g⟩ (.string (strB bs)) H :=
  ⟨rfl, fun a ha => n_conv_br us.h ut.h ue.h (ha.eval hx) h⟩
end

/-! Code -/
section
variable {P : Program} {tbl : Tbl} {N : Nat} {E : Env} {H : AHeap} {Q : Exit → Act → AHeap → Prop}
def EC (P : Program) (tbl : Tbl) (N : Nat) (c : Code) (Q : Exit → Act → AHeap → Prop) (E : Env) (H : AHeap) : Prop := ∀ a, Agree N E a → awC P tbl c Q a H
def EX (N : Nat) (Q : Exit → Act → AHeap → Prop) (e : Exit) (E : Env) (H : AHeap) : Prop := ∀ a, Agree N E a → Q e a H
theorem k_seq {x y : Code} (h : EC P tbl N x (thenA (awC P tbl y Q) Q) E H) : EC P tbl N (.seq x y) Q E H := fun a ha => c_seq (h a ha)
theorem k_skip (h : EX N Q .normal E H) : EC P tbl N .skip Q E H := fun a ha => c_skip (h a ha)
theorem k_ret (h : EX N Q .ret E H) : EC P tbl N .ret Q E H := fun a ha => c_ret (h a ha)
theorem k_exit {id : Nat} (h : EX N Q (.exit id) E H) : EC P tbl N (.exit id) Q E H := fun a ha => c_exit (h a ha)
theorem k_block {id : Nat} {c : Code} (h : EC P tbl N c (inBlockA id Q) E H) : EC P tbl N (.block id c) Q E H := fun a ha => c_block (h a ha)
theorem k_true {c : Operand} {x y : Code} (hc : evE E c = some (.bool true) := by exact rfl) (h : EC P tbl N x Q E H) : EC P tbl N (.cond c x y) Q E H := fun a ha => c_true (ha.eval hc) (h a ha)
theorem k_false {c : Operand} {x y : Code} (hc : evE E c = some (.bool false) := by exact rfl) (h : EC P tbl N y Q E H) : EC P tbl N (.cond c x y) Q E H := fun a ha => c_false (ha.eval hc) (h a ha)
theorem k_region {id : Nat} {ops : Array Oper} (h : EW P N (.seq ops (fun a H => Q .normal a H) ops.toList) E H) : EC P tbl N (.region id ops false) Q E H := fun a ha => c_region (h a ha)
theorem k_draw {id : Nat} {ops : Array Oper} {sched B : List Nat} (ht : getT tbl id = (sched, B) := by exact rfl) (h : EW P N (.drawn ops B (fun a H => Q .normal a H) sched []) E H) : EC P tbl N (.region id ops true) Q E H := fun a ha => c_draw ht (h a ha)
theorem w_nil {ops : Array Oper} (h : EX N Q .normal E H) : EW P N (.seq ops (fun a H => Q .normal a H) []) E H := h
theorem w_nilD {ops : Array Oper} {B : List Nat} {log : Log} (h : EX N Q .normal E H) : EW P N (.drawn ops B (fun a H => Q .normal a H) [] log) E H := h
theorem x_normal {y : Code} {Q' : Exit → Act → AHeap → Prop} (h : EC P tbl N y Q' E H) : EX N (thenA (awC P tbl y Q') Q) .normal E H := fun a ha => h a ha
theorem x_ret {next : Act → AHeap → Prop} (h : EX N Q .ret E H) : EX N (thenA next Q) .ret E H := fun a ha => h a ha
theorem x_exit {next : Act → AHeap → Prop} {id : Nat} (h : EX N Q (.exit id) E H) : EX N (thenA next Q) (.exit id) E H := fun a ha => h a ha
theorem x_same {id : Nat} (h : EX N Q .normal E H) : EX N (inBlockA id Q) (.exit id) E H := fun a ha => b_same (h a ha)
theorem x_other {id id' : Nat} (hne : (id' == id) = false := by exact rfl) (h : EX N Q (.exit id') E H) : EX N (inBlockA id Q) (.exit id') E H := fun a ha => b_other hne (h a ha)
theorem x_bnormal {id : Nat} (h : EX N Q .normal E H) : EX N (inBlockA id Q) .normal E H := fun a ha => h a ha
theorem x_bret {id : Nat} (h : EX N Q .ret E H) : EX N (inBlockA id Q) .ret E H := fun a ha => h a ha
/-! The end -/
def resE (E : Env) : List ResultVar → Option (List Value)
  | [] => some []
  | .tmp t :: l => match lookE E t, resE E l with
    | some v, some vs => some (v :: vs)
    | _, _ => none
  | .cell .. :: _ => none
theorem resE_spec {a : Act} (h : Agree N E a) : ∀ {l : List ResultVar} {vs : List Value}, resE E l = some vs → resL P a H l = some vs
  | [], vs, hl => by simpa [resE, resL] using hl
  | .tmp t :: l, vs, hl => by
    unfold resE at hl
    split at hl
    · rename_i v vs' h1 h2
      obtain rfl := Option.some.inj hl
      exact resL_cons (resV_tmp (h.2 t v h1).2) (resE_spec h h2)
    · cases hl
  | .cell t ty :: l, vs, hl => by cases hl
def bodyV : List Value → Value
  | [v] => v
  | l => .tuple l.toArray
theorem x_end {rs : List ResultVar} {Qv : Value → AHeap → Prop} {e : Exit} (vs : List Value) (he : e = .normal ∨ e = .ret := by first | exact .inl rfl | exact .inr rfl) (hr : resE E rs = some vs := by exact rfl) (hq : Qv (bodyV vs) H) : EX N (bodyA P rs Qv) e E H := by
  intro a ha
  refine ⟨he, ha.1.2, vs, resE_spec ha hr, ?_⟩
  cases vs with
  | nil => exact hq
  | cons v l => cases l with
    | nil => exact hq
    | cons _ _ => exact hq
/-! Loops -/
def Again (N : Nat) (I : Nat → Env → AHeap → Prop) (n : Nat) (a : Act) (H : AHeap) : Prop := ∃ m E', m < n ∧ I m E' H ∧ Agree N E' a
theorem k_loop {c : Code} (hm : P.follows .mixedOrders = true) (I : Nat → Env → AHeap → Prop) (n : Nat) (E0 : Env) (hok : codeOk tbl c = true) (hs : Sub E0 E) (h0 : I n E0 H)
    (round : ∀ n E H, I n E H → EC P tbl N c (thenA (Again N I n) Q) E H) : EC P tbl N (.loop c) Q E H := fun a ha =>
  c_loop hm (fun n a H => ∃ E', I n E' H ∧ Agree N E' a) n hok ⟨E0, h0, hs.agree ha⟩ fun n a H ⟨E', hI, ha'⟩ => by
    refine (?_ : awC P tbl c (thenA (fun a' H' => ∃ m, m < n ∧ ∃ E', I m E' H' ∧ Agree N E' a') Q) a H)
    have h := round n E' H hI a ha'
    have he : Again N I n = fun a' H' => ∃ m, m < n ∧ ∃ E', I m E' H' ∧ Agree N E' a' := by
      funext a' H'
      exact propext ⟨fun ⟨m, E', h1, h2, h3⟩ => ⟨m, h1, E', h2, h3⟩, fun ⟨m, h1, E', h2, h3⟩ => ⟨m, E', h1, h2, h3⟩⟩
    rw [he] at h
    exact h
theorem x_again {I : Nat → Env → AHeap → Prop} {n : Nat} (m : Nat) (E' : Env) (hs : Sub E' E) (hlt : m < n) (hI : I m E' H) : EX N (thenA (Again N I n) Q) .normal E H := fun _ ha => ⟨m, E', hlt, hI, hs.agree ha⟩
/-! The beginning -/
def argsE : Nat → List Value → Env
  | _, [] => []
  | i, v :: l => (i, v) :: argsE (i + 1) l
theorem argsE_look : ∀ (l : List Value) (i t : Nat) (v : Value), lookE (argsE i l) t = some v → i ≤ t ∧ l[t - i]? = some v
  | [], i, t, v, h => by cases h
  | x :: l, i, t, v, h => by
    unfold argsE lookE at h
    cases hb : Nat.beq t i with
    | true =>
      rw [hb] at h
      simp only [cond_true, Option.some.injEq] at h
      subst h
      obtain rfl := Nat.eq_of_beq_eq_true hb
      exact ⟨Nat.le_refl _, by simp⟩
    | false =>
      rw [hb] at h
      obtain ⟨h1, h2⟩ := argsE_look l (i + 1) t v h
      refine ⟨by omega, ?_⟩
      rw [show t - i = (t - (i + 1)) + 1 by omega, List.getElem?_cons_succ]
      exact h2
theorem k_open {f : FuncId} {fn : Func} {c : Code} {args : List Value} {E0 : Env} {Qv : Value → AHeap → Prop} (tbl : Tbl) (hf : P.funcs[f]? = some fn) (hb : fn.body = some c) (hm : P.follows .mixedOrders = true) (hok : codeOk tbl c = true)
    (hn : fn.ntmps = N) (hle : Nat.ble args.length N = true) (hE : argsE 0 args = E0) (h : EC P tbl N c (bodyA P fn.results.toList Qv) E0 H) : ACalls P f args.toArray H Qv := by
  have hle' := Nat.le_of_ble_eq_true hle
  refine acalls_of tbl hf hb hm hok (by simpa [hn] using hle') fun a ha hd hargs => h a ⟨⟨ha.trans hn, hd⟩, fun t v hl => ?_⟩
  subst hE
  obtain ⟨_, h2⟩ := argsE_look args 0 t v hl
  rw [Nat.sub_zero] at h2
  have hlt := (List.getElem?_eq_some_iff.1 h2).1
  exact ⟨by omega, hargs t v (by simpa using h2)⟩
end

/-! Short forms -/
section
variable {P : Program} {N : Nat} {m m' : Mode} {E : Env} {H H' : AHeap} {v : Value} {d : Nat} {d' : Option Nat} {op : Op} {ty : TypeId} {p : String} {af : Array Edge} {g : Option (Nat × Bool)}
def takeO : Nat → Nat → List Value → Option (List Value)
  | 0, _, _ => some []
  | n + 1, 0, v :: l => match takeO n 0 l with
    | some r => some (v :: r)
    | none => none
  | n + 1, off + 1, _ :: l => takeO (n + 1) off l
  | _ + 1, _, [] => none
theorem takeO_spec : ∀ (n off : Nat) (l r : List Value), takeO n off l = some r → (n = 0 ∨ off + n ≤ l.length) ∧ (l.drop off).take n = r
  | 0, off, l, r, h => by
    have : r = [] := by cases off <;> cases l <;> simpa [takeO] using h.symm
    subst this
    exact ⟨.inl rfl, by simp⟩
  | n + 1, 0, v :: l, r, h => by
    unfold takeO at h
    split at h
    · rename_i r' h1
      obtain rfl := Option.some.inj h
      obtain ⟨h2, h3⟩ := takeO_spec n 0 l r' h1
      refine ⟨.inr ?_, ?_⟩
      · rcases h2 with rfl | h2
        · simp
        · simp only [List.length_cons]; omega
      · simp only [List.drop_zero, List.take_succ_cons] at h3 ⊢
        rw [h3]
    · cases h
  | n + 1, off + 1, x :: l, r, h => by
    unfold takeO at h
    obtain ⟨h2, h3⟩ := takeO_spec (n + 1) off l r h
    refine ⟨.inr ?_, by simpa using h3⟩
    rcases h2 with h2 | h2
    · cases h2
    · simp only [List.length_cons]; omega
  | n + 1, 0, [], r, h => by cases h
  | n + 1, off + 1, [], r, h => by cases h
theorem cells_row {ad : Addr} {n : Nat} {cells l : List Value} {e : TypeId} {vr : Nat} {rw' : Bool} (h : H.get ad.block = some (.row ⟨cells, e, vr, rw'⟩)) (hv : verOf ad = vr) (hn : Nat.blt 0 n = true) (hl : takeO n ad.off cells = some l) : H.cellsAt ad n = some l := by
  obtain ⟨h1, h2⟩ := takeO_spec _ _ _ _ hl
  have hn' : 0 < n := by simpa [Nat.blt_eq] using hn
  exact cellsAt_of h hv (by dsimp only; omega) h2
def Mode.isSeq : Mode → Bool
  | .seq .. => true
  | _ => false
theorem Mode.kept_seq (hs : m.isSeq = true) : m.kept H' := by cases m with
  | seq => trivial
  | drawn => cases hs
theorem ew_callS {f : FuncId} {args : Array Value} {R : Value → AHeap → Prop} (hs : m.isSeq = true := by exact rfl) (hm : m.head = some (⟨d', op, ty, p, af, g⟩, m') := by exact rfl) (hw : wantE m.ops E g = some true := by exact rfl) (hd : bltO d' N = true := by exact rfl)
    (hc : Cr P N E ⟨d', op, ty, p, af, g⟩ f args) (hR : ACalls P f args H R) (h : ∀ v H', R v H' → EW P N m' (putO d' v E) H') : EW P N m E H := ew_call hm hw hd hc hR fun v H' hr => ⟨Mode.kept_seq hs, h v H' hr⟩
theorem ew_appS {c : Call} {x y : Operand} {t u : TypeId} {s z : Value} {R : Value → AHeap → Prop} (hs : m.isSeq = true := by exact rfl) (hm : m.head = some (⟨d', .call c, ty, p, af, g⟩, m') := by exact rfl) (hw : wantE m.ops E g = some true := by exact rfl) (hd : bltO d' N = true := by exact rfl)
    (hc : c.callee = .builtin .append := by exact rfl) (ha' : c.args.toList = [x, y] := by exact rfl) (ht : c.argTypes.toList = [t, u] := by exact rfl) (hx : evE E x = some s := by exact rfl) (hy : evE E y = some z := by exact rfl)
    (hR : ∃ v H', appendA P H t u s z = some (v, H') ∧ R v H') (h : ∀ v H', R v H' → EW P N m' (putO d' v E) H') : EW P N m E H := ew_app hm hw hd hc ha' ht hx hy hR fun v H' hr => ⟨Mode.kept_seq hs, h v H' hr⟩
variable {rs : List ResultVar} {Qv : Value → AHeap → Prop} {e : Exit} {v1 v2 v3 : Value}
theorem x_end0 (he : e = .normal ∨ e = .ret := by first | exact .inl rfl | exact .inr rfl) (hr : resE E rs = some [] := by exact rfl) (hq : Qv (.tuple #[]) H) : EX N (bodyA P rs Qv) e E H := x_end [] he hr hq
theorem x_end1 (he : e = .normal ∨ e = .ret := by first | exact .inl rfl | exact .inr rfl) (hr : resE E rs = some [v1] := by exact rfl) (hq : Qv v1 H) : EX N (bodyA P rs Qv) e E H := x_end [v1] he hr hq
/-- A result that lies in memory. -/
theorem x_endc {t n : Nat} {ty : TypeId} {b : Bool} {ad : Addr} {l : List Value} (he : e = .normal ∨ e = .ret := by first | exact .inl rfl | exact .inr rfl) (hr : rs = [.cell t ty] := by exact rfl) (s : SzT P ty n := by exact inferInstance) (ag : AgT P ty b := by exact inferInstance)
    (hx : lookE E t = some (.pointer (some ad)) := by exact rfl) (hc : H.cellsAt ad n = some l) (hv : lv b l = some v1) (hq : Qv v1 H) : EX N (bodyA P rs Qv) e E H := by
  intro a ha
  subst hr
  have hx' := (ha.2 t _ hx).2
  cases b with
  | true =>
    simp only [lv, Option.some.injEq] at hv
    subst hv
    exact e_one ha.1.2 he rfl (resV_celln s.h ag.h hx' hc) hq
  | false =>
    have h1 : l = [v1] := by
      cases l with
      | nil => cases hv
      | cons x l =>
        cases l with
        | nil => simpa [lv] using hv
        | cons y l => cases hv
    subst h1
    have hn : n = 1 := by have := cellsAt_length hc; simpa using this.symm
    subst hn
    exact e_one ha.1.2 he rfl (resV_cell1 s.h ag.h hx' hc) hq
theorem x_end2 (he : e = .normal ∨ e = .ret := by first | exact .inl rfl | exact .inr rfl) (hr : resE E rs = some [v1, v2] := by exact rfl) (hq : Qv (.tuple #[v1, v2]) H) : EX N (bodyA P rs Qv) e E H := x_end [v1, v2] he hr hq
def RV (P : Program) (N : Nat) (E : Env) (H : AHeap) (r : ResultVar) (v : Value) : Prop := ∀ a, Agree N E a → resV P a H r = some v
theorem rv_cell {t n : Nat} {ty : TypeId} {b : Bool} {ad : Addr} {l : List Value} (s : SzT P ty n := by exact inferInstance) (ag : AgT P ty b := by exact inferInstance)
    (hx : lookE E t = some (.pointer (some ad)) := by exact rfl) (hc : H.cellsAt ad n = some l) (hv : lv b l = some v) : RV P N E H (.cell t ty) v := by
  intro a ha
  have hx' := (ha.2 t _ hx).2
  cases b with
  | true =>
    simp only [lv, Option.some.injEq] at hv
    subst hv
    exact resV_celln s.h ag.h hx' hc
  | false =>
    have h1 : l = [v] := by
      cases l with
      | nil => cases hv
      | cons x l =>
        cases l with
        | nil => simpa [lv] using hv
        | cons y l => cases hv
    subst h1
    have hn : n = 1 := by have := cellsAt_length hc; simpa using this.symm
    subst hn
    exact resV_cell1 s.h ag.h hx' hc
theorem x_end3 (he : e = .normal ∨ e = .ret := by first | exact .inl rfl | exact .inr rfl) (hr : resE E rs = some [v1, v2, v3] := by exact rfl) (hq : Qv (.tuple #[v1, v2, v3]) H) : EX N (bodyA P rs Qv) e E H := x_end [v1, v2, v3] he hr hq
end

/-! Conversions of numbers, in drawn regions too; bytes -/
theorem s_conv_int {P : Program} {ops : Array Oper} {B : List Nat} {K : Act → AHeap → Prop} {a : Act} {H : AHeap} {i : Nat} {sched : List Nat} {log : Log} {d : Option Tmp} {ty s t : TypeId} {p : String} {af : Array Edge} {g : Option (Nat × Bool)} {x : Operand} {k' : IntKind} {v : Value}
    (ho : ops[i]? = some ⟨d, .convert s t x, ty, p, af, g⟩) (hw : Region.wanted ⟨d, .convert s t x, ty, p, af, g⟩ (yielded ops a.tmps) = true) (ht : P.underlying t = some (.int k')) (hn : nRes P a H ⟨d, .convert s t x, ty, p, af, g⟩ = some (v, H))
    (h : wpS P ops B K sched (a.put d v) H ((i, fun _ => True) :: log)) : wpS P ops B K (i :: sched) a H log := by
  have hE : isE ⟨d, .convert s t x, ty, p, af, g⟩ = false := rfl
  have hr : isRead ⟨d, .convert s t x, ty, p, af, g⟩ = true := rfl
  have har : ∀ H', aR P a.eval H' ⟨d, .convert s t x, ty, p, af, g⟩ = none := by
    intro H'
    have e1 : toStrA P H' s t (a.eval x) = none := by
      simp only [toStrA, ht]
      split <;> simp_all
    have e2 : uptrA P H' s t (a.eval x) = none := by
      simp only [uptrA, ht]
      split <;> simp_all
    simp only [aR, e1, e2]
  simp only [wpS, ho, hw, if_true, hE, Bool.false_eq_true, if_false, hr]
  refine nStep_of hn (wpS_log (fun q hq => ?_) h)
  rcases List.mem_cons.1 hq with rfl | hq
  · exact ⟨_, List.mem_cons_self, rfl, fun H' _ => by dsimp only; rw [har, har]⟩
  · exact ⟨q, List.mem_cons_of_mem _ hq, rfl, fun _ h => h⟩
section
variable {P : Program} {N : Nat} {m m' : Mode} {E : Env} {H : AHeap} {v : Value} {d : Nat} {ty s t : TypeId} {p : String} {af : Array Edge} {g : Option (Nat × Bool)} {x : Operand}
theorem ew_convI {k k' : IntKind} {n : Int} {ds : TypeDesc} (v : Value) (hm : m.head = some (⟨some d, .convert s t x, ty, p, af, g⟩, m') := by exact rfl) (us : UnT P s ds := by exact inferInstance) (ut : UnT P t (.int k') := by exact inferInstance)
    (hw : wantE m.ops E g = some true := by exact rfl) (hd : Nat.blt d N = true := by exact rfl) (hx : evE E x = some (.int k n) := by exact rfl) (hv : Value.int k' (k'.wrap n) = v) (h : EW P N (m'.logged m.at fun _ => True) ((d, v) :: E) H) : EW P N m E H := by
  have key : ∀ a, Agree N E a → nRes P a H ⟨some d, .convert s t x, ty, p, af, g⟩ = some (v, H) := fun a ha => by rw [n_conv_int us.h ut.h (ha.eval hx), hv]
  cases m with
  | seq ops K rest =>
    intro a ha
    obtain ⟨rest, rfl, rfl⟩ := head_seq hm
    exact qn (ha.wanted hw) rfl (key a ha) (h _ (ha.put v hd))
  | drawn ops B K sched log =>
    intro a ha
    obtain ⟨i, sched, rfl, ho, rfl⟩ := head_drawn hm
    exact s_conv_int ho (ha.wanted hw) ut.h (key a ha) (h _ (ha.put v hd))
end
theorem conv_u8 (b : UInt8) : Value.int .i64 (IntKind.i64.wrap (b.toNat : Int)) = .int .i64 (b.toNat : Int) := by
  rw [wrap_in]
  · omega
  · have := b.toNat_lt; omega
theorem ib_xor8 (x y : UInt8) : intBin .xor .u8 (x.toNat : Int) (y.toNat : Int) = some (.int .u8 ((x ^^^ y).toNat : Int)) := by
  have h8 : IntKind.u8.bits = 8 := rfl
  have key : ∀ z : UInt8, BitVec.ofInt 8 (z.toNat : Int) = z.toBitVec := by
    intro z
    rw [BitVec.ofInt_natCast]
    apply BitVec.eq_of_toNat_eq
    simp
  simp only [intBin]
  rw [h8, key, key, ← UInt8.toBitVec_xor]
  have : (x ^^^ y).toBitVec.toNat = (x ^^^ y).toNat := rfl
  rw [this, wrap8_in]
  · omega
  · have := (x ^^^ y).toNat_lt; omega
theorem BR.at {F : Blks} {H : AHeap} {v : Value} {bs : List UInt8} {i : Nat} {b : UInt8} (h : BR H F v bs) (hi : bs[i]? = some b) :
    ∃ ad c, v = .slice (some ad) bs.length c ∧ F ad.block ∧ ad.block < H.next ∧ H.cellsAt (aadd ad ((i : Int).toNat * 1)) 1 = some [.int .u8 (b.toNat : Int)] := by
  obtain ⟨hl, hb⟩ := List.getElem?_eq_some_iff.1 hi
  unfold BR at h
  obtain ⟨ad, c, hv, hF, hlt, hc⟩ := h.at hl
  refine ⟨ad, c, hv, hF, hlt, ?_⟩
  rw [Int.toNat_natCast, hc, Nat.mul_one, List.drop_eq_getElem_cons (by simpa using hl)]
  simp [bytesV, hb]

/-! Short forms, whose conditions are worked out where they are used -/
theorem kp {F : Blks} {H H' : AHeap} (h : Keep F H H' := by ((repeat' (first | exact Keep.refl | assumption | (apply Keep.push) | (refine Keep.put ?_ ?_; rotate_left; (focus (intro hlt; first | assumption | exact rfl | exact .inl rfl | exact .inr rfl | omega | (exfalso; simp only [AHeap.push_next, AHeap.put_next, aadd_block] at hlt; omega)))))); done)) : Keep F H H' := h
theorem rdx {H : AHeap} {i : Nat} {x : Option AObj} (h : H.get i = x := by ((repeat' (first | assumption | (rw [aadd_block]) | (apply gN; (focus (first | exact rfl | omega | (simp only [AHeap.push_next, AHeap.put_next, aadd_block] <;> omega))); (focus exact rfl)) | (apply gO; (focus (first | omega | (simp only [AHeap.push_next, AHeap.put_next, aadd_block, ne_eq] <;> omega)))) | (apply gS; (focus (first | exact rfl | omega | (simp only [AHeap.push_next, AHeap.put_next, aadd_block] <;> omega))); (focus exact rfl)) | (apply gP; (focus (first | omega | (simp only [AHeap.push_next, AHeap.put_next, aadd_block, ne_eq] <;> omega)))) | exact rfl)); done)) : H.get i = x := h
section
variable {P : Program} {N : Nat} {m m' : Mode} {E : Env} {H H' : AHeap} {v : Value} {d : Nat} {op : Op} {ty : TypeId} {p : String} {af : Array Edge} {g : Option (Nat × Bool)} {x y : Operand}
theorem ew_p (hm : m.head = some (⟨some d, op, ty, p, af, g⟩, m') := by exact rfl) (hw : wantE m.ops E g = some true := by exact rfl) (hd : Nat.blt d N = true := by exact rfl)
    (hn : Nr P N E H ⟨some d, op, ty, p, af, g⟩ v H' := by first | exact r_move | exact r_assign | exact r_pick_t | exact r_pick_f | exact r_ptr | exact r_field | exact r_len | exact r_len_str | exact r_not | exact r_neg | exact r_extract | exact r_index (h0 := by omega) (h1 := by first | omega | (simp; done) | (simp; omega)) | exact r_nil_eq | exact r_nil_ne | exact r_beq | exact r_bne | exact r_slice (h := by assumption) | exact r_shl (hn := by omega) | exact r_shr (hn := by omega) | exact r_bin (hr := by first | (apply cmp_t; (focus (first | exact ib_eql | exact ib_neq | exact ib_lss | exact ib_leq | exact ib_gtr | exact ib_geq)); omega) | (apply cmp_f; (focus (first | exact ib_eql | exact ib_neq | exact ib_lss | exact ib_leq | exact ib_gtr | exact ib_geq)); omega))) (h : EW P N m' ((d, v) :: E) H') : EW P N m E H := ew_n hm hw hd hn h
theorem ew_ar (hm : m.head = some (⟨some d, op, ty, p, af, g⟩, m') := by exact rfl) (hw : wantE m.ops E g = some true := by exact rfl) (hd : Nat.blt d N = true := by exact rfl)
    (hn : Nr P N E H ⟨some d, op, ty, p, af, g⟩ v H' := by exact r_bin (hr := by (first | exact ib_xor8 _ _ | (simp (disch := omega) only [intBin, wrap_in, wrap8_in, tdiv_in, tmod_in, if_false, reduceIte]; exact rfl) | (apply ib_rem; omega)))) (h : EW P N m' ((d, v) :: E) H') : EW P N m E H := ew_n hm hw hd hn h
theorem ew_bu (hm : m.head = some (⟨some d, op, ty, p, af, g⟩, m') := by exact rfl) (hw : wantE m.ops E g = some true := by exact rfl) (hd : Nat.blt d N = true := by exact rfl)
    (hn : Nr P N E H ⟨some d, op, ty, p, af, g⟩ v H' := by first | exact r_build [_] | exact r_build [_, _] | exact r_build [_, _, _] | exact r_build [_, _, _, _] | exact r_build [_, _, _, _, _] | exact r_build [_, _, _, _, _, _] | exact r_build [_, _, _, _, _, _, _] | exact r_build [_, _, _, _, _, _, _, _] | exact r_build [_, _, _, _, _, _, _, _, _] | exact r_build [_, _, _, _, _, _, _, _, _, _] | exact r_build [_, _, _, _, _, _, _, _, _, _, _] | exact r_build [_, _, _, _, _, _, _, _, _, _, _, _] | exact r_build [_, _, _, _, _, _, _, _, _, _, _, _, _, _, _, _] | exact r_build [_, _, _, _, _, _, _, _, _, _, _, _, _, _, _, _, _, _, _, _, _, _, _, _, _, _, _, _] | exact r_build [_, _, _, _, _, _, _, _, _, _, _, _, _, _, _, _, _, _, _, _, _, _, _, _, _, _, _, _, _, _, _, _, _, _, _, _, _, _, _, _, _, _, _, _, _, _, _, _, _, _, _, _, _, _, _, _, _, _, _, _, _, _, _, _, _, _, _, _, _, _, _, _, _, _, _]) (h : EW P N m' ((d, v) :: E) H') : EW P N m E H := ew_n hm hw hd hn h
theorem ew_df {c : Prop} {_dc : Decidable c} (hm : m.head = some (⟨some d, op, ty, p, af, g⟩, m') := by exact rfl) (hw : wantE m.ops E g = some true := by exact rfl) (hd : Nat.blt d N = true := by exact rfl)
    (hn : Nr P N E H ⟨some d, op, ty, p, af, g⟩ (.bool (decide c)) H := by first | exact r_streq | exact r_strne | exact r_strle | exact r_bin (hr := by (first | exact ib_eql | exact ib_neq | exact ib_lss | exact ib_leq | exact ib_gtr | exact ib_geq))) (ht : c → EW P N m' ((d, .bool true) :: E) H) (hf : ¬ c → EW P N m' ((d, .bool false) :: E) H) : EW P N m E H := ew_dec hm hw hd hn ht hf
theorem ew_ld {t : TypeId} {x : Operand} {n : Nat} {b : Bool} {ad : Addr} {l : List Value} (hm : m.head = some (⟨some d, .load t x, ty, p, af, g⟩, m') := by exact rfl) (s : SzT P t n := by exact inferInstance) (ag : AgT P t b := by exact inferInstance)
    (hw : wantE m.ops E g = some true := by exact rfl) (hd : Nat.blt d N = true := by exact rfl) (hx : evE E x = some (.pointer (some ad)) := by exact rfl)
    (hc : H.cellsAt ad n = some l := by (first | assumption | (apply cells_row; (focus ((repeat' (first | assumption | (rw [aadd_block]) | (apply gN; (focus (first | exact rfl | omega | (simp only [AHeap.push_next, AHeap.put_next, aadd_block] <;> omega))); (focus exact rfl)) | (apply gO; (focus (first | omega | (simp only [AHeap.push_next, AHeap.put_next, aadd_block, ne_eq] <;> omega)))) | (apply gS; (focus (first | exact rfl | omega | (simp only [AHeap.push_next, AHeap.put_next, aadd_block] <;> omega))); (focus exact rfl)) | (apply gP; (focus (first | omega | (simp only [AHeap.push_next, AHeap.put_next, aadd_block, ne_eq] <;> omega)))) | exact rfl)); done)); (focus exact rfl); (focus exact rfl); (focus (first | exact (rfl : _ = some [_]) | exact (rfl : _ = some [_, _]) | exact (rfl : _ = some [_, _, _]) | exact (rfl : _ = some [_, _, _, _]) | exact (rfl : _ = some [_, _, _, _, _]) | exact (rfl : _ = some [_, _, _, _, _, _]) | exact (rfl : _ = some [_, _, _, _, _, _, _]) | exact (rfl : _ = some [_, _, _, _, _, _, _, _]) | exact (rfl : _ = some [_, _, _, _, _, _, _, _, _]) | exact (rfl : _ = some [_, _, _, _, _, _, _, _, _, _]) | exact (rfl : _ = some [_, _, _, _, _, _, _, _, _, _, _]) | exact (rfl : _ = some [_, _, _, _, _, _, _, _, _, _, _, _]) | exact (rfl : _ = some [_, _, _, _, _, _, _, _, _, _, _, _, _, _, _, _]) | exact (rfl : _ = some [_, _, _, _, _, _, _, _, _, _, _, _, _, _, _, _, _, _, _, _, _, _, _, _, _, _, _, _]) | exact (rfl : _ = some [_, _, _, _, _, _, _, _, _, _, _, _, _, _, _, _, _, _, _, _, _, _, _, _, _, _, _, _, _, _, _, _, _, _, _, _, _, _, _, _, _, _, _, _, _, _, _, _, _, _, _, _, _, _, _, _, _, _, _, _, _, _, _, _, _, _, _, _, _, _, _, _, _, _, _])))) | (apply cells_k; (focus assumption); (focus (first | assumption | (simp only [aadd_block] <;> first | assumption | omega))); (focus ((repeat' (first | exact Keep.refl | assumption | (apply Keep.push) | (refine Keep.put ?_ ?_; rotate_left; (focus (intro hlt; first | assumption | exact rfl | exact .inl rfl | exact .inr rfl | omega | (exfalso; simp only [AHeap.push_next, AHeap.put_next, aadd_block] at hlt; omega)))))); done))))) (hv : lv b l = some v := by exact rfl) {m'' : Mode} (hl : m'.logged m.at (fun H' => H'.cellsAt ad n = H.cellsAt ad n) = m'' := by dsimp only [Mode.logged, Mode.at]; try exact rfl) (h : EW P N m'' ((d, v) :: E) H) : EW P N m E H := ew_load hm s ag hw hd hx hc hv (hl ▸ h)
theorem ew_ci {k k' : IntKind} {n : Int} {ds : TypeDesc} {s t : TypeId} (hm : m.head = some (⟨some d, .convert s t x, ty, p, af, g⟩, m') := by exact rfl) (us : UnT P s ds := by exact inferInstance) (ut : UnT P t (.int k') := by exact inferInstance)
    (hw : wantE m.ops E g = some true := by exact rfl) (hd : Nat.blt d N = true := by exact rfl) (hx : evE E x = some (.int k n) := by exact rfl) (hv : Value.int k' (k'.wrap n) = v := by first | exact conv_u8 _ | exact rfl) {m'' : Mode} (hl : m'.logged m.at (fun _ => True) = m'' := by dsimp only [Mode.logged, Mode.at]; try exact rfl) (h : EW P N m'' ((d, v) :: E) H) : EW P N m E H :=
  ew_convI v hm us ut hw hd hx hv (hl ▸ h)
def isNewO : Op → Bool
  | .alloc _ => true
  | .box .. => true
  | .buildSlice .. => true
  | .makeSlice .. => true
  | _ => false
theorem ew_nw {b : Nat} (hb : b = H.next) (hm : m.head = some (⟨some d, op, ty, p, af, g⟩, m') := by exact rfl) (ho : isNewO op = true := by exact rfl) (hw : wantE m.ops E g = some true := by exact rfl) (hd : Nat.blt d N = true := by exact rfl)
    (hn : b = H.next → Nr P N E H ⟨some d, op, ty, p, af, g⟩ v H' := by intro hb; first | exact r_alloc hb | exact r_box hb [_] | exact r_box hb [_, _] | exact r_box hb [_, _, _] | exact r_box hb [_, _, _, _] | exact r_box hb [_, _, _, _, _] | exact r_box hb [_, _, _, _, _, _] | exact r_box hb [_, _, _, _, _, _, _] | exact r_box hb [_, _, _, _, _, _, _, _] | exact r_box hb [_, _, _, _, _, _, _, _, _] | exact r_box hb [_, _, _, _, _, _, _, _, _, _] | exact r_box hb [_, _, _, _, _, _, _, _, _, _, _] | exact r_box hb [_, _, _, _, _, _, _, _, _, _, _, _] | exact r_box hb [_, _, _, _, _, _, _, _, _, _, _, _, _, _, _, _] | exact r_box hb [_, _, _, _, _, _, _, _, _, _, _, _, _, _, _, _, _, _, _, _, _, _, _, _, _, _, _, _] | exact r_box hb [_, _, _, _, _, _, _, _, _, _, _, _, _, _, _, _, _, _, _, _, _, _, _, _, _, _, _, _, _, _, _, _, _, _, _, _, _, _, _, _, _, _, _, _, _, _, _, _, _, _, _, _, _, _, _, _, _, _, _, _, _, _, _, _, _, _, _, _, _, _, _, _, _, _, _] | exact r_buildSlice hb [] | exact r_buildSlice hb [_] | exact r_buildSlice hb [_, _] | exact r_buildSlice hb [_, _, _] | exact r_buildSlice hb [_, _, _, _] | exact r_buildSlice hb [_, _, _, _, _] | exact r_buildSlice hb [_, _, _, _, _, _] | exact r_buildSlice hb [_, _, _, _, _, _, _] | exact r_buildSlice hb [_, _, _, _, _, _, _, _] | exact r_buildSlice hb [_, _, _, _, _, _, _, _, _] | exact r_buildSlice hb [_, _, _, _, _, _, _, _, _, _] | exact r_buildSlice hb [_, _, _, _, _, _, _, _, _, _, _] | exact r_buildSlice hb [_, _, _, _, _, _, _, _, _, _, _, _] | exact r_buildSlice hb [_, _, _, _, _, _, _, _, _, _, _, _, _, _, _, _] | exact r_buildSlice hb [_, _, _, _, _, _, _, _, _, _, _, _, _, _, _, _, _, _, _, _, _, _, _, _, _, _, _, _] | exact r_buildSlice hb [_, _, _, _, _, _, _, _, _, _, _, _, _, _, _, _, _, _, _, _, _, _, _, _, _, _, _, _, _, _, _, _, _, _, _, _, _, _, _, _, _, _, _, _, _, _, _, _, _, _, _, _, _, _, _, _, _, _, _, _, _, _, _, _, _, _, _, _, _, _, _, _, _, _, _] | exact r_makeSlice hb (h0 := by refine ⟨?_, ?_, ?_⟩ <;> first | omega | (simp; omega) | simp) (hm := by first | exact Int.toNat_natCast _ | exact rfl) (hq := by first | exact Int.toNat_natCast _ | exact rfl)) (h : EW P N m' ((d, v) :: E) H') : EW P N m E H := ew_n hm hw hd (hn hb) h
theorem ew_st {t : TypeId} {ad : Addr} {n : Nat} {d' : Option Nat} (hm : m.head = some (⟨d', .store t x y, ty, p, af, g⟩, m') := by exact rfl) (hw : wantE m.ops E g = some true := by exact rfl) (hd : bltO d' N = true := by exact rfl)
    (sz : SzT P t n := by exact inferInstance) (hx : evE E x = some (.pointer (some ad)) := by exact rfl) (hy : evE E y = some v := by exact rfl) (hn : v.cells.size = n := by exact rfl) (hc : H.setCells ad v.cells.toList = some H' := by (apply setCells_at; (focus ((repeat' (first | assumption | (rw [aadd_block]) | (apply gN; (focus (first | exact rfl | omega | (simp only [AHeap.push_next, AHeap.put_next, aadd_block] <;> omega))); (focus exact rfl)) | (apply gO; (focus (first | omega | (simp only [AHeap.push_next, AHeap.put_next, aadd_block, ne_eq] <;> omega)))) | (apply gS; (focus (first | exact rfl | omega | (simp only [AHeap.push_next, AHeap.put_next, aadd_block] <;> omega))); (focus exact rfl)) | (apply gP; (focus (first | omega | (simp only [AHeap.push_next, AHeap.put_next, aadd_block, ne_eq] <;> omega)))) | exact rfl)); done)); (focus exact rfl); (focus (first | exact Nat.le_of_ble_eq_true rfl | (simp; omega) | (simp; done) | (simp [Value.cells]; omega))); (focus (first | exact rfl | (simp; done))); (focus (first | exact (rfl : _ = [_]) | exact (rfl : _ = [_, _]) | exact (rfl : _ = [_, _, _]) | exact (rfl : _ = [_, _, _, _]) | exact (rfl : _ = [_, _, _, _, _]) | exact (rfl : _ = [_, _, _, _, _, _]) | exact (rfl : _ = [_, _, _, _, _, _, _]) | exact (rfl : _ = [_, _, _, _, _, _, _, _]) | exact (rfl : _ = [_, _, _, _, _, _, _, _, _]) | exact (rfl : _ = [_, _, _, _, _, _, _, _, _, _]) | exact (rfl : _ = [_, _, _, _, _, _, _, _, _, _, _]) | exact (rfl : _ = [_, _, _, _, _, _, _, _, _, _, _, _]) | exact (rfl : _ = [_, _, _, _, _, _, _, _, _, _, _, _, _, _, _, _]) | exact (rfl : _ = [_, _, _, _, _, _, _, _, _, _, _, _, _, _, _, _, _, _, _, _, _, _, _, _, _, _, _, _]) | exact (rfl : _ = [_, _, _, _, _, _, _, _, _, _, _, _, _, _, _, _, _, _, _, _, _, _, _, _, _, _, _, _, _, _, _, _, _, _, _, _, _, _, _, _, _, _, _, _, _, _, _, _, _, _, _, _, _, _, _, _, _, _, _, _, _, _, _, _, _, _, _, _, _, _, _, _, _, _, _]) | exact rfl)); (focus (first | exact aadd_block _ _ | exact rfl)))) (hk : m.kept H' := by (first | exact Mode.kept_seq rfl | (dsimp only [Mode.kept, Mode.logged, Mode.at]; (repeat' (first | exact (fun _ h => absurd h List.not_mem_nil) | (refine List.forall_mem_cons.2 ⟨?_, ?_⟩) | (refine .inl ?_; exact rfl) | (refine .inl ?_; dsimp only; decide))); done)))
    (h : EW P N m' (putO d' undef E) H') : EW P N m E H := ew_e hm hw hd (er_store sz hx hy hn hc) hk h
end

end Go.Ae

/- Small rules for walking code over the abstract heap. No condition. -/
import Derived.Test.YtmibkoadjehdaaaGreatDoorKy11
set_option linter.unusedVariables false
set_option linter.unusedSimpArgs false
namespace Go.Ae

section
variable {P : Program} {ops : Array Oper} {B : List Nat} {K : Act → AHeap → Prop} {a : Act} {H H' : AHeap} {v : Value} {o : Oper} {rest : List Oper}

theorem ib_eql {k : IntKind} {m n : Int} : intBin .eql k m n = some (.bool (decide (m = n))) := rfl
theorem ib_neq {k : IntKind} {m n : Int} : intBin .neq k m n = some (.bool (decide (m ≠ n))) := rfl
theorem ib_lss {k : IntKind} {m n : Int} : intBin .lss k m n = some (.bool (decide (m < n))) := rfl
theorem ib_leq {k : IntKind} {m n : Int} : intBin .leq k m n = some (.bool (decide (m ≤ n))) := rfl
theorem ib_gtr {k : IntKind} {m n : Int} : intBin .gtr k m n = some (.bool (decide (m > n))) := rfl
theorem ib_geq {k : IntKind} {m n : Int} : intBin .geq k m n = some (.bool (decide (m ≥ n))) := rfl
theorem ib_rem {k : IntKind} {m n : Int} (h : n ≠ 0) : intBin .rem k m n = some (.int k (m.tmod n)) := by simp only [intBin, if_neg h]
theorem cmp_t {op : BinOp} {k : IntKind} {m n : Int} {c : Prop} {_dc : Decidable c} (h : intBin op k m n = some (.bool (decide c))) (hc : c) : intBin op k m n = some (.bool true) := by rw [h]; simp only [hc, decide_true]
theorem cmp_f {op : BinOp} {k : IntKind} {m n : Int} {c : Prop} {_dc : Decidable c} (h : intBin op k m n = some (.bool (decide c))) (hc : ¬ c) : intBin op k m n = some (.bool false) := by rw [h]; simp only [hc, decide_false]
theorem wrap_in (n : Int) (h0 : -9223372036854775808 ≤ n) (h1 : n ≤ 9223372036854775807) : IntKind.i64.wrap n = n := IntWalk.i64_in n ⟨h0, h1⟩
theorem wrap8_in (n : Int) (h0 : 0 ≤ n) (h1 : n ≤ 255) : IntKind.u8.wrap n = n := IntWalk.u8_in n ⟨h0, h1⟩
theorem tdiv_in (m n : Int) (h0 : 0 ≤ m) (_h1 : 0 < n) : m.tdiv n = m / n := Int.tdiv_eq_ediv_of_nonneg h0
theorem tmod_in (m n : Int) (h0 : 0 ≤ m) (_h1 : 0 < n) : m.tmod n = m % n := Int.tmod_eq_emod_of_nonneg h0

theorem b_same {id : Nat} {Q : Exit → Act → AHeap → Prop} (h : Q .normal a H) : inBlockA id Q (.exit id) a H := by simp only [inBlockA, if_true]; exact h
theorem b_other {id id' : Nat} {Q : Exit → Act → AHeap → Prop} (hne : (id' == id) = false) (h : Q (.exit id') a H) : inBlockA id Q (.exit id') a H := by
  have : ¬ id' = id := by simpa using hne
  simp only [inBlockA, this, if_false]; exact h
/-! The end -/
def resV (P : Program) (a : Act) (H : AHeap) : ResultVar → Option Value
  | .tmp t => some (a.eval (.tmp t))
  | .cell t ty => loadA P H ty (a.eval (.tmp t))
theorem resV_tmp {t : Tmp} (h : a.eval (.tmp t) = v) : resV P a H (.tmp t) = some v := by simp [resV, h]
theorem resV_cell1 {t : Tmp} {ty : TypeId} {ad : Addr} (hs : szT P ty = some 1) (ha : isAggT P ty = some false) (hx : a.eval (.tmp t) = .pointer (some ad)) (hc : H.cellsAt ad 1 = some [v]) : resV P a H (.cell t ty) = some v := by
  simp [resV, loadA, hx, hs, ha, hc]
theorem resV_celln {t : Tmp} {ty : TypeId} {ad : Addr} {n : Nat} {l : List Value} (hs : szT P ty = some n) (ha : isAggT P ty = some true) (hx : a.eval (.tmp t) = .pointer (some ad)) (hc : H.cellsAt ad n = some l) :
    resV P a H (.cell t ty) = some (.agg l.toArray) := by simp [resV, loadA, hx, hs, ha, hc]
theorem resL_cons {r : ResultVar} {rs : List ResultVar} {l : List Value} (h1 : resV P a H r = some v) (h2 : resL P a H rs = some l) : resL P a H (r :: rs) = some (v :: l) := by
  cases r with
  | tmp t => simp only [resV, Option.some.injEq] at h1; simp only [resL, h2, getD_eval, h1, Option.map_some]
  | cell t ty => simp only [resV] at h1; simp only [resL, getD_eval, h1, h2]
theorem e_one {rs : List ResultVar} {r : ResultVar} {Q : Value → AHeap → Prop} {e : Exit} (hd : a.defers = []) (he : e = .normal ∨ e = .ret) (hrs : rs = [r]) (h1 : resV P a H r = some v) (hq : Q v H) : bodyA P rs Q e a H :=
  ⟨he, hd, [v], by rw [hrs]; exact resL_cons h1 rfl, hq⟩
end

/-! ### Reading rows -/

theorem cellsAt_get {H : AHeap} {ad : Addr} {r : Row} {n : Nat} (h : H.get ad.block = some (.row r)) (hv : verOf ad = r.ver) (hn : ad.off + n ≤ r.cells.length) : H.cellsAt ad n = some ((r.cells.drop ad.off).take n) := by
  simp [AHeap.cellsAt, AHeap.rowAt, h, hv, hn]
theorem g_new {H : AHeap} {o : AObj} {i : Nat} (h : i = H.next) : (H.push o).get i = some o := by rw [AHeap.push_get, if_pos h]
theorem g_old {H : AHeap} {o : AObj} {i : Nat} (h : i ≠ H.next) : (H.push o).get i = H.get i := by rw [AHeap.push_get, if_neg h]
theorem p_same {H : AHeap} {o : AObj} {i j : Nat} (h : j = i) : (H.put i o).get j = some o := by rw [AHeap.put_get, if_pos h]
theorem p_old {H : AHeap} {o : AObj} {i j : Nat} (h : j ≠ i) : (H.put i o).get j = H.get j := by rw [AHeap.put_get, if_neg h]
theorem gN {H : AHeap} {o : AObj} {i : Nat} {r : Row} (h : i = H.next) (hr : o = .row r) : (H.push o).get i = some (.row r) := by subst hr; exact g_new h
theorem gO {H : AHeap} {o : AObj} {i : Nat} {x : Option AObj} (h : i ≠ H.next) (hr : H.get i = x) : (H.push o).get i = x := by rw [g_old h, hr]
theorem gS {H : AHeap} {o : AObj} {i j : Nat} {r : Row} (h : j = i) (hr : o = .row r) : (H.put i o).get j = some (.row r) := by subst hr; exact p_same h
theorem gP {H : AHeap} {o : AObj} {i j : Nat} {x : Option AObj} (h : j ≠ i) (hr : H.get j = x) : (H.put i o).get j = x := by rw [p_old h, hr]
theorem cellsAt_of {H : AHeap} {ad : Addr} {r : Row} {n : Nat} {l : List Value} (h : H.get ad.block = some (.row r)) (hv : verOf ad = r.ver) (hn : ad.off + n ≤ r.cells.length) (hl : (r.cells.drop ad.off).take n = l) : H.cellsAt ad n = some l := by
  rw [cellsAt_get h hv hn, hl]
theorem setCells_of' {H : AHeap} {ad : Addr} {vs cells' : List Value} {r : Row} (h : H.get ad.block = some (.row r)) (hv : verOf ad = r.ver) (hw : r.rw = true) (hn : ad.off + vs.length ≤ r.cells.length) (h1 : vs.all Value.oneCell' = true)
    (hc : lset r.cells ad.off vs = cells') : H.setCells ad vs = some (H.put ad.block (.row ⟨cells', r.elem, r.ver, r.rw⟩)) := by
  subst hc
  simp [AHeap.setCells, AHeap.rowAt, h, hv, hw, hn, h1]

theorem setCells_at {H : AHeap} {ad : Addr} {vs cells cells' : List Value} {e : TypeId} {vr b : Nat} (h : H.get ad.block = some (.row ⟨cells, e, vr, true⟩)) (hv : verOf ad = vr) (hn : ad.off + vs.length ≤ cells.length) (h1 : vs.all Value.oneCell' = true)
    (hc : lset cells ad.off vs = cells') (hb : ad.block = b) : H.setCells ad vs = some (H.put b (.row ⟨cells', e, vr, true⟩)) := by
  subst hb; exact setCells_of' h hv rfl hn h1 hc

/-! ### Writing -/

section
variable {P : Program} {a : Act} {H H' : AHeap} {d : Option Tmp} {ty : TypeId} {p : String} {af : Array Edge} {g : Option (Nat × Bool)} {x y : Operand} {u v : Value}
theorem ac_store {t : TypeId} : acall P a.eval ⟨d, .store t x y, ty, p, af, g⟩ = none := rfl
theorem ac_builtin {c : Call} {b : Builtin} (hc : c.callee = .builtin b) : acall P a.eval ⟨d, .call c, ty, p, af, g⟩ = none := by simp [acall, hc]
theorem x_store {t : TypeId} {ad : Addr} {n : Nat} (hs : szT P t = some n) (hx : a.eval x = .pointer (some ad)) (hy : a.eval y = v) (hn : v.cells.size = n) (hc : H.setCells ad v.cells.toList = some H') :
    aE P a.eval H ⟨d, .store t x y, ty, p, af, g⟩ = some (undef, H') := by simp [aE, storeA, hx, hy, hs, hn, hc]
theorem x_append {c : Call} {t u' : TypeId} (hc : c.callee = .builtin .append) (ha : c.args.toList = [x, y]) (ht : c.argTypes.toList = [t, u']) {s z : Value} (hx : a.eval x = s) (hy : a.eval y = z)
    (h : appendA P H t u' s z = some (v, H')) : aE P a.eval H ⟨d, .call c, ty, p, af, g⟩ = some (v, H') := by simp [aE, hc, ha, ht, hx, hy, h]
theorem x_call {c : Call} {f : FuncId} {fn : Func} {o : Operand} (hc : c.callee = .value o) (ho : o = .func f) (hf : P.funcs[f]? = some fn) (hn : (fn.name == "runtime.NumGoroutine" || fn.body.isNone) = false) :
    acall P a.eval ⟨d, .call c, ty, p, af, g⟩ = some (f, (c.args.toList.map a.eval).toArray) := by
  subst ho
  simp only [acall, hc, Act.eval_func, hf, hn, Bool.false_eq_true, if_false]
  congr 2
  apply Array.ext'
  simp
end

/-! The rules with the operation written out -/
section
variable {P : Program} {ops : Array Oper} {B : List Nat} {K : Act → AHeap → Prop} {a : Act} {H H' : AHeap} {v : Value} {d : Option Tmp} {op : Op} {ty : TypeId} {p : String} {af : Array Edge} {g : Option (Nat × Bool)}
  {rest : List Oper} {i : Nat} {sched : List Nat} {log : Log}
theorem qn (hw : Region.wanted ⟨d, op, ty, p, af, g⟩ (yielded ops a.tmps) = true) (hE : isE ⟨d, op, ty, p, af, g⟩ = false) (hn : nRes P a H ⟨d, op, ty, p, af, g⟩ = some (v, H')) (h : wpSeq P ops K rest (a.put d v) H') :
    wpSeq P ops K (⟨d, op, ty, p, af, g⟩ :: rest) a H := q_n hw hE hn h
theorem qskip (hw : Region.wanted ⟨d, op, ty, p, af, g⟩ (yielded ops a.tmps) = false) (h : wpSeq P ops K rest (a.put d undef) H) : wpSeq P ops K (⟨d, op, ty, p, af, g⟩ :: rest) a H := q_skip hw h
theorem qe (hw : Region.wanted ⟨d, op, ty, p, af, g⟩ (yielded ops a.tmps) = true) (hE : isE ⟨d, op, ty, p, af, g⟩ = true) (hc : acall P a.eval ⟨d, op, ty, p, af, g⟩ = none)
    (he : aE P a.eval H ⟨d, op, ty, p, af, g⟩ = some (v, H')) (h : wpSeq P ops K rest (a.put d v) H') : wpSeq P ops K (⟨d, op, ty, p, af, g⟩ :: rest) a H := q_e hw hE hc he h
theorem sn (ho : ops[i]? = some ⟨d, op, ty, p, af, g⟩) (hw : Region.wanted ⟨d, op, ty, p, af, g⟩ (yielded ops a.tmps) = true) (hE : isE ⟨d, op, ty, p, af, g⟩ = false) (hr : isRead ⟨d, op, ty, p, af, g⟩ = false)
    (hn : nRes P a H ⟨d, op, ty, p, af, g⟩ = some (v, H')) (h : wpS P ops B K sched (a.put d v) H' log) : wpS P ops B K (i :: sched) a H log := s_n ho hw hE hr hn h
theorem sskip (ho : ops[i]? = some ⟨d, op, ty, p, af, g⟩) (hw : Region.wanted ⟨d, op, ty, p, af, g⟩ (yielded ops a.tmps) = false) (h : wpS P ops B K sched (a.put d undef) H log) : wpS P ops B K (i :: sched) a H log := s_skip ho hw h
theorem sload {t : TypeId} {x : Operand} {ad : Addr} {n : Nat} (ho : ops[i]? = some ⟨d, .load t x, ty, p, af, g⟩) (hw : Region.wanted ⟨d, .load t x, ty, p, af, g⟩ (yielded ops a.tmps) = true) (hx : a.eval x = .pointer (some ad))
    (hsz : szT P t = some n) (hag : isAggT P t = some false ∧ n = 1 ∨ isAggT P t = some true) (hn : nRes P a H ⟨d, .load t x, ty, p, af, g⟩ = some (v, H'))
    (h : wpS P ops B K sched (a.put d v) H ((i, fun H' => H'.cellsAt ad n = H.cellsAt ad n) :: log)) : wpS P ops B K (i :: sched) a H log := s_load ho hw rfl hx hsz hag hn h
theorem se (ho : ops[i]? = some ⟨d, op, ty, p, af, g⟩) (hw : Region.wanted ⟨d, op, ty, p, af, g⟩ (yielded ops a.tmps) = true) (hE : isE ⟨d, op, ty, p, af, g⟩ = true) (hc : acall P a.eval ⟨d, op, ty, p, af, g⟩ = none)
    (he : aE P a.eval H ⟨d, op, ty, p, af, g⟩ = some (v, H')) (hl : ∀ p ∈ log, anc B p.1 i = true ∨ p.2 H') (h : wpS P ops B K sched (a.put d v) H' log) : wpS P ops B K (i :: sched) a H log := s_e ho hw hE hc he hl h
end

/-! Calls and appends by what they promise -/
section
variable {P : Program} {ops : Array Oper} {B : List Nat} {K : Act → AHeap → Prop} {a : Act} {H : AHeap} {sched : List Nat} {log : Log} {rest : List Oper} {i : Nat} {d : Option Tmp} {ty : TypeId} {p : String} {af : Array Edge} {g : Option (Nat × Bool)} {x y : Operand}
  {R : Value → AHeap → Prop} {op : Op} {c : Call} {t u' : TypeId} {s z : Value}
theorem qcallR {f : FuncId} {args : Array Value} (hw : Region.wanted ⟨d, op, ty, p, af, g⟩ (yielded ops a.tmps) = true) (hE : isE ⟨d, op, ty, p, af, g⟩ = true) (hc : acall P a.eval ⟨d, op, ty, p, af, g⟩ = some (f, args))
    (hR : ACalls P f args H R) (h : ∀ v H', R v H' → wpSeq P ops K rest (a.put d v) H') : wpSeq P ops K (⟨d, op, ty, p, af, g⟩ :: rest) a H := q_call hw hE hc (hR.mono h)
theorem scallR {f : FuncId} {args : Array Value} (ho : ops[i]? = some ⟨d, op, ty, p, af, g⟩) (hw : Region.wanted ⟨d, op, ty, p, af, g⟩ (yielded ops a.tmps) = true) (hE : isE ⟨d, op, ty, p, af, g⟩ = true)
    (hc : acall P a.eval ⟨d, op, ty, p, af, g⟩ = some (f, args)) (hR : ACalls P f args H R) (h : ∀ v H', R v H' → (∀ p ∈ log, anc B p.1 i = true ∨ p.2 H') ∧ wpS P ops B K sched (a.put d v) H' log) : wpS P ops B K (i :: sched) a H log :=
  s_call ho hw hE hc (hR.mono h)
end

/-! Building -/
theorem fill_nil {place : Nat → Option (Nat × Nat)} {cells : List Value} {out : Array Value} (h : cells.toArray = out) : Instr.fill place cells.toArray [] = some out := by subst h; rfl
theorem fold_lset (off : Nat) : ∀ (vs : List Value) (j : Nat) (cs : Array Value), off + j + vs.length ≤ cs.size → ((vs.zipIdx j).foldl (fun cs x => cs.setIfInBounds (off + x.2) x.1) cs).toList = lset cs.toList (off + j) vs
  | [], j, cs, _ => by simp [lset]
  | v :: vs, j, cs, h => by
    rw [List.zipIdx_cons, List.foldl_cons, fold_lset off vs (j + 1) _ (by simp at h ⊢; omega)]
    apply List.ext_getElem?
    intro k
    rw [lset_get (by simp at h ⊢; omega), lset_get (by simp at h ⊢; omega)]
    simp only [List.length_cons] at h ⊢
    by_cases h1 : k < off + j
    · rw [if_pos (by omega), if_pos h1]
      simp only [Array.toList_setIfInBounds]
      rw [List.getElem?_set_ne (by omega)]
    · by_cases h2 : k = off + j
      · subst h2
        rw [if_pos (by omega), if_neg (by omega), if_pos (by omega)]
        simp only [Array.toList_setIfInBounds]
        rw [List.getElem?_set_self (by simp; omega)]
        simp
      · rw [if_neg (by omega), if_neg h1]
        by_cases h3 : k < off + j + (vs.length + 1)
        · rw [if_pos (by omega), if_pos h3, show k - (off + j) = (k - (off + (j + 1))) + 1 by omega, List.getElem?_cons_succ]
        · rw [if_neg (by omega), if_neg h3]
          simp only [Array.toList_setIfInBounds]
          rw [List.getElem?_set_ne (by omega)]
theorem fill_cons {place : Nat → Option (Nat × Nat)} {cells vs l : List Value} {out : Array Value} {i off size : Nat} {v : Value} {rest : List (Nat × Value)} (hpl : place i = some (off, size)) (hv : v.cells.toList = vs) (hs : vs.length = size)
    (hle : off + size ≤ cells.length) (hl : lset cells off vs = l) (h : Instr.fill place l.toArray rest = some out) : Instr.fill place cells.toArray ((i, v) :: rest) = some out := by
  have hsz : v.cells.size = size := by rw [← hs, ← hv]; simp
  have hf : v.cells.zipIdx.foldl (fun cs (c, j) => cs.setIfInBounds (off + j) c) cells.toArray = l.toArray := by
    apply Array.ext'
    have := fold_lset off vs 0 cells.toArray (by simp; omega)
    rw [← hl]
    simp only [Nat.add_zero] at this
    rw [← this, ← hv, ← Array.foldl_toList]
    simp
  unfold Instr.fill
  rw [hpl]
  simp only
  rw [if_neg (by simp; omega), hf]
  exact h
def placesT (P : Program) (t : TypeId) : Option (Array (Nat × Nat) × List Value) :=
  match P.info? t, P.underlying t, zeroT P t with
  | some it, some (.struct fields), some _ =>
    match it.zero, fields.toList.mapM (fun f => (P.info? f.type).map fun i => (f.offset, i.size)) with
    | some z, some places => some (places.toArray, z.cells.toList)
    | _, _ => none
  | _, _, _ => none
theorem built_of {P : Program} {t : TypeId} {pl : Array (Nat × Nat)} {zs : List Value} {parts : List (Nat × Value)} {cells : Array Value} (h : placesT P t = some (pl, zs)) (hf : Instr.fill (pl[·]?) zs.toArray parts = some cells) :
    builtA P t parts = some (.agg cells) := by
  unfold placesT at h
  split at h
  · rename_i it fields zs' h1 h2 h3
    split at h
    · rename_i z places h4 h5
      simp only [Option.some.injEq, Prod.mk.injEq] at h
      obtain ⟨rfl, rfl⟩ := h
      simp only [builtA, h3, Program.built, h1, h2, h4, h5, Option.map_eq_some_iff]
      exact ⟨cells, hf, rfl⟩
    · cases h
  · cases h
theorem parts_of {a : Act} {ps : Array (Nat × Operand)} {l : List (Nat × Operand)} {parts : List (Nat × Value)} (hl : ps.toList = l) (h : l.map (fun p => (p.1, a.eval p.2)) = parts) : evParts a.eval ps = parts := by
  subst hl h; simp [evParts]
theorem n_build' {P : Program} {a : Act} {H : AHeap} {d : Option Tmp} {t ty : TypeId} {p : String} {af : Array Edge} {g : Option (Nat × Bool)} {ps : Array (Nat × Operand)} {l : List (Nat × Operand)} {parts : List (Nat × Value)} {pl : Array (Nat × Nat)} {zs : List Value} {cells : Array Value}
    (hp : placesT P t = some (pl, zs)) (hl : ps.toList = l) (he : l.map (fun p => (p.1, a.eval p.2)) = parts) (hf : Instr.fill (pl[·]?) zs.toArray parts = some cells) :
    nRes P a H ⟨d, .build t ps, ty, p, af, g⟩ = some (.agg cells, H) := n_build (by rw [parts_of hl he]; exact built_of hp hf)

/-! New rows, with a name for their block -/
section
variable {P : Program} {ops : Array Oper} {B : List Nat} {K : Act → AHeap → Prop} {a : Act} {H : AHeap} {sched : List Nat} {log : Log} {rest : List Oper} {d : Option Tmp} {ty : TypeId} {p : String} {af : Array Edge} {g : Option (Nat × Bool)} {x : Operand} {v : Value} {b : Nat}
theorem m_alloc (hb : b = H.next) {t : TypeId} {z : List Value} {n : Nat} (hz : zeroT P t = some z) (hs : szT P t = some n) : nRes P a H ⟨d, .alloc t, ty, p, af, g⟩ = some (.pointer (some ⟨b, 0, none⟩), H.push (.row ⟨z, t, 0, true⟩)) := by
  subst hb; exact n_alloc hz hs
theorem m_box (hb : b = H.next) {t : TypeId} {n : Nat} {l : List Value} (hs : szT P t = some n) (hx : a.eval x = v) (hl : v.cells.toList = l) : nRes P a H ⟨d, .box t x, ty, p, af, g⟩ = some (.pointer (some ⟨b, 0, none⟩), H.push (.row ⟨l, t, 0, true⟩)) := by
  subst hb hl; exact n_box hs hx
theorem m_buildSlice (hb : b = H.next) {t e : TypeId} {len k : Nat} {ps : Array (Nat × Operand)} {z l : List Value} {cells : Array Value} (hu : P.underlying t = some (.slice e)) (hs : szT P e = some (k + 1)) (hz : zeroT P e = some z)
    (hl : len * (k + 1) ≤ 16777216) {pl : List (Nat × Operand)} {parts : List (Nat × Value)} (hpl : ps.toList = pl) (he : pl.map (fun p => (p.1, a.eval p.2)) = parts)
    {zs : List Value} (hzr : zrep len z = zs) (hf : Instr.fill (fun i => some (i * (k + 1), k + 1)) zs.toArray parts = some cells) (hc : cells.toList = l) :
    nRes P a H ⟨d, .buildSlice t len ps, ty, p, af, g⟩ = some (.slice (some ⟨b, 0, none⟩) len len, H.push (.row ⟨l, e, 0, true⟩)) := by
  subst hb hc; exact n_buildSlice hu hs hz hl (by rw [parts_of hpl he, hzr]; exact hf)
theorem m_makeSlice (hb : b = H.next) {t e : TypeId} {l c : Operand} {k y : Nat} {j j' : IntKind} {m q : Int} {m' q' : Nat} {z : List Value} (hu : P.underlying t = some (.slice e)) (hs : szT P e = some (k + 1)) (hz : zeroT P e = some z) (hy : byT P e = some (y + 1))
    (hl : a.eval l = .int j m) (hc : a.eval c = .int j' q) (h0 : 0 ≤ m ∧ m ≤ q ∧ q * (y + 1) ≤ 281474976710656) (hm : m.toNat = m') (hq : q.toNat = q') :
    nRes P a H ⟨d, .makeSlice t l c, ty, p, af, g⟩ = some (.slice (some ⟨b, 0, none⟩) m' q', H.push (.row ⟨zrep q' z, e, 0, true⟩)) := by
  subst hb hm hq; exact n_makeSlice hu hs hz hy hl hc h0
end

/-! append: the ways it goes -/
section
variable {P : Program} {H : AHeap} {t u e : TypeId} {du : TypeDesc} {k b n len cap : Nat} {x : Value} {ad : Addr} {news olds zs : List Value}
/-- The types of an append: slice of e, what is appended, the element's cells and bytes. -/
structure AppT (P : Program) (t u e : TypeId) (k : Nat) (b : Nat) : Prop where
  ht : P.underlying t = some (.slice e)
  hu : ∃ du, P.underlying u = some du ∧ srcD du = true
  hs : szT P e = some (k + 1)
  hb : byT P e = some (b + 1)
  hz : ∃ zs, zeroT P e = some zs
theorem app_none (T : AppT P t u e k b) {base : Option Addr} (hx : srcA H (k + 1) x = some (0, news)) (hl : len ≤ cap) : appendA P H t u (.slice base len cap) x = some (.slice base len cap, H) := by
  obtain ⟨du, hu, hd⟩ := T.hu
  obtain ⟨zs, hz⟩ := T.hz
  simp [appendA, T.ht, hu, hd, T.hs, T.hb, hz, hx, hl]
theorem app_nil (T : AppT P t u e k b) (hx : srcA H (k + 1) x = some (n, news)) (hn : n ≠ 0) (hb : n * (b + 1) ≤ 140737488355328) :
    appendA P H t u (.slice none 0 0) x = some (.slice (some ⟨H.next, 0, none⟩) n (openCap + (k + 1)), H.push (.row ⟨news, e, 0, true⟩)) := by
  obtain ⟨du, hu, hd⟩ := T.hu
  obtain ⟨zs, hz⟩ := T.hz
  simp [appendA, T.ht, hu, hd, T.hs, T.hb, hz, hx, hn, hb]
theorem app_grow (T : AppT P t u e k b) (hx : srcA H (k + 1) x = some (n, news)) (hn : n ≠ 0) (hb : (len + n) * (b + 1) ≤ 140737488355328) (hc : cap < openCap) (hlt : cap < len + n) (ho : oldA H ad (len * (k + 1)) = some olds) :
    appendA P H t u (.slice (some ad) len cap) x = some (.slice (some ⟨H.next, 0, none⟩) (len + n) (openCap + (k + 1)), H.push (.row ⟨olds ++ news, e, 0, true⟩)) := by
  obtain ⟨du, hu, hd⟩ := T.hu
  obtain ⟨zs, hz⟩ := T.hz
  have h1 : ¬ len + n ≤ cap := by omega
  simp [appendA, T.ht, hu, hd, T.hs, T.hb, hz, hx, hn, hb, hc, h1, ho]
theorem app_open (T : AppT P t u e k b) (hx : srcA H (k + 1) x = some (n, news)) (hn : n ≠ 0) (hb : (len + n) * (b + 1) ≤ 140737488355328) (hc : cap = openCap + (k + 1)) {r : Row} (hg : H.get ad.block = some (.row r)) (hv : verOf ad = r.ver)
    (hrw : r.rw = true) (he : r.elem = e) (h1 : news.all Value.oneCell' = true) (hend : ad.off + len * (k + 1) = r.cells.length) :
    appendA P H t u (.slice (some ad) len cap) x = some (.slice (some ⟨ad.block, ad.off, spotOf (r.ver + 1)⟩) (len + n) cap, H.put ad.block (.row { r with cells := r.cells ++ news, ver := r.ver + 1 })) := by
  obtain ⟨du, hu, hd⟩ := T.hu
  obtain ⟨zs, hz⟩ := T.hz
  subst hc
  have h2 : ¬ openCap + (k + 1) < openCap := by omega
  have hr : H.rowAt ad = some r := by simp [AHeap.rowAt, hg, hv]
  simp [appendA, T.ht, hu, hd, T.hs, T.hb, hz, hx, hn, hb, hr, hrw, he, h1, hend]
  exact fun h => absurd h h2
end


/-! Loops -/
theorem c_loop {P : Program} {tbl : Tbl} {c : Code} {Q : Exit → Act → AHeap → Prop} {a : Act} {H : AHeap} (hm : P.follows .mixedOrders = true) (I : Nat → Act → AHeap → Prop) (n : Nat) (hok : codeOk tbl c = true) (h0 : I n a H)
    (round : ∀ n a H, I n a H → awC P tbl c (thenA (fun a' H' => ∃ m, m < n ∧ I m a' H') Q) a H) : awC P tbl (.loop c) Q a H := aw_loop I n h0 fun n a H hI => awC_sound hm c _ a H hok (round n a H hI)

end Go.Ae

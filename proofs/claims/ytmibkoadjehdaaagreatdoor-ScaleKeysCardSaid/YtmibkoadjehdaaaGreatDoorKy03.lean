/- The operations of a region by their kinds: pure ones, reads. Reads of the abstract heap, and operations that make a new row. -/
import Derived.Test.YtmibkoadjehdaaaGreatDoorKy02
import Derived.Laws.BytesString
set_option linter.unusedVariables false
set_option linter.unusedSimpArgs false
namespace Go.Ae

/-! ### Operations over values without an address: the model's own run -/

def quietOp (P : Program) (ev : Operand → Value) (o : Oper) : Option Value :=
  if o.op.operands.all (fun x => simpleV (ev x)) then
    match quiet P (execOp ev o) with
    | some (.value v) => if simpleV v then some v else none
    | _ => none
  else none
theorem quietOp_sim {P : Program} {ρ : Ren} {ev ev' : Operand → Value} {o : Oper} {v : Value} (h : quietOp P ev o = some v) (hv : ∀ x ∈ o.op.operands, VR ρ (ev x) (ev' x)) :
    ∃ v', VR ρ v v' ∧ ∀ w, (execOp ev' o).run P w = .ok (.value v') w := by
  unfold quietOp at h
  split at h
  · rename_i hs
    split at h
    · rename_i u hq
      split at h
      · rename_i hsu
        obtain rfl := Option.some.inj h
        refine ⟨u, VR.of_simple hsu, fun w => ?_⟩
        have heq : ∀ x ∈ o.op.operands, ev' x = ev x := fun x hx => VR.simple_eq (Array.all_eq_true_iff_forall_mem.1 hs x hx) (hv x hx)
        have hsel : ∀ cs b, o.op ≠ .select cs b := by
          intro cs b e
          obtain ⟨dst, op, type, pos, after, guard⟩ := o
          dsimp only at e
          subst e
          simp only [execOp, quiet_bind, quiet_pure] at hq
          cases hm : quiet P (cs.mapM fun s => do pure { chan := ev s.chan, send := s.send.map ev, zero := ← zeroValue s.elem : CommCase }) with
          | none => rw [hm] at hq; simp at hq
          | some z => rw [hm] at hq; simp at hq
        rw [execOp_congr o hsel heq]
        exact quiet_run hq w
      · cases h
    · cases h
  · cases h

/-! ### Pure operations -/

def evParts (ev : Operand → Value) (ps : Array (Nat × Operand)) : List (Nat × Value) := (ps.map fun p => (p.1, ev p.2)).toList

def isStrV : Value → Bool
  | .string _ => true
  | _ => false
def aP (P : Program) (ev : Operand → Value) (o : Oper) : Option Value :=
  match o.op with
  | .move x | .assign x => some (ev x)
  | .pick c a b => match ev c with
    | .bool t => some (if t then ev a else ev b)
    | _ => none
  | .nilCheck x => match ev x with
    | .pointer (some a) => some (.pointer (some a))
    | .iface t v => some (.iface t v)
    | .func (.func f) xs us => some (.func (.func f) xs us)
    | _ => none
  | .makeInterface t x => match P.underlying t with
    | some (.interface _) => none
    | some _ => some (.iface t (ev x))
    | none => none
  | .makeFunc fn first captured => some (.func fn (first.map ev) (captured.map ev))
  | .build t ps => builtA P t (evParts ev ps)
  | .fieldAddr s x f => fieldAddrA P s (ev x) f
  | .field s x f => fieldA P s (ev x) f
  | .indexAddr t x ix => indexAddrA P t (ev x) (ev ix)
  | .extract t ix => extractA (ev t) ix
  | .index t x ix => if simpleV (ev x) then quietOp P ev o else indexA P t (ev x) (ev ix)
  | .typeAssert x _ t ok => assertA P (ev x) t ok
  | .slice t x lo hi mx => if isStrV (ev x) then quietOp P ev o else sliceA P t (ev x) (lo.map ev) (hi.map ev) (mx.map ev)
  | .binOp op t x y _ =>
    if simpleV (ev x) && simpleV (ev y) then quietOp P ev o
    else match P.underlying t, op with
      | some d, .eql => (eqA P d (ev x) (ev y)).map .bool
      | some d, .neq => (eqA P d (ev x) (ev y)).map fun b => .bool !b
      | _, _ => none
  | .call c => match c.callee, c.args.toList, c.argTypes.toList with
    | .builtin .len, [x], [t] => if simpleV (ev x) then quietOp P ev o else lenA P t (ev x)
    | _, _, _ => quietOp P ev o
  | _ => quietOp P ev o

theorem eqlNil_run {P : Program} {ρ : Ren} {t : TypeId} {d : TypeDesc} {op : BinOp} {x y x' y' : Value} {a b : Operand} {z : Bool} (hu : P.underlying t = some d) (h : eqlNil d x y = some z)
    (hx : VR ρ x x') (hy : VR ρ y y') (hs : ¬ (simpleV x && simpleV y) = true) (hop : op = .eql ∨ op = .neq) (w : World) :
    (do eqGuard op t a b x' y'; binOp op t x' y').run P w = .ok (.bool (if op = .eql then z else !z)) w := by
  have he := eqlNil_sim (P := P) (n := 9999) hu h hx hy w
  have he' : (Op.equal t x' y').run P w = .ok z w := he
  unfold eqlNil at h
  split at h <;> (try (simp only [reduceCtorEq] at h; done)) <;> cases hx <;> cases hy <;> (try (exfalso; apply hs; rfl)) <;> rcases hop with rfl | rfl <;>
    simp [eqGuard, binOp, he']

theorem eqA_run {P : Program} {ρ : Ren} {t : TypeId} {d : TypeDesc} {op : BinOp} {x y x' y' : Value} {a b : Operand} {z : Bool} (hu : P.underlying t = some d) (h : eqA P d x y = some z)
    (hx : VR ρ x x') (hy : VR ρ y y') (hs : ¬ (simpleV x && simpleV y) = true) (hop : op = .eql ∨ op = .neq) (w : World) :
    (do eqGuard op t a b x' y'; binOp op t x' y').run P w = .ok (.bool (if op = .eql then z else !z)) w := by
  unfold eqA at h
  split at h
  · rename_i b' hb
    obtain rfl := Option.some.inj h
    exact eqlNil_run hu hb hx hy hs hop w
  · obtain ⟨⟨u, v, rfl, rfl⟩, he⟩ := ptrEq_sim (P := P) (n := 9999) hu h hx hy w
    have he' : (Op.equal t (.pointer (some u)) (.pointer (some v))).run P w = .ok z w := he
    rcases hop with rfl | rfl <;> simp [eqGuard, binOp, he']

theorem aP_sim {P : Program} {ρ : Ren} {ev ev' : Operand → Value} {o : Oper} {v : Value} (h : aP P ev o = some v) (hv : ∀ x ∈ o.op.operands, VR ρ (ev x) (ev' x)) :
    ∃ v', VR ρ v v' ∧ ∀ w, (execOp ev' o).run P w = .ok (.value v') w := by
  obtain ⟨dst, op, type, pos, after, guard⟩ := o
  unfold aP at h
  split at h
  case h_1 x heq => dsimp only at heq; subst heq; obtain rfl := Option.some.inj h; exact ⟨ev' x, hv x (by simp [Op.operands]), fun w => by simp [execOp]⟩
  case h_2 x heq => dsimp only at heq; subst heq; obtain rfl := Option.some.inj h; exact ⟨ev' x, hv x (by simp [Op.operands]), fun w => by simp [execOp]⟩
  case h_3 c a b heq =>
    dsimp only at heq; subst heq
    split at h
    · rename_i t ht
      obtain rfl := Option.some.inj h
      have hc := hv c (by simp [Op.operands])
      rw [ht] at hc
      have hc' : ev' c = .bool t := by generalize ev' c = z at hc; cases hc; rfl
      refine ⟨if t then ev' a else ev' b, ?_, fun w => by simp [execOp, asBool, hc']⟩
      cases t
      · exact hv b (by simp [Op.operands])
      · exact hv a (by simp [Op.operands])
    · cases h
  case h_4 x heq =>
    dsimp only at heq; subst heq
    have hx := hv x (by simp [Op.operands])
    split at h <;> simp only [Option.some.injEq, reduceCtorEq] at h <;> subst h <;> rename_i ht <;> rw [ht] at hx <;> generalize hz : ev' x = z at hx <;> cases hx
    · exact ⟨_, .ptr ‹_›, fun w => by simp [execOp, hz]⟩
    · exact ⟨_, .iface _ ‹_›, fun w => by simp [execOp, hz]⟩
    · exact ⟨_, .func _ ‹_› ‹_› ‹_› ‹_›, fun w => by simp [execOp, hz]⟩
  case h_5 t x heq =>
    dsimp only at heq; subst heq
    split at h
    · cases h
    · rename_i d hd hu
      obtain rfl := Option.some.inj h
      refine ⟨.iface t (ev' x), .iface t (hv x (by simp [Op.operands])), fun w => ?_⟩
      cases d <;> first | (exact absurd rfl (hd _)) | simp [execOp, Instr.makeInterface, run_underlying hu]
    · cases h
  case h_6 fn first captured heq =>
    dsimp only at heq; subst heq
    obtain rfl := Option.some.inj h
    refine ⟨.func fn (first.map ev') (captured.map ev'), .func fn (by simp) ?_ (by simp) ?_, fun w => by simp [execOp, Instr.makeFunc]⟩
    · intro i x y hx hy
      simp only [Array.getElem?_map, Option.map_eq_some_iff] at hx hy
      obtain ⟨p, hp, rfl⟩ := hx
      obtain ⟨q, hq, rfl⟩ := hy
      rw [hp] at hq
      obtain rfl := Option.some.inj hq
      exact hv p (by simp only [Op.operands, Array.mem_append]; exact .inl (Array.mem_of_getElem? hp))
    · intro i x y hx hy
      simp only [Array.getElem?_map, Option.map_eq_some_iff] at hx hy
      obtain ⟨p, hp, rfl⟩ := hx
      obtain ⟨q, hq, rfl⟩ := hy
      rw [hp] at hq
      obtain rfl := Option.some.inj hq
      exact hv p (by simp only [Op.operands, Array.mem_append]; exact .inr (Array.mem_of_getElem? hp))
  case h_7 t ps heq =>
    dsimp only at heq; subst heq
    have hp : PartsR ρ (ps.map fun p => (p.1, ev p.2)).toList (ps.map fun p => (p.1, ev' p.2)).toList := by
      have : ∀ l : List (Nat × Operand), (∀ p ∈ l, p ∈ ps.toList) → PartsR ρ (l.map fun p => (p.1, ev p.2)) (l.map fun p => (p.1, ev' p.2)) := by
        intro l
        induction l with
        | nil => intro _; exact .nil
        | cons p l ih =>
          intro hl
          refine .cons ⟨rfl, hv p.2 ?_⟩ (ih fun q hq => hl q (by simp [hq]))
          simp only [Op.operands, List.mem_toArray, List.mem_map]
          exact ⟨p, hl p (by simp), rfl⟩
      simpa using this ps.toList (fun _ h => h)
    obtain ⟨v', h1, h2⟩ := builtA_sim (ps := ps.map fun p => (p.1, ev p.2)) h hp
    exact ⟨v', h1, fun w => by simp only [execOp, Sem.run_bind, h2 w, Result.andThen_ok, Sem.run_pure]⟩
  case h_8 s x f heq =>
    dsimp only at heq; subst heq
    obtain ⟨v', h1, h2⟩ := fieldAddrA_sim h (hv x (by simp [Op.operands]))
    exact ⟨v', h1, fun w => by simp [execOp, h2 w]⟩
  case h_9 s x f heq =>
    dsimp only at heq; subst heq
    obtain ⟨v', h1, h2⟩ := fieldA_sim h (hv x (by simp [Op.operands]))
    exact ⟨v', h1, fun w => by simp [execOp, h2 w]⟩
  case h_10 t x ix heq =>
    dsimp only at heq; subst heq
    obtain ⟨v', h1, h2⟩ := indexAddrA_sim h (hv x (by simp [Op.operands])) (hv ix (by simp [Op.operands]))
    exact ⟨v', h1, fun w => by simp [execOp, h2 w]⟩
  case h_11 t ix heq =>
    dsimp only at heq; subst heq
    obtain ⟨v', h1, h2⟩ := extractA_sim (P := P) h (hv t (by simp [Op.operands]))
    exact ⟨v', h1, fun w => by simp [execOp, h2 w]⟩
  case h_12 t x ix heq =>
    dsimp only at heq; subst heq
    split at h
    · exact quietOp_sim h hv
    · obtain ⟨v', h1, h2⟩ := indexA_sim h (hv x (by simp [Op.operands])) (hv ix (by simp [Op.operands]))
      exact ⟨v', h1, fun w => by simp [execOp, h2 w]⟩
  case h_13 x xt t ok heq =>
    dsimp only at heq; subst heq
    obtain ⟨v', h1, h2⟩ := assertA_sim (xt := xt) h (hv x (by simp [Op.operands]))
    exact ⟨v', h1, fun w => by simp [execOp, h2 w]⟩
  case h_14 t x lo hi mx heq =>
    dsimp only at heq; subst heq
    split at h
    · exact quietOp_sim h hv
    · have ho : ∀ y : Option Operand, (∀ z, y = some z → z ∈ (Op.slice t x lo hi mx).operands) → VRo ρ (y.map ev) (y.map ev') := by
        intro y hy
        cases y with
        | none => trivial
        | some z => exact hv z (hy z rfl)
      obtain ⟨v', h1, h2⟩ := sliceA_sim h (hv x (by simp [Op.operands])) (ho lo fun z e => by simp [Op.operands, e]) (ho hi fun z e => by simp [Op.operands, e]) (ho mx fun z e => by simp [Op.operands, e])
      exact ⟨v', h1, fun w => by simp [execOp, h2 w]⟩
  case h_15 op t x y yt heq =>
    dsimp only at heq; subst heq
    split at h
    · exact quietOp_sim h hv
    · rename_i hs
      split at h
      · rename_i d hu
        simp only [Option.map_eq_some_iff] at h
        obtain ⟨b, hb, rfl⟩ := h
        refine ⟨.bool b, .bool b, fun w => ?_⟩
        have := eqA_run (a := x) (b := y) hu hb (hv x (by simp [Op.operands])) (hv y (by simp [Op.operands])) hs (.inl rfl) w
        simp only [if_true] at this
        simp only [execOp]
        rw [Sem.run_bind, this]
        rfl
      · rename_i d hu
        simp only [Option.map_eq_some_iff] at h
        obtain ⟨b, hb, rfl⟩ := h
        refine ⟨.bool !b, .bool _, fun w => ?_⟩
        have := eqA_run (a := x) (b := y) hu hb (hv x (by simp [Op.operands])) (hv y (by simp [Op.operands])) hs (.inr rfl) w
        simp only [reduceCtorEq, if_false] at this
        simp only [execOp]
        rw [Sem.run_bind, this]
        rfl
      · cases h
  case h_16 c heq =>
    dsimp only at heq; subst heq
    split at h
    · rename_i x t hc ha ht
      split at h
      · exact quietOp_sim h hv
      · obtain ⟨callee, args, argTypes⟩ := c
        obtain ⟨args⟩ := args
        obtain ⟨argTypes⟩ := argTypes
        dsimp only at hc ha ht
        subst hc ha ht
        obtain ⟨h1, h2⟩ := lenA_sim (ty := type) h (hv x (by simp [Op.operands, Call.operands]))
        refine ⟨v, ?_, fun w => by simp [execOp, resolve, invoke, builtin, h2 w]⟩
        unfold lenA at h
        split at h <;> simp at h <;> subst h <;> exact .int _ _
    · exact quietOp_sim h hv
  case h_17 => exact quietOp_sim h hv

end Go.Ae
namespace Go.Ae

/-! ### Reading cells -/

def AHeap.rowAt (H : AHeap) (a : Addr) : Option Row :=
  match H.get a.block with
  | some (.row r) => if verOf a = r.ver then some r else none
  | _ => none
def AHeap.cellsAt (H : AHeap) (a : Addr) (n : Nat) : Option (List Value) :=
  (H.rowAt a).bind fun r => if a.off + n ≤ r.cells.length then some ((r.cells.drop a.off).take n) else none

theorem AHeap.rowAt_spec {H : AHeap} {a : Addr} {r : Row} (h : H.rowAt a = some r) : H.get a.block = some (.row r) ∧ verOf a = r.ver := by
  unfold AHeap.rowAt at h
  split at h
  · rename_i r' hg
    split at h
    · obtain rfl := Option.some.inj h; exact ⟨hg, ‹_›⟩
    · cases h
  · cases h

theorem cellsAt_sim {P : Program} {ρ : Ren} {H : AHeap} {w : World} (hH : RelH P ρ H w) {a b : Addr} (hp : PR ρ a b) {n : Nat} {l : List Value} (h : H.cellsAt a n = some l) :
    l.length = n ∧ ∃ l', VRs ρ l l' ∧ ∀ j v, l'[j]? = some v → w.cell? (b.add j) = some v := by
  unfold AHeap.cellsAt at h
  simp only [Option.bind_eq_some_iff] at h
  obtain ⟨r, hr, h⟩ := h
  split at h
  case isFalse => cases h
  rename_i hle
  obtain rfl := Option.some.inj h
  obtain ⟨hg, hv⟩ := AHeap.rowAt_spec hr
  obtain ⟨s, hs, hlo, rfl⟩ := hp
  rw [hv] at hs
  obtain ⟨h1, h2, _, c, fz, hc, hsz, hfit, hcells, _⟩ := hH.row _ _ hg s hs
  refine ⟨by simp; omega, (c.toList.drop (s.base + (a.off - s.lo))).take n, VRs.of_get (by simp; omega) fun i x y hx hy => ?_, fun j v hv => ?_⟩
  · rw [List.getElem?_take] at hx hy
    split at hx
    · rename_i hi
      rw [if_pos hi] at hy
      rw [List.getElem?_drop] at hx hy
      obtain ⟨y', hy', hvr⟩ := hcells (a.off + i) x (by omega) hx
      rw [show s.base + (a.off + i - s.lo) = s.base + (a.off - s.lo) + i by omega, ← Array.getElem?_toList, hy] at hy'
      exact Option.some.inj hy' ▸ hvr
    · cases hx
  · rw [List.getElem?_take] at hv
    split at hv
    · rw [List.getElem?_drop] at hv
      rw [Seg.at_add s hlo]
      simp only [World.cell?, Seg.at, hc]
      rw [← hv, ← Array.getElem?_toList]
      simp only [Option.isSome_none, Bool.false_eq_true, if_false]
      congr 1
      omega
    · cases hv

def loadA (P : Program) (H : AHeap) (t : TypeId) (x : Value) : Option Value :=
  match x, szT P t, isAggT P t with
  | .pointer (some a), some n, some true => (H.cellsAt a n).map fun l => .agg l.toArray
  | .pointer (some a), some _, some false => (H.cellsAt a 1).bind fun l => l.head?
  | _, _, _ => none
theorem loadA_run {P : Program} {ρ : Ren} {H : AHeap} {w : World} (hH : RelH P ρ H w) {t : TypeId} {x x' v : Value} (h : loadA P H t x = some v) (hx : VR ρ x x') :
    ∃ v', VR ρ v v' ∧ ∃ b, x' = .pointer (some b) ∧ (loadVar t b).run P w = .ok v' w := by
  unfold loadA at h
  split at h
  · rename_i a n hs ha
    simp only [Option.map_eq_some_iff] at h
    obtain ⟨l, hl, rfl⟩ := h
    cases hx with
    | ptr hp =>
      rename_i b
      obtain ⟨hn, l', hv, hc⟩ := cellsAt_sim hH hp hl
      have hlen := hv.length
      have hr := run_loadCells_list (P := P) w b l' hc
      rw [← hlen, hn] at hr
      exact ⟨.agg l'.toArray, VR.agg' (by simpa using hv), b, rfl, by simp [loadVar, run_isAggT ha, run_sizeT hs, hr]⟩
  · rename_i a n hs ha
    simp only [Option.bind_eq_some_iff] at h
    obtain ⟨l, hl, hv0⟩ := h
    cases hx with
    | ptr hp =>
      rename_i b
      obtain ⟨hn, l', hv, hc⟩ := cellsAt_sim hH hp hl
      rw [List.head?_eq_getElem?] at hv0
      obtain ⟨y, hy, h1⟩ := hv.get 0 v hv0
      have := hc 0 y hy
      rw [Addr.add, if_pos rfl] at this
      exact ⟨y, h1, b, rfl, by simp [loadVar, run_isAggT ha, this]⟩
  · cases h
theorem loadA_sim {P : Program} {ρ : Ren} {H : AHeap} {w : World} (hH : RelH P ρ H w) {t : TypeId} {x x' v : Value} (h : loadA P H t x = some v) (hx : VR ρ x x') :
    ∃ v', VR ρ v v' ∧ (Instr.loadAt t x').run P w = .ok v' w := by
  obtain ⟨v', h1, b, rfl, h2⟩ := loadA_run hH h hx
  exact ⟨v', h1, by simp [Instr.loadAt, Instr.sureAddr, h2]⟩

/-! ### A slice of bytes as a string -/

def byteV : Value → Option Int
  | .int .u8 n => some n
  | _ => none
def bytesOf : List Value → Option (List Int)
  | [] => some []
  | v :: l => match byteV v, bytesOf l with
    | some n, some ns => some (n :: ns)
    | _, _ => none
theorem bytesOf_map : ∀ (ns : List Int), bytesOf (ns.map (Value.int .u8)) = some ns
  | [] => rfl
  | n :: ns => by simp [bytesOf, byteV, bytesOf_map ns]
theorem bytesOf_eq : ∀ {l : List Value} {ns : List Int}, bytesOf l = some ns → l = ns.map (Value.int .u8)
  | [], ns, h => by simp [bytesOf] at h; subst h; rfl
  | v :: l, ns, h => by
    unfold bytesOf at h
    split at h
    · rename_i n ms h1 h2
      obtain rfl := Option.some.inj h
      unfold byteV at h1
      split at h1
      · obtain rfl := Option.some.inj h1
        simp [← bytesOf_eq h2]
      · cases h1
    · cases h
def strOf (ns : List Int) : ByteArray := ns.foldl (fun r n => r.push (UInt8.ofNat n.toNat)) ByteArray.empty
theorem VRs.ints {ρ : Ren} : ∀ {ns : List Int} {k : IntKind} {l : List Value}, VRs ρ (ns.map (Value.int k)) l → l = ns.map (Value.int k)
  | [], _, _, .nil => rfl
  | _ :: ns, _, _, .cons h1 h2 => by cases h1; rw [VRs.ints (ns := ns) h2]; rfl

def toStrA (P : Program) (H : AHeap) (src dst : TypeId) (x : Value) : Option Value :=
  match P.underlying src, P.underlying dst, x with
  | some (.slice e), some .string, .slice (some a) len _ => match P.underlying e with
    | some (.int .u8) => if len = 0 then some (.string .empty) else ((H.cellsAt a len).bind bytesOf).map fun ns => .string (strOf ns)
    | _ => none
  | some (.slice e), some .string, .slice none _ _ => match P.underlying e with
    | some (.int .u8) => some (.string .empty)
    | _ => none
  | _, _, _ => none
theorem toStrA_sim {P : Program} {ρ : Ren} {H : AHeap} {w : World} (hH : RelH P ρ H w) {src dst : TypeId} {x x' v : Value} (h : toStrA P H src dst x = some v) (hx : VR ρ x x') :
    ∃ v', VR ρ v v' ∧ (convert src dst x').run P w = .ok v' w := by
  unfold toStrA at h
  split at h
  · rename_i e a len cap hs hd
    split at h
    · rename_i he
      cases hx with
      | slice hp =>
        rename_i b cap'
        split at h
        · rename_i h0
          subst h0
          obtain rfl := Option.some.inj h
          refine ⟨_, .string _, ?_⟩
          rw [run_convert_bytes_string w src dst e (some b) 0 cap' hs he hd, run_bytesToString w b 0 cap' [] (by simp [loadCells, loadCellsFrom])]
          rfl
        · rename_i h0
          simp only [Option.map_eq_some_iff, Option.bind_eq_some_iff] at h
          obtain ⟨ns, ⟨l, hl, hb⟩, rfl⟩ := h
          have hpr : PR ρ a b := by
            rcases hp with ⟨e1, _⟩ | ⟨_, _, hp⟩ | ⟨_, s, h1, h2, h3, _⟩
            · exact absurd e1 h0
            · exact hp
            · exact ⟨s, h1, h2, h3⟩
          obtain ⟨hn, l', hv, hc⟩ := cellsAt_sim hH hpr hl
          obtain rfl := bytesOf_eq hb
          obtain rfl := hv.ints
          refine ⟨_, .string _, ?_⟩
          have hr := run_loadCells_list (P := P) w b _ hc
          rw [hn] at hr
          rw [run_convert_bytes_string w src dst e (some b) len cap' hs he hd, run_bytesToString w b len cap' ns hr]
          rfl
    · cases h
  · rename_i e n c hs hd
    split at h
    · rename_i he
      obtain rfl := Option.some.inj h
      cases hx
      refine ⟨_, .string _, ?_⟩
      rw [run_convert_bytes_string w src dst e none _ _ hs he hd]
      rfl
    · cases h
  · cases h

/-! ### Pointers and unsafe.Pointer -/
def uptrA (P : Program) (H : AHeap) (src dst : TypeId) (x : Value) : Option Value :=
  match P.underlying src, P.underlying dst, x with
  | some (.pointer t), some .unsafePointer, .pointer (some a) => match szT P t, H.rowAt a with
    | some (_ + 1), some r => if a.off < r.cells.length then some (.pointer (some a)) else none
    | _, _ => none
  | some .unsafePointer, some (.pointer u), .pointer (some a) => match szT P u, H.rowAt a with
    | some (k + 1), some r => if r.elem = u ∧ r.rw = true ∧ r.ver = 0 ∧ a.off = 0 ∧ k + 1 ≤ r.cells.length then some (.pointer (some a)) else none
    | _, _ => none
  | _, _, _ => none
theorem cellsOf_sz {P : Program} {t : TypeId} {n : Nat} (h : szT P t = some n) : P.cellsOf t = n := by
  unfold szT at h
  unfold Program.cellsOf
  rw [h]; rfl
/-- n elements of a row's own type, from a place in it on. -/
theorem liesAt_own {P : Program} {e : TypeId} {m : Nat} (hc : P.cellsOf e = m + 1) (count i n : Nat) (hn : i + n ≤ count) : liesAt P P.depth e count (i * (m + 1)) e n = true := by
  have hd : P.depth = (2 * (P.types.size + Made.depth) + 1) + 1 := rfl
  rw [hd]
  simp only [liesAt, Bool.or_eq_true]
  left
  rw [hd]
  simp only [rowAt, hc]
  rw [if_neg (by omega)]
  simp only [Nat.mul_mod_left, Nat.mul_div_left _ (show 0 < m + 1 by omega), Bool.or_eq_true]
  left
  simp [hn, sameLayout]
theorem rowAt_world {P : Program} {ρ : Ren} {H : AHeap} {w : World} (hH : RelH P ρ H w) {a b : Addr} {r : Row} (hr : H.rowAt a = some r) (hp : PR ρ a b) :
    ∃ s, ρ a.block r.ver = some s ∧ s.lo ≤ a.off ∧ b = s.at a.off ∧ RowOk P ρ r s w := by
  obtain ⟨hg, hv⟩ := AHeap.rowAt_spec hr
  obtain ⟨s, hs, hlo, rfl⟩ := hp
  rw [hv] at hs
  exact ⟨s, hs, hlo, rfl, hH.row _ _ hg s hs⟩
theorem uptrA_sim {P : Program} {ρ : Ren} {H : AHeap} {w : World} (hH : RelH P ρ H w) {src dst : TypeId} {x x' v : Value} (h : uptrA P H src dst x = some v) (hx : VR ρ x x') :
    ∃ v', VR ρ v v' ∧ (convert src dst x').run P w = .ok v' w := by
  unfold uptrA at h
  split at h
  · rename_i t a hs hd
    split at h
    case h_2 => cases h
    rename_i k r hsz hr
    split at h
    case isFalse => cases h
    rename_i hlt
    obtain rfl := Option.some.inj h
    cases hx with
    | ptr hp =>
      obtain ⟨s, h1, h2, rfl, g1, g2, _, c, fz, hc, hcs, hfit, _⟩ := rowAt_world hH hr hp
      have hsh : w.shape? s.blk = some (r.elem, c.size) := by simp [World.shape?, hc]
      have hlt' : ¬ c.size ≤ s.base + (a.off - s.lo) := by omega
      refine ⟨_, .ptr hp, ?_⟩
      simp [convert, run_underlying hs, run_underlying hd, Conv.unsafePointer, Conv.seenAt, viewAt, cellsIn, Seg.at, hsh, run_sizeT hsz, hlt']
  · rename_i u a hs hd
    split at h
    case h_2 => cases h
    rename_i k r hsz hr
    split at h
    case isFalse => cases h
    rename_i hc0
    obtain ⟨he, hrw, hver, hoff, hle⟩ := hc0
    obtain rfl := Option.some.inj h
    cases hx with
    | ptr hp =>
      obtain ⟨s, h1, h2, rfl, g1, g2, g3, c, fz, hc, hcs, hfit, _⟩ := rowAt_world hH hr hp
      obtain ⟨hb0, hl0⟩ := (g3 hrw).2 hver
      subst he
      have hsh : w.shape? s.blk = some (r.elem, c.size) := by simp [World.shape?, hc]
      have hco := cellsOf_sz hsz
      have hl := liesAt_own (P := P) hco (c.size / (k + 1)) 0 1 (by
        rw [Nat.zero_add]
        exact (Nat.le_div_iff_mul_le (by omega)).2 (by omega))
      simp only [Nat.zero_mul] at hl
      have hat : s.at a.off = ⟨s.blk, 0, none⟩ := by simp [Seg.at, hb0, hl0, hoff]
      refine ⟨_, .ptr hp, ?_⟩
      rw [hat]
      simp [convert, run_underlying hs, run_underlying hd, Conv.unsafePointer, Conv.seenAt, viewAt, variablesAt, hsh, run_sizeT hsz, hco, hl]
  · cases h

def aR (P : Program) (ev : Operand → Value) (H : AHeap) (o : Oper) : Option Value :=
  match o.op with
  | .load t x => loadA P H t (ev x)
  | .convert src dst x => match toStrA P H src dst (ev x) with
    | some v => some v
    | none => uptrA P H src dst (ev x)
  | _ => none
theorem aR_sim {P : Program} {ρ : Ren} {H : AHeap} {w : World} (hH : RelH P ρ H w) {ev ev' : Operand → Value} {o : Oper} {v : Value} (h : aR P ev H o = some v)
    (hv : ∀ x ∈ o.op.operands, VR ρ (ev x) (ev' x)) : ∃ v', VR ρ v v' ∧ (execOp ev' o).run P w = .ok (.value v') w := by
  obtain ⟨dst, op, type, pos, after, guard⟩ := o
  unfold aR at h
  split at h
  · rename_i t x heq
    dsimp only at heq; subst heq
    obtain ⟨v', h1, h2⟩ := loadA_sim hH h (hv x (by simp [Op.operands]))
    exact ⟨v', h1, by simp [execOp, h2]⟩
  · rename_i src dst x heq
    dsimp only at heq; subst heq
    split at h
    · rename_i v1 hv1
      obtain rfl := Option.some.inj h
      obtain ⟨v', h1, h2⟩ := toStrA_sim hH hv1 (hv x (by simp [Op.operands]))
      exact ⟨v', h1, by simp [execOp, h2]⟩
    · obtain ⟨v', h1, h2⟩ := uptrA_sim hH h (hv x (by simp [Op.operands]))
      exact ⟨v', h1, by simp [execOp, h2]⟩
  · cases h

end Go.Ae

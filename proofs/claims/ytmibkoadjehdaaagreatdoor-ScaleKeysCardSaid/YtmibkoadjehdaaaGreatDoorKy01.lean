/- The abstract heap of this proof: rows of cells by name, slices whose capacity is not known, and what it means that a world of the model holds such a heap. No condition. -/
import Derived.Orders
import Derived.Laws.Cells
import Derived.Laws.Append
import Derived.Laws.AppendOwn
set_option linter.unusedVariables false
set_option linter.unusedSimpArgs false
namespace Go.Ae

/-- From here on a slice's capacity says: not known, but at least the length. The cells of one element are added. -/
def openCap : Nat := 9223372036854775808

/-- An address's version: how often its row has grown. It stands in 'spot'. -/
def verOf (a : Addr) : Nat := match a.spot with | none => 0 | some v => v + 1
def spotOf : Nat → Option Nat
  | 0 => none
  | v + 1 => some v
@[simp] theorem verOf_mk (b o v : Nat) : verOf ⟨b, o, spotOf v⟩ = v := by cases v <;> rfl
@[simp] theorem verOf_none (b o : Nat) : verOf ⟨b, o, none⟩ = 0 := rfl
/-- n cells on; the version stays. -/
def aadd (a : Addr) (n : Nat) : Addr := ⟨a.block, a.off + n, a.spot⟩
@[simp] theorem verOf_aadd (a : Addr) (n : Nat) : verOf (aadd a n) = verOf a := rfl
@[simp] theorem aadd_block (a : Addr) (n : Nat) : (aadd a n).block = a.block := rfl
@[simp] theorem aadd_off (a : Addr) (n : Nat) : (aadd a n).off = a.off + n := rfl

structure Row where
  cells : List Value
  elem : TypeId
  ver : Nat
  rw : Bool

inductive AObj where
  | row (r : Row)
  | map (es : List MapEntry) (clock : Nat)
  | iter (s : ByteArray) (pos : Nat)
  | loop (tmps : List Value) (k : FuncId) (st : LoopState) (pend : Option Code)
  | opq (o : Obj)

def AObj.isRow : AObj → Bool
  | .row _ => true
  | _ => false

structure AHeap where
  get : Nat → Option AObj
  next : Nat

def AHeap.push (H : AHeap) (o : AObj) : AHeap := ⟨fun i => if i = H.next then some o else H.get i, H.next + 1⟩
def AHeap.put (H : AHeap) (i : Nat) (o : AObj) : AHeap := ⟨fun j => if j = i then some o else H.get j, H.next⟩

theorem AHeap.push_get (H : AHeap) (o : AObj) (i : Nat) : (H.push o).get i = if i = H.next then some o else H.get i := rfl
theorem AHeap.put_get (H : AHeap) (o : AObj) (i j : Nat) : (H.put i o).get j = if j = i then some o else H.get j := rfl
@[simp] theorem AHeap.push_next (H : AHeap) (o : AObj) : (H.push o).next = H.next + 1 := rfl
@[simp] theorem AHeap.put_next (H : AHeap) (o : AObj) (i : Nat) : (H.put i o).next = H.next := rfl

/-- Where a version of a row lies: cell i (lo ≤ i) at base + (i - lo) of the block blk, which has sz cells; hi: how many cells the row has at that version. -/
structure Seg where
  blk : Nat
  base : Nat
  lo : Nat
  hi : Nat
  sz : Nat
  esz : Nat

abbrev Ren := Nat → Nat → Option Seg

def Seg.at (s : Seg) (i : Nat) : Addr := ⟨s.blk, s.base + (i - s.lo), none⟩

def PR (ρ : Ren) (a b : Addr) : Prop := ∃ s, ρ a.block (verOf a) = some s ∧ s.lo ≤ a.off ∧ b = s.at a.off

def SR (ρ : Ren) (a : Addr) (len cap : Nat) (b : Addr) (cap' : Nat) : Prop :=
  (len = 0 ∧ cap' = 0 ∧ (cap = 0 ∨ ∃ s, ρ a.block (verOf a) = some s ∧ s.lo ≤ a.off ∧ s.hi ≤ a.off ∧ cap = openCap + s.esz)) ∨
  (cap < openCap ∧ cap' = cap ∧ PR ρ a b) ∨
  (openCap ≤ cap ∧ ∃ s, ρ a.block (verOf a) = some s ∧ s.lo ≤ a.off ∧ b = s.at a.off ∧ cap = openCap + s.esz ∧ len < openCap ∧ len ≤ cap' ∧
    s.base + (s.hi - s.lo) ≤ b.off + cap' * s.esz ∧ b.off + cap' * s.esz ≤ s.sz)

/-- The abstract value and the model's. -/
inductive VR (ρ : Ren) : Value → Value → Prop
  | bool (b : Bool) : VR ρ (.bool b) (.bool b)
  | int (k : IntKind) (n : Int) : VR ρ (.int k n) (.int k n)
  | float (k : FloatKind) (n : Nat) : VR ρ (.float k n) (.float k n)
  | complex (k : FloatKind) (m n : Nat) : VR ρ (.complex k m n) (.complex k m n)
  | string (s : ByteArray) : VR ρ (.string s) (.string s)
  | nilptr : VR ρ (.pointer none) (.pointer none)
  | ptr {a b : Addr} (h : PR ρ a b) : VR ρ (.pointer (some a)) (.pointer (some b))
  | nilslice (n c : Nat) : VR ρ (.slice none n c) (.slice none n c)
  | slice {a b : Addr} {len cap cap' : Nat} (h : SR ρ a len cap b cap') : VR ρ (.slice (some a) len cap) (.slice (some b) len cap')
  | nilmap : VR ρ (.map none) (.map none)
  | map {r : Nat} {s : Seg} (h : ρ r 0 = some s) : VR ρ (.map (some r)) (.map (some s.blk))
  | func (fn : Fn) {xs ys us vs : Array Value} (hx : xs.size = ys.size) (hX : ∀ (i : Nat) (x y : Value), xs[i]? = some x → ys[i]? = some y → VR ρ x y)
      (hu : us.size = vs.size) (hU : ∀ (i : Nat) (x y : Value), us[i]? = some x → vs[i]? = some y → VR ρ x y) : VR ρ (.func fn xs us) (.func fn ys vs)
  | yield {r : Nat} {s : Seg} (h : ρ r 0 = some s) : VR ρ (.chan (some r)) (.func (.yield s.blk) #[] #[])
  | nilFunc : VR ρ .nilFunc .nilFunc
  | iface (t : TypeId) {v v' : Value} (h : VR ρ v v') : VR ρ (.iface t v) (.iface t v')
  | nilIface : VR ρ .nilIface .nilIface
  | agg {xs ys : Array Value} (hx : xs.size = ys.size) (hX : ∀ (i : Nat) (x y : Value), xs[i]? = some x → ys[i]? = some y → VR ρ x y) : VR ρ (.agg xs) (.agg ys)
  | tuple {xs ys : Array Value} (hx : xs.size = ys.size) (hX : ∀ (i : Nat) (x y : Value), xs[i]? = some x → ys[i]? = some y → VR ρ x y) : VR ρ (.tuple xs) (.tuple ys)

def Ren.le (ρ ρ' : Ren) : Prop := ∀ i v s, ρ i v = some s → ρ' i v = some s
theorem Ren.le_refl (ρ : Ren) : ρ.le ρ := fun _ _ _ h => h
theorem Ren.le.trans {ρ ρ' ρ'' : Ren} (h : ρ.le ρ') (h' : ρ'.le ρ'') : ρ.le ρ'' := fun i v s hs => h' i v s (h i v s hs)

theorem PR.mono {ρ ρ' : Ren} (h : ρ.le ρ') {a b : Addr} (hp : PR ρ a b) : PR ρ' a b := by
  obtain ⟨s, h1, h2, h3⟩ := hp
  exact ⟨s, h _ _ _ h1, h2, h3⟩
theorem SR.mono {ρ ρ' : Ren} (h : ρ.le ρ') {a b : Addr} {len cap cap' : Nat} (hp : SR ρ a len cap b cap') : SR ρ' a len cap b cap' := by
  rcases hp with h1 | ⟨h1, h2, h3⟩ | ⟨h1, s, h2, h3⟩
  · obtain ⟨a1, a2, a3⟩ := h1
    refine .inl ⟨a1, a2, a3.imp id fun ⟨s, h1, h2⟩ => ⟨s, h _ _ _ h1, h2⟩⟩
  · exact .inr (.inl ⟨h1, h2, h3.mono h⟩)
  · exact .inr (.inr ⟨h1, s, h _ _ _ h2, h3⟩)
theorem VR.mono {ρ ρ' : Ren} (h : ρ.le ρ') {v v' : Value} (hv : VR ρ v v') : VR ρ' v v' := by
  induction hv with
  | bool b => exact .bool b
  | int k n => exact .int k n
  | float k n => exact .float k n
  | complex k m n => exact .complex k m n
  | string s => exact .string s
  | nilptr => exact .nilptr
  | ptr hp => exact .ptr (hp.mono h)
  | nilslice n c => exact .nilslice n c
  | slice hp => exact .slice (hp.mono h)
  | nilmap => exact .nilmap
  | map hp => exact .map (h _ _ _ hp)
  | func fn hx _ hu _ ih1 ih2 => exact .func fn hx (fun i x y h1 h2 => ih1 i x y h1 h2) hu (fun i x y h1 h2 => ih2 i x y h1 h2)
  | yield hp => exact .yield (h _ _ _ hp)
  | nilFunc => exact .nilFunc
  | iface t _ ih => exact .iface t ih
  | nilIface => exact .nilIface
  | agg hx _ ih => exact .agg hx fun i x y h1 h2 => ih i x y h1 h2
  | tuple hx _ ih => exact .tuple hx fun i x y h1 h2 => ih i x y h1 h2

inductive All2 {α β : Type} (R : α → β → Prop) : List α → List β → Prop
  | nil : All2 R [] []
  | cons {x : α} {y : β} {xs : List α} {ys : List β} (h : R x y) (hs : All2 R xs ys) : All2 R (x :: xs) (y :: ys)
/-- Lists of values, cell by cell. -/
abbrev VRs (ρ : Ren) (xs ys : List Value) : Prop := All2 (VR ρ) xs ys
theorem VRs.mono {ρ ρ' : Ren} (h : ρ.le ρ') {xs ys : List Value} (hv : VRs ρ xs ys) : VRs ρ' xs ys := by
  induction hv with
  | nil => exact .nil
  | cons h1 _ ih => exact .cons (h1.mono h) ih
theorem VRs.length {ρ : Ren} {xs ys : List Value} (h : VRs ρ xs ys) : xs.length = ys.length := by
  induction h with
  | nil => rfl
  | cons _ _ ih => simp [ih]
theorem VRs.get {ρ : Ren} {xs ys : List Value} (h : VRs ρ xs ys) : ∀ (i : Nat) (x : Value), xs[i]? = some x → ∃ y, ys[i]? = some y ∧ VR ρ x y := by
  induction h with
  | nil => intro i x hx; simp at hx
  | cons h1 _ ih =>
    intro i x hx
    cases i with
    | zero => simp only [List.getElem?_cons_zero, Option.some.injEq] at hx ⊢; subst hx; exact ⟨_, rfl, h1⟩
    | succ i => simp only [List.getElem?_cons_succ] at hx ⊢; exact ih i x hx
theorem VRs.of_get {ρ : Ren} : ∀ {xs ys : List Value}, xs.length = ys.length → (∀ (i : Nat) (x y : Value), xs[i]? = some x → ys[i]? = some y → VR ρ x y) → VRs ρ xs ys
  | [], [], _, _ => .nil
  | x :: xs, y :: ys, hl, h => .cons (h 0 x y rfl rfl) (VRs.of_get (by simpa using hl) fun i x y h1 h2 => h (i + 1) x y (by simpa using h1) (by simpa using h2))
  | [], _ :: _, hl, _ => by simp at hl
  | _ :: _, [], hl, _ => by simp at hl
theorem VRs.append {ρ : Ren} {xs ys us vs : List Value} (h : VRs ρ xs ys) (h' : VRs ρ us vs) : VRs ρ (xs ++ us) (ys ++ vs) := by
  induction h with
  | nil => exact h'
  | cons h1 _ ih => exact .cons h1 ih
theorem VRs.take {ρ : Ren} {xs ys : List Value} (h : VRs ρ xs ys) (n : Nat) : VRs ρ (xs.take n) (ys.take n) := by
  induction h generalizing n with
  | nil => simp only [List.take_nil]; exact .nil
  | cons h1 _ ih =>
    cases n with
    | zero => simp only [List.take_zero]; exact .nil
    | succ n => simp only [List.take_succ_cons]; exact .cons h1 (ih n)
theorem VRs.drop {ρ : Ren} {xs ys : List Value} (h : VRs ρ xs ys) (n : Nat) : VRs ρ (xs.drop n) (ys.drop n) := by
  induction h generalizing n with
  | nil => simp only [List.drop_nil]; exact .nil
  | cons h1 h2 ih =>
    cases n with
    | zero => simp only [List.drop_zero]; exact .cons h1 h2
    | succ n => simp only [List.drop_succ_cons]; exact ih n
theorem VR.agg' {ρ : Ren} {xs ys : Array Value} (h : VRs ρ xs.toList ys.toList) : VR ρ (.agg xs) (.agg ys) := by
  refine .agg (by simpa using h.length) fun i x y hx hy => ?_
  obtain ⟨y', hy', hv⟩ := h.get i x (by simpa using hx)
  simp only [Array.getElem?_toList] at hy'
  rw [hy] at hy'
  exact Option.some.inj hy' ▸ hv
theorem VR.tuple' {ρ : Ren} {xs ys : Array Value} (h : VRs ρ xs.toList ys.toList) : VR ρ (.tuple xs) (.tuple ys) := by
  refine .tuple (by simpa using h.length) fun i x y hx hy => ?_
  obtain ⟨y', hy', hv⟩ := h.get i x (by simpa using hx)
  simp only [Array.getElem?_toList] at hy'
  rw [hy] at hy'
  exact Option.some.inj hy' ▸ hv
theorem VRs.of_agg {ρ : Ren} {xs ys : Array Value} (hx : xs.size = ys.size) (hX : ∀ (i : Nat) (x y : Value), xs[i]? = some x → ys[i]? = some y → VR ρ x y) : VRs ρ xs.toList ys.toList :=
  VRs.of_get (by simpa using hx) fun i x y h1 h2 => hX i x y (by simpa using h1) (by simpa using h2)

/-- The cells of a value, one by one. -/
theorem VR.cells {ρ : Ren} {v v' : Value} (h : VR ρ v v') : VRs ρ v.cells.toList v'.cells.toList := by
  cases h
  case agg hx hX => exact VRs.of_agg hx hX
  all_goals exact .cons (by constructor <;> assumption) .nil
theorem VR.oneCell {ρ : Ren} {v v' : Value} (h : VR ρ v v') : v'.oneCell' = v.oneCell' := by cases h <;> rfl

/-- Values that hold no address: two levels, which is what constants are. -/
def simpleV : Value → Bool
  | .bool _ | .int .. | .float .. | .complex .. | .string _ | .pointer none | .slice none .. | .map none | .nilFunc | .nilIface => true
  | _ => false
def flatV : Value → Bool
  | .agg cs => cs.all simpleV
  | .tuple cs => cs.all simpleV
  | .iface _ v => simpleV v
  | v => simpleV v
theorem VR.of_simple {ρ : Ren} {v : Value} (h : simpleV v = true) : VR ρ v v := by
  cases v with
  | pointer a => cases a <;> first | exact .nilptr | (simp [simpleV] at h)
  | slice a n c => cases a <;> first | exact .nilslice n c | (simp [simpleV] at h)
  | map r => cases r <;> first | exact .nilmap | (simp [simpleV] at h)
  | bool b => exact .bool b
  | int k n => exact .int k n
  | float k n => exact .float k n
  | complex k m n => exact .complex k m n
  | string s => exact .string s
  | nilFunc => exact .nilFunc
  | nilIface => exact .nilIface
  | _ => simp [simpleV] at h
theorem VR.of_flat {ρ : Ren} {v : Value} (h : flatV v = true) : VR ρ v v := by
  have arr : ∀ cs : Array Value, cs.all simpleV = true → ∀ (i : Nat) (x y : Value), cs[i]? = some x → cs[i]? = some y → VR ρ x y := by
    intro cs hc i x y hx hy
    rw [hx] at hy
    obtain rfl := Option.some.inj hy
    exact VR.of_simple (Array.all_eq_true_iff_forall_mem.1 hc x (Array.mem_of_getElem? hx))
  cases v with
  | agg cs => exact .agg rfl (arr cs h)
  | tuple cs => exact .tuple rfl (arr cs h)
  | iface t v => exact .iface t (VR.of_simple h)
  | _ => exact VR.of_simple h

/-! ### The heap -/

def RowOk (P : Program) (ρ : Ren) (r : Row) (s : Seg) (w : World) : Prop :=
  s.hi = r.cells.length ∧ s.lo ≤ s.hi ∧ (r.rw = true → (P.info? r.elem).map (·.size) = some s.esz ∧ (r.ver = 0 → s.base = 0 ∧ s.lo = 0)) ∧
  ∃ c fz, w.heap[s.blk]? = some (.cells c r.elem fz) ∧ c.size = s.sz ∧ s.base + (s.hi - s.lo) ≤ s.sz ∧
    (∀ i x, s.lo ≤ i → r.cells[i]? = some x → ∃ y, c[s.base + (i - s.lo)]? = some y ∧ VR ρ x y) ∧
    (r.rw = true → ∀ k, s.base ≤ k → k < s.sz → ¬ (fz.1 ≤ k ∧ k < fz.2))

def EntryR (ρ : Ren) (e e' : MapEntry) : Prop := VR ρ e.key e'.key ∧ VR ρ e.val e'.val ∧ e.born = e'.born

def MapOk (ρ : Ren) (es : List MapEntry) (clock : Nat) (s : Seg) (w : World) : Prop :=
  ∃ es' : Array MapEntry, w.heap[s.blk]? = some (.map es' clock) ∧ All2 (EntryR ρ) es es'.toList

/-- The loop over a function that stands first in a text. -/
def rfOf : Code → Option (Array Tmp × Code × Code)
  | .seq a b => match rfOf a with
    | some q => some q
    | none => rfOf b
  | .cond _ a b => match rfOf a with
    | some q => some q
    | none => rfOf b
  | .block _ c => rfOf c
  | .loop c => rfOf c
  | .scope c => rfOf c
  | .rangeFunc _ ps asv bd => some (ps, asv, bd)
  | _ => none
def rfP (P : Program) (k : FuncId) : Option (Array Tmp × Code × Code) := ((P.funcs[k]?).bind (·.body)).bind rfOf
/-- An object that is no row of cells. -/
def ObjOk (P : Program) (ρ : Ren) (o : AObj) (s : Seg) (w : World) : Prop :=
  match o with
  | .row _ => True
  | .map es cl => MapOk ρ es cl s w
  | .iter b q => w.heap[s.blk]? = some (.stringIter b q) ∧ s.base = 0 ∧ s.lo = 0
  | .loop ts k st pe => ∃ (L : Loop) (q : Array Tmp × Code × Code), w.heap[s.blk]? = some (.loop L) ∧ VRs ρ ts L.tmps.toList ∧ rfP P k = some q ∧ L.params = q.1 ∧ L.assign = q.2.1 ∧ L.body = q.2.2 ∧ L.state = st ∧ L.pending = pe
  | .opq o => w.heap[s.blk]? = some o
/-- The package's variables keep their names. -/
def globN : Nat := 14
def Globs (ρ : Ren) : Prop := ∀ g, g < globN → ∃ s, ρ g 0 = some s ∧ s.blk = g ∧ s.base = 0 ∧ s.lo = 0
theorem Globs.mono {ρ ρ' : Ren} (h : ρ.le ρ') (hg : Globs ρ) : Globs ρ' := fun g hl => let ⟨s, h1, h2⟩ := hg g hl; ⟨s, h _ _ _ h1, h2⟩
/-- A row that is read alone. -/
def AHeap.ro (H : AHeap) (i : Nat) : Prop := ∃ r, H.get i = some (.row r) ∧ r.rw = false
structure RelH (P : Program) (ρ : Ren) (H : AHeap) (w : World) : Prop where
  wf : ∀ i, H.next ≤ i → H.get i = none
  dom : ∀ i v s, ρ i v = some s → i < H.next ∧ s.blk < w.heap.size
  apart : ∀ i j u v s t, ρ i u = some s → ρ j v = some t → s.blk = t.blk → i = j ∨ (H.ro i ∧ H.ro j)
  row : ∀ i r, H.get i = some (.row r) → ∀ s, ρ i r.ver = some s → RowOk P ρ r s w
  obj : ∀ i o, H.get i = some o → o.isRow = false → ∀ s, ρ i 0 = some s → ObjOk P ρ o s w
  future : ∀ i r v, H.get i = some (.row r) → r.ver < v → ρ i v = none
  glob : Globs ρ

theorem RelH.apart' {P : Program} {ρ : Ren} {H : AHeap} {w : World} (hH : RelH P ρ H w) {i j u v : Nat} {s t : Seg} {r : Row} (hg : H.get i = some (.row r)) (hrw : r.rw = true) (h1 : ρ j v = some t) (h2 : ρ i u = some s) (he : t.blk = s.blk) : j = i := by
  rcases hH.apart j i v u t s h1 h2 he with h | ⟨_, q, hq, hr⟩
  · exact h
  · rw [hg] at hq
    obtain rfl : r = q := by simpa using hq
    rw [hrw] at hr
    cases hr
theorem AHeap.ro_put {H : AHeap} {i j : Nat} {r : Row} {o : AObj} (hg : H.get i = some (.row r)) (hrw : r.rw = true) (h : H.ro j) : (H.put i o).ro j := by
  obtain ⟨q, hq, hr⟩ := h
  refine ⟨q, ?_, hr⟩
  rw [AHeap.put_get, if_neg, hq]
  rintro rfl
  rw [hg] at hq
  obtain rfl : r = q := by simpa using hq
  rw [hrw] at hr
  cases hr
theorem AHeap.ro_push {H : AHeap} {j : Nat} {o : AObj} (hj : j < H.next) (h : H.ro j) : (H.push o).ro j := by
  obtain ⟨q, hq, hr⟩ := h
  exact ⟨q, by rw [AHeap.push_get, if_neg (by omega), hq], hr⟩
/-- From one pair to the next; what lies below n0 and has no place in the world stays as it is. -/
structure ExtN (n0 : Nat) (ρ : Ren) (H : AHeap) (w : World) (ρ' : Ren) (H' : AHeap) (w' : World) : Prop where
  mono : ρ.le ρ'
  size : w.heap.size ≤ w'.heap.size
  next : H.next ≤ H'.next
  frame : ∀ b, b < w.heap.size → (∀ i v s, ρ i v = some s → s.blk ≠ b) → w'.heap[b]? = w.heap[b]?
  fresh : ∀ i v s, ρ' i v = some s → (∃ j u t, ρ j u = some t ∧ t.blk = s.blk) ∨ w.heap.size ≤ s.blk
  phantom : ∀ i, i < n0 → (∀ v, ρ i v = none) → H'.get i = H.get i ∧ ∀ v, ρ' i v = none
  ro : ∀ i r, i < n0 → H.get i = some (.row r) → r.rw = false → H'.get i = some (.row r) ∧ ∀ v s, ρ i v = some s → w'.heap[s.blk]? = w.heap[s.blk]?
  os : w'.os = w.os
  out : w'.output = w.output
abbrev Ext (ρ : Ren) (H : AHeap) (w : World) (ρ' : Ren) (H' : AHeap) (w' : World) : Prop := ExtN H.next ρ H w ρ' H' w'

theorem ExtN.refl (n0 : Nat) (ρ : Ren) (H : AHeap) (w : World) : ExtN n0 ρ H w ρ H w where
  mono := Ren.le_refl ρ
  size := Nat.le_refl _
  next := Nat.le_refl _
  frame := fun _ _ _ => rfl
  fresh := fun i v s h => .inl ⟨i, v, s, h, rfl⟩
  phantom := fun _ _ h => ⟨rfl, h⟩
  ro := fun _ _ _ h _ => ⟨h, fun _ _ _ => rfl⟩
  os := rfl
  out := rfl
theorem ExtN.less {n0 n1 : Nat} {ρ ρ' : Ren} {H H' : AHeap} {w w' : World} (h : ExtN n0 ρ H w ρ' H' w') (hn : n1 ≤ n0) : ExtN n1 ρ H w ρ' H' w' :=
  ⟨h.mono, h.size, h.next, h.frame, h.fresh, fun i hi => h.phantom i (Nat.lt_of_lt_of_le hi hn), fun i r hi => h.ro i r (Nat.lt_of_lt_of_le hi hn), h.os, h.out⟩
theorem ExtN.trans {n0 : Nat} {ρ ρ' ρ'' : Ren} {H H' H'' : AHeap} {w w' w'' : World} (h : ExtN n0 ρ H w ρ' H' w') (h' : ExtN n0 ρ' H' w' ρ'' H'' w'') : ExtN n0 ρ H w ρ'' H'' w'' where
  mono := h.mono.trans h'.mono
  size := Nat.le_trans h.size h'.size
  next := Nat.le_trans h.next h'.next
  frame := fun b hb hn => by
    rw [h'.frame b (Nat.lt_of_lt_of_le hb h.size) ?_, h.frame b hb hn]
    intro i v s hs he
    rcases h.fresh i v s hs with ⟨j, u, t, ht, e⟩ | hle
    · exact hn j u t ht (e.trans he)
    · omega
  fresh := fun i v s hs => by
    rcases h'.fresh i v s hs with ⟨j, u, t, ht, e⟩ | hle
    · rcases h.fresh j u t ht with ⟨j', u', t', ht', e'⟩ | hle
      · exact .inl ⟨j', u', t', ht', e'.trans e⟩
      · exact .inr (e ▸ hle)
    · exact .inr (Nat.le_trans h.size hle)
  phantom := fun i hi hn => by
    obtain ⟨h1, h2⟩ := h.phantom i hi hn
    obtain ⟨h3, h4⟩ := h'.phantom i hi h2
    exact ⟨h3.trans h1, h4⟩
  ro := fun i r hi hg hr => by
    obtain ⟨h1, h2⟩ := h.ro i r hi hg hr
    obtain ⟨h3, h4⟩ := h'.ro i r hi h1 hr
    exact ⟨h3, fun v s hs => (h4 v s (h.mono i v s hs)).trans (h2 v s hs)⟩
  os := h'.os.trans h.os
  out := h'.out.trans h.out
theorem Ext.trans {ρ ρ' ρ'' : Ren} {H H' H'' : AHeap} {w w' w'' : World} (h : Ext ρ H w ρ' H' w') (h' : Ext ρ' H' w' ρ'' H'' w'') : Ext ρ H w ρ'' H'' w'' :=
  ExtN.trans h (ExtN.less h' h.next)

/-- A count of draws is nothing. -/
theorem RelH.drew {P : Program} {ρ : Ren} {H : AHeap} {w : World} (h : RelH P ρ H w) (n : Nat) : RelH P ρ H { w with drawn := n } :=
  ⟨h.wf, h.dom, h.apart, h.row, h.obj, h.future, h.glob⟩
theorem ExtN.drew {n0 : Nat} {ρ ρ' : Ren} {H H' : AHeap} {w w' : World} (n : Nat) (h : ExtN n0 ρ H { w with drawn := n } ρ' H' w') : ExtN n0 ρ H w ρ' H' w' :=
  ⟨h.mono, h.size, h.next, h.frame, h.fresh, h.phantom, h.ro, h.os, h.out⟩
theorem ExtN.drewRight {n0 : Nat} {ρ : Ren} {H : AHeap} {w : World} (n : Nat) : ExtN n0 ρ H w ρ H { w with drawn := n } :=
  ⟨Ren.le_refl ρ, Nat.le_refl _, Nat.le_refl _, fun _ _ _ => rfl, fun i v s h => .inl ⟨i, v, s, h, rfl⟩, fun _ _ h => ⟨rfl, h⟩, fun _ _ _ h _ => ⟨h, fun _ _ _ => rfl⟩, rfl, rfl⟩

/-- What is deferred. -/
def DfR (ρ : Ren) (d d' : Deferred) : Prop := (∃ fn cap cap', d.target = .fn fn cap ∧ d'.target = .fn fn cap' ∧ VRs ρ cap.toList cap'.toList ∧ VRs ρ d.args.toList d'.args.toList) ∨ ∃ i s, d.target = .collected i ∧ ρ i 0 = some s ∧ d'.target = .collected s.blk
theorem DfR.mono {ρ ρ' : Ren} (h : ρ.le ρ') {d d' : Deferred} (hd : DfR ρ d d') : DfR ρ' d d' := by
  rcases hd with ⟨fn, cap, cap', h1, h2, h3, h4⟩ | ⟨i, s, h1, h2, h3⟩
  · exact .inl ⟨fn, cap, cap', h1, h2, h3.mono h, h4.mono h⟩
  · exact .inr ⟨i, s, h1, h _ _ _ h2, h3⟩
def DfsR (ρ : Ren) (l l' : List Deferred) : Prop := All2 (DfR ρ) l l'
theorem DfsR.mono {ρ ρ' : Ren} (h : ρ.le ρ') {l l' : List Deferred} (hd : DfsR ρ l l') : DfsR ρ' l l' := by
  unfold DfsR at hd ⊢
  induction hd with
  | nil => exact .nil
  | cons h1 _ ih => exact .cons (h1.mono h) ih
theorem DfsR.nil {ρ : Ren} {l : List Deferred} (h : DfsR ρ [] l) : l = [] := by cases h; rfl
/-- The states of a frame: slot by slot; what is deferred. -/
structure TR (ρ : Ren) (a b : Act) : Prop where
  tmps : VRs ρ a.tmps.toList b.tmps.toList
  defs : DfsR ρ a.defers b.defers
  glob : Globs ρ
theorem TR.mono {ρ ρ' : Ren} (h : ρ.le ρ') {a b : Act} (ht : TR ρ a b) : TR ρ' a b := ⟨ht.tmps.mono h, ht.defs.mono h, ht.glob.mono h⟩

/-- An operand that stands for the same in both. -/
def okOperand : Operand → Bool
  | .tmp _ => true
  | .const v => flatV v
  | .global g => Nat.blt g globN
  | .func _ => true
theorem TR.eval {ρ : Ren} {a b : Act} (h : TR ρ a b) {x : Operand} (hx : okOperand x = true) : VR ρ (a.eval x) (b.eval x) := by
  cases x with
  | tmp t =>
    have hl := h.tmps.length
    simp only [Array.length_toList] at hl
    simp only [Act.eval]
    by_cases ht : t < a.tmps.size
    · obtain ⟨y, hy, hv⟩ := h.tmps.get t a.tmps[t] (by simp [ht])
      simp only [Array.getElem?_toList] at hy
      simp [Array.getD, ht, hl ▸ ht]
      rw [Array.getElem?_eq_getElem (hl ▸ ht)] at hy
      exact Option.some.inj hy ▸ hv
    · simp [Array.getD, ht, hl ▸ ht]
      exact .tuple rfl (by simp)
  | const v => exact VR.of_flat hx
  | global g =>
    obtain ⟨s, h1, h2, h3, h4⟩ := h.glob g (by simpa [okOperand, Nat.blt_eq] using hx)
    exact .ptr ⟨s, h1, by omega, by simp [Seg.at, h2, h3, h4]⟩
  | func f => exact .func _ rfl (by simp) rfl (by simp)

end Go.Ae

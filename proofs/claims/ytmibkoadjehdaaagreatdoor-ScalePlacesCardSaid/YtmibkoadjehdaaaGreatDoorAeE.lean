/- The walk with a frame of which a list of places is known: rules whose conditions are worked out. No condition. -/
import Derived.Test.YtmibkoadjehdaaaGreatDoorAeFrame
namespace Go.Ae

abbrev Env := List (Nat × Value)
def lookE : Env → Nat → Option Value
  | [], _ => none
  | (d, v) :: E, t => bif Nat.beq t d then some v else lookE E t
def evE (E : Env) : Operand → Option Value
  | .tmp t => lookE E t
  | .const v => some v
  | .func f => some (.func (.func f) #[] #[])
  | .global _ => none
/-- What is known of the frame. -/
def Agree (N : Nat) (E : Env) (a : Act) : Prop := (a.tmps.size = N ∧ a.defers = []) ∧ ∀ t v, lookE E t = some v → t < N ∧ a.eval (.tmp t) = v
def Sub : Env → Env → Prop
  | [], _ => True
  | (t, v) :: E', E => lookE E t = some v ∧ Sub E' E
theorem Sub.agree {N : Nat} {E : Env} {a : Act} (h : Agree N E a) : ∀ {E' : Env}, Sub E' E → Agree N E' a
  | [], _ => ⟨h.1, fun t v hl => by cases hl⟩
  | (t, v) :: E', hs => by
    refine ⟨h.1, fun u w hl => ?_⟩
    unfold lookE at hl
    cases hb : Nat.beq u t with
    | true =>
      rw [hb] at hl
      simp only [cond_true, Option.some.injEq] at hl
      subst hl
      obtain rfl := Nat.eq_of_beq_eq_true hb
      exact h.2 _ _ hs.1
    | false =>
      rw [hb] at hl
      exact (Sub.agree h hs.2).2 u w hl
theorem Agree.eval {N : Nat} {E : Env} {a : Act} (h : Agree N E a) {x : Operand} {v : Value} (hx : evE E x = some v) : a.eval x = v := by
  cases x with
  | tmp t => exact (h.2 t v hx).2
  | const u => simpa [evE, Act.eval] using hx
  | func f => simpa [evE, Act.eval] using hx
  | global g => cases hx
theorem Agree.put {N : Nat} {E : Env} {a : Act} (h : Agree N E a) {d : Nat} (v : Value) (hd : Nat.blt d N = true) : Agree N ((d, v) :: E) (a.put (some d) v) := by
  have hd' : d < N := by simpa [Nat.blt_eq] using hd
  refine ⟨⟨by rw [Act.size_put]; exact h.1.1, by rw [defers_put]; exact h.1.2⟩, fun t w hl => ?_⟩
  unfold lookE at hl
  rw [Act.eval_put_tmp]
  cases hb : Nat.beq t d with
  | true =>
    rw [hb] at hl
    simp only [cond_true, Option.some.injEq] at hl
    subst hl
    obtain rfl := Nat.eq_of_beq_eq_true hb
    exact ⟨hd', if_pos ⟨rfl, by rw [h.1.1]; exact hd'⟩⟩
  | false =>
    rw [hb] at hl
    have hne : t ≠ d := by rintro rfl; simp at hb
    rw [if_neg (fun c => hne c.1)]
    exact h.2 t w hl
/-- Is the operation wanted, by what is known. -/
def wantE (ops : Array Oper) (E : Env) (g : Option (Nat × Bool)) : Option Bool :=
  match g with
  | none => some true
  | some (j, w) => match (ops[j]?).bind (·.dst) with
    | some t => match lookE E t with
      | some (.bool b) => some (b == w)
      | some (.tuple _) => some false
      | _ => none
    | none => none
theorem Agree.wanted {N : Nat} {E : Env} {a : Act} (h : Agree N E a) {ops : Array Oper} {o : Oper} {b : Bool} (hw : wantE ops E o.guard = some b) : Region.wanted o (yielded ops a.tmps) = b := by
  unfold wantE at hw
  split at hw
  · rename_i hg
    rw [wanted_none hg]
    simpa using hw
  · rename_i j w hg
    split at hw
    · rename_i t hd
      split at hw
      · rename_i b' hl
        obtain ⟨h1, h2⟩ := h.2 t _ hl
        have := wanted_eval hg hd h2 (by rw [h.1.1]; exact h1)
        rw [this]
        simp only [Option.some.injEq] at hw
        rw [← hw]
        cases b' <;> cases w <;> rfl
      · rename_i vs hl
        obtain ⟨h1, h2⟩ := h.2 t _ hl
        have := wanted_eval hg hd h2 (by rw [h.1.1]; exact h1)
        rw [this]
        simp only [Option.some.injEq] at hw
        rw [← hw]
        rfl
      · cases hw
    · cases hw

/-! Facts on types, found by their names -/
class SzT (P : Program) (t : TypeId) (n : outParam Nat) : Prop where h : szT P t = some n
class AgT (P : Program) (t : TypeId) (b : outParam Bool) : Prop where h : isAggT P t = some b
class ByT (P : Program) (t : TypeId) (n : outParam Nat) : Prop where h : byT P t = some n
class ZeT (P : Program) (t : TypeId) (l : outParam (List Value)) : Prop where h : zeroT P t = some l
class FoT (P : Program) (s : TypeId) (f : Nat) (off : outParam Nat) : Prop where h : fieldOff P s f = some off
class EsT (P : Program) (t : TypeId) (n : outParam Nat) : Prop where h : elemSz P t = some n
class UnT (P : Program) (t : TypeId) (d : outParam TypeDesc) : Prop where h : P.underlying t = some d
class BuT (P : Program) (t : TypeId) (pl : outParam (Array (Nat × Nat))) (zs : outParam (List Value)) : Prop where h : placesT P t = some (pl, zs)

/-! Where a region stands -/
inductive Mode where
  | seq (ops : Array Oper) (K : Act → AHeap → Prop) (rest : List Oper)
  | drawn (ops : Array Oper) (B : List Nat) (K : Act → AHeap → Prop) (sched : List Nat) (log : Log)
def Mode.ops : Mode → Array Oper
  | .seq ops _ _ => ops
  | .drawn ops _ _ _ _ => ops
def EW (P : Program) (N : Nat) (m : Mode) (E : Env) (H : AHeap) : Prop :=
  match m with
  | .seq ops K rest => ∀ a, Agree N E a → wpSeq P ops K rest a H
  | .drawn ops B K sched log => ∀ a, Agree N E a → wpS P ops B K sched a H log
def Mode.head : Mode → Option (Oper × Mode)
  | .seq ops K (o :: rest) => some (o, .seq ops K rest)
  | .seq _ _ [] => none
  | .drawn ops B K (i :: sched) log => match ops[i]? with
    | some o => some (o, .drawn ops B K sched log)
    | none => none
  | .drawn _ _ _ [] _ => none
/-- The number of the operation. -/
def Mode.at : Mode → Nat
  | .drawn _ _ _ (i :: _) _ => i
  | _ => 0
/-- A drawn region's memory of what was read: these cells stay. -/
def Mode.logged (m : Mode) (i : Nat) (p : AHeap → Prop) : Mode :=
  match m with
  | .seq ops K rest => .seq ops K rest
  | .drawn ops B K sched log => .drawn ops B K sched ((i, p) :: log)
/-- What was read ahead of a step that writes, and in an order that is not bound, is as it was. -/
def Mode.kept (m : Mode) (H' : AHeap) : Prop :=
  match m with
  | .seq .. => True
  | .drawn _ B _ (i :: _) log => ∀ p ∈ log, anc B p.1 i = true ∨ p.2 H'
  | .drawn _ _ _ [] _ => True

theorem head_seq {ops : Array Oper} {K : Act → AHeap → Prop} {rest : List Oper} {o : Oper} {m' : Mode} (h : (Mode.seq ops K rest).head = some (o, m')) : ∃ rest', rest = o :: rest' ∧ m' = .seq ops K rest' := by
  cases rest with
  | nil => cases h
  | cons x rest =>
    simp only [Mode.head, Option.some.injEq, Prod.mk.injEq] at h
    obtain ⟨rfl, rfl⟩ := h
    exact ⟨_, rfl, rfl⟩
theorem head_drawn {ops : Array Oper} {B : List Nat} {K : Act → AHeap → Prop} {sched : List Nat} {log : Log} {o : Oper} {m' : Mode} (h : (Mode.drawn ops B K sched log).head = some (o, m')) :
    ∃ i sched', sched = i :: sched' ∧ ops[i]? = some o ∧ m' = .drawn ops B K sched' log := by
  cases sched with
  | nil => cases h
  | cons i sched =>
    simp only [Mode.head] at h
    split at h
    · rename_i o' ho
      simp only [Option.some.injEq, Prod.mk.injEq] at h
      obtain ⟨rfl, rfl⟩ := h
      exact ⟨_, _, rfl, ho, rfl⟩
    · cases h
section
variable {P : Program} {N : Nat} {m m' : Mode} {E : Env} {H H' : AHeap} {v : Value} {d : Nat} {d' : Option Nat} {op : Op} {ty : TypeId} {p : String} {af : Array Edge} {g : Option (Nat × Bool)}

/-- One operation: what it gives, and the heap behind it. -/
def Nr (P : Program) (N : Nat) (E : Env) (H : AHeap) (o : Oper) (v : Value) (H' : AHeap) : Prop := isE o = false ∧ isRead o = false ∧ ∀ a, Agree N E a → nRes P a H o = some (v, H')
theorem ew_n (hm : m.head = some (⟨some d, op, ty, p, af, g⟩, m') := by exact rfl) (hw : wantE m.ops E g = some true := by exact rfl) (hd : Nat.blt d N = true := by exact rfl)
    (hn : Nr P N E H ⟨some d, op, ty, p, af, g⟩ v H') (h : EW P N m' ((d, v) :: E) H') : EW P N m E H := by
  cases m with
  | seq ops K rest =>
    intro a ha
    obtain ⟨rest, rfl, rfl⟩ := head_seq hm
    exact qn (ha.wanted hw) hn.1 (hn.2.2 a ha) (h _ (ha.put v hd))
  | drawn ops B K sched log =>
    intro a ha
    obtain ⟨i, sched, rfl, ho, rfl⟩ := head_drawn hm
    exact sn ho (ha.wanted hw) hn.1 hn.2.1 (hn.2.2 a ha) (h _ (ha.put v hd))
theorem ew_skip (hm : m.head = some (⟨some d, op, ty, p, af, g⟩, m') := by exact rfl) (hw : wantE m.ops E g = some false := by exact rfl) (hd : Nat.blt d N = true := by exact rfl) (h : EW P N m' ((d, undef) :: E) H) : EW P N m E H := by
  cases m with
  | seq ops K rest =>
    intro a ha
    obtain ⟨rest, rfl, rfl⟩ := head_seq hm
    exact qskip (ha.wanted hw) (h _ (ha.put undef hd))
  | drawn ops B K sched log =>
    intro a ha
    obtain ⟨i, sched, rfl, ho, rfl⟩ := head_drawn hm
    exact sskip ho (ha.wanted hw) (h _ (ha.put undef hd))
theorem ew_dec {c : Prop} {_dc : Decidable c} (hm : m.head = some (⟨some d, op, ty, p, af, g⟩, m') := by exact rfl) (hw : wantE m.ops E g = some true := by exact rfl) (hd : Nat.blt d N = true := by exact rfl)
    (hn : Nr P N E H ⟨some d, op, ty, p, af, g⟩ (.bool (decide c)) H) (ht : c → EW P N m' ((d, .bool true) :: E) H) (hf : ¬ c → EW P N m' ((d, .bool false) :: E) H) : EW P N m E H := by
  by_cases h : c
  · exact ew_n hm hw hd (v := .bool true) (by simpa only [h, decide_true] using hn) (ht h)
  · exact ew_n hm hw hd (v := .bool false) (by simpa only [h, decide_false] using hn) (hf h)
theorem ew_bool {b : Bool} (hm : m.head = some (⟨some d, op, ty, p, af, g⟩, m') := by exact rfl) (hw : wantE m.ops E g = some true := by exact rfl) (hd : Nat.blt d N = true := by exact rfl)
    (hn : Nr P N E H ⟨some d, op, ty, p, af, g⟩ (.bool b) H) (ht : b = true → EW P N m' ((d, .bool true) :: E) H) (hf : b = false → EW P N m' ((d, .bool false) :: E) H) : EW P N m E H := by
  cases b with
  | true => exact ew_n hm hw hd hn (ht rfl)
  | false => exact ew_n hm hw hd hn (hf rfl)
/-- A load. -/
def lv : Bool → List Value → Option Value
  | false, [v] => some v
  | false, _ => none
  | true, l => some (.agg l.toArray)
theorem ew_load {t : TypeId} {x : Operand} {n : Nat} {b : Bool} {ad : Addr} {l : List Value} (hm : m.head = some (⟨some d, .load t x, ty, p, af, g⟩, m') := by exact rfl) (s : SzT P t n := by exact inferInstance) (ag : AgT P t b := by exact inferInstance)
    (hw : wantE m.ops E g = some true := by exact rfl) (hd : Nat.blt d N = true := by exact rfl) (hx : evE E x = some (.pointer (some ad)) := by exact rfl)
    (hc : H.cellsAt ad n = some l) (hv : lv b l = some v) (h : EW P N (m'.logged m.at fun H' => H'.cellsAt ad n = H.cellsAt ad n) ((d, v) :: E) H) : EW P N m E H := by
  have key : ∀ a, Agree N E a → nRes P a H ⟨some d, .load t x, ty, p, af, g⟩ = some (v, H) ∧ (isAggT P t = some false ∧ n = 1 ∨ isAggT P t = some true) := by
    intro a ha
    cases b with
    | true =>
      simp only [lv, Option.some.injEq] at hv
      subst hv
      exact ⟨n_loadn s.h ag.h (ha.eval hx) hc, .inr ag.h⟩
    | false =>
      have h1 : l = [v] := by
        cases l with
        | nil => cases hv
        | cons x l =>
          cases l with
          | nil => simpa [lv] using hv
          | cons y l => cases hv
      subst h1
      have hn : n = 1 := by have := cellsAt_length hc; simpa using this.symm
      subst hn
      exact ⟨n_load1 s.h ag.h (ha.eval hx) hc, .inl ⟨ag.h, rfl⟩⟩
  cases m with
  | seq ops K rest =>
    intro a ha
    obtain ⟨rest, rfl, rfl⟩ := head_seq hm
    exact qn (ha.wanted hw) rfl (key a ha).1 (h _ (ha.put v hd))
  | drawn ops B K sched log =>
    intro a ha
    obtain ⟨i, sched, rfl, ho, rfl⟩ := head_drawn hm
    exact sload ho (ha.wanted hw) (ha.eval hx) s.h (key a ha).2 (key a ha).1 (h _ (ha.put v hd))
/-- What writes, or draws. -/
def Er (P : Program) (N : Nat) (E : Env) (H : AHeap) (o : Oper) (v : Value) (H' : AHeap) : Prop := isE o = true ∧ ∀ a, Agree N E a → acall P a.eval o = none ∧ aE P a.eval H o = some (v, H')
def putO (d : Option Nat) (v : Value) (E : Env) : Env := match d with | some d => (d, v) :: E | none => E
def bltO (d : Option Nat) (N : Nat) : Bool := match d with | some d => Nat.blt d N | none => true
theorem Agree.putO {a : Act} (h : Agree N E a) (v : Value) (hd : bltO d' N = true) : Agree N (putO d' v E) (a.put d' v) := by
  cases d' with
  | none => exact h
  | some d => exact h.put v hd
theorem ew_e (hm : m.head = some (⟨d', op, ty, p, af, g⟩, m') := by exact rfl) (hw : wantE m.ops E g = some true := by exact rfl) (hd : bltO d' N = true := by exact rfl)
    (he : Er P N E H ⟨d', op, ty, p, af, g⟩ v H') (hk : m.kept H') (h : EW P N m' (putO d' v E) H') : EW P N m E H := by
  cases m with
  | seq ops K rest =>
    intro a ha
    obtain ⟨rest, rfl, rfl⟩ := head_seq hm
    exact qe (ha.wanted hw) he.1 (he.2 a ha).1 (he.2 a ha).2 (h _ (ha.putO v hd))
  | drawn ops B K sched log =>
    intro a ha
    obtain ⟨i, sched, rfl, ho, rfl⟩ := head_drawn hm
    exact se ho (ha.wanted hw) he.1 (he.2 a ha).1 (he.2 a ha).2 hk (h _ (ha.putO v hd))
/-- A call, by a promise. -/
def Cr (P : Program) (N : Nat) (E : Env) (o : Oper) (f : FuncId) (args : Array Value) : Prop := isE o = true ∧ ∀ a, Agree N E a → acall P a.eval o = some (f, args)
theorem ew_call {f : FuncId} {args : Array Value} {R : Value → AHeap → Prop} (hm : m.head = some (⟨d', op, ty, p, af, g⟩, m') := by exact rfl) (hw : wantE m.ops E g = some true := by exact rfl) (hd : bltO d' N = true := by exact rfl)
    (hc : Cr P N E ⟨d', op, ty, p, af, g⟩ f args) (hR : ACalls P f args H R) (h : ∀ v H', R v H' → m.kept H' ∧ EW P N m' (putO d' v E) H') : EW P N m E H := by
  cases m with
  | seq ops K rest =>
    intro a ha
    obtain ⟨rest, rfl, rfl⟩ := head_seq hm
    exact qcallR (ha.wanted hw) hc.1 (hc.2 a ha) hR fun v H' hr => (h v H' hr).2 _ (ha.putO v hd)
  | drawn ops B K sched log =>
    intro a ha
    obtain ⟨i, sched, rfl, ho, rfl⟩ := head_drawn hm
    exact scallR ho (ha.wanted hw) hc.1 (hc.2 a ha) hR fun v H' hr => ⟨(h v H' hr).1, (h v H' hr).2 _ (ha.putO v hd)⟩
/-- An append, by a promise. -/
theorem ew_app {c : Call} {x y : Operand} {t u : TypeId} {s z : Value} {R : Value → AHeap → Prop} (hm : m.head = some (⟨d', .call c, ty, p, af, g⟩, m') := by exact rfl) (hw : wantE m.ops E g = some true := by exact rfl) (hd : bltO d' N = true := by exact rfl)
    (hc : c.callee = .builtin .append := by exact rfl) (ha' : c.args.toList = [x, y] := by exact rfl) (ht : c.argTypes.toList = [t, u] := by exact rfl) (hx : evE E x = some s := by exact rfl) (hy : evE E y = some z := by exact rfl)
    (hR : ∃ v H', appendA P H t u s z = some (v, H') ∧ R v H') (h : ∀ v H', R v H' → m.kept H' ∧ EW P N m' (putO d' v E) H') : EW P N m E H := by
  obtain ⟨v, H', h1, h2⟩ := hR
  exact ew_e hm hw hd ⟨by simp [isE, hc], fun a ha => ⟨ac_builtin hc, x_append hc ha' ht (ha.eval hx) (ha.eval hy) h1⟩⟩ (h v H' h2).1 (h v H' h2).2
theorem ew_fresh (h : ∀ b, b = H.next → EW P N m E H) : EW P N m E H := h _ rfl
theorem ew_nil {ops : Array Oper} {K : Act → AHeap → Prop} (h : ∀ a, Agree N E a → K a H) : EW P N (.seq ops K []) E H := h
theorem ew_nilD {ops : Array Oper} {B : List Nat} {log : Log} {K : Act → AHeap → Prop} (h : ∀ a, Agree N E a → K a H) : EW P N (.drawn ops B K [] log) E H := h
end

end Go.Ae

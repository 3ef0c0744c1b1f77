/- The operations of a region by their kinds: pure ones, reads. No condition. -/
import Derived.Test.YtmibkoadjehdaaaGreatDoorAeOps
import Derived.Laws.BytesString
namespace Go.Ae

/-! ### Operations over values without an address: the model's own run -/

def quietOp (P : Program) (ev : Operand → Value) (o : Oper) : Option Value :=
  if o.op.operands.all (fun x => simpleV (ev x)) then
    match quiet P (execOp ev o) with
    | some (.value v) => if simpleV v then some v else none
    | _ => none
  else none
theorem quietOp_sim {P : Program} {ρ : Ren} {ev ev' : Operand → Value} {o : Oper} {v : Value} (h : quietOp P ev o = some v) (hv : ∀ x ∈ o.op.operands, VR ρ (ev x) (ev' x)) :
    ∃ v', VR ρ v v' ∧ ∀ w, (execOp ev' o).run P w = .ok (.value v') w := by
  unfold quietOp at h
  split at h
  · rename_i hs
    split at h
    · rename_i u hq
      split at h
      · rename_i hsu
        obtain rfl := Option.some.inj h
        refine ⟨u, VR.of_simple hsu, fun w => ?_⟩
        have heq : ∀ x ∈ o.op.operands, ev' x = ev x := fun x hx => VR.simple_eq (Array.all_eq_true_iff_forall_mem.1 hs x hx) (hv x hx)
        have hsel : ∀ cs b, o.op ≠ .select cs b := by
          intro cs b e
          obtain ⟨dst, op, type, pos, after, guard⟩ := o
          dsimp only at e
          subst e
          simp only [execOp, quiet_bind, quiet_pure] at hq
          cases hm : quiet P (cs.mapM fun s => do pure { chan := ev s.chan, send := s.send.map ev, zero := ← zeroValue s.elem : CommCase }) with
          | none => rw [hm] at hq; simp at hq
          | some z => rw [hm] at hq; simp at hq
        rw [execOp_congr o hsel heq]
        exact quiet_run hq w
      · cases h
    · cases h
  · cases h

/-! ### Pure operations -/

def evParts (ev : Operand → Value) (ps : Array (Nat × Operand)) : List (Nat × Value) := (ps.map fun p => (p.1, ev p.2)).toList

def isStrV : Value → Bool
  | .string _ => true
  | _ => false
def aP (P : Program) (ev : Operand → Value) (o : Oper) : Option Value :=
  match o.op with
  | .move x | .assign x => some (ev x)
  | .pick c a b => match ev c with
    | .bool t => some (if t then ev a else ev b)
    | _ => none
  | .nilCheck x => match ev x with
    | .pointer (some a) => some (.pointer (some a))
    | .iface t v => some (.iface t v)
    | .func (.func f) xs us => some (.func (.func f) xs us)
    | _ => none
  | .makeInterface t x => match P.underlying t with
    | some (.interface _) => none
    | some _ => some (.iface t (ev x))
    | none => none
  | .makeFunc fn first captured => some (.func fn (first.map ev) (captured.map ev))
  | .build t ps => builtA P t (evParts ev ps)
  | .fieldAddr s x f => fieldAddrA P s (ev x) f
  | .field s x f => fieldA P s (ev x) f
  | .indexAddr t x ix => indexAddrA P t (ev x) (ev ix)
  | .extract t ix => extractA (ev t) ix
  | .index t x ix => if simpleV (ev x) then quietOp P ev o else indexA P t (ev x) (ev ix)
  | .typeAssert x _ t ok => assertA P (ev x) t ok
  | .slice t x lo hi mx => if isStrV (ev x) then quietOp P ev o else sliceA P t (ev x) (lo.map ev) (hi.map ev) (mx.map ev)
  | .binOp op t x y _ =>
    if simpleV (ev x) && simpleV (ev y) then quietOp P ev o
    else match P.underlying t, op with
      | some d, .eql => (eqA P d (ev x) (ev y)).map .bool
      | some d, .neq => (eqA P d (ev x) (ev y)).map fun b => .bool !b
      | _, _ => none
  | .call c => match c.callee, c.args.toList, c.argTypes.toList with
    | .builtin .len, [x], [t] => if simpleV (ev x) then quietOp P ev o else lenA P t (ev x)
    | _, _, _ => quietOp P ev o
  | _ => quietOp P ev o

theorem eqlNil_run {P : Program} {ρ : Ren} {t : TypeId} {d : TypeDesc} {op : BinOp} {x y x' y' : Value} {a b : Operand} {z : Bool} (hu : P.underlying t = some d) (h : eqlNil d x y = some z)
    (hx : VR ρ x x') (hy : VR ρ y y') (hs : ¬ (simpleV x && simpleV y) = true) (hop : op = .eql ∨ op = .neq) (w : World) :
    (do eqGuard op t a b x' y'; binOp op t x' y').run P w = .ok (.bool (if op = .eql then z else !z)) w := by
  have he := eqlNil_sim (P := P) (n := 9999) hu h hx hy w
  have he' : (Op.equal t x' y').run P w = .ok z w := he
  unfold eqlNil at h
  split at h <;> (try (simp only [reduceCtorEq] at h; done)) <;> cases hx <;> cases hy <;> (try (exfalso; apply hs; rfl)) <;> rcases hop with rfl | rfl <;>
    simp [eqGuard, binOp, he']

theorem eqA_run {P : Program} {ρ : Ren} {t : TypeId} {d : TypeDesc} {op : BinOp} {x y x' y' : Value} {a b : Operand} {z : Bool} (hu : P.underlying t = some d) (h : eqA P d x y = some z)
    (hx : VR ρ x x') (hy : VR ρ y y') (hs : ¬ (simpleV x && simpleV y) = true) (hop : op = .eql ∨ op = .neq) (w : World) :
    (do eqGuard op t a b x' y'; binOp op t x' y').run P w = .ok (.bool (if op = .eql then z else !z)) w := by
  unfold eqA at h
  split at h
  · rename_i b' hb
    obtain rfl := Option.some.inj h
    exact eqlNil_run hu hb hx hy hs hop w
  · obtain ⟨⟨u, v, rfl, rfl⟩, he⟩ := ptrEq_sim (P := P) (n := 9999) hu h hx hy w
    have he' : (Op.equal t (.pointer (some u)) (.pointer (some v))).run P w = .ok z w := he
    rcases hop with rfl | rfl <;> simp [eqGuard, binOp, he']

theorem aP_sim {P : Program} {ρ : Ren} {ev ev' : Operand → Value} {o : Oper} {v : Value} (h : aP P ev o = some v) (hv : ∀ x ∈ o.op.operands, VR ρ (ev x) (ev' x)) :
    ∃ v', VR ρ v v' ∧ ∀ w, (execOp ev' o).run P w = .ok (.value v') w := by
  obtain ⟨dst, op, type, pos, after, guard⟩ := o
  unfold aP at h
  split at h
  case h_1 x heq => dsimp only at heq; subst heq; obtain rfl := Option.some.inj h; exact ⟨ev' x, hv x (by simp [Op.operands]), fun w => by simp [execOp]⟩
  case h_2 x heq => dsimp only at heq; subst heq; obtain rfl := Option.some.inj h; exact ⟨ev' x, hv x (by simp [Op.operands]), fun w => by simp [execOp]⟩
  case h_3 c a b heq =>
    dsimp only at heq; subst heq
    split at h
    · rename_i t ht
      obtain rfl := Option.some.inj h
      have hc := hv c (by simp [Op.operands])
      rw [ht] at hc
      have hc' : ev' c = .bool t := by generalize ev' c = z at hc; cases hc; rfl
      refine ⟨if t then ev' a else ev' b, ?_, fun w => by simp [execOp, asBool, hc']⟩
      cases t
      · exact hv b (by simp [Op.operands])
      · exact hv a (by simp [Op.operands])
    · cases h
  case h_4 x heq =>
    dsimp only at heq; subst heq
    have hx := hv x (by simp [Op.operands])
    split at h <;> simp only [Option.some.injEq, reduceCtorEq] at h <;> subst h <;> rename_i ht <;> rw [ht] at hx <;> generalize hz : ev' x = z at hx <;> cases hx
    · exact ⟨_, .ptr ‹_›, fun w => by simp [execOp, hz]⟩
    · exact ⟨_, .iface _ ‹_›, fun w => by simp [execOp, hz]⟩
    · exact ⟨_, .func _ ‹_› ‹_› ‹_› ‹_›, fun w => by simp [execOp, hz]⟩
  case h_5 t x heq =>
    dsimp only at heq; subst heq
    split at h
    · cases h
    · rename_i d hd hu
      obtain rfl := Option.some.inj h
      refine ⟨.iface t (ev' x), .iface t (hv x (by simp [Op.operands])), fun w => ?_⟩
      cases d <;> first | (exact absurd rfl (hd _)) | simp [execOp, Instr.makeInterface, run_underlying hu]
    · cases h
  case h_6 fn first captured heq =>
    dsimp only at heq; subst heq
    obtain rfl := Option.some.inj h
    refine ⟨.func fn (first.map ev') (captured.map ev'), .func fn (by simp) ?_ (by simp) ?_, fun w => by simp [execOp, Instr.makeFunc]⟩
    · intro i x y hx hy
      simp only [Array.getElem?_map, Option.map_eq_some_iff] at hx hy
      obtain ⟨p, hp, rfl⟩ := hx
      obtain ⟨q, hq, rfl⟩ := hy
      rw [hp] at hq
      obtain rfl := Option.some.inj hq
      exact hv p (by simp only [Op.operands, Array.mem_append]; exact .inl (Array.mem_of_getElem? hp))
    · intro i x y hx hy
      simp only [Array.getElem?_map, Option.map_eq_some_iff] at hx hy
      obtain ⟨p, hp, rfl⟩ := hx
      obtain ⟨q, hq, rfl⟩ := hy
      rw [hp] at hq
      obtain rfl := Option.some.inj hq
      exact hv p (by simp only [Op.operands, Array.mem_append]; exact .inr (Array.mem_of_getElem? hp))
  case h_7 t ps heq =>
    dsimp only at heq; subst heq
    have hp : PartsR ρ (ps.map fun p => (p.1, ev p.2)).toList (ps.map fun p => (p.1, ev' p.2)).toList := by
      have : ∀ l : List (Nat × Operand), (∀ p ∈ l, p ∈ ps.toList) → PartsR ρ (l.map fun p => (p.1, ev p.2)) (l.map fun p => (p.1, ev' p.2)) := by
        intro l
        induction l with
        | nil => intro _; exact .nil
        | cons p l ih =>
          intro hl
          refine .cons ⟨rfl, hv p.2 ?_⟩ (ih fun q hq => hl q (by simp [hq]))
          simp only [Op.operands, List.mem_toArray, List.mem_map]
          exact ⟨p, hl p (by simp), rfl⟩
      simpa using this ps.toList (fun _ h => h)
    obtain ⟨v', h1, h2⟩ := builtA_sim (ps := ps.map fun p => (p.1, ev p.2)) h hp
    exact ⟨v', h1, fun w => by simp only [execOp, Sem.run_bind, h2 w, Result.andThen_ok, Sem.run_pure]⟩
  case h_8 s x f heq =>
    dsimp only at heq; subst heq
    obtain ⟨v', h1, h2⟩ := fieldAddrA_sim h (hv x (by simp [Op.operands]))
    exact ⟨v', h1, fun w => by simp [execOp, h2 w]⟩
  case h_9 s x f heq =>
    dsimp only at heq; subst heq
    obtain ⟨v', h1, h2⟩ := fieldA_sim h (hv x (by simp [Op.operands]))
    exact ⟨v', h1, fun w => by simp [execOp, h2 w]⟩
  case h_10 t x ix heq =>
    dsimp only at heq; subst heq
    obtain ⟨v', h1, h2⟩ := indexAddrA_sim h (hv x (by simp [Op.operands])) (hv ix (by simp [Op.operands]))
    exact ⟨v', h1, fun w => by simp [execOp, h2 w]⟩
  case h_11 t ix heq =>
    dsimp only at heq; subst heq
    obtain ⟨v', h1, h2⟩ := extractA_sim (P := P) h (hv t (by simp [Op.operands]))
    exact ⟨v', h1, fun w => by simp [execOp, h2 w]⟩
  case h_12 t x ix heq =>
    dsimp only at heq; subst heq
    split at h
    · exact quietOp_sim h hv
    · obtain ⟨v', h1, h2⟩ := indexA_sim h (hv x (by simp [Op.operands])) (hv ix (by simp [Op.operands]))
      exact ⟨v', h1, fun w => by simp [execOp, h2 w]⟩
  case h_13 x xt t ok heq =>
    dsimp only at heq; subst heq
    obtain ⟨v', h1, h2⟩ := assertA_sim (xt := xt) h (hv x (by simp [Op.operands]))
    exact ⟨v', h1, fun w => by simp [execOp, h2 w]⟩
  case h_14 t x lo hi mx heq =>
    dsimp only at heq; subst heq
    split at h
    · exact quietOp_sim h hv
    · have ho : ∀ y : Option Operand, (∀ z, y = some z → z ∈ (Op.slice t x lo hi mx).operands) → VRo ρ (y.map ev) (y.map ev') := by
        intro y hy
        cases y with
        | none => trivial
        | some z => exact hv z (hy z rfl)
      obtain ⟨v', h1, h2⟩ := sliceA_sim h (hv x (by simp [Op.operands])) (ho lo fun z e => by simp [Op.operands, e]) (ho hi fun z e => by simp [Op.operands, e]) (ho mx fun z e => by simp [Op.operands, e])
      exact ⟨v', h1, fun w => by simp [execOp, h2 w]⟩
  case h_15 op t x y yt heq =>
    dsimp only at heq; subst heq
    split at h
    · exact quietOp_sim h hv
    · rename_i hs
      split at h
      · rename_i d hu
        simp only [Option.map_eq_some_iff] at h
        obtain ⟨b, hb, rfl⟩ := h
        refine ⟨.bool b, .bool b, fun w => ?_⟩
        have := eqA_run (a := x) (b := y) hu hb (hv x (by simp [Op.operands])) (hv y (by simp [Op.operands])) hs (.inl rfl) w
        simp only [if_true] at this
        simp only [execOp]
        rw [Sem.run_bind, this]
        rfl
      · rename_i d hu
        simp only [Option.map_eq_some_iff] at h
        obtain ⟨b, hb, rfl⟩ := h
        refine ⟨.bool !b, .bool _, fun w => ?_⟩
        have := eqA_run (a := x) (b := y) hu hb (hv x (by simp [Op.operands])) (hv y (by simp [Op.operands])) hs (.inr rfl) w
        simp only [reduceCtorEq, if_false] at this
        simp only [execOp]
        rw [Sem.run_bind, this]
        rfl
      · cases h
  case h_16 c heq =>
    dsimp only at heq; subst heq
    split at h
    · rename_i x t hc ha ht
      split at h
      · exact quietOp_sim h hv
      · obtain ⟨callee, args, argTypes⟩ := c
        obtain ⟨args⟩ := args
        obtain ⟨argTypes⟩ := argTypes
        dsimp only at hc ha ht
        subst hc ha ht
        obtain ⟨h1, h2⟩ := lenA_sim (ty := type) h (hv x (by simp [Op.operands, Call.operands]))
        refine ⟨v, ?_, fun w => by simp [execOp, resolve, invoke, builtin, h2 w]⟩
        unfold lenA at h
        split at h <;> simp at h <;> subst h <;> exact .int _ _
    · exact quietOp_sim h hv
  case h_17 => exact quietOp_sim h hv

end Go.Ae

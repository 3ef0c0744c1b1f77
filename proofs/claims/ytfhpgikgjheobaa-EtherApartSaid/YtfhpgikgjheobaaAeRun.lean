/- Code over the abstract heap, as one formula to be worked out. No condition. -/
import Derived.Test.YtfhpgikgjheobaaAeCode
namespace Go.Ae

abbrev Tbl := List (Nat × List Nat × List Nat)
def getT : Tbl → Nat → List Nat × List Nat
  | [], _ => ([], [])
  | (i, s) :: l, j => if i = j then s else getT l j
def codeOk (tbl : Tbl) : Code → Bool
  | .region id ops d => if d then schedOk ops (getT tbl id).1 (getT tbl id).2 else ops.toList.all operandsOk
  | .seq a b => codeOk tbl a && codeOk tbl b
  | .cond c a b => okOperand c && codeOk tbl a && codeOk tbl b
  | .block _ c => codeOk tbl c
  | .loop c => codeOk tbl c
  | .skip | .label _ | .goto _ | .exit _ | .ret => true
  | _ => false
def awC (P : Program) (tbl : Tbl) : Code → (Exit → Act → AHeap → Prop) → Act → AHeap → Prop
  | .skip, Q, a, H => Q .normal a H
  | .label _, Q, a, H => Q .normal a H
  | .exit id, Q, a, H => Q (.exit id) a H
  | .goto l, Q, a, H => Q (.goto l) a H
  | .ret, Q, a, H => Q .ret a H
  | .seq x y, Q, a, H => awC P tbl x (thenA (awC P tbl y Q) Q) a H
  | .block id c, Q, a, H => awC P tbl c (inBlockA id Q) a H
  | .cond c x y, Q, a, H => match a.eval c with
    | .bool true => awC P tbl x Q a H
    | .bool false => awC P tbl y Q a H
    | _ => False
  | .region id ops d, Q, a, H => if d then wpS P ops (getT tbl id).2 (fun a H => Q .normal a H) (getT tbl id).1 a H [] else wpSeq P ops (fun a H => Q .normal a H) ops.toList a H
  | .loop c, Q, a, H => aw P (.loop c) Q a H
  | _, _, _, _ => False

theorem awC_sound {P : Program} {tbl : Tbl} (hm : P.follows .mixedOrders = true) : ∀ (c : Code) (Q : Exit → Act → AHeap → Prop) (a : Act) (H : AHeap), codeOk tbl c = true → awC P tbl c Q a H → aw P c Q a H
  | .skip, _, _, _, _, h => aw_skip h
  | .label _, _, _, _, _, h => aw_label h
  | .exit _, _, _, _, _, h => aw_exit h
  | .goto _, _, _, _, _, h => aw_goto h
  | .ret, _, _, _, _, h => aw_ret h
  | .seq x y, Q, a, H, hok, h => by
    simp only [codeOk, Bool.and_eq_true] at hok
    refine aw_seq (aw_mono (awC_sound hm x _ a H hok.1 h) fun e a' H' q => ?_)
    cases e with
    | normal => exact awC_sound hm y Q a' H' hok.2 q
    | exit id => exact q
    | goto l => exact q
    | ret => exact q
    | panic c => exact q
    | outgrown => exact q
  | .block id c, Q, a, H, hok, h => aw_block (awC_sound hm c _ a H hok h)
  | .cond c x y, Q, a, H, hok, h => by
    simp only [codeOk, Bool.and_eq_true] at hok
    simp only [awC] at h
    split at h
    · rename_i hc
      exact aw_cond (t := true) hc hok.1.1 (awC_sound hm x Q a H hok.1.2 h)
    · rename_i hc
      exact aw_cond (t := false) hc hok.1.1 (awC_sound hm y Q a H hok.2 h)
    · exact h.elim
  | .region id ops d, Q, a, H, hok, h => by
    simp only [codeOk] at hok
    simp only [awC] at h
    cases d with
    | true =>
      rw [if_pos rfl] at hok h
      exact aw_draw hm hok h
    | false =>
      rw [if_neg (by simp)] at hok h
      exact aw_region hok h
  | .loop c, _, _, _, _, h => h
  | .rangeFunc .., _, _, _, hok, _ => by simp [codeOk] at hok
  | .scope _, _, _, _, hok, _ => by simp [codeOk] at hok
  | .refuse _, _, _, _, hok, _ => by simp [codeOk] at hok

/-- A function's frame as it is entered: its arguments, and whatever else. -/
theorem acalls_of {P : Program} {f : FuncId} {fn : Func} {c : Code} {args : Array Value} {H : AHeap} {Q : Value → AHeap → Prop} (tbl : Tbl) (hf : P.funcs[f]? = some fn) (hb : fn.body = some c)
    (hm : P.follows .mixedOrders = true) (hok : codeOk tbl c = true) (hle : args.size ≤ fn.ntmps)
    (h : ∀ a : Act, a.tmps.size = fn.ntmps → (∀ i v, args[i]? = some v → a.eval (.tmp i) = v) → awC P tbl c (bodyA P fn.results.toList Q) a H) : ACalls P f args H Q := by
  refine acalls_of_aw hf hb (awC_sound hm c _ _ H hok (h _ ?_ fun i v hi => ?_))
  · simp; omega
  · have hlt := (Array.getElem?_eq_some_iff.1 hi).1
    simp only [Act.eval, Array.getD_eq_getD_getElem?]
    rw [Array.getElem?_append_left hlt, hi]
    rfl

theorem Act.eval_put_tmp (a : Act) (d t : Nat) (v : Value) : (a.put (some d) v).eval (.tmp t) = if t = d ∧ d < a.tmps.size then v else a.eval (.tmp t) := by
  simp only [Act.eval, Act.put]
  by_cases h : t = d
  · subst h
    by_cases hl : t < a.tmps.size
    · simp [hl]
    · simp [hl]
  · rw [if_neg (fun c => h c.1)]
    simp [Array.getElem?_setIfInBounds_ne (Ne.symm h)]
theorem Act.eval_const (a : Act) (v : Value) : a.eval (.const v) = v := rfl
theorem Act.eval_func (a : Act) (f : FuncId) : a.eval (.func f) = .func (.func f) #[] #[] := rfl
theorem Act.put_none (a : Act) (v : Value) : a.put none v = a := rfl
theorem Act.size_put (a : Act) (d : Option Tmp) (v : Value) : (a.put d v).tmps.size = a.tmps.size := Ae.size_put a d v
theorem getD_eval (a : Act) (t : Nat) : a.tmps.getD t undef = a.eval (.tmp t) := rfl
theorem getElem?_eval (a : Act) (t : Nat) : (a.tmps[t]?).bind boolOf = if t < a.tmps.size then boolOf (a.eval (.tmp t)) else none := by
  by_cases h : t < a.tmps.size
  · simp [h, Act.eval, Array.getD_eq_getD_getElem?]
  · simp [h]
/-- Is an operation wanted: its guard read in the frame. -/
theorem wanted_none {o : Oper} {y : Nat → Option Bool} (h : o.guard = none) : Region.wanted o y = true := by simp [Region.wanted, h]

end Go.Ae

/- One rule for each kind of operation, to be applied one behind the other. No condition. -/
import Derived.Test.YtfhpgikgjheobaaAeRun
namespace Go.Ae

theorem wanted_eval {ops : Array Oper} {a : Act} {o : Oper} {j : Nat} {want : Bool} {t : Tmp} {v : Value} (hg : o.guard = some (j, want)) (hd : (ops[j]?).bind (·.dst) = some t) (hv : a.eval (.tmp t) = v)
    (ht : t < a.tmps.size) : Region.wanted o (yielded ops a.tmps) = (boolOf v == some want) := by
  unfold Region.wanted
  rw [hg]
  dsimp only
  rw [yielded_eq, hd, Option.bind_some, getElem?_eval, if_pos ht, hv]

section
variable {P : Program} {ops : Array Oper} {B : List Nat} {K : Act → AHeap → Prop} {a : Act} {H H' : AHeap} {v : Value} {o : Oper}

/-! ### In the given order -/

theorem q_nil (h : K a H) : wpSeq P ops K [] a H := h
theorem q_n {rest : List Oper} (hw : Region.wanted o (yielded ops a.tmps) = true) (hE : isE o = false) (hn : nRes P a H o = some (v, H')) (h : wpSeq P ops K rest (a.put o.dst v) H') : wpSeq P ops K (o :: rest) a H := by
  simp only [wpSeq, hw, if_true, step1, hE, Bool.false_eq_true, if_false]
  exact nStep_of hn h
theorem q_skip {rest : List Oper} (hw : Region.wanted o (yielded ops a.tmps) = false) (h : wpSeq P ops K rest (a.put o.dst undef) H) : wpSeq P ops K (o :: rest) a H := by
  simp only [wpSeq, hw, Bool.false_eq_true, if_false]
  exact h
theorem q_e {rest : List Oper} (hw : Region.wanted o (yielded ops a.tmps) = true) (hE : isE o = true) (hc : acall P a.eval o = none) (he : aE P a.eval H o = some (v, H')) (h : wpSeq P ops K rest (a.put o.dst v) H') :
    wpSeq P ops K (o :: rest) a H := by
  simp only [wpSeq, hw, if_true, step1, hE, eStep, hc, he]
  exact h
theorem q_call {rest : List Oper} {f : FuncId} {args : Array Value} (hw : Region.wanted o (yielded ops a.tmps) = true) (hE : isE o = true) (hc : acall P a.eval o = some (f, args))
    (h : ACalls P f args H fun v H' => wpSeq P ops K rest (a.put o.dst v) H') : wpSeq P ops K (o :: rest) a H := by
  simp only [wpSeq, hw, if_true, step1, hE, eStep, hc]
  exact h

/-! ### In a drawn order -/

abbrev Log := List (Nat × (AHeap → Prop))

theorem wpS_log : ∀ {sched : List Nat} {a : Act} {H : AHeap} {log log' : Log}, (∀ p ∈ log, ∃ q ∈ log', q.1 = p.1 ∧ ∀ H', q.2 H' → p.2 H') → wpS P ops B K sched a H log' → wpS P ops B K sched a H log
  | [], _, _, _, _, _, h => h
  | i :: rest, a, H, log, log', hl, h => by
    simp only [wpS] at h ⊢
    split at h
    · exact h
    · rename_i o ho
      split at h
      · rename_i hw
        rw [if_pos hw]
        split at h
        · rename_i hE
          rw [if_pos hE]
          have up : ∀ v H', ((∀ p ∈ log', anc B p.1 i = true ∨ p.2 H') ∧ wpS P ops B K rest (a.put o.dst v) H' log') → ((∀ p ∈ log, anc B p.1 i = true ∨ p.2 H') ∧ wpS P ops B K rest (a.put o.dst v) H' log) := by
            intro v H' ⟨h1, h2⟩
            refine ⟨fun p hp => ?_, wpS_log hl h2⟩
            obtain ⟨q, hq, e, himp⟩ := hl p hp
            rcases h1 q hq with h3 | h3
            · exact .inl (e ▸ h3)
            · exact .inr (himp H' h3)
          unfold eStep at h ⊢
          split at h
          · exact h.mono up
          · split at h
            · exact up _ _ h
            · exact h.elim
        · rename_i hE
          rw [if_neg hE]
          have more : ∀ p ∈ (if isRead o then (i, fun H' => aR P a.eval H' o = aR P a.eval H o) :: log else log), ∃ q ∈ (if isRead o then (i, fun H' => aR P a.eval H' o = aR P a.eval H o) :: log' else log'), q.1 = p.1 ∧ ∀ H', q.2 H' → p.2 H' := by
            intro p hp
            split at hp
            · rename_i hr
              rw [if_pos hr]
              rcases List.mem_cons.1 hp with rfl | hp
              · exact ⟨_, List.mem_cons_self, rfl, fun _ h => h⟩
              · obtain ⟨q, hq, h1⟩ := hl p hp
                exact ⟨q, List.mem_cons_of_mem _ hq, h1⟩
            · rename_i hr
              rw [if_neg hr]
              exact hl p hp
          unfold nStep at h ⊢
          split at h
          · exact wpS_log more h
          · exact h.elim
      · rename_i hw
        rw [if_neg hw]
        exact wpS_log hl h

variable {i : Nat} {rest : List Nat} {log : Log}

theorem s_nil (h : K a H) : wpS P ops B K [] a H log := h
theorem s_n (ho : ops[i]? = some o) (hw : Region.wanted o (yielded ops a.tmps) = true) (hE : isE o = false) (hr : isRead o = false) (hn : nRes P a H o = some (v, H')) (h : wpS P ops B K rest (a.put o.dst v) H' log) :
    wpS P ops B K (i :: rest) a H log := by
  simp only [wpS, ho, hw, if_true, hE, Bool.false_eq_true, if_false, hr]
  exact nStep_of hn h
theorem s_skip (ho : ops[i]? = some o) (hw : Region.wanted o (yielded ops a.tmps) = false) (h : wpS P ops B K rest (a.put o.dst undef) H log) : wpS P ops B K (i :: rest) a H log := by
  simp only [wpS, ho, hw, Bool.false_eq_true, if_false]
  exact h
/-- A load: what it owes is that its cells stay. -/
theorem s_load {t : TypeId} {x : Operand} {ad : Addr} {n : Nat} (ho : ops[i]? = some o) (hw : Region.wanted o (yielded ops a.tmps) = true) (hop : o.op = .load t x) (hx : a.eval x = .pointer (some ad))
    (hsz : szT P t = some n) (hag : isAggT P t = some false ∧ n = 1 ∨ isAggT P t = some true) (hn : nRes P a H o = some (v, H'))
    (h : wpS P ops B K rest (a.put o.dst v) H ((i, fun H' => H'.cellsAt ad n = H.cellsAt ad n) :: log)) : wpS P ops B K (i :: rest) a H log := by
  have hE : isE o = false := by simp [isE, hop]
  have hr : isRead o = true := by simp [isRead, hop]
  have hH : H' = H := by
    unfold nRes at hn
    rw [hop] at hn
    simp only [Option.map_eq_some_iff, Prod.mk.injEq] at hn
    obtain ⟨_, _, _, h⟩ := hn
    exact h.symm
  subst hH
  simp only [wpS, ho, hw, if_true, hE, Bool.false_eq_true, if_false, hr]
  refine nStep_of hn (wpS_log (fun p hp => ?_) h)
  rcases List.mem_cons.1 hp with rfl | hp
  · refine ⟨_, List.mem_cons_self, rfl, fun H1 h1 => ?_⟩
    dsimp only at h1 ⊢
    unfold aR
    rw [hop]
    dsimp only
    unfold loadA
    rw [hx]
    rcases hag with ⟨hag, rfl⟩ | hag
    · simp only [hsz, hag, h1]
    · simp only [hsz, hag, h1]
  · exact ⟨p, List.mem_cons_of_mem _ hp, rfl, fun _ h => h⟩
theorem s_e (ho : ops[i]? = some o) (hw : Region.wanted o (yielded ops a.tmps) = true) (hE : isE o = true) (hc : acall P a.eval o = none) (he : aE P a.eval H o = some (v, H'))
    (hl : ∀ p ∈ log, anc B p.1 i = true ∨ p.2 H') (h : wpS P ops B K rest (a.put o.dst v) H' log) : wpS P ops B K (i :: rest) a H log := by
  simp only [wpS, ho, hw, if_true, hE, eStep, hc, he]
  exact ⟨hl, h⟩
theorem s_call {f : FuncId} {args : Array Value} (ho : ops[i]? = some o) (hw : Region.wanted o (yielded ops a.tmps) = true) (hE : isE o = true) (hc : acall P a.eval o = some (f, args))
    (h : ACalls P f args H fun v H' => (∀ p ∈ log, anc B p.1 i = true ∨ p.2 H') ∧ wpS P ops B K rest (a.put o.dst v) H' log) : wpS P ops B K (i :: rest) a H log := by
  simp only [wpS, ho, hw, if_true, hE, eStep, hc]
  exact h
theorem log_all {L : Log} {j : Nat} {H1 : AHeap} (h : L.all (fun p => anc B p.1 j) = true) : ∀ p ∈ L, anc B p.1 j = true ∨ p.2 H1 := fun p hp => .inl (List.all_eq_true.1 h p hp)
end

/-! ### Code -/

section
variable {P : Program} {tbl : Tbl} {Q : Exit → Act → AHeap → Prop} {a : Act} {H : AHeap}
theorem c_seq {x y : Code} (h : awC P tbl x (thenA (awC P tbl y Q) Q) a H) : awC P tbl (.seq x y) Q a H := h
theorem c_skip (h : Q .normal a H) : awC P tbl .skip Q a H := h
theorem c_ret (h : Q .ret a H) : awC P tbl .ret Q a H := h
theorem c_exit {id : Nat} (h : Q (.exit id) a H) : awC P tbl (.exit id) Q a H := h
theorem c_block {id : Nat} {c : Code} (h : awC P tbl c (inBlockA id Q) a H) : awC P tbl (.block id c) Q a H := h
theorem c_true {c : Operand} {x y : Code} (hc : a.eval c = .bool true) (h : awC P tbl x Q a H) : awC P tbl (.cond c x y) Q a H := by simp only [awC, hc]; exact h
theorem c_false {c : Operand} {x y : Code} (hc : a.eval c = .bool false) (h : awC P tbl y Q a H) : awC P tbl (.cond c x y) Q a H := by simp only [awC, hc]; exact h
theorem c_region {id : Nat} {ops : Array Oper} (h : wpSeq P ops (fun a H => Q .normal a H) ops.toList a H) : awC P tbl (.region id ops false) Q a H := by simp only [awC, Bool.false_eq_true, if_false]; exact h
theorem c_draw {id : Nat} {ops : Array Oper} {sched B : List Nat} (ht : getT tbl id = (sched, B)) (h : wpS P ops B (fun a H => Q .normal a H) sched a H []) : awC P tbl (.region id ops true) Q a H := by
  simp only [awC, if_true, ht]; exact h
end

end Go.Ae

/- Code over the abstract heap, in a plain frame or in that of a loop's body. No condition. -/
import Derived.Test.YtmibkoadjehdaaaGreatDoorAeNp
import Derived.RangeFuncIn
import Derived.RangeFuncLeaves
import Derived.RangeFuncRecord
namespace Go.Ae
def fenceR (r : Option Nat) : Fence := { Fence.wide with round := r }
theorem fenceR_none : fenceR none = Fence.wide := rfl
theorem fenceR_some (l : Nat) : fenceR (some l) = Fence.wide.inRound l := rfl
theorem fenceR_room (r : Option Nat) (n : Nat) : (fenceR r).room n := fun _ h => by simp [fenceR, Fence.wide] at h
def awF (r : Option Nat) (P : Program) (c : Code) (Q : Exit → Act → AHeap → Prop) (a : Act) (H : AHeap) : Prop :=
  ∀ (ρ : Ren) (b : Act) (w : World), TR ρ a b → RelH P ρ H w → c.wpIn (fenceR r) 0 P (AfterX P ρ H w Q) b w
theorem awF_none {P : Program} {c : Code} {Q : Exit → Act → AHeap → Prop} {a : Act} {H : AHeap} : awF none P c Q a H ↔ aw P c Q a H :=
  ⟨fun h ρ b w h1 h2 => wpIn_wide.1 (h ρ b w h1 h2), fun h ρ b w h1 h2 => wpIn_wide.2 (h ρ b w h1 h2)⟩
section
variable {r : Option Nat} {P : Program} {Q : Exit → Act → AHeap → Prop} {a : Act} {H : AHeap}
theorem awF_mono {c : Code} {Q' : Exit → Act → AHeap → Prop} (h : awF r P c Q a H) (hq : ∀ e a H, Q e a H → Q' e a H) : awF r P c Q' a H :=
  fun ρ b w hT hH => wpIn_mono (h ρ b w hT hH) fun e _ _ ⟨a', H', ρ', q, s⟩ => ⟨a', H', ρ', hq e a' H' q, s⟩
theorem awF_skip (h : Q .normal a H) : awF r P .skip Q a H := fun ρ _ _ hT hH => wpIn_skip ⟨a, H, ρ, h, hT, hH, ExtN.refl _ _ _ _⟩
theorem awF_label {l : Nat} (h : Q .normal a H) : awF r P (.label l) Q a H := fun ρ _ _ hT hH => wpIn_label ⟨a, H, ρ, h, hT, hH, ExtN.refl _ _ _ _⟩
theorem awF_exit {id : Nat} (h : Q (.exit id) a H) : awF r P (.exit id) Q a H := fun ρ _ _ hT hH => wpIn_exit ⟨a, H, ρ, h, hT, hH, ExtN.refl _ _ _ _⟩
theorem awF_goto {l : Nat} (h : Q (.goto l) a H) : awF r P (.goto l) Q a H := fun ρ _ _ hT hH => wpIn_goto ⟨a, H, ρ, h, hT, hH, ExtN.refl _ _ _ _⟩
theorem awF_ret (h : Q .ret a H) : awF r P .ret Q a H := fun ρ _ _ hT hH => wpIn_ret ⟨a, H, ρ, h, hT, hH, ExtN.refl _ _ _ _⟩
theorem awF_seq {x y : Code} (h : awF r P x (thenA (awF r P y Q) Q) a H) : awF r P (.seq x y) Q a H := by
  intro ρ b w hT hH
  refine wpIn_seq (wpIn_mono (h ρ b w hT hH) fun e b' w' ⟨a', H', ρ', q, hT', hH', hx⟩ => ?_)
  cases e with
  | normal => exact wpIn_mono (q ρ' b' w' hT' hH') fun e b'' w'' ⟨a'', H'', ρ'', q', hT'', hH'', hx'⟩ => ⟨a'', H'', ρ'', q', hT'', hH'', Ext.trans hx hx'⟩
  | exit id => exact ⟨a', H', ρ', q, hT', hH', hx⟩
  | goto l => exact ⟨a', H', ρ', q, hT', hH', hx⟩
  | ret => exact ⟨a', H', ρ', q, hT', hH', hx⟩
  | panic c => exact ⟨a', H', ρ', q, hT', hH', hx⟩
  | outgrown => exact ⟨a', H', ρ', q, hT', hH', hx⟩
theorem awF_cond {c : Operand} {x y : Code} {t : Bool} (hc : a.eval c = .bool t) (hok : okOperand c = true) (h : awF r P (if t then x else y) Q a H) : awF r P (.cond c x y) Q a H := by
  intro ρ b w hT hH
  have hv := hT.eval hok
  rw [hc] at hv
  have hb : b.eval c = .bool t := by generalize b.eval c = z at hv; cases hv; rfl
  exact wpIn_cond hb (h ρ b w hT hH)
theorem awF_block {id : Nat} {c : Code} (h : awF r P c (inBlockA id Q) a H) : awF r P (.block id c) Q a H := by
  intro ρ b w hT hH
  refine wpIn_block (wpIn_mono (h ρ b w hT hH) fun e b' w' ⟨a', H', ρ', q, s⟩ => ?_)
  cases e with
  | exit id' =>
    simp only [inBlockA] at q
    simp only [Exit.inBlock]
    split
    · rename_i he; rw [if_pos he] at q; exact ⟨a', H', ρ', q, s⟩
    · rename_i he; rw [if_neg he] at q; exact ⟨a', H', ρ', q, s⟩
  | normal => exact ⟨a', H', ρ', q, s⟩
  | goto l => exact ⟨a', H', ρ', q, s⟩
  | ret => exact ⟨a', H', ρ', q, s⟩
  | panic c => exact ⟨a', H', ρ', q, s⟩
  | outgrown => exact ⟨a', H', ρ', q, s⟩
theorem awF_loop {c : Code} (I : Nat → Act → AHeap → Prop) (n : Nat) (h0 : I n a H) (round : ∀ n a H, I n a H → awF r P c (thenA (fun a' H' => ∃ m, m < n ∧ I m a' H') Q) a H) : awF r P (.loop c) Q a H := by
  intro ρ b w hT hH f k cs hro hb hr
  have key : ∀ n a H ρ b w, TR ρ a b → RelH P ρ H w → I n a H →
      ∃ e b' w', AfterX P ρ H w Q e b' w' ∧ ArrivesIn (Machine.fenced P (fenceR r)) P (lone (f.atR b (.code c :: .inLoop c :: k)) cs w) f k cs e b' w' := by
    intro n
    induction n using Nat.strongRecOn with
    | _ n ih =>
      intro a H ρ b w hT hH hI
      obtain ⟨e, b₁, w₁, ⟨a', H', ρ', q, hT', hH', hx⟩, harr⟩ := round n a H hI ρ b w hT hH f (.inLoop c :: k) cs hro hb hr
      cases e with
      | normal =>
        obtain ⟨m, hm, hI'⟩ := q
        obtain ⟨e₂, b₂, w₂, ⟨a'', H'', ρ'', q', hT'', hH'', hx'⟩, harr₂⟩ := ih m hm a' H' ρ' b₁ w₁ hT' hH' hI'
        exact ⟨e₂, b₂, w₂, ⟨a'', H'', ρ'', q', hT'', hH'', Ext.trans hx hx'⟩, .of_steps (StepsIn.trans harr (.one (fenced_calm (n := 0) hb hr rfl) stepR_inLoop)) harr₂⟩
      | exit id => exact ⟨_, b₁, w₁, ⟨a', H', ρ', q, hT', hH', hx⟩, .pass (x := .inLoop c) rfl (fun _ _ => .inl (by simp)) harr⟩
      | goto l => exact ⟨_, b₁, w₁, ⟨a', H', ρ', q, hT', hH', hx⟩, .pass (x := .inLoop c) rfl (fun _ _ => .inl (by simp)) harr⟩
      | ret => exact ⟨_, b₁, w₁, ⟨a', H', ρ', q, hT', hH', hx⟩, .pass (x := .inLoop c) rfl (fun _ _ => .inl (by simp)) harr⟩
      | panic ch => exact ⟨_, b₁, w₁, ⟨a', H', ρ', q, hT', hH', hx⟩, .pass (x := .inLoop c) rfl (fun _ _ => .inl (by simp)) harr⟩
      | outgrown => exact ⟨_, b₁, w₁, ⟨a', H', ρ', q, hT', hH', hx⟩, .pass (x := .inLoop c) rfl (fun _ _ => .inl (by simp)) harr⟩
  obtain ⟨e, b', w', hq, harr⟩ := key n a H ρ b w hT hH h0
  exact ⟨e, b', w', hq, .of_steps (.one (fenced_calm (n := 0) hb hr rfl) stepR_loop) harr⟩
end

/-! ### Regions -/
def noDefer (ops : List Oper) : Bool := ops.all fun o => match o.op with
  | .defer _ => false
  | _ => true
theorem noDefer_spec {ops : Array Oper} (h : noDefer ops.toList = true) {i : Nat} {o : Oper} (ho : ops[i]? = some o) : ∀ c, o.op ≠ .defer c := by
  intro c hc
  have hm : o ∈ ops.toList := by simpa using Array.mem_of_getElem? ho
  have := List.all_eq_true.1 h o hm
  rw [hc] at this
  cases this
theorem rowsIn_of {P : Program} {r : Option Nat} {n : Nat} {row : String} {args : Array Value} {w : World} {R : Value → World → Prop} (h : Rows P row args w R) : RowsIn (fenceR r) n P row args w R :=
  fun c cs _ => let ⟨v, w', q, s⟩ := h c cs; ⟨v, w', q, stepsIn_wide.2 s⟩
theorem upon_in {P : Program} {r : Option Nat} {o : Oper} {a : Act} {next next' : Act → World → Prop} {Q : Exit → Act → World → Prop} (hn : ∀ a w, next a w → next' a w) {x : Result Next} (h : o.upon P a next Q x) : o.uponIn (fenceR r) 0 P a next' Q x := by
  have calls : ∀ {f args w} {R R' : Ending → World → Prop}, (∀ e w, R e w → R' e w) → Calls P f args w R → CallsIn (fenceR r) 0 P f args w R' := by
    intro f args w R R' hR h
    have h1 : CallsIn Fence.wide 0 P f args w R' := callsIn_wide.2 (h.mono hR)
    cases r with
    | none => exact h1
    | some l => exact h1
  have dep : (fenceR r).depth.isSome = true → 1 ≤ 0 := fun h => by simp [fenceR, Fence.wide] at h
  unfold Oper.upon at h
  unfold Oper.uponIn
  split at h
  · exact hn _ _ h
  · exact hn _ _ h
  · exact hn _ _ h
  · refine ⟨dep, calls (fun e w h => ?_) h⟩
    cases e with
    | returned v => exact hn _ _ h
    | panicked c => exact h
    | outgrown => exact h
  · exact ⟨dep, (rowsIn_of h).mono fun v w h => hn _ _ h⟩
  · exact h
  · exact h.elim
theorem wpOps_in {P : Program} {r : Option Nat} {ops : Array Oper} {Q : Exit → Act → World → Prop} (hd : r = none ∨ noDefer ops.toList = true) (hQ : ¬ LetsOut Q) : ∀ (l : List Nat) (a : Act) (w : World), wpOps P ops Q l a w → wpOpsIn (fenceR r) 0 P ops Q l a w
  | [], _, _, h => h
  | i :: l, a, w, h => by
    simp only [wpOps] at h
    simp only [wpOpsIn]
    cases ho : ops[i]? with
    | none =>
      rw [ho] at h
      exact wpOps_in hd hQ l a w h
    | some o =>
      rw [ho] at h
      dsimp only at h ⊢
      split at h
      · rename_i hw
        rw [if_pos hw]
        rcases h with h | h
        · refine ⟨fun _ _ => trivial, ?_⟩
          have hs : (o.semAt (fenceR r).round a.eval).run P w = (execOp a.eval o).run P w := by
            rcases hd with rfl | hd
            · rfl
            · rw [Oper.semAt_eq _ _ _ (noDefer_spec hd ho)]
          rw [hs]
          exact upon_in (fun a w => wpOps_in hd hQ l a w) h
        · exact absurd h.2 hQ
      · rename_i hw
        rw [if_neg hw]
        exact ⟨fun _ _ => trivial, wpOps_in hd hQ l _ w h⟩
theorem awF_regionQ {r : Option Nat} {P : Program} {Q : Exit → Act → AHeap → Prop} {a : Act} {H : AHeap} {id : Nat} {ops : Array Oper} (hd : r = none ∨ noDefer ops.toList = true) (hok : ops.toList.all operandsOk = true) (h : wpQ P ops (fun a H => Q .normal a H) ops.toList a H) : awF r P (.region id ops false) Q a H := by
  intro ρ b w hT hH
  have h1 : wpOps P ops (fun e b' w' => e = .normal ∧ AfterX P ρ H w Q .normal b' w') (List.range ops.size) b w := by
    refine wpQ_sim (List.range ops.size) ops.toList ρ a b H w ?_ (fun o ho => List.all_eq_true.1 hok o ho) h hT hH fun b' w' ⟨a', H', ρ', q, s⟩ => ⟨rfl, a', H', ρ', q, s⟩
    apply List.ext_getElem?
    intro i
    simp only [List.getElem?_map, Array.getElem?_toList]
    by_cases hi : i < ops.size
    · simp [hi]
    · simp [hi]
  refine wpIn_mono (wpIn_region (wpOps_in (Q := fun e b' w' => e = .normal ∧ AfterX P ρ H w Q .normal b' w') hd (fun ⟨_, _, h, _⟩ => by cases h) _ _ _ h1)) fun e b' w' ⟨he, hq⟩ => ?_
  subst he
  exact hq
theorem awF_draw {r : Option Nat} {P : Program} {Q : Exit → Act → AHeap → Prop} {a : Act} {H : AHeap} {id : Nat} {ops : Array Oper} {sched B : List Nat} (hm : P.follows .mixedOrders = true) (hd : r = none ∨ noDefer ops.toList = true) (hs : schedOk ops sched B = true)
    (h : wpS P ops B (fun a H => Q .normal a H) sched a H []) : awF r P (.region id ops true) Q a H := by
  intro ρ b w hT hH
  have h1 := draw_any (schedOk_spec hs) h hT hH (Q := fun e b' w' => e = .normal ∧ AfterX P ρ H w Q .normal b' w') fun b' w' ⟨a', H', ρ', q, s⟩ => ⟨rfl, a', H', ρ', q, s⟩
  have h2 : (Code.region id ops true).wpIn (fenceR r) 0 P (fun e b' w' => e = .normal ∧ AfterX P ρ H w Q .normal b' w') b w := by
    refine wpIn_region_draw fun t => ?_
    refine wpOps_in (Q := fun e b' w' => e = .normal ∧ AfterX P ρ H w Q .normal b' w') hd (fun ⟨_, _, h, _⟩ => by cases h) _ _ _ ?_
    simp only [Region.schedule, hm, Bool.true_or, if_true]
    exact wpAny_sound ops.size t _ b _ h1
  refine wpIn_mono h2 fun e b' w' ⟨he, hq⟩ => ?_
  subst he
  exact hq
end Go.Ae

/- scale.Spread of the fixed plan, run from an exact heap. Conditions: what scale's condition gives of the bounds; expr.Check takes the split's text. -/
import Derived.Test.YtmibkoadjehdaaaGreatDoorKy37
set_option linter.unusedVariables false
set_option linter.unusedSimpArgs false
set_option linter.unusedVariables false
set_option linter.unusedSimpArgs false
set_option linter.unnecessarySimpa false
set_option maxRecDepth 100000
namespace Go.Ae
open Go.Proofs Go.Proofs.YtmibkoadjehdaaaGreatDoor
/-! ### The heap at the beginning: the globals, the bounds' row -/
def IsH (cells : List Value) (e : TypeId) (H : AHeap) : Prop := H.next = 15 ∧ H.get 14 = some (.row ⟨cells, e, 0, false⟩) ∧ (∀ p ∈ globs, H.get p.1 = some (.row p.2)) ∧ ∀ j, (∀ p ∈ globs, p.1 ≠ j) → j ≠ 14 → H.get j = none
theorem IsH.one {cells : List Value} {e : TypeId} {H H' : AHeap} (h : IsH cells e H) (h' : IsH cells e H') : H = H' := by
  obtain ⟨a1, a2, a3, a4⟩ := h
  obtain ⟨b1, b2, b3, b4⟩ := h'
  obtain ⟨g, n⟩ := H
  obtain ⟨g', n'⟩ := H'
  have hn : n = n' := a1.trans b1.symm
  have hg : g = g' := by
    funext j
    by_cases h14 : j = 14
    · subst h14; exact a2.trans b2.symm
    · by_cases hj : ∃ p ∈ globs, p.1 = j
      · obtain ⟨p, hp, rfl⟩ := hj
        exact (a3 p hp).trans (b3 p hp).symm
      · have hj' : ∀ p ∈ globs, p.1 ≠ j := fun p hp he => hj ⟨p, hp, he⟩
        exact (a4 j hj' h14).trans (b4 j hj' h14).symm
  rw [hn, hg]
theorem glob_ne14 : ∀ p ∈ globs, p.1 ≠ 14 := by
  intro p hp
  have : globs.map (·.1) = [0, 1, 2, 3, 4, 5, 6, 7, 8, 9, 10, 11, 12, 13] := rfl
  have hm : p.1 ∈ globs.map (·.1) := List.mem_map.2 ⟨p, hp, rfl⟩
  rw [this] at hm
  simp at hm
  omega
theorem glob_fun : ∀ p ∈ globs, ∀ q ∈ globs, p.1 = q.1 → p.2 = q.2 := by
  have key : ∀ (l : List (Nat × Row)), (l.map (·.1)).Nodup → ∀ p ∈ l, ∀ q ∈ l, p.1 = q.1 → p.2 = q.2 := by
    intro l
    induction l with
    | nil => intro _ p hp; cases hp
    | cons x l ih =>
      intro hn p hp q hq he
      simp only [List.map_cons, List.nodup_cons] at hn
      rcases List.mem_cons.1 hp with h1 | hp2
      · rcases List.mem_cons.1 hq with h2 | hq2
        · rw [h1, h2]
        · exact absurd (List.mem_map.2 ⟨q, hq2, by rw [← he, h1]⟩) hn.1
      · rcases List.mem_cons.1 hq with h2 | hq2
        · exact absurd (List.mem_map.2 ⟨p, hp2, by rw [he, h2]⟩) hn.1
        · exact ih hn.2 p hp2 q hq2 he
  exact key globs (by decide)
noncomputable def start15 (cells : List Value) (e : TypeId) (K : CH → Rs) : Rs := startK globs .e fun t => setO t (.row ⟨cells, e, 0, false⟩) 14 fun t => K ⟨t, 15⟩
theorem start15_spec (cells : List Value) (e : TypeId) (K : CH → Rs) : start15 cells e K = .bad ∨ ∃ h, start15 cells e K = K h ∧ IsH cells e (toH h) := by
  unfold start15
  rcases startK_spec globs .e (fun t => setO t (.row ⟨cells, e, 0, false⟩) 14 fun t => K ⟨t, 15⟩) with h | ⟨t, h, ht⟩
  · exact .inl h
  rw [h]
  rcases setO_spec t (.row ⟨cells, e, 0, false⟩) 14 (fun t => K ⟨t, 15⟩) with h | ⟨t2, h, h2⟩
  · exact .inl h
  refine .inr ⟨_, h, rfl, ?_, fun p hp => ?_, fun j hj h14 => ?_⟩
  · show getO t2 14 = _
    rw [h2, if_pos rfl]
  · show getO t2 p.1 = _
    rw [h2, if_neg (glob_ne14 p hp)]
    rcases ht p.1 with ⟨hn, _⟩ | ⟨q, hq, he, hg⟩
    · exact absurd rfl (hn p hp)
    · rw [hg, glob_fun q hq p hp he]
  · show getO t2 j = _
    rw [h2, if_neg h14]
    rcases ht j with ⟨_, hg⟩ | ⟨q, hq, he, _⟩
    · rw [hg]; rfl
    · exact absurd he (hj q hq)
/-! ### A plan -/
noncomputable def tupK (v : Value) : (List Value → Rs) → Rs :=
  Value.rec (motive_1 := fun _ => (List Value → Rs) → Rs) (motive_2 := fun _ => PUnit) (motive_3 := fun _ => PUnit)
    (fun _ _ => .bad) (fun _ _ _ => .bad) (fun _ _ _ => .bad) (fun _ _ _ _ => .bad) (fun _ _ => .bad)
    (fun _ _ => .bad)
    (fun _ _ _ _ => .bad) (fun _ _ => .bad) (fun _ _ => .bad) (fun _ _ _ _ _ _ => .bad) (fun _ => .bad) (fun _ _ _ _ => .bad) (fun _ => .bad)
    (fun _ _ _ => .bad) (fun c _ K => K c.toList) (fun _ _ => ⟨⟩) ⟨⟩ (fun _ _ _ _ => ⟨⟩) v
theorem tupK_spec (v : Value) (K : List Value → Rs) : tupK v K = .bad ∨ ∃ c, v = .tuple c ∧ tupK v K = K c.toList := by
  cases v with
  | tuple c => exact .inr ⟨c, rfl, rfl⟩
  | _ => exact .inl rfl
def PlanOk (T : List UInt8) (k : Nat) (v : Value) (H : AHeap) : Prop :=
  ∃ ta c1 ea n2 c2 xa c3, v = .tuple #[.agg #[.int .i64 2, .slice (some ta) k c1, .slice (some ea) n2 c2], .int .i64 0] ∧ H.cellsAt (aadd ta 15) 1 = some [.slice (some xa) 1 c3] ∧ H.cellsAt xa 1 = some [.string (strB T)] ∧ ta.block < H.next ∧ xa.block < H.next ∧ 15 ≤ H.next ∧ ∀ p ∈ globs, H.get p.1 = some (.row p.2)
noncomputable def two (l : List Value) (K : Value → Value → Rs) : Rs := headK l fun a => headK l.tail fun b => ifB (nilL l.tail.tail) (K a b)
theorem two_spec (l : List Value) (K : Value → Value → Rs) : two l K = .bad ∨ ∃ a b, l = [a, b] ∧ two l K = K a b := by
  rcases l with _ | ⟨a, _ | ⟨b, _ | ⟨c, l⟩⟩⟩ <;> first | exact .inl rfl | exact .inr ⟨_, _, rfl, rfl⟩
noncomputable def tri (l : List Value) (K : Value → Value → Value → Rs) : Rs := headK l fun a => headK l.tail fun b => headK l.tail.tail fun c => ifB (nilL l.tail.tail.tail) (K a b c)
theorem tri_spec (l : List Value) (K : Value → Value → Value → Rs) : tri l K = .bad ∨ ∃ a b c, l = [a, b, c] ∧ tri l K = K a b c := by
  rcases l with _ | ⟨a, _ | ⟨b, _ | ⟨c, _ | ⟨d, l⟩⟩⟩⟩ <;> first | exact .inl rfl | exact .inr ⟨_, _, _, rfl, rfl⟩
noncomputable def okV (v : Value) (h : CH) : Rs := .ok .normal (.n .e (some v) .e) [] h none
noncomputable def planK4 (T : List UInt8) (h : CH) (ta xa : Addr) (l : List Value) : Rs := .eqv (.agg ⟨l⟩) (.agg ⟨[.string (strB T)]⟩) (ifB (Nat.blt ta.block h.next) (ifB (Nat.blt xa.block h.next) (ifB (Nat.ble 15 h.next) (rowsK globs h (okV .nilIface h)))))
noncomputable def planK3 (T : List UInt8) (h : CH) (ta : Addr) (l : List Value) : Rs := headK l fun x => ifB (nilL l.tail) (sliceK x .bad fun xa n3 _ => ifB (Nat.beq n3 1) (cellsK h xa 1 (planK4 T h ta xa)))
noncomputable def planK2 (T : List UInt8) (k : Nat) (h : CH) (a b c : Value) : Rs := .eqv a (.int .i64 2) (sliceK b .bad fun ta n1 _ => ifB (Nat.beq n1 k) (sliceK c .bad fun _ _ _ => cellsK h (aadd ta 15) 1 (planK3 T h ta)))
noncomputable def planK1 (T : List UInt8) (k : Nat) (h : CH) (p e : Value) : Rs := .eqv e (.int .i64 0) (aggK p .bad fun cs => tri cs.toList (planK2 T k h))
noncomputable def planK (T : List UInt8) (k : Nat) (v : Value) (h : CH) : Rs := tupK v fun l => two l (planK1 T k h)
theorem planK_ok {T : List UInt8} {k : Nat} {v : Value} {h : CH} {o : Rs} (r0 : Res Tryz.prog (planK T k v h) o) : PlanOk T k v (toH h) := by
  unfold planK at r0
  rcases tupK_spec v (fun l => two l (planK1 T k h)) with e | ⟨⟨c⟩, hv, e⟩
  · rw [e] at r0; cases r0
  rw [e] at r0
  rcases two_spec c (planK1 T k h) with e | ⟨p, x, hc, e⟩
  · rw [e] at r0; cases r0
  rw [e] at r0
  unfold planK1 at r0
  cases r0 with
  | eqv hx r1 =>
    rcases aggK_spec p .bad (fun cs => tri cs.toList (planK2 T k h)) with ⟨e, _⟩ | ⟨⟨cs⟩, hp, e⟩
    · rw [e] at r1; cases r1
    rw [e] at r1
    rcases tri_spec cs (planK2 T k h) with e | ⟨a, b, c', hcs, e⟩
    · rw [e] at r1; cases r1
    rw [e] at r1
    unfold planK2 at r1
    cases r1 with
    | eqv ha r2 =>
      rcases sliceK_spec b .bad (fun ta n1 _ => ifB (Nat.beq n1 k) (sliceK c' .bad fun _ _ _ => cellsK h (aadd ta 15) 1 (planK3 T h ta))) with e | ⟨ta, n1, c1, hb, e⟩
      · rw [e] at r2; cases r2
      rw [e] at r2
      obtain ⟨hn1, r3⟩ := ifB_ok r2
      rcases sliceK_spec c' .bad (fun _ _ _ => cellsK h (aadd ta 15) 1 (planK3 T h ta)) with e | ⟨ea, n2, c2, hc', e⟩
      · rw [e] at r3; cases r3
      rw [e] at r3
      rcases cellsK_spec h (aadd ta 15) 1 (planK3 T h ta) with e | ⟨l1, hl1, hn, e⟩
      · rw [e] at r3; cases r3
      rw [e] at r3
      unfold planK3 at r3
      rcases l1 with _ | ⟨y, _ | ⟨y2, l1⟩⟩
      · cases r3
      · have r4 : Res Tryz.prog (sliceK y .bad fun xa n3 _ => ifB (Nat.beq n3 1) (cellsK h xa 1 (planK4 T h ta xa))) o := r3
        rcases sliceK_spec y .bad (fun xa n3 _ => ifB (Nat.beq n3 1) (cellsK h xa 1 (planK4 T h ta xa))) with e | ⟨xa, n3, c3, hy, e⟩
        · rw [e] at r4; cases r4
        rw [e] at r4
        obtain ⟨hn3, r5⟩ := ifB_ok r4
        rcases cellsK_spec h xa 1 (planK4 T h ta xa) with e | ⟨l2, hl2, _, e⟩
        · rw [e] at r5; cases r5
        rw [e] at r5
        unfold planK4 at r5
        cases r5 with
        | eqv hl r6 =>
          have hl' : l2 = [.string (strB T)] := by simpa using hl
          obtain ⟨h1, r7⟩ := ifB_ok r6
          obtain ⟨h2, r8⟩ := ifB_ok r7
          obtain ⟨h3, r9⟩ := ifB_ok r8
          rw [Nat.blt_eq] at h1 h2
          obtain ⟨h4, _⟩ := rowsK_ok r9
          have e1 := Nat.eq_of_beq_eq_true hn1
          have e3 := Nat.eq_of_beq_eq_true hn3
          refine ⟨ta, c1, ea, n2, c2, xa, c3, ?_, by rw [hl1, hy, e3], by rw [hl2, hl'], h1, h2, Nat.le_of_ble_eq_true h3, h4⟩
          rw [hv, hc, hx, hp, hcs, ha, hb, hc', e1]
      · simp at hn
/-! ### The run -/
def XS : List FuncId := [57, 179]
theorem okS : XS.all okX = true := by kernel_rfl
noncomputable def runS (cells : List Value) (e : TypeId) (bv : Value) (K2 : Value → CH → Rs) (tape : List An) : Option (List (Value × Value) × Value) :=
  sumV (start15 cells e fun h => feed tape (funcE (cfgX XS []) 40 noY 26 [] h fun v h => funcE (cfgX XS []) 40 noY 15 [v, .int .i64 1, bv] h K2)) []
theorem runS_calls {cells : List Value} {e : TypeId} {bv : Value} {K2 : Value → CH → Rs} {tape : List An} {L : List (Value × Value)} {v0 : Value} (hT : ∀ hd, An.call hd ∈ tape → HOk Tryz.prog hd) (hL : ∀ p ∈ L, p.1 = p.2) (h : runS cells e bv K2 tape = some (L, v0)) {H : AHeap} (hH : IsH cells e H) :
    ∃ v1 h1 v2 h2, (ACalls Tryz.prog 26 #[] H fun v H' => v = v1 ∧ H' = toH h1) ∧ (ACalls Tryz.prog 15 #[v1, .int .i64 1, bv] (toH h1) fun v H' => v = v2 ∧ H' = toH h2) ∧ ∃ ex fr df h3 y, Res Tryz.prog (K2 v2 h2) (.ok ex fr df h3 y) ∧ getV fr 0 = some v0 := by
  unfold runS at h
  rcases start15_spec cells e (fun h => feed tape (funcE (cfgX XS []) 40 noY 26 [] h fun v h => funcE (cfgX XS []) 40 noY 15 [v, .int .i64 1, bv] h K2)) with e1 | ⟨h0, e1, hs⟩
  · rw [e1] at h; cases h
  rw [e1] at h
  obtain rfl := hH.one hs
  obtain ⟨_, ex, fr1, df1, h1, y1, hr, hg⟩ := sumV_ok (P := Tryz.prog) h hL
  have hY : YOk Tryz.prog noY := fun _ _ _ _ _ h => by cases h
  obtain ⟨_, v1, g1, hA1, hr1⟩ := funcE_ok (cfgXOk okS) 40 noY hY 26 [] h0 (fun v h => funcE (cfgX XS []) 40 noY 15 [v, .int .i64 1, bv] h K2) _ (feed_ok hT hr)
  obtain ⟨_, v2, g2, hA2, hr2⟩ := funcE_ok (cfgXOk okS) 40 noY hY 15 [v1, .int .i64 1, bv] g1 K2 _ hr1
  exact ⟨v1, g1, v2, g2, hA1, hA2, ex, fr1, df1, h1, y1, hr2, hg⟩
/-- A call that changes nothing, of a heap in which row 14 has these cells. -/
noncomputable def coO (f0 : FuncId) (az : List Value) (v : Value) (cells : List Value) (gl : List (Nat × Row)) : Fun := fun f args h K => ifB (Nat.ble 15 h.next) (ifB (Nat.beq f f0) (.eqv (.agg ⟨args⟩) (.agg ⟨az⟩) (optK (getO h.t 14) fun o => rowObj o fun r => .eqv (.agg ⟨r.cells⟩) (.agg ⟨cells⟩) (ifB (Nat.beq r.ver 0) (rowsK gl h (K v h))))))
theorem coO_ok {P : Program} {f0 : FuncId} {az : List Value} {v : Value} {cells : List Value} {gl : List (Nat × Row)} (hC : ∀ (H : AHeap) (r : Row), 15 ≤ H.next → H.get 14 = some (.row r) → r.cells = cells → r.ver = 0 → (∀ p ∈ gl, H.get p.1 = some (.row p.2)) → ACalls P f0 ⟨az⟩ H fun v' H' => v' = v ∧ H' = H) : HOk P (coO f0 az v cells gl) := by
  intro f args h K o hr
  have hr0 : Res P (ifB (Nat.ble 15 h.next) (ifB (Nat.beq f f0) (.eqv (.agg ⟨args⟩) (.agg ⟨az⟩) (optK (getO h.t 14) fun o => rowObj o fun r => .eqv (.agg ⟨r.cells⟩) (.agg ⟨cells⟩) (ifB (Nat.beq r.ver 0) (rowsK gl h (K v h))))))) o := hr
  obtain ⟨hn, hr1⟩ := ifB_ok hr0
  obtain ⟨h1, hr2⟩ := ifB_ok hr1
  obtain rfl := Nat.eq_of_beq_eq_true h1
  cases hr2 with
  | eqv hv hr3 =>
    obtain ⟨ob, ho, hr4⟩ := optK_ok hr3
    rcases rowObj_spec ob (fun r => .eqv (.agg ⟨r.cells⟩) (.agg ⟨cells⟩) (ifB (Nat.beq r.ver 0) (rowsK gl h (K v h)))) with e | ⟨r, hrow, e⟩
    · rw [e] at hr4; cases hr4
    rw [e] at hr4
    cases hr4 with
    | eqv hc hr5 =>
      obtain ⟨hv0, hr6⟩ := ifB_ok hr5
      obtain ⟨hl, hR⟩ := rowsK_ok hr6
      have ha : args = az := by simpa using hv
      have hcells : r.cells = cells := by simpa using hc
      subst ha
      rw [hrow] at ho
      exact ⟨v, h, hC _ r (Nat.le_of_ble_eq_true hn) ho hcells (Nat.eq_of_beq_eq_true hv0) hl, hR⟩
def e0 : Value := .string ⟨#[48]⟩
def e1 : Value := .string ⟨#[97, 99, 99, 43, 118, 97, 108]⟩
theorem ck0 : runV 179 [e0] 40 = some .nilIface := by kernel_rfl
theorem ck1 : runV 179 [e1] 40 = some .nilIface := by kernel_rfl
noncomputable def ckA (x : Value) : An := .call (puO 179 [x] .nilIface globs)
def glQ : List (Value × Value) := globs.map fun p => (.agg ⟨p.2.cells⟩, .agg ⟨p.2.cells⟩)
def ckP (x : Value) : List (Value × Value) := (.agg ⟨[x]⟩, .agg ⟨[x]⟩) :: glQ
noncomputable def cdA (cells : List Value) (bv v : Value) : An := .call (coO 57 [bv] v cells globs)
def cdP (cells : List Value) (bv : Value) : List (Value × Value) := (.agg ⟨[bv]⟩, .agg ⟨[bv]⟩) :: (.agg ⟨cells⟩, .agg ⟨cells⟩) :: glQ
noncomputable def tapeS (cells : List Value) (bv : Value) (T : List UInt8) (k : Nat) : List An := [ckA e0, ckA e1, cdA cells bv (.tuple #[.string (strB T), .bool true]), ckA e0, ckA e1, ckA (.string (strB T))] ++ (List.replicate k [ckA e0, ckA e1]).flatten
def pairsS (cells : List Value) (bv : Value) (T : List UInt8) (k : Nat) : List (Value × Value) := ckP e0 ++ (ckP e1 ++ (cdP cells bv ++ (ckP e0 ++ (ckP e1 ++ (ckP (.string (strB T)) ++ ((List.replicate k (ckP e0 ++ ckP e1)).flatten ++ ([(.int .i64 0, .int .i64 0), (.int .i64 2, .int .i64 2), (.agg ⟨[.string (strB T)]⟩, .agg ⟨[.string (strB T)]⟩)] ++ glQ)))))))
def bvS (k c : Nat) : Value := .slice (some ⟨14, 0, none⟩) k c
theorem spr1 (x : List UInt8) (e : TypeId) (c : Nat) (T : List UInt8) : runS (strV [x]) e (bvS 1 c) (planK T 6) (tapeS (strV [x]) (bvS 1 c) T 1) = some ((pairsS (strV [x]) (bvS 1 c) T 1).reverse, .nilIface) := by kernel_rfl
end Go.Ae

/- Runs that ask: what is asked for is answered by handlers, each with its law; what is left are equations between values. Reading a text token by token, answered by handlers. The handler of joined; the run of expr.Canon. The split's text, its tokens; expr.Check and expr.Canon of it. -/
import Derived.Test.YtmibkoadjehdaaaGreatDoorKy36
import Derived.Test.YtmibkoadjehdaaaGreatDoorKy26
set_option linter.unusedVariables false
set_option linter.unusedSimpArgs false
namespace Go.Ae
open Go.Proofs Go.Proofs.YtmibkoadjehdaaaGreatDoor
set_option maxRecDepth 100000
/-- What answers a question: a handler of calls; a value. -/
inductive An where
  | call (hd : Fun)
  | val (v : Value)
def HOk (P : Program) (hd : Fun) : Prop := ∀ f args h K o, Res P (hd f args h K) o → ∃ v h', (ACalls P f ⟨args⟩ (toH h) fun v' H' => v' = v ∧ H' = toH h') ∧ Res P (K v h') o
noncomputable def feed (l : List An) : Rs → Rs :=
  List.rec (motive := fun _ => Rs → Rs) (fun r => r) (fun a _ ih => An.rec (motive := fun _ => Rs → Rs)
    (fun hd r => Rs.rec (motive := fun _ => Rs) .bad (fun _ _ _ _ _ => .bad) (fun f args h k _ => hd f args h fun v h' => ih (k v h')) (fun _ _ _ => .bad) (fun _ _ _ _ => .bad) r)
    (fun v' r => Rs.rec (motive := fun _ => Rs) .bad (fun _ _ _ _ _ => .bad) (fun _ _ _ _ _ => .bad) (fun v k _ => .eqv v v' (ih (k v'))) (fun _ _ _ _ => .bad) r) a) l
theorem feed_ok {P : Program} {o : Rs} : ∀ {l : List An} {r : Rs}, (∀ hd, An.call hd ∈ l → HOk P hd) → Res P (feed l r) o → Res P r o
  | [], r, _, h => h
  | .call hd :: l, r, hl, h => by
    cases r with
    | ask f args h0 k =>
      have h' : Res P (hd f args h0 fun v h' => feed l (k v h')) o := h
      obtain ⟨v, h1, hA, hr⟩ := hl hd (by simp) _ _ _ _ _ h'
      exact .ask hA (feed_ok (fun hd hm => hl hd (List.mem_cons_of_mem _ hm)) hr)
    | _ => cases h
  | .val v' :: l, r, hl, h => by
    cases r with
    | cas v k =>
      have h' : Res P (.eqv v v' (feed l (k v'))) o := h
      cases h' with
      | eqv hv hr => exact .cas hv (feed_ok (fun hd hm => hl hd (List.mem_cons_of_mem _ hm)) hr)
    | _ => cases h
/-- The equations on the way, and the value at the end. -/
noncomputable def sumV (r : Rs) : List (Value × Value) → Option (List (Value × Value) × Value) :=
  Rs.rec (motive := fun _ => List (Value × Value) → Option (List (Value × Value) × Value)) (fun _ => none)
    (fun _ fr _ _ _ acc => Option.rec (motive := fun _ => Option (List (Value × Value) × Value)) none (fun v => some (acc, v)) (getV fr 0)) (fun _ _ _ _ _ _ => none) (fun _ _ _ _ => none) (fun v v' _ ih acc => ih ((v, v') :: acc)) r
theorem sumV_ok {P : Program} {v0 : Value} {L : List (Value × Value)} : ∀ {r : Rs} {acc : List (Value × Value)}, sumV r acc = some (L, v0) → (∀ p ∈ L, p.1 = p.2) → (∀ p ∈ acc, p ∈ L) ∧ ∃ e fr df h y, Res P r (.ok e fr df h y) ∧ getV fr 0 = some v0 := by
  intro r
  induction r with
  | bad => intro acc h; cases h
  | ask f args h k ih => intro acc h; cases h
  | cas v k ih => intro acc h; cases h
  | ok e fr df h y =>
    intro acc hs hL
    have hs' : Option.rec (motive := fun _ => Option (List (Value × Value) × Value)) none (fun v => some (acc, v)) (getV fr 0) = some (L, v0) := hs
    cases hg : getV fr 0 with
    | none => rw [hg] at hs'; cases hs'
    | some v =>
      rw [hg] at hs'
      simp only [Option.some.injEq, Prod.mk.injEq] at hs'
      obtain ⟨rfl, rfl⟩ := hs'
      exact ⟨fun p hp => hp, e, fr, df, h, y, .ok, hg⟩
  | eqv v v' r ih =>
    intro acc hs hL
    have hs' : sumV r ((v, v') :: acc) = some (L, v0) := hs
    obtain ⟨h1, e, fr, df, h, y, hr, hg⟩ := ih hs' hL
    exact ⟨fun p hp => h1 p (List.mem_cons_of_mem _ hp), e, fr, df, h, y, .eqv (hL _ (h1 (v, v') (by simp))) hr, hg⟩
noncomputable def runX (X : List FuncId) (Z : List (FuncId × List Tmp)) (f : FuncId) (args : List Value) (n : Nat) (tape : List An) : Option (List (Value × Value) × Value) :=
  sumV (startK globs .e fun t => feed tape (funcE (cfgX X Z) n noY f args ⟨t, 14⟩ fun v h => .ok .normal (.n .e (some v) .e) [] h none)) []
theorem runX_calls {X : List FuncId} {Z : List (FuncId × List Tmp)} {f : FuncId} {n : Nat} {args : List Value} {v0 : Value} {tape : List An} {L : List (Value × Value)} (hX : X.all okX = true) (hT : ∀ hd, An.call hd ∈ tape → HOk Tryz.prog hd) (hL : ∀ p ∈ L, p.1 = p.2) (h : runX X Z f args n tape = some (L, v0)) :
    ∃ H0 : AHeap, H0.next = 14 ∧ (∀ j, ((∀ p ∈ globs, p.1 ≠ j) ∧ H0.get j = none) ∨ ∃ p ∈ globs, p.1 = j ∧ H0.get j = some (.row p.2)) ∧ ACalls Tryz.prog f args.toArray H0 fun v _ => v = v0 := by
  unfold runX at h
  rcases startK_spec globs .e (fun t => feed tape (funcE (cfgX X Z) n noY f args ⟨t, 14⟩ fun v h => .ok .normal (.n .e (some v) .e) [] h none)) with e | ⟨t, e, ht⟩
  · rw [e] at h; cases h
  rw [e] at h
  obtain ⟨_, e1, fr1, df1, h1, y1, hr, hg⟩ := sumV_ok (P := Tryz.prog) h hL
  obtain ⟨_, v, h', hA, hv⟩ := funcE_ok (cfgXOk hX) n noY (fun _ _ _ _ _ h => by cases h) f args ⟨t, 14⟩ (fun v h => .ok .normal (.n .e (some v) .e) [] h none) _ (feed_ok hT hr)
  obtain ⟨_, rfl, _, _, _⟩ := Res.inj hv
  rw [getV_zero] at hg
  obtain rfl := Option.some.inj hg
  exact ⟨toH ⟨t, 14⟩, rfl, fun j => ht j, hA.mono fun v H' ⟨e, _⟩ => e⟩
/-- A run that asks: its answer has no address, its heap is forgotten. -/
theorem closedX {X : List FuncId} {Z : List (FuncId × List Tmp)} {f : FuncId} {n : Nat} {args : List Value} {v0 : Value} {tape : List An} {L : List (Value × Value)} (hX : X.all okX = true) (hT : ∀ hd, An.call hd ∈ tape → HOk Tryz.prog hd) (hL : ∀ p ∈ L, p.1 = p.2) (h : runX X Z f args n tape = some (L, v0))
    (ha : args.all flatV = true) (hv0 : flatV v0 = true) {H : AHeap} (hg : ∀ p ∈ globs, H.get p.1 = some (.row p.2)) : ACalls Tryz.prog f args.toArray H fun v H' => v = v0 ∧ H' = H :=
  closed_of (runX_calls hX hT hL h) ha hv0 hg
theorem closedX2 {X : List FuncId} {Z : List (FuncId × List Tmp)} {f : FuncId} {n : Nat} {args : List Value} {v0 : Value} {tape : List An} {L : List (Value × Value)} (hX : X.all okX = true) (hT : ∀ hd, An.call hd ∈ tape → HOk Tryz.prog hd) (hL : ∀ p ∈ L, p.1 = p.2) (h : runX X Z f args n tape = some (L, v0))
    (ha : args.all flatV = true) (hv0 : flat2V v0 = true) {H : AHeap} (hg : ∀ p ∈ globs, H.get p.1 = some (.row p.2)) : ACalls Tryz.prog f args.toArray H fun v H' => v = v0 ∧ H' = H :=
  closed_of2 (runX_calls hX hT hL h) ha hv0 hg
/-! ### Handlers -/
noncomputable def eqBB (a b : Bool) : Bool := Bool.rec (motive := fun _ => Bool) (Bool.rec (motive := fun _ => Bool) true false b) b a
theorem eqBB_spec {a b : Bool} (h : eqBB a b = true) : a = b := by cases a <;> cases b <;> first | rfl | cases h
/-- The heap has these rows. -/
noncomputable def rowsK (l : List (Nat × Row)) : CH → Rs → Rs :=
  List.rec (motive := fun _ => CH → Rs → Rs) (fun _ R => R) (fun p _ ih h R => optK (getO h.t p.1) fun o => rowObj o fun r => .eqv (.agg ⟨r.cells⟩) (.agg ⟨p.2.cells⟩) (ifB (Nat.beq r.elem p.2.elem) (ifB (Nat.beq r.ver p.2.ver) (ifB (eqBB r.rw p.2.rw) (ih h R))))) l
theorem rowsK_ok {P : Program} {o : Rs} {h : CH} {R : Rs} : ∀ {l : List (Nat × Row)}, Res P (rowsK l h R) o → (∀ p ∈ l, (toH h).get p.1 = some (.row p.2)) ∧ Res P R o
  | [], hr => ⟨by simp, hr⟩
  | p :: l, hr => by
    have hr' : Res P (optK (getO h.t p.1) fun o => rowObj o fun r => .eqv (.agg ⟨r.cells⟩) (.agg ⟨p.2.cells⟩) (ifB (Nat.beq r.elem p.2.elem) (ifB (Nat.beq r.ver p.2.ver) (ifB (eqBB r.rw p.2.rw) (rowsK l h R))))) o := hr
    obtain ⟨ob, ho, hr1⟩ := optK_ok hr'
    rcases rowObj_spec ob (fun r => .eqv (.agg ⟨r.cells⟩) (.agg ⟨p.2.cells⟩) (ifB (Nat.beq r.elem p.2.elem) (ifB (Nat.beq r.ver p.2.ver) (ifB (eqBB r.rw p.2.rw) (rowsK l h R))))) with e | ⟨r, rfl, e⟩
    · rw [e] at hr1; cases hr1
    rw [e] at hr1
    cases hr1 with
    | eqv hv hr2 =>
      obtain ⟨h1, hr3⟩ := ifB_ok hr2
      obtain ⟨h2, hr4⟩ := ifB_ok hr3
      obtain ⟨h3, hr5⟩ := ifB_ok hr4
      obtain ⟨hl, hR⟩ := rowsK_ok hr5
      refine ⟨fun q hq => ?_, hR⟩
      rcases List.mem_cons.1 hq with rfl | hq
      · have ho' : (toH h).get q.1 = some (.row r) := ho
        rw [ho']
        clear e ho ho'
        obtain ⟨c, ee, vv, ww⟩ := r
        obtain ⟨n, c', ee', vv', ww'⟩ := q
        have hc : c = c' := by simpa using hv
        have he : ee = ee' := Nat.eq_of_beq_eq_true h1
        have hv2 : vv = vv' := Nat.eq_of_beq_eq_true h2
        have hw : ww = ww' := eqBB_spec h3
        simp [hc, he, hv2, hw]
      · exact hl q hq
/-- A call that changes nothing, whose arguments are known. -/
noncomputable def puO (f0 : FuncId) (az : List Value) (v : Value) (gl : List (Nat × Row)) : Fun := fun f args h K => ifB (Nat.beq f f0) (.eqv (.agg ⟨args⟩) (.agg ⟨az⟩) (rowsK gl h (K v h)))
theorem puO_ok {P : Program} {f0 : FuncId} {az : List Value} {v : Value} {gl : List (Nat × Row)} (hC : ∀ H : AHeap, (∀ p ∈ gl, H.get p.1 = some (.row p.2)) → ACalls P f0 ⟨az⟩ H fun v' H' => v' = v ∧ H' = H) : HOk P (puO f0 az v gl) := by
  intro f args h K o hr
  have hr' : Res P (ifB (Nat.beq f f0) (.eqv (.agg ⟨args⟩) (.agg ⟨az⟩) (rowsK gl h (K v h)))) o := hr
  obtain ⟨h1, hr1⟩ := ifB_ok hr'
  obtain rfl := Nat.eq_of_beq_eq_true h1
  cases hr1 with
  | eqv hv hr2 =>
    obtain ⟨hl, hR⟩ := rowsK_ok hr2
    have ha : args = az := by simpa using hv
    subst ha
    exact ⟨v, h, hC _ hl, hR⟩
/-- The same; the globals' names are taken. -/
noncomputable def puN (f0 : FuncId) (az : List Value) (v : Value) (gl : List (Nat × Row)) : Fun := fun f args h K => ifB (Nat.ble 14 h.next) (puO f0 az v gl f args h K)
theorem puN_ok {P : Program} {f0 : FuncId} {az : List Value} {v : Value} {gl : List (Nat × Row)} (hC : ∀ H : AHeap, 14 ≤ H.next → (∀ p ∈ gl, H.get p.1 = some (.row p.2)) → ACalls P f0 ⟨az⟩ H fun v' H' => v' = v ∧ H' = H) : HOk P (puN f0 az v gl) := by
  intro f args h K o hr
  have hr0 : Res P (ifB (Nat.ble 14 h.next) (puO f0 az v gl f args h K)) o := hr
  obtain ⟨hn, hr'⟩ := ifB_ok hr0
  have hr1 : Res P (ifB (Nat.beq f f0) (.eqv (.agg ⟨args⟩) (.agg ⟨az⟩) (rowsK gl h (K v h)))) o := hr'
  obtain ⟨h1, hr2⟩ := ifB_ok hr1
  obtain rfl := Nat.eq_of_beq_eq_true h1
  cases hr2 with
  | eqv hv hr3 =>
    obtain ⟨hl, hR⟩ := rowsK_ok hr3
    have ha : args = az := by simpa using hv
    subst ha
    exact ⟨v, h, hC _ (Nat.le_of_ble_eq_true hn) hl, hR⟩
/-- A call on a row that is known, which is written anew. -/
noncomputable def rwO (f0 : FuncId) (ty : TypeId) (E E' : List Value) (v : Value) (gl : List (Nat × Row)) : Fun := fun f args h K => ifB (Nat.beq f f0) (headK args fun x => ifB (nilL args.tail) (ptrK x fun a => ifB (Nat.beq a.off 0) (ifB (Nat.ble 14 a.block) (ifB (Nat.blt a.block h.next) (Option.rec (motive := fun _ => Rs)
  (rowsK ((a.block, ⟨E, ty, 0, true⟩) :: gl) h (putRow h a.block (.row ⟨E', ty, 0, true⟩) fun h' => K v h')) (fun _ => .bad) a.spot)))))
theorem rwO_ok {P : Program} {f0 : FuncId} {ty : TypeId} {E E' : List Value} {v : Value} {gl : List (Nat × Row)} (hC : ∀ (H : AHeap) (p : Nat), (∀ q ∈ gl, H.get q.1 = some (.row q.2)) → H.get p = some (.row ⟨E, ty, 0, true⟩) → 14 ≤ p → p < H.next → ACalls P f0 #[.pointer (some ⟨p, 0, none⟩)] H fun v' H' => v' = v ∧ H' = H.put p (.row ⟨E', ty, 0, true⟩)) : HOk P (rwO f0 ty E E' v gl) := by
  intro f args h K o hr
  unfold rwO at hr
  obtain ⟨h1, hr1⟩ := ifB_ok hr
  obtain rfl := Nat.eq_of_beq_eq_true h1
  rcases args with _ | ⟨x, args⟩
  · cases hr1
  have hr2 : Res P (ifB (nilL args) (ptrK x fun a => ifB (Nat.beq a.off 0) (ifB (Nat.ble 14 a.block) (ifB (Nat.blt a.block h.next) (Option.rec (motive := fun _ => Rs)
    (rowsK ((a.block, ⟨E, ty, 0, true⟩) :: gl) h (putRow h a.block (.row ⟨E', ty, 0, true⟩) fun h' => K v h')) (fun _ => .bad) a.spot))))) o := hr1
  obtain ⟨h2, hr3⟩ := ifB_ok hr2
  obtain rfl := nilL_spec h2
  rcases ptrK_spec x (fun a => ifB (Nat.beq a.off 0) (ifB (Nat.ble 14 a.block) (ifB (Nat.blt a.block h.next) (Option.rec (motive := fun _ => Rs)
    (rowsK ((a.block, ⟨E, ty, 0, true⟩) :: gl) h (putRow h a.block (.row ⟨E', ty, 0, true⟩) fun h' => K v h')) (fun _ => .bad) a.spot)))) with e | ⟨⟨b, of, sp⟩, rfl, e⟩
  · rw [e] at hr3; cases hr3
  rw [e] at hr3
  obtain ⟨h4, hr5⟩ := ifB_ok hr3
  have h4' : of = 0 := Nat.eq_of_beq_eq_true h4
  subst h4'
  obtain ⟨h14, hr5⟩ := ifB_ok hr5
  obtain ⟨hnx, hr5⟩ := ifB_ok hr5
  cases sp with
  | some s => cases hr5
  | none =>
    have hr6 : Res P (rowsK ((b, ⟨E, ty, 0, true⟩) :: gl) h (putRow h b (.row ⟨E', ty, 0, true⟩) fun h' => K v h')) o := hr5
    obtain ⟨hl, hR⟩ := rowsK_ok hr6
    obtain ⟨h7, hR2, hh⟩ := putRow_ok hR
    refine ⟨v, h7, ?_, hR2⟩
    rw [hh]
    rw [Nat.blt_eq] at hnx
    exact hC _ b (fun q hq => hl q (List.mem_cons_of_mem _ hq)) (hl (b, ⟨E, ty, 0, true⟩) (by simp)) (Nat.le_of_ble_eq_true h14) hnx
end Go.Ae
set_option linter.unusedVariables false
set_option linter.unusedSimpArgs false
set_option maxRecDepth 100000
namespace Go.Ae
open Go.Proofs Go.Proofs.YtmibkoadjehdaaaGreatDoor
inductive Tk where
  | word (j : Nat)
  | num (ds : List UInt8)
  | text (w : List UInt8)
  | lt
  | fin
def Tk.src : Tk → List UInt8
  | .word j => wordsL.getD j []
  | .num ds => ds
  | .text w => quoteB w
  | .lt => [60]
  | .fin => []
def Tk.kind : Tk → Int
  | .word _ => 2
  | .num _ => 1
  | .text _ => 3
  | .lt => 4
  | .fin => 0
def Tk.txt : Tk → List UInt8
  | .word j => wordsL.getD j []
  | .text w => w
  | .lt => [60]
  | _ => []
def Tk.nm : Tk → Int
  | .num ds => (digV ds : Int)
  | _ => 0
/-- Blanks and a token. -/
def Tk.all (bl : Nat) (t : Tk) : List UInt8 := List.replicate bl 32 ++ t.src
def srcT : List (Nat × Tk) → List UInt8
  | [] => []
  | (bl, t) :: l => t.all bl ++ srcT l
def OkT : List (Nat × Tk) → Prop
  | [] => True
  | (_, t) :: l => OkT l ∧ match t with
    | .word j => j < 11 ∧ Ends isLet (srcT l)
    | .num ds => ds ≠ [] ∧ (∀ c ∈ ds, isDig c) ∧ Ends isDig (srcT l) ∧ digV ds < 9223372036854775807
    | .text w => w.length ≤ 24
    | .lt => ∃ r, srcT l = 34 :: r
    | .fin => srcT l = []
def gl35 : List (Nat × Row) := [(3, ⟨flatD 5 Rows.laid_eddy_expr_signs, 330, 0, false⟩), (5, ⟨flatD 5 Rows.laid_eddy_expr_words, 382, 0, false⟩)]
theorem words_eq : flatD 5 Rows.laid_eddy_expr_words = strV wordsL := by kernel_rfl
theorem signs_eq : flatD 5 Rows.laid_eddy_expr_signs = strV signsL := by kernel_rfl
noncomputable def rdAn (s : List UInt8) (a bl : Nat) (t : Tk) (k ta : Int) (tx : List UInt8) (nm : Int) : An :=
  .call (rwO 132 188 (rowP s a k ta tx nm false 0).cells (rowP s (a + bl + t.src.length) k ta tx nm false 0).cells (.agg #[.int .i64 t.kind, .int .i64 ((a + bl : Nat) : Int), .string (strB t.txt), .int .i64 t.nm]) gl35)
noncomputable def rdTape (s : List UInt8) : List (Nat × Tk) → Nat → Int → Int → List UInt8 → Int → List An
  | [], _, _, _, _, _ => []
  | (bl, t) :: l, a, k, ta, tx, nm => rdAn s a bl t k ta tx nm :: rdTape s l (a + bl + t.src.length) t.kind ((a + bl : Nat) : Int) t.txt t.nm
def rdPairs (s : List UInt8) : List (Nat × Tk) → Nat → Int → Int → List UInt8 → Int → List (Value × Value)
  | [], _, _, _, _, _ => []
  | (bl, t) :: l, a, k, ta, tx, nm => (.agg ⟨(rowP s a k ta tx nm false 0).cells⟩, .agg ⟨(rowP s a k ta tx nm false 0).cells⟩) :: (.agg ⟨flatD 5 Rows.laid_eddy_expr_signs⟩, .agg ⟨flatD 5 Rows.laid_eddy_expr_signs⟩) :: (.agg ⟨flatD 5 Rows.laid_eddy_expr_words⟩, .agg ⟨flatD 5 Rows.laid_eddy_expr_words⟩) ::
    rdPairs s l (a + bl + t.src.length) t.kind ((a + bl : Nat) : Int) t.txt t.nm
theorem rdPairs_ok {s : List UInt8} : ∀ (l : List (Nat × Tk)) (a : Nat) (k ta : Int) (tx : List UInt8) (nm : Int), ∀ p ∈ rdPairs s l a k ta tx nm, p.1 = p.2
  | [], _, _, _, _, _, p, hp => by cases hp
  | (bl, t) :: l, a, k, ta, tx, nm, p, hp => by
    rcases List.mem_cons.1 hp with rfl | hp
    · rfl
    rcases List.mem_cons.1 hp with rfl | hp
    · rfl
    rcases List.mem_cons.1 hp with rfl | hp
    · rfl
    exact rdPairs_ok l _ _ _ _ _ p hp
theorem rdAn_ok {s pre : List UInt8} {a bl : Nat} {t : Tk} {l : List (Nat × Tk)} {k ta : Int} {tx : List UInt8} {nm : Int} (ha : a = pre.length) (hs : s = pre ++ srcT ((bl, t) :: l)) (hls : s.length < 1000000) (hok : OkT ((bl, t) :: l)) :
    HOk Tryz.prog (rwO 132 188 (rowP s a k ta tx nm false 0).cells (rowP s (a + bl + t.src.length) k ta tx nm false 0).cells (.agg #[.int .i64 t.kind, .int .i64 ((a + bl : Nat) : Int), .string (strB t.txt), .int .i64 t.nm]) gl35) := by
  subst ha
  refine rwO_ok fun H p hg hp h14 hpn => ?_
  have h3 : H.get 3 = some (.row ⟨strV signsL, 330, 0, false⟩) := by rw [← signs_eq]; exact hg _ (show _ ∈ gl35 from List.mem_cons_self)
  have h5 : H.get 5 = some (.row ⟨strV wordsL, 382, 0, false⟩) := by rw [← words_eq]; exact hg _ (show _ ∈ gl35 from List.mem_cons_of_mem _ List.mem_cons_self)
  have hb : ∀ c ∈ List.replicate bl (32 : UInt8), c = 32 := fun c hc => List.eq_of_mem_replicate hc
  have hbl : (List.replicate bl (32 : UInt8)).length = bl := List.length_replicate
  have hs1 : s = pre ++ (List.replicate bl 32 ++ (t.src ++ srcT l)) := by rw [hs]; simp [srcT, Tk.all]
  have hpr : PRow H p s pre.length k ta tx nm false 0 := ⟨hp, hpn, h14⟩
  obtain ⟨hl, ht⟩ := hok
  have fix : ∀ {v : Value} {r : Row}, (ACalls Tryz.prog 132 #[.pointer (some ⟨p, 0, none⟩)] H fun v' H' => ∃ r', (v' = v ∧ r' = r) ∧ H' = H.put p (.row r')) → ACalls Tryz.prog 132 #[.pointer (some ⟨p, 0, none⟩)] H fun v' H' => v' = v ∧ H' = H.put p (.row r) := fun h => h.mono fun v' H' ⟨r', ⟨h1, h2⟩, h3⟩ => ⟨h1, by rw [h3, h2]⟩
  cases t with
  | word j =>
    obtain ⟨hj, he⟩ := ht
    have hw : wordsL.getD j [] = wordsL[j]'hj := by rw [List.getD_eq_getElem?_getD, List.getElem?_eq_getElem (show j < wordsL.length from hj)]; rfl
    have hs2 : s = pre ++ (List.replicate bl 32 ++ (wordsL[j]'hj ++ srcT l)) := by rw [hs1]; simp only [Tk.src, hw]
    have := fix (read_word hj he h5 hs2 hb hls hpr)
    rw [hbl] at this
    simpa only [Tk.src, Tk.kind, Tk.txt, Tk.nm, hw] using this
  | num ds =>
    obtain ⟨h0, hd, he, hv⟩ := ht
    have := fix (read_num h0 hd he hv hs1 hb hls hpr)
    rw [hbl] at this
    exact this
  | text w =>
    have := fix (read_text ht hs1 hb hls hpr)
    rw [hbl] at this
    exact this
  | lt =>
    obtain ⟨r, hr⟩ := ht
    have := fix (read_lt (rest := r) h3 (by rw [hs1, hr]; rfl) hb hls hpr)
    rw [hbl] at this
    exact this
  | fin =>
    have := fix (read_end (rest := srcT l) ht hs1 hb hls hpr)
    rw [hbl] at this
    exact this
theorem rdTape_ok {s : List UInt8} (hls : s.length < 1000000) : ∀ (l : List (Nat × Tk)) (pre : List UInt8) (a : Nat) (k ta : Int) (tx : List UInt8) (nm : Int), a = pre.length → s = pre ++ srcT l → OkT l → ∀ hd, An.call hd ∈ rdTape s l a k ta tx nm → HOk Tryz.prog hd
  | [], _, _, _, _, _, _, _, _, _, hd, hm => by cases hm
  | (bl, t) :: l, pre, a, k, ta, tx, nm, ha, hs, hok, hd, hm => by
    rcases List.mem_cons.1 hm with h | hm
    · obtain rfl := An.call.inj h
      exact rdAn_ok ha hs hls hok
    · refine rdTape_ok hls l (pre ++ t.all bl) _ _ _ _ _ ?_ (by rw [hs]; simp [srcT]) hok.1 hd hm
      rw [ha]
      simp [Tk.all]
      omega
end Go.Ae
set_option linter.unusedVariables false
set_option linter.unusedSimpArgs false
set_option maxRecDepth 100000
namespace Go.Ae
open Go.Proofs Go.Proofs.YtmibkoadjehdaaaGreatDoor
noncomputable def cellsK (h : CH) (a : Addr) (n : Nat) (K : List Value → Rs) : Rs := rowK h a fun r => dropK a.off r.cells fun l => takeK n l K
theorem cellsK_spec (h : CH) (a : Addr) (n : Nat) (K : List Value → Rs) : cellsK h a n K = .bad ∨ ∃ l, (toH h).cellsAt a n = some l ∧ l.length = n ∧ cellsK h a n K = K l := by
  unfold cellsK
  rcases rowK_spec h a (fun r => dropK a.off r.cells fun l => takeK n l K) with e | ⟨r, hr, e⟩
  · exact .inl e
  rw [e]
  rcases dropK_spec a.off r.cells (fun l => takeK n l K) with e | ⟨hle, e⟩
  · exact .inl e
  rw [e]
  rcases takeK_spec n (r.cells.drop a.off) K with e | ⟨hle2, e⟩
  · exact .inl e
  refine .inr ⟨_, ?_, by rw [List.length_take]; omega, e⟩
  have hlen : a.off + n ≤ r.cells.length := by
    rw [List.length_drop] at hle2
    omega
  simp [AHeap.cellsAt, hr, hlen]
/-- joined: a list of tokens, which is known. -/
noncomputable def joO (ss : List (List UInt8)) : Fun := fun f args h K => ifB (Nat.beq f 45) (headK args fun x => ifB (nilL args.tail) (sliceK x .bad fun a n _ => ifB (Nat.blt a.block h.next) (cellsK h a n fun l => .eqv (.agg ⟨l⟩) (.agg ⟨strV ss⟩) (K (.string (strB (joinB ss))) h))))
theorem joO_ok {ss : List (List UInt8)} (hne : ss ≠ []) (hs : ss.length ≤ 1000000) (hj : (joinB ss).length ≤ 1000000) : HOk Tryz.prog (joO ss) := by
  intro f args h K o hr
  unfold joO at hr
  obtain ⟨h1, hr1⟩ := ifB_ok hr
  obtain rfl := Nat.eq_of_beq_eq_true h1
  rcases args with _ | ⟨x, args⟩
  · cases hr1
  have hr2 : Res Tryz.prog (ifB (nilL args) (sliceK x .bad fun a n _ => ifB (Nat.blt a.block h.next) (cellsK h a n fun l => .eqv (.agg ⟨l⟩) (.agg ⟨strV ss⟩) (K (.string (strB (joinB ss))) h)))) o := hr1
  obtain ⟨h2, hr3⟩ := ifB_ok hr2
  obtain rfl := nilL_spec h2
  rcases sliceK_spec x .bad (fun a n _ => ifB (Nat.blt a.block h.next) (cellsK h a n fun l => .eqv (.agg ⟨l⟩) (.agg ⟨strV ss⟩) (K (.string (strB (joinB ss))) h))) with e | ⟨a, n, c, rfl, e⟩
  · rw [e] at hr3; cases hr3
  rw [e] at hr3
  obtain ⟨hb, hr4⟩ := ifB_ok hr3
  rw [Nat.blt_eq] at hb
  rcases cellsK_spec h a n (fun l => .eqv (.agg ⟨l⟩) (.agg ⟨strV ss⟩) (K (.string (strB (joinB ss))) h)) with e | ⟨l, hl, hn, e⟩
  · rw [e] at hr4; cases hr4
  rw [e] at hr4
  cases hr4 with
  | eqv hv hR =>
    have hv' : l = strV ss := by simpa using hv
    have hlen : n = ss.length := by rw [← hn, hv']; simp [strV]
    refine ⟨_, h, joined_calls (F := fun _ => True) ?_ hs hj, hR⟩
    show Rd (toH h) (fun _ => True) 1 _ ss.length (strV ss)
    rw [hlen] at hl ⊢
    refine .full a ss.length c (strV ss) (fun h0 => hne (List.eq_nil_of_length_eq_zero h0)) trivial hb ?_
    rw [Nat.mul_one, hl, hv']
/-- A text as a value. -/
def txtV (b : List UInt8) : Value := .agg #[.int .i64 2, .int .i64 0, .string (strB b), .slice none 0 0]
end Go.Ae
set_option linter.unusedVariables false
set_option linter.unusedSimpArgs false
set_option maxRecDepth 100000
namespace Go.Ae
open Go.Proofs Go.Proofs.YtmibkoadjehdaaaGreatDoor
def numK (i : Nat) : List UInt8 := [UInt8.ofNat (48 + i)]
def tkI (i : Nat) (b : List UInt8) : List (Nat × Tk) := [((if i = 0 then 0 else 1), .word 5), (1, .word 0), (0, .lt), (0, .text b), (0, .word 6), (0, .num (numK i)), (0, .word 7)]
def toksF : Nat → List (List UInt8) → List (Nat × Tk)
  | i, [] => [(0, .num (numK i)), (0, .fin)]
  | i, b :: bs => tkI i b ++ toksF (i + 1) bs
def toks (bs : List (List UInt8)) : List (Nat × Tk) := toksF 0 bs
/-- The split's text. -/
def textK (bs : List (List UInt8)) : List UInt8 := srcT (toks bs)
def outF : Nat → List (List UInt8) → List (List UInt8)
  | i, [] => [numK i]
  | i, b :: bs => [[105, 102], [107, 101, 121], [60], quoteB b, [116, 104, 101, 110], numK i, [101, 108, 115, 101]] ++ outF (i + 1) bs
theorem numK_lt {i : Nat} (hi : i < 10) : (UInt8.ofNat (48 + i)).toNat = 48 + i := by
  rw [UInt8.toNat_ofNat']
  omega
theorem toksF_head {i : Nat} (hi : i < 10) : ∀ {bs : List (List UInt8)}, ∃ c r, srcT (toksF i bs) = c :: r ∧ (c = 105 ∨ c = 32 ∨ c = UInt8.ofNat (48 + i)) ∧ (i ≠ 0 ∨ bs = [] → c = 32 ∨ c = UInt8.ofNat (48 + i))
  | [] => ⟨_, [], by simp [toksF, srcT, Tk.all, Tk.src, numK], .inr (.inr rfl), fun _ => .inr rfl⟩
  | b :: bs => by
    by_cases h0 : i = 0
    · subst h0
      exact ⟨105, _, rfl, .inl rfl, fun h => by rcases h with h | h <;> simp at h⟩
    · refine ⟨32, [105, 102] ++ srcT ([(1, .word 0), (0, .lt), (0, .text b), (0, .word 6), (0, .num (numK i)), (0, .word 7)] ++ toksF (i + 1) bs), ?_, .inr (.inl rfl), fun _ => .inl rfl⟩
      simp [toksF, tkI, srcT, Tk.all, Tk.src, h0, wordsL]
theorem quoteB_head (b : List UInt8) : ∃ r, quoteB b = 34 :: r := ⟨_, rfl⟩
theorem toksF_ok : ∀ (bs : List (List UInt8)) (i : Nat), i + bs.length < 10 → (∀ b ∈ bs, b.length ≤ 12) → OkT (toksF i bs)
  | [], i, hi, _ => by
    have h := numK_lt (show i < 10 by simpa using hi)
    have hi' : i < 10 := by simpa using hi
    refine ⟨⟨trivial, rfl⟩, by simp [numK], ?_, ?_, ?_⟩
    · intro c hc
      rw [numK, List.mem_singleton] at hc
      subst hc
      unfold isDig
      omega
    · simp [srcT, Tk.all, Tk.src, Ends]
    · simp [numK, digV, h]; omega
  | b :: bs, i, hi, hb => by
    have hi' : i < 10 := by simp at hi; omega
    have hi2 : i + 1 < 10 := by simp at hi; omega
    have h := numK_lt hi'
    have ih := toksF_ok bs (i + 1) (by simp at hi ⊢; omega) (fun b hm => hb b (List.mem_cons_of_mem _ hm))
    obtain ⟨c, r, hc, hcc, hc2⟩ := toksF_head hi2 (bs := bs)
    have hc3 := hc2 (.inl (by omega))
    obtain ⟨q, hq⟩ := quoteB_head b
    have hn : isDig (UInt8.ofNat (48 + i)) := by unfold isDig; omega
    have hcl : ¬ isLet c := by
      unfold isLet
      rcases hc3 with rfl | rfl
      · decide
      · rw [numK_lt hi2]; omega
    show OkT (tkI i b ++ toksF (i + 1) bs)
    simp only [tkI, List.cons_append, List.nil_append]
    refine ⟨⟨⟨⟨⟨⟨⟨ih, ?_⟩, ?_⟩, ?_⟩, ?_⟩, ?_⟩, ?_⟩, ?_⟩
    · exact ⟨by omega, by rw [hc]; exact hcl⟩
    · refine ⟨by simp [numK], fun x hx => ?_, ?_, ?_⟩
      · rw [numK, List.mem_singleton] at hx; subst hx; exact hn
      · show ¬ isDig 101
        unfold isDig; decide
      · simp [numK, digV, h]; omega
    · refine ⟨by omega, ?_⟩
      show ¬ isLet (UInt8.ofNat (48 + i))
      unfold isLet
      omega
    · show b.length ≤ 24
      have := hb b (by simp)
      omega
    · refine ⟨q ++ srcT ([(0, .word 6), (0, .num (numK i)), (0, .word 7)] ++ toksF (i + 1) bs), ?_⟩
      simp only [srcT, Tk.all, Tk.src, hq, List.replicate_zero, List.nil_append, List.cons_append]
    · refine ⟨by omega, ?_⟩
      show ¬ isLet 60
      unfold isLet; decide
    · refine ⟨by omega, ?_⟩
      show ¬ isLet 32
      unfold isLet; decide
theorem flatQ_len (b : List UInt8) : (b.flatMap qByte).length ≤ 4 * b.length := by
  induction b with
  | nil => simp
  | cons c b ih =>
    rw [List.flatMap_cons, List.length_append, List.length_cons]
    have := qByte_len c
    omega
theorem quoteB_le (b : List UInt8) : (quoteB b).length ≤ 4 * b.length + 2 := by
  have := flatQ_len b
  unfold quoteB
  rw [List.length_append, List.length_append]
  simp only [List.length_singleton]
  omega
/-- Questions on the length of the text. -/
noncomputable def shortA : An := .val (.bool false)
def shortP (bs : List (List UInt8)) : Value × Value := (.bool (Nat.blt 100 (strB (textK bs)).size), .bool false)
noncomputable def tapeP (bs : List (List UInt8)) : List An := shortA :: rdTape (textK bs) (toks bs) 0 0 0 [] 0
def pairsP (bs : List (List UInt8)) : List (Value × Value) := shortP bs :: rdPairs (textK bs) (toks bs) 0 0 0 [] 0
theorem tapeP_ok {bs : List (List UInt8)} (hk : bs.length ≤ 3) (hb : ∀ b ∈ bs, b.length ≤ 12) (hs : (textK bs).length ≤ 100) : ∀ hd, An.call hd ∈ tapeP bs → HOk Tryz.prog hd := by
  intro hd hm
  rcases List.mem_cons.1 hm with h | hm
  · cases h
  · exact rdTape_ok (s := textK bs) (by omega) _ [] 0 0 0 [] 0 rfl rfl (toksF_ok bs 0 (by omega) hb) hd hm
theorem pairsP_ok {bs : List (List UInt8)} (hs : (textK bs).length ≤ 100) : ∀ p ∈ pairsP bs, p.1 = p.2 := by
  intro p hp
  rcases List.mem_cons.1 hp with rfl | hp
  · have : (strB (textK bs)).size = (textK bs).length := strB_size _
    simp only [shortP, this, Value.bool.injEq]
    rw [← Bool.not_eq_true, Nat.blt_eq]
    omega
  · exact rdPairs_ok _ _ _ _ _ _ p hp
def ZP : List (FuncId × List Tmp) := [(44, [8, 9])]
theorem okP : ([132] : List FuncId).all okX = true := by kernel_rfl
theorem check1 (b : List UInt8) : runX [132] ZP 179 [.string (strB (textK [b]))] 40 (tapeP [b]) = some ((pairsP [b]).reverse, .nilIface) := by kernel_rfl
theorem check2 (b c : List UInt8) : runX [132] ZP 179 [.string (strB (textK [b, c]))] 40 (tapeP [b, c]) = some ((pairsP [b, c]).reverse, .nilIface) := by kernel_rfl
theorem check3 (b c d : List UInt8) : runX [132] ZP 179 [.string (strB (textK [b, c, d]))] 40 (tapeP [b, c, d]) = some ((pairsP [b, c, d]).reverse, .nilIface) := by kernel_rfl
theorem three {bs : List (List UInt8)} (h1 : bs ≠ []) (hk : bs.length ≤ 3) : (∃ b, bs = [b]) ∨ (∃ b c, bs = [b, c]) ∨ ∃ b c d, bs = [b, c, d] := by
  rcases bs with _ | ⟨b, _ | ⟨c, _ | ⟨d, _ | ⟨e, bs⟩⟩⟩⟩
  · exact absurd rfl h1
  · exact .inl ⟨b, rfl⟩
  · exact .inr (.inl ⟨b, c, rfl⟩)
  · exact .inr (.inr ⟨b, c, d, rfl⟩)
  · simp at hk
theorem check_calls {bs : List (List UInt8)} (h1 : bs ≠ []) (hk : bs.length ≤ 3) (hb : ∀ b ∈ bs, b.length ≤ 12) (hs : (textK bs).length ≤ 100) {H : AHeap} (hg : ∀ p ∈ globs, H.get p.1 = some (.row p.2)) :
    ACalls Tryz.prog 179 #[.string (strB (textK bs))] H fun v H' => v = .nilIface ∧ H' = H := by
  have go : ∀ {L : List (Value × Value)}, L = (pairsP bs).reverse → runX [132] ZP 179 [.string (strB (textK bs))] 40 (tapeP bs) = some (L, .nilIface) → ACalls Tryz.prog 179 #[.string (strB (textK bs))] H fun v H' => v = .nilIface ∧ H' = H := fun hL h => by
    subst hL
    exact closedX okP (tapeP_ok hk hb hs) (fun p hp => pairsP_ok hs p (List.mem_reverse.1 hp)) h (by simp [flatV, simpleV]) rfl hg
  rcases three h1 hk with ⟨b, rfl⟩ | ⟨b, c, rfl⟩ | ⟨b, c, d, rfl⟩
  · exact go rfl (check1 b)
  · exact go rfl (check2 b c)
  · exact go rfl (check3 b c d)
end Go.Ae

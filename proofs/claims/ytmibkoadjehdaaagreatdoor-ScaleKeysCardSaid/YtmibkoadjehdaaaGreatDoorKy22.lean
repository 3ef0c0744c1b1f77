/- eddylaw20.rising. Deferred calls that ask recover() first: they do nothing while nothing panics. Functions that defer a call which does nothing while nothing panics: the walk behind it. The two deferred functions of the parsers do nothing while nothing panics. -/
import Derived.Test.YtmibkoadjehdaaaGreatDoorKy20
import Derived.Test.YtmibkoadjehdaaaGreatDoorKy21
import Derived.Test.YtmibkoadjehdaaaGreatDoorKy16
import Derived.Test.YtmibkoadjehdaaaGreatDoorKy17
import Derived.Test.YtmibkoadjehdaaaGreatDoorKy13
import Derived.Test.YtmibkoadjehdaaaGreatDoorProg
set_option linter.unusedVariables false
set_option linter.unusedSimpArgs false
set_option linter.unusedSimpArgs false
set_option linter.unusedVariables false
set_option linter.unnecessarySimpa false
set_option maxRecDepth 100000
set_option maxHeartbeats 400000
namespace Go.Ae
open Go.Proofs
attribute [local irreducible] awC wpSeq wpS nRes aw aE acall ACalls szT isAggT zeroT byT elemSz fieldOff Program.underlying appendA copyA thenA inBlockA bodyA AHeap.push AHeap.put AHeap.cellsAt AHeap.setCells resV loadA intBin EW EC EX Nr Nc Er Cr Agree
/-- A bound that may stand at its place. -/
def okB (bs : List (List UInt8)) (i : Nat) : Prop := (bs.getD i []).length ≤ 12 ∧ (0 < i → ltB (bs.getD (i - 1) []) (bs.getD i []) = true)
/-- Bounds that Spread may take. -/
def Ris (bs : List (List UInt8)) : Prop := 1 ≤ bs.length ∧ bs.length ≤ 3 ∧ ∀ i, i < bs.length → okB bs i
def tbl25 : Tbl := [(4, [0, 1, 2, 3, 4, 5, 6, 7, 8, 9, 10, 11, 12, 13, 14, 15, 16, 17, 18, 19, 20, 21], [0, 0, 3, 7, 15, 31, 63, 127, 255, 511, 1023, 1023, 3071, 8191, 16383, 1023, 1023, 99327, 230399, 524287, 1048575, 2097151])]
def RiI (H0 : AHeap) (dv : Value) (bs : List (List UInt8)) (n : Nat) (E : Env) (H : AHeap) : Prop :=
  H0 = H ∧ ∃ i : Nat, i ≤ bs.length ∧ n = bs.length - i ∧ (∀ j, j < i → okB bs j) ∧ E = [(3, .int .i64 i), (0, dv), (2, .bool false)]
theorem rising_calls {H : AHeap} {F : Blks} {dv : Value} {bs : List (List UInt8)} (hd : SR2 H F dv bs) (hl : bs.length ≤ 8796093022000) :
    ACalls Tryz.prog 25 #[dv] H fun v H' => (∃ t, v = .bool t ∧ (t = true ↔ Ris bs)) ∧ H' = H := by
  obtain ⟨zd, cd, rfl⟩ := Rd.slice hd
  refine k_open (args := [.slice zd bs.length cd]) (E0 := [(0, .slice zd bs.length cd)]) tbl25 Tryz.func25 rfl follows (by kernel_rfl) Tryz.ntmps25 rfl rfl ?_
  repeat' (first
    | (show EW _ _ _ _ _; first | refine ew_p (h := ?_) | refine ew_skip (h := ?_) | refine ew_ld (h := ?_) | (refine ew_df (ht := ?_) (hf := ?_) <;> intro _) | refine ew_ar (h := ?_) | refine w_nil ?_ | refine w_nilD ?_)
    | (show EC _ _ _ _ _ _ _; first | refine k_seq ?_ | refine k_region ?_ | refine k_draw (h := ?_) | refine k_skip ?_ | refine k_ret ?_ | refine k_exit ?_ | refine k_block ?_ | refine k_true (h := ?_) | refine k_false (h := ?_))
    | (show EX _ (bodyA _ _ _) _ _ _; first | refine x_end1 (hq := ?_))
    | (show EX _ _ _ _ _; first | refine x_normal ?_ | refine x_ret ?_ | refine x_exit ?_ | refine x_same ?_ | refine x_other (h := ?_) | refine x_bnormal ?_ | refine x_bret ?_))
  refine k_loop follows (RiI H (.slice zd bs.length cd) bs) (bs.length - 0) [(3, _), (0, _), (2, _)] (by kernel_rfl) ⟨rfl, rfl, rfl, trivial⟩ ⟨rfl, 0, by omega, rfl, fun j hj => absurd hj (by omega), rfl⟩ ?_
  rintro n E _ ⟨rfl, i, hi, rfl, hok, rfl⟩
  by_cases hlt : i < bs.length
  · obtain ⟨ad, c, hv1, _, _, hcell⟩ := SR2.at hd hlt
    obtain ⟨rfl, rfl⟩ : zd = some ad ∧ cd = c := by simpa using hv1
    have hsz := strB_size bs[i]
    have g1 : bs.getD i [] = bs[i] := by simp [List.getD_eq_getElem?_getD, hlt]
    by_cases h0 : i = 0
    · subst h0
      repeat' (first
    | (show EW _ _ _ _ _; first | refine ew_p (h := ?_) | refine ew_skip (h := ?_) | refine ew_ld (h := ?_) | (refine ew_df (ht := ?_) (hf := ?_) <;> intro _) | refine ew_ar (h := ?_) | refine ew_p2 (h := ?_) | (refine ew_df2 (ht := ?_) (hf := ?_) <;> intro _) | refine w_nil ?_ | refine w_nilD ?_)
    | (show EC _ _ _ _ _ _ _; first | refine k_seq ?_ | refine k_region ?_ | refine k_draw (h := ?_) | refine k_skip ?_ | refine k_ret ?_ | refine k_exit ?_ | refine k_block ?_ | refine k_true (h := ?_) | refine k_false (h := ?_))
    | (show EX _ (bodyA _ _ _) _ _ _; first | refine x_end1 (hq := ?_))
    | (show EX _ _ _ _ _; first | refine x_normal ?_ | refine x_ret ?_ | refine x_exit ?_ | refine x_same ?_ | refine x_other (h := ?_) | refine x_bnormal ?_ | refine x_bret ?_))
      · refine ⟨⟨false, rfl, iff_of_false (by simp) fun hR => ?_⟩, rfl⟩
        have := (hR.2.2 0 hlt).1
        rw [g1] at this
        omega
      · exact x_again (bs.length - (0 + 1)) [(3, _), (0, _), (2, _)] ⟨rfl, rfl, rfl, trivial⟩ (by omega) ⟨rfl, 0 + 1, by omega, rfl, fun j hj => by
          obtain rfl : j = 0 := by omega
          exact ⟨by rw [g1]; omega, fun h => absurd h (by omega)⟩, rfl⟩
    · obtain ⟨ad2, c2, hv2, _, _, hcell2⟩ := SR2.at hd (i := i - 1) (by omega)
      obtain ⟨rfl, rfl⟩ : ad = ad2 ∧ cd = c2 := by simpa using hv2
      have hci : ((i - 1 : Nat) : Int) = (i : Int) - 1 := by omega
      rw [hci] at hcell2
      have g2 : bs.getD (i - 1) [] = bs[i - 1] := by simp [List.getD_eq_getElem?_getD, List.getElem?_eq_getElem (show i - 1 < bs.length by omega)]
      have hpos : 0 < i := by omega
      repeat' (first
    | (show EW _ _ _ _ _; first | refine ew_p (h := ?_) | refine ew_skip (h := ?_) | refine ew_ld (h := ?_) | (refine ew_df (ht := ?_) (hf := ?_) <;> intro _) | refine ew_ar (h := ?_) | refine ew_p2 (h := ?_) | (refine ew_df2 (ht := ?_) (hf := ?_) <;> intro _) | refine w_nil ?_ | refine w_nilD ?_)
    | (show EC _ _ _ _ _ _ _; first | refine k_seq ?_ | refine k_region ?_ | refine k_draw (h := ?_) | refine k_skip ?_ | refine k_ret ?_ | refine k_exit ?_ | refine k_block ?_ | refine k_true (h := ?_) | refine k_false (h := ?_))
    | (show EX _ (bodyA _ _ _) _ _ _; first | refine x_end1 (hq := ?_))
    | (show EX _ _ _ _ _; first | refine x_normal ?_ | refine x_ret ?_ | refine x_exit ?_ | refine x_same ?_ | refine x_other (h := ?_) | refine x_bnormal ?_ | refine x_bret ?_))
      · refine ⟨⟨false, rfl, iff_of_false (by simp) fun hR => ?_⟩, rfl⟩
        have := (hR.2.2 i hlt).1
        rw [g1] at this
        omega
      · rename_i hge
        refine ⟨⟨false, rfl, iff_of_false (by simp) fun hR => ?_⟩, rfl⟩
        have := (hR.2.2 i hlt).2 hpos
        rw [g1, g2] at this
        exact hge this
      · rename_i hge
        exact x_again (bs.length - (i + 1)) [(3, _), (0, _), (2, _)] ⟨rfl, rfl, rfl, trivial⟩ (by omega) ⟨rfl, i + 1, by omega, rfl, fun j hj => by
          by_cases hji : j < i
          · exact hok j hji
          · obtain rfl : j = i := by omega
            exact ⟨by rw [g1]; omega, fun _ => by rw [g1, g2]; simpa using hge⟩, rfl⟩
  · obtain rfl : i = bs.length := by omega
    repeat' (first
    | (show EW _ _ _ _ _; first | refine ew_p (h := ?_) | refine ew_skip (h := ?_) | refine ew_ld (h := ?_) | (refine ew_df (ht := ?_) (hf := ?_) <;> intro _) | refine ew_ar (h := ?_) | refine ew_p2 (h := ?_) | (refine ew_df2 (ht := ?_) (hf := ?_) <;> intro _) | refine w_nil ?_ | refine w_nilD ?_)
    | (show EC _ _ _ _ _ _ _; first | refine k_seq ?_ | refine k_region ?_ | refine k_draw (h := ?_) | refine k_skip ?_ | refine k_ret ?_ | refine k_exit ?_ | refine k_block ?_ | refine k_true (h := ?_) | refine k_false (h := ?_))
    | (show EX _ (bodyA _ _ _) _ _ _; first | refine x_end1 (hq := ?_))
    | (show EX _ _ _ _ _; first | refine x_normal ?_ | refine x_ret ?_ | refine x_exit ?_ | refine x_same ?_ | refine x_other (h := ?_) | refine x_bnormal ?_ | refine x_bret ?_))
    · exact ⟨⟨true, rfl, iff_of_true rfl ⟨by omega, by omega, hok⟩⟩, rfl⟩
    · exact ⟨⟨false, rfl, iff_of_false (by simp) fun hR => absurd hR.2.1 (by omega)⟩, rfl⟩
    · exact ⟨⟨false, rfl, iff_of_false (by simp) fun hR => absurd hR.1 (by omega)⟩, rfl⟩
end Go.Ae
namespace Go.Ae

theorem wpSeqS_sim {P : Program} {ops : Array Oper} {K : Act → AHeap → Prop} {Q : Exit → Act → List Frame → World → Prop} {cs : List Frame} : ∀ (l : List Nat) (os : List Oper) (ρ : Ren) (a b : Act) (H : AHeap) (w : World),
    os.map some = l.map (ops[·]?) → (∀ o ∈ os, operandsOk o = true) → wpSeq P ops K os a H → TR ρ a b → RelH P ρ H w →
    (∀ b' w', After P ρ H w K b' w' → Q .normal b' cs w') → wpOpsS P ops Q l b cs w
  | [], [], ρ, a, b, H, w, _, _, h, hT, hH, hQ => hQ b w ⟨a, H, ρ, h, hT, hH, ExtN.refl _ _ _ _⟩
  | [], _ :: _, _, _, _, _, _, he, _, _, _, _, _ => by simp at he
  | _ :: _, [], _, _, _, _, _, he, _, _, _, _, _ => by simp at he
  | i :: l, o :: os, ρ, a, b, H, w, he, hok, h, hT, hH, hQ => by
    simp only [List.map_cons, List.cons.injEq] at he
    obtain ⟨ho, he⟩ := he
    have hok' : ∀ o ∈ os, operandsOk o = true := fun o ho => hok o (by simp [ho])
    have next : ∀ v v' H' ρ' w', wpSeq P ops K os (a.put o.dst v) H' → VR ρ' v v' → RelH P ρ' H' w' → Ext ρ H w ρ' H' w' → wpOpsS P ops Q l (b.put o.dst v') cs w' := fun v v' H' ρ' w' hs hvr hr hx =>
      wpSeqS_sim l os ρ' _ _ H' w' he hok' hs ((hT.mono hx.mono).put o.dst hvr) hr fun b' w'' ⟨a', H'', ρ'', h1, h2, h3, h4⟩ => hQ b' w'' ⟨a', H'', ρ'', h1, h2, h3, Ext.trans hx h4⟩
    simp only [wpOpsS, ← ho]
    simp only [wpSeq] at h
    rw [hT.yielded ops] at h
    have key : ∀ {r : Result Next}, (∀ w', r ≠ .ok .recover w') → o.upon P b (fun a' w' => wpOpsS P ops Q l a' cs w') (fun e a' w' => Q e a' cs w') r →
        (match r with
        | .ok .recover w' => match recoverD cs with
          | some (v, cs') => wpOpsS P ops Q l (b.put o.dst v) cs' w'
          | none => wpOpsS P ops Q l (b.put o.dst .nilIface) cs w'
        | r => o.upon P b (fun a' w' => wpOpsS P ops Q l a' cs w') (fun e a' w' => Q e a' cs w') r) := by
      intro r hr hu
      split
      · rename_i w'; exact absurd rfl (hr w')
      · exact hu
    split at h
    · rename_i hw
      rw [if_pos hw]
      have hv := hT.operands (hok o (by simp))
      unfold step1 at h
      split at h
      · have := eStep_sim (N := fun a' w' => wpOpsS P ops Q l a' cs w') (Q := fun e a' w' => Q e a' cs w') h hH hv next
        unfold Oper.wp at this
        refine key (fun w' e => ?_) this
        rw [e] at this
        exact this
      · obtain ⟨v, H', hf, hk⟩ := nStep_fact h
        obtain ⟨v', ρ', w', h1, h2, h3, h4⟩ := nFact_sim hf hH hv
        rw [h1]
        exact next v v' H' ρ' w' hk h2 h3 h4
    · rename_i hw
      rw [if_neg hw]
      exact next undef undef H ρ w h (.tuple rfl (by simp)) hH (ExtN.refl _ _ _ _)

def isRecover (o : Oper) : Bool := o.guard.isNone && match o.op with
  | .call c => match c.callee with
    | .builtin .recover => true
    | _ => false
  | _ => false
/-- A function that begins with recover(). -/
theorem noop_of {P : Program} {g : FuncId} {fn : Func} {id : Nat} {o : Oper} {os : List Oper} {rest : Code} (hf : P.funcs[g]? = some fn) (hn : (fn.name == "runtime.NumGoroutine") = false)
    (hb : fn.body = some (.seq (.region id ⟨o :: os⟩ false) rest)) (hr : fn.results = #[]) (ho : isRecover o = true) (hok : os.all operandsOk = true)
    (h : ∀ (a : Act) (H : AHeap), a.defers = [] → fn.ntmps ≤ a.tmps.size → wpSeq P ⟨o :: os⟩ (fun a' H' => aw P rest (fun e a'' H'' => (e = .normal ∨ e = .ret) ∧ a''.defers = [] ∧ H'' = H) a' H') os (a.put o.dst .nilIface) H) : NoopD P g := by
  refine ⟨⟨fn, hf, hn, by rw [hb]; rfl⟩, fun ρ H w args cargs hH hargs => ?_⟩
  refine callsD_of_wpS hf hb fun c₀ cs hc => ?_
  have hsz : args.size = cargs.size := by simpa using hargs.length
  have hT : TR ρ { tmps := args ++ Array.replicate (fn.ntmps - args.size) undef, defers := [] } { tmps := cargs ++ Array.replicate (fn.ntmps - cargs.size) undef, defers := [] } := by
    refine ⟨?_, All2.nil, hH.glob⟩
    simp only [Array.toList_append, Array.toList_replicate, hsz]
    exact hargs.append (VRs.refl_undef _)
  refine wpS_seq (wpS_region ?_)
  have hrange : List.range (⟨o :: os⟩ : Array Oper).size = 0 :: (List.range os.length).map (· + 1) := by
    show List.range (os.length + 1) = _
    rw [List.range_succ_eq_map]
  rw [hrange]
  have hrun : ∀ b : Act, (execOp b.eval o).run P w = .ok .recover w := by
    intro b
    obtain ⟨dst, op, type, pos, after, guard⟩ := o
    unfold isRecover at ho
    simp only [Bool.and_eq_true] at ho
    obtain ⟨_, ho⟩ := ho
    split at ho
    · rename_i c
      split at ho
      · rename_i hce
        obtain ⟨callee, args, ats⟩ := c
        subst hce
        simp [execOp, resolve, invoke, builtin]
      · cases ho
    · cases ho
  have hgu : o.guard = none := by
    unfold isRecover at ho
    simp only [Bool.and_eq_true, Option.isNone_iff_eq_none] at ho
    exact ho.1
  have h0 : (⟨o :: os⟩ : Array Oper)[0]? = some o := rfl
  have hw0 : ∀ y, Region.wanted o y = true := fun y => by simp [Region.wanted, hgu]
  simp only [wpOpsS, h0, hw0, if_true, hrun]
  have hrec : recoverD (c₀ :: cs) = none := by
    simp only [recoverD, hc]
  simp only [hrec]
  refine wpSeqS_sim _ os ρ _ _ H w ?_ (fun o ho => List.all_eq_true.1 hok o ho) (h _ H rfl (by simp; omega)) (hT.put o.dst .nilIface) hH fun b' w' ⟨a', H', ρ', q, hT', hH', hx⟩ => ?_
  · apply List.ext_getElem?
    intro i
    simp only [List.getElem?_map]
    by_cases hi : i < os.length
    · simp [hi]
    · simp [hi]
  · refine wpS_of_wp (wp_mono (q ρ' b' w' hT' hH') fun e b'' w'' ⟨a'', H'', ρ'', ⟨he, hdf, hHH⟩, hT'', hH'', hx'⟩ => ?_)
    subst hHH
    have hres : (results fn b''.tmps).run P w'' = .ok (.tuple #[]) w'' := by
      unfold results
      rw [hr]
      simp
    have hd' : b''.defers = [] := by have := hT''.defs; rw [hdf] at this; exact this.nil
    have fin : ∃ u', c₀ :: cs = { c₀ with mode := u' } :: cs ∧ ∃ v, (results fn b''.tmps).run P w'' = .ok v w'' ∧ ((∃ v', Ending.returned v = .returned v') ∧ u' = .returning ∧ ∃ ρ', RelH P ρ' H'' w'' ∧ Ext ρ H'' w ρ' H'' w'') :=
      ⟨.returning, by rw [← hc], _, hres, ⟨_, rfl⟩, rfl, ρ'', hH'', Ext.trans hx hx'⟩
    rcases he with rfl | rfl
    · exact ⟨hd', fin⟩
    · exact ⟨hd', fin⟩
/-- A function that is one region, recover() first. -/
theorem noop_of1 {P : Program} {g : FuncId} {fn : Func} {id : Nat} {o : Oper} {os : List Oper} (hf : P.funcs[g]? = some fn) (hn : (fn.name == "runtime.NumGoroutine") = false)
    (hb : fn.body = some (.region id ⟨o :: os⟩ false)) (hr : fn.results = #[]) (ho : isRecover o = true) (hok : os.all operandsOk = true)
    (h : ∀ (a : Act) (H : AHeap), a.defers = [] → fn.ntmps ≤ a.tmps.size → wpSeq P ⟨o :: os⟩ (fun a' H' => a'.defers = [] ∧ H' = H) os (a.put o.dst .nilIface) H) : NoopD P g := by
  refine ⟨⟨fn, hf, hn, by rw [hb]; rfl⟩, fun ρ H w args cargs hH hargs => ?_⟩
  refine callsD_of_wpS hf hb fun c₀ cs hc => ?_
  have hsz : args.size = cargs.size := by simpa using hargs.length
  have hT : TR ρ { tmps := args ++ Array.replicate (fn.ntmps - args.size) undef, defers := [] } { tmps := cargs ++ Array.replicate (fn.ntmps - cargs.size) undef, defers := [] } := by
    refine ⟨?_, All2.nil, hH.glob⟩
    simp only [Array.toList_append, Array.toList_replicate, hsz]
    exact hargs.append (VRs.refl_undef _)
  refine wpS_region ?_
  have hrange : List.range (⟨o :: os⟩ : Array Oper).size = 0 :: (List.range os.length).map (· + 1) := by
    show List.range (os.length + 1) = _
    rw [List.range_succ_eq_map]
  rw [hrange]
  have hrun : ∀ b : Act, (execOp b.eval o).run P w = .ok .recover w := by
    intro b
    obtain ⟨dst, op, type, pos, after, guard⟩ := o
    unfold isRecover at ho
    simp only [Bool.and_eq_true] at ho
    obtain ⟨_, ho⟩ := ho
    split at ho
    · rename_i c
      split at ho
      · rename_i hce
        obtain ⟨callee, args, ats⟩ := c
        subst hce
        simp [execOp, resolve, invoke, builtin]
      · cases ho
    · cases ho
  have hgu : o.guard = none := by
    unfold isRecover at ho
    simp only [Bool.and_eq_true, Option.isNone_iff_eq_none] at ho
    exact ho.1
  have h0 : (⟨o :: os⟩ : Array Oper)[0]? = some o := rfl
  have hw0 : ∀ y, Region.wanted o y = true := fun y => by simp [Region.wanted, hgu]
  simp only [wpOpsS, h0, hw0, if_true, hrun]
  have hrec : recoverD (c₀ :: cs) = none := by
    simp only [recoverD, hc]
  simp only [hrec]
  refine wpSeqS_sim _ os ρ _ _ H w ?_ (fun o ho => List.all_eq_true.1 hok o ho) (h _ H rfl (by simp; omega)) (hT.put o.dst .nilIface) hH fun b' w' ⟨a', H', ρ', q, hT', hH', hx⟩ => ?_
  · apply List.ext_getElem?
    intro i
    simp only [List.getElem?_map]
    by_cases hi : i < os.length
    · simp [hi]
    · simp [hi]
  · obtain ⟨hdf, hHH⟩ := q
    subst hHH
    have hres : (results fn b'.tmps).run P w' = .ok (.tuple #[]) w' := by
      unfold results
      rw [hr]
      simp
    have hd' : b'.defers = [] := by have := hT'.defs; rw [hdf] at this; exact this.nil
    exact ⟨hd', .returning, by rw [← hc], _, hres, ⟨_, rfl⟩, rfl, ρ', hH', hx⟩
end Go.Ae
namespace Go.Ae

def flatC : Code → Bool
  | .region _ _ d => !d
  | .seq a b => flatC a && flatC b
  | .cond _ a b => flatC a && flatC b
  | .block _ c => flatC c
  | .skip | .label _ | .goto _ | .exit _ | .ret | .refuse _ => true
  | _ => false
def Act.df (a : Act) (ds : List Deferred) : Act := { a with defers := ds }
theorem df_eval (a : Act) (ds : List Deferred) : (Act.df a ds).eval = a.eval := by funext x; cases x <;> rfl
theorem df_put (a : Act) (ds : List Deferred) (d : Option Tmp) (v : Value) : Act.put (Act.df a ds) d v = Act.df (Act.put a d v) ds := by cases d <;> rfl
theorem nRes_df {P : Program} {a : Act} {ds : List Deferred} {H : AHeap} {o : Oper} : nRes P (Act.df a ds) H o = nRes P a H o := by unfold nRes; rw [df_eval]
theorem wpSeq_df {P : Program} {ops : Array Oper} {ds : List Deferred} {K : Act → AHeap → Prop} : ∀ (os : List Oper) (a : Act) (H : AHeap), wpSeq P ops (fun b H => K (Act.df b ds) H) os a H → wpSeq P ops K os (Act.df a ds) H
  | [], a, H, h => h
  | o :: os, a, H, h => by
    have ih := fun v H' => wpSeq_df (P := P) (ops := ops) (ds := ds) (K := K) os (a.put o.dst v) H'
    simp only [wpSeq] at h ⊢
    show if Region.wanted o (yielded ops a.tmps) = true then _ else _
    split at h
    · rename_i hw
      rw [if_pos hw]
      unfold step1 at h ⊢
      split at h
      · rename_i hE
        rw [if_pos hE]
        unfold eStep at h ⊢
        rw [df_eval]
        split at h
        · rename_i fa hfa
          exact h.mono fun v H' q => by rw [df_put]; exact ih v H' q
        · split at h
          · rename_i vH hE'
            rw [df_put]; exact ih _ _ h
          · exact h.elim
      · rename_i hE
        rw [if_neg hE]
        unfold nStep at h ⊢
        rw [nRes_df]
        split at h
        · rename_i vH hn
          rw [df_put]; exact ih _ _ h
        · exact h.elim
    · rename_i hw
      rw [if_neg hw, df_put]
      exact ih _ _ h
theorem awC_mono0 {P : Program} {tbl : Tbl} : ∀ (x : Code) (K1 K2 : Exit → Act → AHeap → Prop) (a : Act) (H : AHeap), flatC x = true → (∀ e b H, K1 e b H → K2 e b H) → awC P tbl x K1 a H → awC P tbl x K2 a H := by
  intro x
  induction x with
  | skip => intro K1 K2 a H _ hk h; exact hk _ _ _ h
  | label _ => intro K1 K2 a H _ hk h; exact hk _ _ _ h
  | exit _ => intro K1 K2 a H _ hk h; exact hk _ _ _ h
  | goto _ => intro K1 K2 a H _ hk h; exact hk _ _ _ h
  | ret => intro K1 K2 a H _ hk h; exact hk _ _ _ h
  | refuse _ => intro K1 K2 a H _ hk h; exact h.elim
  | seq x y ih1 ih2 =>
    intro K1 K2 a H hf hk h
    simp only [flatC, Bool.and_eq_true] at hf
    refine ih1 _ _ a H hf.1 (fun e b H q => ?_) h
    cases e <;> first | exact hk _ _ _ q | exact ih2 _ _ b H hf.2 hk q
  | cond c x y ih1 ih2 =>
    intro K1 K2 a H hf hk h
    simp only [flatC, Bool.and_eq_true] at hf
    simp only [awC] at h ⊢
    split at h
    · exact ih1 _ _ a H hf.1 hk h
    · exact ih2 _ _ a H hf.2 hk h
    · exact h.elim
  | block id c ih =>
    intro K1 K2 a H hf hk h
    refine ih _ _ a H hf (fun e b H q => ?_) h
    cases e <;> simp only [inBlockA] at q ⊢ <;> first | exact hk _ _ _ q | skip
    split at q
    · rename_i hc; rw [if_pos hc]; exact hk _ _ _ q
    · rename_i hc; rw [if_neg hc]; exact hk _ _ _ q
  | region id ops d =>
    intro K1 K2 a H hf hk h
    cases d with
    | true => cases hf
    | false =>
      simp only [awC, Bool.false_eq_true, if_false] at h ⊢
      have mono : ∀ (os : List Oper) (a : Act) (H : AHeap), wpSeq P ops (fun a H => K1 .normal a H) os a H → wpSeq P ops (fun a H => K2 .normal a H) os a H := by
        intro os
        induction os with
        | nil => intro a H h; exact hk _ _ _ h
        | cons o os ih =>
          intro a H h
          simp only [wpSeq] at h ⊢
          split at h
          · rename_i hw
            rw [if_pos hw]
            unfold step1 at h ⊢
            split at h
            · rename_i hE
              rw [if_pos hE]
              unfold eStep at h ⊢
              split at h
              · exact h.mono fun v H' q => ih _ _ q
              · split at h
                · exact ih _ _ h
                · exact h.elim
            · rename_i hE
              rw [if_neg hE]
              unfold nStep at h ⊢
              split at h
              · exact ih _ _ h
              · exact h.elim
          · rename_i hw
            rw [if_neg hw]
            exact ih _ _ h
      exact mono _ _ _ h
  | loop c ih => intro K1 K2 a H hf; cases hf
  | scope c ih => intro K1 K2 a H hf; cases hf
  | rangeFunc _ _ _ _ => intro K1 K2 a H hf; cases hf
theorem awC_mono_flat {P : Program} {tbl : Tbl} {x : Code} {K1 K2 : Exit → Act → AHeap → Prop} {a : Act} {H : AHeap} (hf : flatC x = true) (hk : ∀ e b H, K1 e b H → K2 e b H) (h : awC P tbl x K1 a H) : awC P tbl x K2 a H := awC_mono0 x K1 K2 a H hf hk h
theorem awC_df {P : Program} {tbl : Tbl} {ds : List Deferred} : ∀ (c : Code) (Q : Exit → Act → AHeap → Prop) (a : Act) (H : AHeap), flatC c = true → awC P tbl c (fun e b H => Q e (Act.df b ds) H) a H → awC P tbl c Q (Act.df a ds) H
  | .skip, _, _, _, _, h => h
  | .label _, _, _, _, _, h => h
  | .exit _, _, _, _, _, h => h
  | .goto _, _, _, _, _, h => h
  | .ret, _, _, _, _, h => h
  | .refuse _, _, _, _, _, h => h.elim
  | .seq x y, Q, a, H, hf, h => by
    simp only [flatC, Bool.and_eq_true] at hf
    simp only [awC] at h ⊢
    refine awC_df x _ a H hf.1 ?_
    have : (fun e b H => thenA (awC P tbl y Q) Q e (Act.df b ds) H) = thenA (fun b H => awC P tbl y Q (Act.df b ds) H) (fun e b H => Q e (Act.df b ds) H) := by
      funext e b H
      cases e <;> rfl
    rw [this]
    refine awC_mono_flat hf.1 (fun e b H q => ?_) h
    cases e <;> first | exact q | exact awC_df y Q b H hf.2 q
  | .block id c, Q, a, H, hf, h => by
    simp only [awC] at h ⊢
    refine awC_df c _ a H hf ?_
    have : (fun e b H => inBlockA id Q e (Act.df b ds) H) = inBlockA id (fun e b H => Q e (Act.df b ds) H) := by
      funext e b H
      cases e <;> rfl
    rw [this]
    exact h
  | .cond c x y, Q, a, H, hf, h => by
    simp only [flatC, Bool.and_eq_true] at hf
    simp only [awC] at h ⊢
    rw [df_eval]
    split at h
    · rename_i hc; exact awC_df x Q a H hf.1 h
    · rename_i hc; exact awC_df y Q a H hf.2 h
    · exact h.elim
  | .region id ops d, Q, a, H, hf, h => by
    cases d with
    | true => cases hf
    | false =>
      simp only [awC, Bool.false_eq_true, if_false] at h ⊢
      exact wpSeq_df _ a H h
  | .loop _, _, _, _, hf, _ => by cases hf
  | .scope _, _, _, _, hf, _ => by cases hf
  | .rangeFunc .., _, _, _, hf, _ => by cases hf
section
variable {P : Program} {tbl : Tbl} {N : Nat} {E : Env} {H : AHeap}
theorem x_defer {D : List FuncId} {rs : List ResultVar} {Qv : Value → AHeap → Prop} {rest : Code} {i1 : Nat} {t : Tmp} {g : FuncId} {cs : Array Operand} {vs : List Value} {ty ty' : TypeId} {p p' : String} {af af' : Array Edge} {ats : Array TypeId}
    (hm : P.follows .mixedOrders = true) (hg : g ∈ D) (hok : codeOk tbl rest = true) (hfl : flatC rest = true) (hv : evL E cs.toList = some vs) (ht : t < N) (hcs : cs.toList.all okOperand = true)
    (h : EC P tbl N rest (bodyA P rs Qv) ((t, .func (.func g) #[] vs.toArray) :: E) H) :
    EX N (thenA (aw P (.seq (.region i1 #[⟨some t, .makeFunc (.func g) #[] cs, ty, p, af, none⟩, ⟨none, .defer { callee := .value (.tmp t), args := #[], argTypes := ats }, ty', p', af', none⟩] false) rest) (bodyAD P D rs Qv)) (bodyAD P D rs Qv)) .normal E H := by
  intro a ha
  show aw P (.seq _ rest) (bodyAD P D rs Qv) a H
  refine aw_seq (aw_regionQ ?_ ?_)
  · have h1 : operandsOk ⟨some t, .makeFunc (.func g) #[] cs, ty, p, af, none⟩ = true := by
      simp only [operandsOk, Op.operands, Array.empty_append]
      rw [← Array.all_toList]
      exact hcs
    have h2 : operandsOk ⟨none, .defer { callee := .value (.tmp t), args := #[], argTypes := ats }, ty', p', af', none⟩ = true := by simp [operandsOk, Op.operands, Call.operands, okOperand]
    show ([_, _] : List Oper).all operandsOk = true
    simp only [List.all_cons, List.all_nil, h1, h2, Bool.and_self]
  · have e1 : vs.toArray = cs.map a.eval := by apply Array.ext'; simp [← evL_eval ha hv]
    have ha2 := ha.put (v := .func (.func g) #[] vs.toArray) (d := t) (by simpa [Nat.blt_eq] using ht)
    generalize hops : (#[⟨some t, .makeFunc (.func g) #[] cs, ty, p, af, none⟩, ⟨none, .defer { callee := .value (.tmp t), args := #[], argTypes := ats }, ty', p', af', none⟩] : Array Oper) = ops
    have hl : ops.toList = [⟨some t, .makeFunc (.func g) #[] cs, ty, p, af, none⟩, ⟨none, .defer { callee := .value (.tmp t), args := #[], argTypes := ats }, ty', p', af', none⟩] := by rw [← hops]
    rw [hl]
    have w1 : ∀ y, Region.wanted (⟨some t, .makeFunc (.func g) #[] cs, ty, p, af, none⟩ : Oper) y = true := fun y => by simp [Region.wanted]
    have w2 : ∀ y, Region.wanted (⟨none, .defer { callee := .value (.tmp t), args := #[], argTypes := ats }, ty', p', af', none⟩ : Oper) y = true := fun y => by simp [Region.wanted]
    have d1 : deferA a ⟨some t, .makeFunc (.func g) #[] cs, ty, p, af, none⟩ = none := rfl
    simp only [wpQ, w1, w2, if_true, d1]
    have s1 : isE (⟨some t, .makeFunc (.func g) #[] cs, ty, p, af, none⟩ : Oper) = false := rfl
    have n1 : nRes P a H ⟨some t, .makeFunc (.func g) #[] cs, ty, p, af, none⟩ = some (.func (.func g) #[] vs.toArray, H) := by simp [nRes, aP, e1]
    simp only [step1, s1, Bool.false_eq_true, if_false]
    refine nStep_of n1 ?_
    have hev : (a.put (some t) (.func (.func g) #[] vs.toArray)).eval (.tmp t) = .func (.func g) #[] vs.toArray := (ha2.2 t _ (by simp [lookE])).2
    have d2 : deferA (a.put (some t) (.func (.func g) #[] vs.toArray)) ⟨none, .defer { callee := .value (.tmp t), args := #[], argTypes := ats }, ty', p', af', none⟩ = some { target := .fn (.func g) vs.toArray, args := #[] } := by
      simp only [deferA, hev]
      simp
    simp only [d2]
    have hd0 : (a.put (some t) (.func (.func g) #[] vs.toArray)).defers = [] := ha2.1.2
    have hact : (({ a.put (some t) (.func (.func g) #[] vs.toArray) with defers := { target := .fn (.func g) vs.toArray, args := #[] } :: (a.put (some t) (.func (.func g) #[] vs.toArray)).defers } : Act).put none undef) = Act.df (a.put (some t) (.func (.func g) #[] vs.toArray)) [{ target := .fn (.func g) vs.toArray, args := #[] }] := by
      rw [hd0]; rfl
    rw [hact]
    show aw P rest (bodyAD P D rs Qv) _ H
    refine awC_sound hm rest _ _ H hok (awC_df rest _ _ H hfl ?_)
    have hbody := h _ ha2
    have key : ∀ e b H, bodyA P rs Qv e b H → bodyAD P D rs Qv e (Act.df b [{ target := .fn (.func g) vs.toArray, args := #[] }]) H := by
      rintro e b H ⟨he, _, l, hl, hq⟩
      refine ⟨he, fun d hd => ?_, l, ?_, hq⟩
      · have : d = { target := .fn (.func g) vs.toArray, args := #[] } := by simpa [Act.df] using hd
        subst this
        exact ⟨g, _, rfl, hg⟩
      · have hres : ∀ rs, resL P (Act.df b [{ target := .fn (.func g) vs.toArray, args := #[] }]) H rs = resL P b H rs := by
          intro rs
          induction rs with
          | nil => rfl
          | cons r rs ih => cases r <;> simp only [resL, ih] <;> rfl
        rw [hres]; exact hl
    exact awC_mono_flat hfl key hbody
theorem k_openD {f : FuncId} {fn : Func} {c0 c1 : Code} {args : List Value} {E0 : Env} {Qv : Value → AHeap → Prop} {D : List FuncId} (tbl : Tbl) (hD : ∀ g ∈ D, NoopD P g) (hf : P.funcs[f]? = some fn) (hb : fn.body = some (.seq c0 c1)) (hm : P.follows .mixedOrders = true) (hok : codeOk tbl c0 = true)
    (hn : fn.ntmps = N) (hle : Nat.ble args.length N = true) (hE : argsE 0 args = E0) (h : EC P tbl N c0 (thenA (aw P c1 (bodyAD P D fn.results.toList Qv)) (bodyAD P D fn.results.toList Qv)) E0 H) : ACalls P f args.toArray H Qv := by
  have hle' := Nat.le_of_ble_eq_true hle
  refine acalls_of_awD hD hf hb (aw_seq (awC_sound hm c0 _ _ H hok (h _ ⟨⟨?_, rfl⟩, fun t v hl => ?_⟩)))
  · simp; omega
  · subst hE
    obtain ⟨_, h2⟩ := argsE_look args 0 t v hl
    rw [Nat.sub_zero] at h2
    have hlt := (List.getElem?_eq_some_iff.1 h2).1
    refine ⟨by omega, ?_⟩
    simp only [Act.eval, Array.getD_eq_getD_getElem?]
    rw [Array.getElem?_append_left (by simpa using hlt)]
    simp [h2]
end
/-- A tuple of such. -/
def flat2V : Value → Bool
  | .tuple cs => cs.all flatV
  | v => flatV v
theorem VR.of_flat2 {ρ : Ren} {v : Value} (h : flat2V v = true) : VR ρ v v := by
  cases v with
  | tuple cs =>
    refine .tuple rfl fun i x y hx hy => ?_
    rw [hx] at hy
    obtain rfl := Option.some.inj hy
    exact VR.of_flat (Array.all_eq_true_iff_forall_mem.1 h x (Array.mem_of_getElem? hx))
  | _ => exact VR.of_flat h
theorem VR.flat2_eq {ρ : Ren} {v v' : Value} (h : flat2V v = true) (hv : VR ρ v v') : v' = v := by
  cases v with
  | tuple cs =>
    cases hv with | tuple h1 h2 =>
    rename_i ds
    have : ds = cs := by
      apply Array.ext h1.symm
      intro i a b
      exact VR.flat_eq (Array.all_eq_true_iff_forall_mem.1 h _ (Array.getElem_mem b)) (h2 i _ _ (Array.getElem?_eq_getElem b) (Array.getElem?_eq_getElem a))
    rw [this]
  | _ => exact VR.flat_eq h hv
theorem ACalls.forget2 {P : Program} {f : FuncId} {args : Array Value} {H : AHeap} {Q : Value → Prop} (h : ACalls P f args H fun v H' => Q v ∧ flat2V v = true ∧ Keep No H H') : ACalls P f args H fun v H' => Q v ∧ H' = H :=
  fun ρ w cargs h1 h2 => (h ρ w cargs h1 h2).mono fun _ _ ⟨v, cv, ρ', H', a, ⟨b1, b2, b3⟩, c, d, e⟩ => ⟨v, cv, ρ, H, a, ⟨b1, rfl⟩, by
    have : cv = v := VR.flat2_eq b2 c
    subst this
    exact VR.of_flat2 b2, h1.forget d e b3, Ext.forget h1 e⟩
/-- Any number of results. -/
def RVs (P : Program) (N : Nat) (E : Env) (H : AHeap) : List ResultVar → List Value → Prop
  | [], [] => True
  | r :: rs, v :: vs => RV P N E H r v ∧ RVs P N E H rs vs
  | _, _ => False
theorem RVs.spec {P : Program} {N : Nat} {E : Env} {H : AHeap} {a : Act} (ha : Agree N E a) : ∀ {rs : List ResultVar} {vs : List Value}, RVs P N E H rs vs → resL P a H rs = some vs
  | [], [], _ => rfl
  | r :: rs, v :: vs, h => resL_cons (h.1 a ha) (RVs.spec ha h.2)
  | [], _ :: _, h => h.elim
  | _ :: _, [], h => h.elim
theorem x_endg {P : Program} {N : Nat} {E : Env} {H : AHeap} {rs : List ResultVar} {Qv : Value → AHeap → Prop} {e : Exit} (vs : List Value) (hr : RVs P N E H rs vs) (hq : Qv (bodyV vs) H) (he : e = .normal ∨ e = .ret := by first | exact .inl rfl | exact .inr rfl) : EX N (bodyA P rs Qv) e E H := by
  intro a ha
  refine ⟨he, ha.1.2, vs, hr.spec ha, ?_⟩
  cases vs with
  | nil => exact hq
  | cons v l => cases l with
    | nil => exact hq
    | cons _ _ => exact hq
end Go.Ae
set_option linter.unusedSimpArgs false
set_option linter.unusedVariables false
set_option maxRecDepth 100000
namespace Go.Ae
open Go.Proofs

def tbl222 : Tbl := [(4, [0, 1, 2, 3, 4, 5, 6, 7, 8, 9, 10, 11, 12, 13], [0, 0, 0, 0, 0, 16, 0, 64, 9, 265, 827, 1851, 4095, 8191])]
theorem follows3 : (Tryz.prog).follows .mixedOrders = true := by kernel_rfl
theorem eql20 (x y : Operand) (hx : ∃ t, x = .tmp t) (hy : y = .const .nilIface) : quiet Tryz.prog (do eqGuard .eql 20 x y .nilIface .nilIface; binOp .eql 20 .nilIface .nilIface) = some (.bool true) := by
  obtain ⟨t, rfl⟩ := hx
  subst hy
  kernel_rfl
theorem n_eql20 {a : Act} {H : AHeap} {d : Option Tmp} {yt ty : TypeId} {p : String} {af : Array Edge} {g : Option (Nat × Bool)} {x : Tmp} (hx : a.eval (.tmp x) = .nilIface) :
    nRes Tryz.prog a H ⟨d, .binOp .eql 20 (.tmp x) (.const .nilIface) yt, ty, p, af, g⟩ = some (.bool true, H) := by
  have hq : quiet Tryz.prog (execOp a.eval ⟨d, .binOp .eql 20 (.tmp x) (.const .nilIface) yt, ty, p, af, g⟩) = some (.value (.bool true)) := by
    have := eql20 (.tmp x) (.const .nilIface) ⟨x, rfl⟩ rfl
    simp only [execOp, hx, Act.eval_const]
    rw [quiet_bind, this]
    rfl
  have h2 : quietOp Tryz.prog a.eval ⟨d, .binOp .eql 20 (.tmp x) (.const .nilIface) yt, ty, p, af, g⟩ = some (.bool true) := quietOp_of (by simp [Op.operands, hx, Act.eval_const, simpleV]) hq rfl
  simp [nRes, aP, hx, Act.eval_const, simpleV, h2]
theorem noop86 : NoopD Tryz.prog 86 := by
  refine noop_of Tryz.func86 (by kernel_rfl) rfl rfl (by kernel_rfl) (by kernel_rfl) fun a H hd hn => ?_
  refine q_nil ?_
  refine awC_sound (tbl := []) follows3 _ _ _ _ (by kernel_rfl) ?_
  have h5 : (a.put (some 5) .nilIface).eval (.tmp 5) = .nilIface := by
    rw [Act.eval_put_tmp, if_pos]
    refine ⟨rfl, Nat.lt_of_lt_of_le ?_ hn⟩
    exact Nat.lt_of_lt_of_eq (show 5 < 13 by decide) (show 13 = (Tryz.f86).ntmps from rfl)
  refine c_block (c_seq (c_region (q_n (v := .bool true) (H' := H) rfl rfl (n_eql20 h5) (q_nil ?_))))
  refine c_true ?_ (c_region (q_n (v := _) (H' := H) rfl rfl rfl (q_nil ?_)))
  · show ((a.put (some 5) .nilIface).put (some 7) (.bool true)).eval (.tmp 7) = .bool true
    rw [Act.eval_put_tmp, if_pos]
    refine ⟨rfl, ?_⟩
    rw [Act.size_put]
    refine Nat.lt_of_lt_of_le ?_ hn
    exact Nat.lt_of_lt_of_eq (show 7 < 13 by decide) (show 13 = (Tryz.f86).ntmps from rfl)
  · exact ⟨.inl rfl, hd, rfl⟩
theorem caught_calls (H : AHeap) (u v x : Value) : ACalls Tryz.prog 222 #[.nilIface, u, v, x] H fun _ H' => H' = H := by
  refine acalls_of (tbl := tbl222) Tryz.func222 rfl follows3 (by kernel_rfl) (show 4 ≤ 31 by decide) fun a hn hd ha => ?_
  have h0 := ha 0 .nilIface rfl
  have e1 : (a.put (some 10) .nilIface).eval (.tmp 10) = .nilIface := by
    rw [Act.eval_put_tmp, if_pos]
    exact ⟨rfl, by rw [hn]; decide⟩
  have e2 : ((a.put (some 10) .nilIface).put (some 11) (.bool true)).eval (.tmp 11) = .bool true := by
    rw [Act.eval_put_tmp, if_pos]
    refine ⟨rfl, ?_⟩
    rw [Act.size_put, hn]; decide
  have n1 : nRes Tryz.prog a H ⟨some 10, .move (.tmp 0), 20, "text.go:88", #[], none⟩ = some (.nilIface, H) := by simp [nRes, aP, h0]
  refine c_seq (c_seq (c_seq (c_region (q_n (v := .nilIface) (H' := H) rfl rfl n1 (q_n (v := .bool true) (H' := H) rfl rfl (n_eql20 e1) (q_nil ?_))))))
  refine c_true e2 (c_ret ?_)
  exact ⟨.inr rfl, hd, [], rfl, rfl⟩
theorem noop221 : NoopD Tryz.prog 221 := by
  refine noop_of1 Tryz.func221 (by kernel_rfl) rfl rfl (by kernel_rfl) (by kernel_rfl) fun a H hd hn => ?_
  have e3 : (a.put (some 3) .nilIface).eval (.tmp 3) = .nilIface := by
    rw [Act.eval_put_tmp, if_pos]
    refine ⟨rfl, Nat.lt_of_lt_of_le ?_ hn⟩
    exact Nat.lt_of_lt_of_eq (show 3 < 5 by decide) (show 5 = (Tryz.f221).ntmps from rfl)
  refine q_call (f := 222) (args := #[.nilIface, (a.put (some 3) .nilIface).eval (.tmp 0), (a.put (some 3) .nilIface).eval (.tmp 1), (a.put (some 3) .nilIface).eval (.tmp 2)]) rfl rfl ?_ ?_
  · have hb : (Tryz.f222.name == "runtime.NumGoroutine" || Tryz.f222.body.isNone) = false := by kernel_rfl
    show acall Tryz.prog (a.put (some 3) .nilIface).eval _ = _
    simp [acall, Act.eval_func, Tryz.func222, hb, e3]
  · exact (caught_calls H _ _ _).mono fun v H' h => q_nil ⟨hd, h⟩
end Go.Ae

/- The evaluator of functions: what it finds is what a call comes to. No condition. -/
import Derived.Test.YtmibkoadjehdaaaGreatDoorKy33
set_option linter.unusedVariables false
set_option linter.unusedSimpArgs false
namespace Go.Ae
noncomputable def memN (g : Nat) (l : List Nat) : Bool := List.rec (motive := fun _ => Bool) false (fun x _ ih => Bool.rec (motive := fun _ => Bool) ih true (Nat.beq x g)) l
theorem memN_spec {g : Nat} : ∀ {l : List Nat}, memN g l = true → g ∈ l
  | [], h => by cases h
  | x :: l, h => by
    have e : memN g (x :: l) = Bool.rec (motive := fun _ => Bool) (memN g l) true (Nat.beq x g) := rfl
    rw [e] at h
    cases hx : Nat.beq x g with
    | true => rw [Nat.eq_of_beq_eq_true hx]; simp
    | false => rw [hx] at h; exact List.mem_cons_of_mem _ (memN_spec h)
def isDfO : AObj → Bool
  | .opq (.deferred (some [])) => true
  | _ => false
theorem isDfO_spec {o : AObj} (h : isDfO o = true) : o = dfObj := by
  unfold isDfO at h
  split at h
  · rfl
  · cases h
noncomputable def dfK (D : List FuncId) (l : Df) : CH → (CH → Rs) → Rs :=
  List.rec (motive := fun _ => CH → (CH → Rs) → Rs) (fun h K => K h) (fun d _ ih h K => Dfx.rec (motive := fun _ => Rs) (fun g => ifB (memN g D) (ih h K)) (fun i => optK (getO h.t i) fun o => ifB (isDfO o) (putRow h i (.opq (.deferred none)) fun h => ih h K)) d) l
theorem dfK_ok {P : Program} {D : List FuncId} {K : CH → Rs} {z : Rs} : ∀ {l : Df} {h : CH}, Res P (dfK D l h K) z → ∃ h2, Res P (K h2) z ∧ ∀ (Kp : AHeap → Prop) (ds : List Deferred), All2 DfOne ds l → Kp (toH h2) → leavesA D Kp ds (toH h)
  | [], h, hk => ⟨h, hk, fun Kp ds hd hK => by cases hd; exact hK⟩
  | x :: l, h, hk => by
    cases x with
    | fn g =>
      have hk' : Res P (ifB (memN g D) (dfK D l h K)) z := hk
      obtain ⟨hm, hk2⟩ := ifB_ok hk'
      obtain ⟨h2, hk3, hall⟩ := dfK_ok hk2
      refine ⟨h2, hk3, fun Kp ds hd hK => ?_⟩
      cases hd with
      | cons h1 h3 =>
        obtain ⟨cap, hc⟩ := h1
        exact .inl ⟨⟨g, cap, hc, memN_spec hm⟩, hall Kp _ h3 hK⟩
    | col i =>
      have hk' : Res P (optK (getO h.t i) (fun o => ifB (isDfO o) (putRow h i (.opq (.deferred none)) fun h => dfK D l h K))) z := hk
      obtain ⟨o, ho, hk2⟩ := optK_ok hk'
      obtain ⟨hd, hk3⟩ := ifB_ok hk2
      obtain ⟨h3, hk4, hh⟩ := putRow_ok hk3
      have := isDfO_spec hd
      subst this
      obtain ⟨h2, hk5, hall⟩ := dfK_ok hk4
      refine ⟨h2, hk5, fun Kp ds hd hK => ?_⟩
      cases hd with
      | cons h1 h4 => exact .inr ⟨i, h1, ho, by rw [← hh]; exact hall Kp _ h4 hK⟩
noncomputable def resK (l : List ResultVar) : Program → TV → CH → (List Value → Rs) → Rs :=
  List.rec (motive := fun _ => Program → TV → CH → (List Value → Rs) → Rs) (fun _ _ _ K => K [])
    (fun r _ ih P fr h K => ResultVar.rec (motive := fun _ => Rs) (fun t => forceS (evX (.tmp t) fr) fun v => ih P fr h fun l => K (v :: l)) (fun t ty => ptrK (evX (.tmp t) fr) fun a => loadK P h ty a fun v => forceS v fun v => ih P fr h fun l => K (v :: l)) r) l
theorem resK_ok {P : Program} {fr : TV} {h : CH} {z : Rs} : ∀ {rs : List ResultVar} {K : List Value → Rs}, Res P (resK rs P fr h K) z → ∃ l, Res P (K l) z ∧ ∀ (N : Nat) (a : Act), FR N fr a → resL P a (toH h) rs = some l
  | [], K, hk => ⟨[], hk, fun _ _ _ => rfl⟩
  | .tmp t :: rs, K, hk => by
    have hk' : Res P (forceS (evX (.tmp t) fr) (fun v => resK rs P fr h fun l => K (v :: l))) z := hk
    rw [forceS_eq] at hk'
    obtain ⟨l, h1, h2⟩ := resK_ok hk'
    exact ⟨_, h1, fun N a hf => by simp only [resL, h2 N a hf, Option.map_some]; rw [hf.val]; rfl⟩
  | .cell t ty :: rs, K, hk => by
    have hk' : Res P (ptrK (evX (.tmp t) fr) (fun a => loadK P h ty a fun v => forceS v fun v => resK rs P fr h fun l => K (v :: l))) z := hk
    rcases ptrK_spec (evX (.tmp t) fr) (fun a => loadK P h ty a fun v => forceS v fun v => resK rs P fr h fun l => K (v :: l)) with e1 | ⟨ad, hx, e1⟩
    · rw [e1] at hk'; cases hk'
    rw [e1] at hk'
    rcases loadK_spec P h ty ad (fun v => forceS v fun v => resK rs P fr h fun l => K (v :: l)) with e2 | ⟨v, hv, e2⟩
    · rw [e2] at hk'; cases hk'
    rw [e2, forceS_eq] at hk'
    obtain ⟨l, h1, h2⟩ := resK_ok hk'
    refine ⟨v :: l, h1, fun N a hf => ?_⟩
    have hx2 := hx
    rw [hf.val] at hx2
    have hx' : a.tmps.getD t undef = .pointer (some ad) := hx2
    simp only [resL, hx', hv, h2 N a hf]
def isEnd : Exit → Bool
  | .normal => true
  | .ret => true
  | _ => false
theorem isEnd_spec {e : Exit} (h : isEnd e = true) : e = .normal ∨ e = .ret := by cases e <;> first | exact .inl rfl | exact .inr rfl | cases h
/-- The program, the orders, the deferred functions that do nothing, the function that hands back its argument; the functions whose calls are asked for, the slots that are. -/
structure Cfg where
  P : Program
  tbl : Tr Tbl
  D : List FuncId
  ne : FuncId
  X : List FuncId
  Z : List (FuncId × List Tmp)
noncomputable def zOf (l : List (FuncId × List Tmp)) (f : FuncId) : List Tmp := List.rec (motive := fun _ => List Tmp) [] (fun p _ ih => Bool.rec (motive := fun _ => List Tmp) ih p.2 (Nat.beq p.1 f)) l
noncomputable def getB (t : Tr Tbl) : Nat → Option Tbl :=
  Tr.rec (motive := fun _ => Nat → Option Tbl) (fun _ => none)
    (fun _ x _ gl gr k => Nat.rec (motive := fun _ => Option Tbl) x (fun k _ => Nat.rec (motive := fun _ => Option Tbl) (gl (Nat.div k 2)) (fun _ _ => gr (Nat.div k 2)) (Nat.mod k 2)) k) t
noncomputable def bodyE (C : Cfg) (Y : YF) (B : YF → Fun) (f : FuncId) (args : List Value) (h : CH) (K : Value → CH → Rs) : Rs :=
  optK (C.P.funcs[f]?) fun fn => optK fn.body fun c => optK (getB C.tbl f) fun tb => ifB (Nat.ble (listLen args) fn.ntmps) (putL args 0 .e fun fr => onOk (codeE c none C.P ⟨fn.ntmps, B noY, C.ne, tb, Y, B, f, zOf C.Z f⟩ fr [] h none) fun e fr df h _ =>
    ifB (isEnd e) (dfK C.D df h fun h => resK fn.results.toList C.P fr h fun l => K (retV l) h))
noncomputable def funcE (C : Cfg) (n : Nat) : YF → Fun :=
  Nat.rec (motive := fun _ => YF → Fun) (fun _ _ _ _ _ => .bad) (fun _ B Y f args h K => Bool.rec (motive := fun _ => Rs) (bodyE C Y B f args h K) (.ask f args h K) (memN f C.X)) n

/-! ### What is asked of the program -/
def nRf : Code → Nat
  | .seq a b => nRf a + nRf b
  | .cond _ a b => nRf a + nRf b
  | .block _ c => nRf c
  | .loop c => nRf c
  | .scope c => nRf c
  | .rangeFunc _ _ asv bd => nRf asv + nRf bd + 1
  | _ => 0
theorem rf_zero (P : Program) (k : FuncId) : ∀ (c : Code), nRf c = 0 → rfOf c = none ∧ RfP P k c
  | .seq a b, h => by
    simp only [nRf] at h
    obtain ⟨h1, h2⟩ := rf_zero P k a (by omega)
    obtain ⟨h3, h4⟩ := rf_zero P k b (by omega)
    exact ⟨by simp only [rfOf, h1, h3], h2, h4⟩
  | .cond _ a b, h => by
    simp only [nRf] at h
    obtain ⟨h1, h2⟩ := rf_zero P k a (by omega)
    obtain ⟨h3, h4⟩ := rf_zero P k b (by omega)
    exact ⟨by simp only [rfOf, h1, h3], h2, h4⟩
  | .block _ c, h => rf_zero P k c h
  | .loop c, h => rf_zero P k c h
  | .scope c, h => rf_zero P k c h
  | .rangeFunc _ _ asv bd, h => by simp only [nRf] at h; omega
  | .region .., _ => ⟨rfl, trivial⟩
  | .skip, _ => ⟨rfl, trivial⟩
  | .label _, _ => ⟨rfl, trivial⟩
  | .goto _, _ => ⟨rfl, trivial⟩
  | .exit _, _ => ⟨rfl, trivial⟩
  | .ret, _ => ⟨rfl, trivial⟩
  | .refuse _, _ => ⟨rfl, trivial⟩
theorem rf_one {P : Program} {k : FuncId} : ∀ (c : Code), nRf c ≤ 1 → (∀ q, rfOf c = some q → rfP P k = some q) → RfP P k c
  | .seq a b, h, hq => by
    simp only [nRf] at h
    refine ⟨rf_one a (by omega) fun q e => hq q (by simp only [rfOf, e]), ?_⟩
    by_cases h0 : nRf a = 0
    · exact rf_one b (by omega) fun q e => hq q (by simp only [rfOf, (rf_zero P k a h0).1, e])
    · exact (rf_zero P k b (by omega)).2
  | .cond _ a b, h, hq => by
    simp only [nRf] at h
    refine ⟨rf_one a (by omega) fun q e => hq q (by simp only [rfOf, e]), ?_⟩
    by_cases h0 : nRf a = 0
    · exact rf_one b (by omega) fun q e => hq q (by simp only [rfOf, (rf_zero P k a h0).1, e])
    · exact (rf_zero P k b (by omega)).2
  | .block _ c, h, hq => rf_one c h hq
  | .loop c, h, hq => rf_one c h hq
  | .scope c, h, hq => rf_one c h hq
  | .rangeFunc _ ps asv bd, h, hq => by
    simp only [nRf] at h
    exact ⟨hq _ rfl, (rf_zero P k asv (by omega)).2, (rf_zero P k bd (by omega)).2⟩
  | .region .., _, _ => trivial
  | .skip, _, _ => trivial
  | .label _, _, _ => trivial
  | .goto _, _, _ => trivial
  | .exit _, _, _ => trivial
  | .ret, _, _ => trivial
  | .refuse _, _, _ => trivial
/-- A function's text. -/
def okF (tb : Tbl) (fn : Func) : Bool := !(fn.name == "runtime.NumGoroutine") && match fn.body with
  | some c => okC tb false c && Nat.ble (nRf c) 1
  | none => true
structure CfgOk (C : Cfg) : Prop where
  mixed : C.P.follows .mixedOrders = true
  fn : ∀ f fn tb, C.P.funcs[f]? = some fn → getB C.tbl f = some tb → okF tb fn = true
  noop : ∀ g ∈ C.D, NoopD C.P g
  ne : isNoEscape C.P C.ne = true
  x : ∀ f ∈ C.X, ∃ fn, C.P.funcs[f]? = some fn ∧ (fn.name == "runtime.NumGoroutine") = false ∧ fn.body.isNone = false
theorem bodyE_ok {C : Cfg} (hC : CfgOk C) {Y : YF} {B : YF → Fun} (hY : YOk C.P Y) (hB : BOk C.P B) : FunOk C.P fun f args h K => bodyE C Y B f args h K := by
  intro f args h K z hb
  have hb : Res C.P (bodyE C Y B f args h K) z := hb
  unfold bodyE at hb
  obtain ⟨fn, hfn, hb1⟩ := optK_ok hb
  obtain ⟨c, hc, hb2⟩ := optK_ok hb1
  obtain ⟨tb, htb, hb3⟩ := optK_ok hb2
  obtain ⟨hle, hb4⟩ := ifB_ok hb3
  clear hb hb1 hb2 hb3
  rw [listLen_eq, Nat.ble_eq] at hle
  have hok := hC.fn f fn tb hfn htb
  simp only [okF, hc, Bool.and_eq_true, Bool.not_eq_true', Nat.ble_eq] at hok
  refine ⟨⟨fn, hfn, hok.1, by rw [hc]; rfl⟩, ?_⟩
  rcases putL_spec args 0 .e (fun fr => onOk (codeE c none C.P ⟨fn.ntmps, B noY, C.ne, tb, Y, B, f, zOf C.Z f⟩ fr [] h none) fun e fr df h _ =>
    ifB (isEnd e) (dfK C.D df h fun h => resK fn.results.toList C.P fr h fun l => K (retV l) h)) with e1 | ⟨fr1, e1, hfr1⟩
  · rw [e1] at hb4; cases hb4
  rw [e1] at hb4
  obtain ⟨ec, frc, dfc, hh1, yc, gc, hb5⟩ := onOk_ok hb4
  obtain ⟨hend, hb6⟩ := ifB_ok hb5
  clear hb4 hb5
  obtain ⟨h2, hk2, hall⟩ := dfK_ok hb6
  obtain ⟨l, hk3, hl⟩ := resK_ok hk2
  refine ⟨retV l, h2, ?_, hk3⟩
  refine acalls_of_awM hC.noop hfn hc ?_
  have hrf : RfP C.P f c := rf_one c hok.2.2 fun q hq => by simp only [rfP, hfn, Option.bind_some, hc, hq]
  have hE : EnvOk C.P ⟨fn.ntmps, B noY, C.ne, tb, Y, B, f, zOf C.Z f⟩ := ⟨⟨hB noY (fun _ _ _ _ _ h => by cases h), hC.ne⟩, hY, hB⟩
  have key := codeE_sound (tbl := tb) (k := f) hC.mixed c false none ⟨fn.ntmps, B noY, C.ne, tb, Y, B, f, zOf C.Z f⟩ none fr1 _ [] h none ec frc dfc hh1 yc c hok.2.1 hrf (.inr rfl) hE rfl rfl ⟨FR.enter hle hfr1, .nil⟩ gc rfl
  refine aw_mono (awF_none.1 key) fun e2 a2 H2 ⟨he2, hs2, hH2⟩ => ?_
  subst he2 hH2
  exact ⟨isEnd_spec hend, hall _ _ hs2.df ⟨l, hl _ _ hs2.fr, rfl, rfl⟩⟩
theorem funcE_ok {C : Cfg} (hC : CfgOk C) : ∀ n, BOk C.P (funcE C n)
  | 0 => fun Y _ f args h K z hr => by cases hr
  | n + 1 => fun Y hY f args h K z hr => by
    have hr' : Res C.P (Bool.rec (motive := fun _ => Rs) (bodyE C Y (funcE C n) f args h K) (.ask f args h K) (memN f C.X)) z := hr
    cases hm : memN f C.X with
    | false =>
      rw [hm] at hr'
      exact bodyE_ok hC hY (funcE_ok hC n) f args h K z hr'
    | true =>
      rw [hm] at hr'
      cases hr' with
      | ask hA hr => exact ⟨hC.x f (memN_spec hm), _, _, hA, hr⟩
end Go.Ae

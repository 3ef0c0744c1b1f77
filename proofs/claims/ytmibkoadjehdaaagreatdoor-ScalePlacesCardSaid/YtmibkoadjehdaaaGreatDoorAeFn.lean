/- The evaluator of functions: what it finds is what a call comes to. No condition. -/
import Derived.Test.YtmibkoadjehdaaaGreatDoorAeCd
namespace Go.Ae
noncomputable def memN (g : Nat) (l : List Nat) : Bool := List.rec (motive := fun _ => Bool) false (fun x _ ih => Bool.rec (motive := fun _ => Bool) ih true (Nat.beq x g)) l
theorem memN_spec {g : Nat} : ∀ {l : List Nat}, memN g l = true → g ∈ l
  | [], h => by cases h
  | x :: l, h => by
    have e : memN g (x :: l) = Bool.rec (motive := fun _ => Bool) (memN g l) true (Nat.beq x g) := rfl
    rw [e] at h
    cases hx : Nat.beq x g with
    | true => rw [Nat.eq_of_beq_eq_true hx]; simp
    | false => rw [hx] at h; exact List.mem_cons_of_mem _ (memN_spec h)
def isDfO : AObj → Bool
  | .opq (.deferred (some [])) => true
  | _ => false
theorem isDfO_spec {o : AObj} (h : isDfO o = true) : o = dfObj := by
  unfold isDfO at h
  split at h
  · rfl
  · cases h
noncomputable def dfK (D : List FuncId) (l : Df) : CH → (CH → Rs) → Rs :=
  List.rec (motive := fun _ => CH → (CH → Rs) → Rs) (fun h K => K h) (fun d _ ih h K => Dfx.rec (motive := fun _ => Rs) (fun g => ifB (memN g D) (ih h K)) (fun i => optK (getO h.t i) fun o => ifB (isDfO o) (putRow h i (.opq (.deferred none)) fun h => ih h K)) d) l
theorem dfK_ok {D : List FuncId} {K : CH → Rs} {Kp : AHeap → Prop} {e : Exit} {fr : TV} {df : Df} {h' : CH} {y : YS} : ∀ {l : Df} {ds : List Deferred} {h : CH}, All2 DfOne ds l → dfK D l h K = .ok e fr df h' y → (∀ h2, K h2 = .ok e fr df h' y → Kp (toH h2)) → leavesA D Kp ds (toH h)
  | [], [], h, _, hk, hK => hK h hk
  | x :: l, d :: ds, h, .cons h1 h2, hk, hK => by
    cases x with
    | fn g =>
      have hk' : ifB (memN g D) (dfK D l h K) = .ok e fr df h' y := hk
      obtain ⟨hm, hk2⟩ := ifB_ok hk'
      obtain ⟨cap, hc⟩ := h1
      exact .inl ⟨⟨g, cap, hc, memN_spec hm⟩, dfK_ok h2 hk2 hK⟩
    | col i =>
      have hk' : optK (getO h.t i) (fun o => ifB (isDfO o) (putRow h i (.opq (.deferred none)) fun h => dfK D l h K)) = .ok e fr df h' y := hk
      obtain ⟨o, ho, hk2⟩ := optK_ok hk'
      obtain ⟨hd, hk3⟩ := ifB_ok hk2
      obtain ⟨h3, hk4, hh⟩ := putRow_ok hk3
      have := isDfO_spec hd
      subst this
      exact .inr ⟨i, h1, ho, by rw [← hh]; exact dfK_ok h2 hk4 hK⟩
noncomputable def resK (l : List ResultVar) : Program → TV → CH → (List Value → Rs) → Rs :=
  List.rec (motive := fun _ => Program → TV → CH → (List Value → Rs) → Rs) (fun _ _ _ K => K [])
    (fun r _ ih P fr h K => ResultVar.rec (motive := fun _ => Rs) (fun t => forceV (evX (.tmp t) fr) fun v => ih P fr h fun l => K (v :: l)) (fun t ty => ptrK (evX (.tmp t) fr) fun a => loadK P h ty a fun v => forceV v fun v => ih P fr h fun l => K (v :: l)) r) l
theorem resK_ok {P : Program} {N : Nat} {fr : TV} {a : Act} {h : CH} (hf : FR N fr a) {e : Exit} {fr' : TV} {df' : Df} {h' : CH} {y' : YS} : ∀ {rs : List ResultVar} {K : List Value → Rs}, resK rs P fr h K = .ok e fr' df' h' y' → ∃ l, resL P a (toH h) rs = some l ∧ K l = .ok e fr' df' h' y'
  | [], K, hk => ⟨[], rfl, hk⟩
  | .tmp t :: rs, K, hk => by
    have hk' : forceV (evX (.tmp t) fr) (fun v => resK rs P fr h fun l => K (v :: l)) = .ok e fr' df' h' y' := hk
    rw [forceV_eq] at hk'
    obtain ⟨l, h1, h2⟩ := resK_ok hf hk'
    exact ⟨_, by simp only [resL, h1, Option.map_some]; rfl, by rw [hf.val] at h2; exact h2⟩
  | .cell t ty :: rs, K, hk => by
    have hk' : ptrK (evX (.tmp t) fr) (fun a => loadK P h ty a fun v => forceV v fun v => resK rs P fr h fun l => K (v :: l)) = .ok e fr' df' h' y' := hk
    rcases ptrK_spec (evX (.tmp t) fr) (fun a => loadK P h ty a fun v => forceV v fun v => resK rs P fr h fun l => K (v :: l)) with e1 | ⟨ad, hx, e1⟩
    · rw [e1] at hk'; cases hk'
    rw [e1] at hk'
    rcases loadK_spec P h ty ad (fun v => forceV v fun v => resK rs P fr h fun l => K (v :: l)) with e2 | ⟨v, hv, e2⟩
    · rw [e2] at hk'; cases hk'
    rw [e2, forceV_eq] at hk'
    obtain ⟨l, h1, h2⟩ := resK_ok hf hk'
    rw [hf.val] at hx
    have hx' : a.tmps.getD t undef = .pointer (some ad) := hx
    exact ⟨v :: l, by simp only [resL, hx', hv, h1], h2⟩
def isEnd : Exit → Bool
  | .normal => true
  | .ret => true
  | _ => false
theorem isEnd_spec {e : Exit} (h : isEnd e = true) : e = .normal ∨ e = .ret := by cases e <;> first | exact .inl rfl | exact .inr rfl | cases h
/-- The program, the orders, the deferred functions that do nothing, the function that hands back its argument. -/
structure Cfg where
  P : Program
  tbl : Tr Tbl
  D : List FuncId
  ne : FuncId
noncomputable def getB (t : Tr Tbl) : Nat → Option Tbl :=
  Tr.rec (motive := fun _ => Nat → Option Tbl) (fun _ => none)
    (fun _ x _ gl gr k => Nat.rec (motive := fun _ => Option Tbl) x (fun k _ => Nat.rec (motive := fun _ => Option Tbl) (gl (Nat.div k 2)) (fun _ _ => gr (Nat.div k 2)) (Nat.mod k 2)) k) t
noncomputable def bodyE (C : Cfg) (Y : YF) (B : YF → Fun) (f : FuncId) (args : List Value) (h : CH) : Rs :=
  optK (C.P.funcs[f]?) fun fn => optK fn.body fun c => optK (getB C.tbl f) fun tb => ifB (Nat.ble (listLen args) fn.ntmps) (putL args 0 .e fun fr => onOk (codeE c none C.P ⟨fn.ntmps, B noY, C.ne, tb, Y, B, f⟩ fr [] h none) fun e fr df h _ =>
    ifB (isEnd e) (dfK C.D df h fun h => resK fn.results.toList C.P fr h fun l => .ok .normal (.n .e (some (retV l)) .e) [] h none))
noncomputable def outR (r : Rs) : Option (Value × CH) := Rs.rec (motive := fun _ => Option (Value × CH)) none (fun _ fr _ h _ => Option.rec (motive := fun _ => Option (Value × CH)) none (fun v => some (v, h)) (getV fr 0)) r
noncomputable def funcE (C : Cfg) (n : Nat) : YF → Fun :=
  Nat.rec (motive := fun _ => YF → Fun) (fun _ _ _ _ => none) (fun _ B Y f args h => outR (bodyE C Y B f args h)) n

/-! ### What is asked of the program -/
def nRf : Code → Nat
  | .seq a b => nRf a + nRf b
  | .cond _ a b => nRf a + nRf b
  | .block _ c => nRf c
  | .loop c => nRf c
  | .scope c => nRf c
  | .rangeFunc _ _ as bd => nRf as + nRf bd + 1
  | _ => 0
theorem rf_zero (P : Program) (k : FuncId) : ∀ (c : Code), nRf c = 0 → rfOf c = none ∧ RfP P k c
  | .seq a b, h => by
    simp only [nRf] at h
    obtain ⟨h1, h2⟩ := rf_zero P k a (by omega)
    obtain ⟨h3, h4⟩ := rf_zero P k b (by omega)
    exact ⟨by simp only [rfOf, h1, h3], h2, h4⟩
  | .cond _ a b, h => by
    simp only [nRf] at h
    obtain ⟨h1, h2⟩ := rf_zero P k a (by omega)
    obtain ⟨h3, h4⟩ := rf_zero P k b (by omega)
    exact ⟨by simp only [rfOf, h1, h3], h2, h4⟩
  | .block _ c, h => rf_zero P k c h
  | .loop c, h => rf_zero P k c h
  | .scope c, h => rf_zero P k c h
  | .rangeFunc _ _ as bd, h => by simp only [nRf] at h; omega
  | .region .., _ => ⟨rfl, trivial⟩
  | .skip, _ => ⟨rfl, trivial⟩
  | .label _, _ => ⟨rfl, trivial⟩
  | .goto _, _ => ⟨rfl, trivial⟩
  | .exit _, _ => ⟨rfl, trivial⟩
  | .ret, _ => ⟨rfl, trivial⟩
  | .refuse _, _ => ⟨rfl, trivial⟩
theorem rf_one {P : Program} {k : FuncId} : ∀ (c : Code), nRf c ≤ 1 → (∀ q, rfOf c = some q → rfP P k = some q) → RfP P k c
  | .seq a b, h, hq => by
    simp only [nRf] at h
    refine ⟨rf_one a (by omega) fun q e => hq q (by simp only [rfOf, e]), ?_⟩
    by_cases h0 : nRf a = 0
    · exact rf_one b (by omega) fun q e => hq q (by simp only [rfOf, (rf_zero P k a h0).1, e])
    · exact (rf_zero P k b (by omega)).2
  | .cond _ a b, h, hq => by
    simp only [nRf] at h
    refine ⟨rf_one a (by omega) fun q e => hq q (by simp only [rfOf, e]), ?_⟩
    by_cases h0 : nRf a = 0
    · exact rf_one b (by omega) fun q e => hq q (by simp only [rfOf, (rf_zero P k a h0).1, e])
    · exact (rf_zero P k b (by omega)).2
  | .block _ c, h, hq => rf_one c h hq
  | .loop c, h, hq => rf_one c h hq
  | .scope c, h, hq => rf_one c h hq
  | .rangeFunc _ ps as bd, h, hq => by
    simp only [nRf] at h
    exact ⟨hq _ rfl, (rf_zero P k as (by omega)).2, (rf_zero P k bd (by omega)).2⟩
  | .region .., _, _ => trivial
  | .skip, _, _ => trivial
  | .label _, _, _ => trivial
  | .goto _, _, _ => trivial
  | .exit _, _, _ => trivial
  | .ret, _, _ => trivial
  | .refuse _, _, _ => trivial
/-- A function's text. -/
def okF (tb : Tbl) (fn : Func) : Bool := !(fn.name == "runtime.NumGoroutine") && match fn.body with
  | some c => okC tb false c && Nat.ble (nRf c) 1
  | none => true
structure CfgOk (C : Cfg) : Prop where
  mixed : C.P.follows .mixedOrders = true
  fn : ∀ f fn tb, C.P.funcs[f]? = some fn → getB C.tbl f = some tb → okF tb fn = true
  noop : ∀ g ∈ C.D, NoopD C.P g
  ne : isNoEscape C.P C.ne = true
theorem bodyE_ok {C : Cfg} (hC : CfgOk C) {Y : YF} {B : YF → Fun} (hY : YOk C.P Y) (hB : BOk C.P B) : FunOk C.P fun f args h => outR (bodyE C Y B f args h) := by
  intro f args h v h' hr
  obtain ⟨e0, fr0, df0, y0, hb, hv⟩ : ∃ e fr df y, bodyE C Y B f args h = .ok e fr df h' y ∧ getV fr 0 = some v := by
    cases hb : bodyE C Y B f args h with
    | bad => simp only [hb] at hr; cases hr
    | ok e fr df h1 y =>
      simp only [hb] at hr
      have hr' : Option.rec (motive := fun _ => Option (Value × CH)) none (fun v => some (v, h1)) (getV fr 0) = some (v, h') := hr
      cases hg : getV fr 0 with
      | none => rw [hg] at hr'; cases hr'
      | some v1 =>
        rw [hg] at hr'
        simp only [Option.some.injEq, Prod.mk.injEq] at hr'
        obtain ⟨rfl, rfl⟩ := hr'
        exact ⟨e, fr, df, y, rfl, hg⟩
  unfold bodyE at hb
  obtain ⟨fn, hfn, hb1⟩ := optK_ok hb
  obtain ⟨c, hc, hb2⟩ := optK_ok hb1
  obtain ⟨tb, htb, hb3⟩ := optK_ok hb2
  obtain ⟨hle, hb4⟩ := ifB_ok hb3
  clear hb hb1 hb2 hb3
  rw [listLen_eq, Nat.ble_eq] at hle
  have hok := hC.fn f fn tb hfn htb
  simp only [okF, hc, Bool.and_eq_true, Bool.not_eq_true', Nat.ble_eq] at hok
  refine ⟨⟨fn, hfn, hok.1, by rw [hc]; rfl⟩, ?_⟩
  rcases putL_spec args 0 .e (fun fr => onOk (codeE c none C.P ⟨fn.ntmps, B noY, C.ne, tb, Y, B, f⟩ fr [] h none) fun e fr df h _ =>
    ifB (isEnd e) (dfK C.D df h fun h => resK fn.results.toList C.P fr h fun l => .ok .normal (.n .e (some (retV l)) .e) [] h none)) with e1 | ⟨fr1, e1, hfr1⟩
  · rw [e1] at hb4; cases hb4
  rw [e1] at hb4
  obtain ⟨ec, frc, dfc, hh1, yc, gc, hb5⟩ := onOk_ok hb4
  obtain ⟨hend, hb6⟩ := ifB_ok hb5
  clear hb4 hb5
  refine acalls_of_awM hC.noop hfn hc ?_
  have hrf : RfP C.P f c := rf_one c hok.2.2 fun q hq => by simp only [rfP, hfn, Option.bind_some, hc, hq]
  have hE : EnvOk C.P ⟨fn.ntmps, B noY, C.ne, tb, Y, B, f⟩ := ⟨⟨hB noY (fun _ _ _ _ _ h => by cases h), hC.ne⟩, hY, hB⟩
  have key := codeE_sound (tbl := tb) (k := f) hC.mixed c false none ⟨fn.ntmps, B noY, C.ne, tb, Y, B, f⟩ none fr1 _ [] h none ec frc dfc hh1 yc c hok.2.1 hrf (.inr rfl) hE rfl rfl ⟨FR.enter hle hfr1, .nil⟩ gc rfl
  refine aw_mono (awF_none.1 key) fun e2 a2 H2 ⟨he2, hs2, hH2⟩ => ?_
  subst he2 hH2
  refine ⟨isEnd_spec hend, dfK_ok hs2.df hb6 fun h2 hk => ?_⟩
  obtain ⟨l, hl, hk2⟩ := resK_ok hs2.fr hk
  simp only [Rs.ok.injEq] at hk2
  obtain ⟨_, rfl, _, rfl, _⟩ := hk2
  refine ⟨l, hl, ?_, rfl⟩
  rw [getV_zero] at hv
  exact Option.some.inj hv
theorem funcE_ok {C : Cfg} (hC : CfgOk C) : ∀ n, BOk C.P (funcE C n)
  | 0 => fun Y _ f args h v h' hr => by cases hr
  | n + 1 => fun Y hY => bodyE_ok hC hY (funcE_ok hC n)
end Go.Ae

/- What the program's variables hold when the function is called. Conditions: those that the statement names. -/
import Derived.Test.YtmibkoadjehdaaaGreatDoorAeEx
import Derived.Test.YtmibkoadjehdaaaGreatDoorAeImp
import Derived.OpenShut
import Derived.FnData
import Derived.LaidMore
import Derived.Stop.Joined
import Derived.ShapedOpen
namespace Go.Ae
open Go.Proofs Go.Proofs.YtmibkoadjehdaaaGreatDoor
set_option maxRecDepth 100000
/-! ### The cells of a datum without an address -/
def flatParts {α : Type} (P : Program) (f : TypeId → DataW Unit → Option (List Value)) (off : α → Nat) (ty : α → TypeId) : Nat → List α → List (DataW Unit) → Option (List Value)
  | _, [], [] => some []
  | o, x :: xs, d :: ds => if off x = o then match f (ty x) d with
      | some l => if l.length = P.cellsOf (ty x) then (flatParts P f off ty (o + P.cellsOf (ty x)) xs ds).map (l ++ ·) else none
      | none => none
    else none
  | _, _, _ => none
def flatT (P : Program) : Nat → TypeId → DataW Unit → Option (List Value)
  | 0, _, _ => none
  | n + 1, t, d => match P.underlying t, d with
    | some (.int k), .lit (.int k' z) => if k = k' then some [.int k z] else none
    | some .string, .lit (.string l) => some [.string ⟨l.toArray⟩]
    | some (.struct fs), .agg ds => flatParts P (flatT P n) (fun f : Field => f.offset) (fun f : Field => f.type) 0 fs.toList ds
    | some (.array m e), .agg ds => flatParts P (flatT P n) (fun i => i * P.cellsOf e) (fun _ => e) 0 (List.range m) ds
    | _, _ => none
theorem flatParts_spec {α : Type} {P : Program} {f : TypeId → DataW Unit → Option (List Value)} {off : α → Nat} {ty : α → TypeId} {W : World} {m : Nat} {cs : List Value}
    (hf : ∀ t cs d ps l, DataW.trod (fun _ => ()) P W 0 (fun _ => true) false m t cs = some (d, ps) → f t d = some l → cs.take l.length = l) :
    ∀ (L : List α) (xs : List (DataW Unit × List MemPlace)) (o : Nat) (l : List Value), (∀ (i : Nat) (x : α), L[i]? = some x → DataW.trod (fun _ => ()) P W 0 (fun _ => true) false m (ty x) ((cs.drop (off x)).take (P.cellsOf (ty x))) = xs[i]?) →
      flatParts P f off ty o L (xs.map (·.1)) = some l → (cs.drop o).take l.length = l
  | [], [], o, l, _, h => by
    simp only [flatParts, List.map_nil, Option.some.injEq] at h
    subst h
    rfl
  | [], _ :: _, o, l, _, h => by simp [flatParts] at h
  | _ :: _, [], o, l, _, h => by simp [flatParts] at h
  | x :: L, y :: xs, o, l, hx, h => by
    simp only [flatParts, List.map_cons] at h
    split at h
    case isFalse => cases h
    rename_i ho
    split at h
    case h_2 => cases h
    rename_i l0 hl0
    split at h
    case isFalse => cases h
    rename_i hlen
    simp only [Option.map_eq_some_iff] at h
    obtain ⟨l1, h1, rfl⟩ := h
    have h0 := hx 0 x rfl
    rw [List.getElem?_cons_zero] at h0
    have e0 := hf _ _ _ y.2 _ h0 hl0
    rw [ho, List.take_take, hlen, Nat.min_self] at e0
    have e1 := flatParts_spec hf L xs _ l1 (fun i x hi => by have := hx (i + 1) x (by simpa using hi); simpa using this) h1
    rw [List.length_append, hlen, List.take_add, e0, List.drop_drop, e1]
theorem flatT_spec {P : Program} {W : World} : ∀ (n m : Nat) (t : TypeId) (cs : List Value) (d : DataW Unit) (ps : List MemPlace) (l : List Value), DataW.trod (fun _ => ()) P W 0 (fun _ => true) false m t cs = some (d, ps) → flatT P n t d = some l → cs.take l.length = l
  | 0, _, _, _, _, _, _, _, hl => by cases hl
  | n + 1, m, t, cs, d, ps, l, h, hl => by
    simp only [flatT] at hl
    split at hl
    · rename_i k k' z hu
      split at hl
      case isFalse => cases hl
      obtain ⟨z', rfl, he, _⟩ := DataW.trod_int hu h
      simp only [Prod.mk.injEq, DataW.lit.injEq, Lit.int.injEq] at he
      obtain ⟨⟨_, rfl⟩, _⟩ := he
      obtain rfl := Option.some.inj hl
      rfl
    · rename_i bs hu
      obtain ⟨s, rfl, he, _⟩ := DataW.trod_string hu h
      simp only [Prod.mk.injEq, DataW.lit.injEq, Lit.string.injEq] at he
      obtain ⟨rfl, _⟩ := he
      obtain rfl := Option.some.inj hl
      rfl
    · rename_i fs ds hu
      obtain ⟨xs, m', rfl, he, _, hlen, hat⟩ := DataW.trod_struct hu h
      simp only [Prod.mk.injEq, DataW.agg.injEq] at he
      obtain ⟨rfl, _⟩ := he
      have := flatParts_spec (fun t cs d ps l => flatT_spec n m' t cs d ps l) fs.toList xs 0 l (fun i f hi => hat i f (by simpa using hi)) hl
      simpa using this
    · rename_i k e ds hu
      obtain ⟨xs, m', rfl, he, _, hlen, hat⟩ := DataW.trod_array hu h
      simp only [Prod.mk.injEq, DataW.agg.injEq] at he
      obtain ⟨rfl, _⟩ := he
      have := flatParts_spec (fun t cs d ps l => flatT_spec n m' t cs d ps l) (List.range k) xs 0 l (fun i x hi => by
        obtain ⟨hi1, hi2⟩ := List.getElem?_eq_some_iff.1 hi
        rw [List.length_range] at hi1
        rw [List.getElem_range] at hi2
        subst hi2
        exact hat i hi1) hl
      simpa using this
    · cases hl
theorem laid_at {P : Program} {w : World} {n : String} {d : DataW Unit} : ∀ {l : List (String × DataW Unit)} {ps : List MemPlace}, DataW.LaidVars P w l ps → (n, d) ∈ l →
    ∃ g t cs fuel p, P.globalNamed n = some g ∧ (P.globals[g]?).map (·.type) = some t ∧ w.var? P n = some cs ∧ DataW.trod (fun _ => ()) P w 0 (fun _ => true) false fuel t cs.toList = some (d, p)
  | [], _, _, h => by cases h
  | (n', d') :: l, ps, h, hm => by
    obtain ⟨g, t, cs, fuel, p, q, h1, h2, h3, h4, h5, _⟩ := h
    rcases List.mem_cons.1 hm with e | hm
    · simp only [Prod.mk.injEq] at e
      obtain ⟨rfl, rfl⟩ := e
      exact ⟨g, t, cs, fuel, p, h1, h2, h3, h4⟩
    · exact laid_at h5 hm
/-! ### The variables of this program -/
def HoldsG (W : World) (p : Nat × Row) : Prop := ∃ cs fz, W.heap[p.1]? = some (.cells cs p.2.elem fz) ∧ cs.toList.take p.2.cells.length = p.2.cells
theorem shaped_at {W : World} (hS : W.ShapedOpen Tryz.prog) {g : Nat} {t : TypeId} (hg : g < Tryz.prog.globals.size) (ht : ((((begin Tryz.prog (fun _ _ => 0) default).world.heap[g]?).bind Obj.row?).map (·.2)) = some t) : ∃ cs fz, W.heap[g]? = some (.cells cs t fz) := by
  cases hz : ((begin Tryz.prog (fun _ _ => 0) default).world.heap[g]?).bind Obj.row? with
  | none => rw [hz] at ht; cases ht
  | some q =>
    obtain ⟨z, t'⟩ := q
    rw [hz] at ht
    obtain rfl := Option.some.inj ht
    obtain ⟨cs, h, _⟩ := hS.1 g z t' hg hz
    exact ⟨cs, _, h⟩
theorem bare_at {W : World} (hS : W.ShapedOpen Tryz.prog) {g : Nat} {t : TypeId} (hg : g < Tryz.prog.globals.size) (ht : ((((begin Tryz.prog (fun _ _ => 0) default).world.heap[g]?).bind Obj.row?).map (·.2)) = some t) : HoldsG W (g, ⟨[], t, 0, false⟩) := by
  obtain ⟨cs, fz, h⟩ := shaped_at hS hg ht
  exact ⟨cs, fz, h, rfl⟩
theorem datum_at {W : World} (hS : W.ShapedOpen Tryz.prog) {l : List (String × DataW Unit)} {ps : List MemPlace} (hL : DataW.LaidVars Tryz.prog W l ps) {n : String} {d : DataW Unit} (hm : (n, d) ∈ l) {g : Nat} {t : TypeId} (hg : g < Tryz.prog.globals.size)
    (ht : ((((begin Tryz.prog (fun _ _ => 0) default).world.heap[g]?).bind Obj.row?).map (·.2)) = some t) (hn : Tryz.prog.globalNamed n = some g) (hty : (Tryz.prog.globals[g]?).map (·.type) = some t) {vs : List Value} (hf : flatT Tryz.prog 6 t d = some vs) : HoldsG W (g, ⟨vs, t, 0, false⟩) := by
  obtain ⟨cs, fz, h⟩ := shaped_at hS hg ht
  obtain ⟨g', t', cs', fuel, p, h1, h2, h3, h4⟩ := laid_at hL hm
  obtain rfl := Option.some.inj (hn.symm.trans h1)
  obtain rfl := Option.some.inj (hty.symm.trans h2)
  have : cs' = cs := by
    simp only [World.var?, hn, Option.bind_some, h, Option.some.injEq] at h3
    exact h3.symm
  subst this
  exact ⟨cs', fz, h, flatT_spec _ _ _ _ _ _ _ h4 hf⟩
theorem gsize : Tryz.prog.globals.size = 14 := by kernel_rfl
theorem gt0 : ((((begin Tryz.prog (fun _ _ => 0) default).world.heap[0]?).bind Obj.row?).map (·.2)) = some 259 := by kernel_rfl
theorem gt1 : ((((begin Tryz.prog (fun _ _ => 0) default).world.heap[1]?).bind Obj.row?).map (·.2)) = some 259 := by kernel_rfl
theorem gt2 : ((((begin Tryz.prog (fun _ _ => 0) default).world.heap[2]?).bind Obj.row?).map (·.2)) = some 308 := by kernel_rfl
theorem gt3 : ((((begin Tryz.prog (fun _ _ => 0) default).world.heap[3]?).bind Obj.row?).map (·.2)) = some 330 := by kernel_rfl
theorem gt4 : ((((begin Tryz.prog (fun _ _ => 0) default).world.heap[4]?).bind Obj.row?).map (·.2)) = some 343 := by kernel_rfl
theorem gt5 : ((((begin Tryz.prog (fun _ _ => 0) default).world.heap[5]?).bind Obj.row?).map (·.2)) = some 382 := by kernel_rfl
theorem gt6 : ((((begin Tryz.prog (fun _ _ => 0) default).world.heap[6]?).bind Obj.row?).map (·.2)) = some 388 := by kernel_rfl
theorem gt7 : ((((begin Tryz.prog (fun _ _ => 0) default).world.heap[7]?).bind Obj.row?).map (·.2)) = some 407 := by kernel_rfl
theorem gt8 : ((((begin Tryz.prog (fun _ _ => 0) default).world.heap[8]?).bind Obj.row?).map (·.2)) = some 410 := by kernel_rfl
theorem gt9 : ((((begin Tryz.prog (fun _ _ => 0) default).world.heap[9]?).bind Obj.row?).map (·.2)) = some 417 := by kernel_rfl
theorem gt10 : ((((begin Tryz.prog (fun _ _ => 0) default).world.heap[10]?).bind Obj.row?).map (·.2)) = some 418 := by kernel_rfl
theorem gt11 : ((((begin Tryz.prog (fun _ _ => 0) default).world.heap[11]?).bind Obj.row?).map (·.2)) = some 3 := by kernel_rfl
theorem gt12 : ((((begin Tryz.prog (fun _ _ => 0) default).world.heap[12]?).bind Obj.row?).map (·.2)) = some 77 := by kernel_rfl
theorem gt13 : ((((begin Tryz.prog (fun _ _ => 0) default).world.heap[13]?).bind Obj.row?).map (·.2)) = some 77 := by kernel_rfl
theorem globs_hold {W : World} (hS : W.ShapedOpen Tryz.prog) {l : List (String × DataW Unit)} {ps : List MemPlace} (hL : DataW.LaidVars Tryz.prog W l ps)
    (h3 : ("eddy/expr.signs", Rows.laid_eddy_expr_signs) ∈ l) (h4 : ("eddy/shape.needs", Rows.laid_eddy_shape_needs) ∈ l) (h5 : ("eddy/expr.words", Rows.laid_eddy_expr_words) ∈ l) (h6 : ("internal/strconv.uint64pow10", Rows.laid_internal_strconv_uint64pow10) ∈ l)
    (h8 : ("unicode/utf8.acceptRanges", Rows.laid_unicode_utf8_acceptRanges) ∈ l) (h9 : ("math/bits.deBruijn32tab", Rows.laid_math_bits_deBruijn32tab) ∈ l) (h10 : ("math/bits.deBruijn64tab", Rows.laid_math_bits_deBruijn64tab) ∈ l) : ∀ p ∈ globs, HoldsG W p := by
  have hlt : ∀ g, g < 14 → g < Tryz.prog.globals.size := fun g h => by rw [gsize]; exact h
  intro p hp
  simp only [globs, List.mem_cons, List.mem_nil_iff, or_false] at hp
  rcases hp with rfl | rfl | rfl | rfl | rfl | rfl | rfl | rfl | rfl | rfl | rfl | rfl | rfl | rfl
  · exact bare_at hS (hlt 0 (by decide)) gt0
  · exact bare_at hS (hlt 1 (by decide)) gt1
  · exact bare_at hS (hlt 2 (by decide)) gt2
  · exact datum_at hS hL h3 (hlt 3 (by decide)) gt3 (by kernel_rfl) (by kernel_rfl) (by kernel_rfl)
  · exact datum_at hS hL h4 (hlt 4 (by decide)) gt4 (by kernel_rfl) (by kernel_rfl) (by kernel_rfl)
  · exact datum_at hS hL h5 (hlt 5 (by decide)) gt5 (by kernel_rfl) (by kernel_rfl) (by kernel_rfl)
  · exact datum_at hS hL h6 (hlt 6 (by decide)) gt6 (by kernel_rfl) (by kernel_rfl) (by kernel_rfl)
  · exact bare_at hS (hlt 7 (by decide)) gt7
  · exact datum_at hS hL h8 (hlt 8 (by decide)) gt8 (by kernel_rfl) (by kernel_rfl) (by kernel_rfl)
  · exact datum_at hS hL h9 (hlt 9 (by decide)) gt9 (by kernel_rfl) (by kernel_rfl) (by kernel_rfl)
  · exact datum_at hS hL h10 (hlt 10 (by decide)) gt10 (by kernel_rfl) (by kernel_rfl) (by kernel_rfl)
  · exact bare_at hS (hlt 11 (by decide)) gt11
  · exact bare_at hS (hlt 12 (by decide)) gt12
  · exact bare_at hS (hlt 13 (by decide)) gt13
/-! ### The heap at the call -/
def rowG (i : Nat) : Option Row := (globs.find? fun p => p.1 == i).map (·.2)
theorem rowG_mem : ∀ p ∈ globs, rowG p.1 = some p.2 := by
  intro p hp
  simp only [globs, List.mem_cons, List.mem_nil_iff, or_false] at hp
  rcases hp with rfl | rfl | rfl | rfl | rfl | rfl | rfl | rfl | rfl | rfl | rfl | rfl | rfl | rfl <;> rfl
theorem rowG_some {i : Nat} {r : Row} (h : rowG i = some r) : ∃ p ∈ globs, p.1 = i ∧ p.2 = r := by
  simp only [rowG, Option.map_eq_some_iff] at h
  obtain ⟨p, h1, h2⟩ := h
  exact ⟨p, List.mem_of_find?_eq_some h1, by simpa using List.find?_some h1, h2⟩
def heapG : AHeap := ⟨fun i => (rowG i).map .row, 14⟩
def sizeG (W : World) (i : Nat) : Nat := match W.heap[i]? with
  | some (.cells c _ _) => c.size
  | _ => 0
def renG (W : World) : Ren := fun i v => if v = 0 then (rowG i).map fun r => ⟨i, 0, 0, r.cells.length, sizeG W i, 0⟩ else none
theorem renG_some {W : World} {i v : Nat} {s : Seg} (h : renG W i v = some s) : v = 0 ∧ ∃ p ∈ globs, p.1 = i ∧ s = ⟨i, 0, 0, p.2.cells.length, sizeG W i, 0⟩ := by
  unfold renG at h
  split at h
  · rename_i hv
    simp only [Option.map_eq_some_iff] at h
    obtain ⟨r, hr, rfl⟩ := h
    obtain ⟨p, hp, h1, h2⟩ := rowG_some hr
    exact ⟨hv, p, hp, h1, by rw [h2]⟩
  · cases h
theorem glob_lt : ∀ p ∈ globs, p.1 < 14 := by
  intro p hp
  have : globs.map (·.1) = [0, 1, 2, 3, 4, 5, 6, 7, 8, 9, 10, 11, 12, 13] := rfl
  have hm : p.1 ∈ globs.map (·.1) := List.mem_map.2 ⟨p, hp, rfl⟩
  rw [this] at hm
  simp at hm
  omega
theorem glob_ro : ∀ p ∈ globs, p.2.ver = 0 ∧ p.2.rw = false := by
  have : globs.all (fun p => p.2.ver == 0 && !p.2.rw) = true := rfl
  intro p hp
  have := List.all_eq_true.1 this p hp
  simpa using this
theorem relH_globs {W : World} (hG : ∀ p ∈ globs, HoldsG W p) : RelH Tryz.prog (renG W) heapG W ∧ (∀ p ∈ globs, heapG.get p.1 = some (.row p.2)) ∧ ∀ i v s, renG W i v = some s → heapG.ro i := by
  have hget : ∀ p ∈ globs, heapG.get p.1 = some (.row p.2) := fun p hp => by
    show (rowG p.1).map AObj.row = _
    rw [rowG_mem p hp]
    rfl
  refine ⟨⟨fun i hi => ?_, fun i v s h => ?_, fun i j u v s t h1 h2 he => .inl ?_, fun i r hr s h => ?_, fun i o ho hne s h => ?_, fun i r v hr hv => ?_, fun g hg => ?_⟩, hget, fun i v s h => ?_⟩
  · show (rowG i).map AObj.row = none
    cases hr : rowG i with
    | none => rfl
    | some r =>
      obtain ⟨p, hp, h1, _⟩ := rowG_some hr
      have := glob_lt p hp
      have : (14 : Nat) ≤ i := hi
      omega
  · obtain ⟨_, p, hp, rfl, rfl⟩ := renG_some h
    obtain ⟨cs, fz, hc, _⟩ := hG p hp
    exact ⟨glob_lt p hp, (Array.getElem?_eq_some_iff.1 hc).1⟩
  · obtain ⟨_, p, _, rfl, rfl⟩ := renG_some h1
    obtain ⟨_, q, _, rfl, rfl⟩ := renG_some h2
    exact he
  · obtain ⟨_, p, hp, rfl, rfl⟩ := renG_some h
    rw [hget p hp] at hr
    obtain rfl : p.2 = r := by simpa using hr
    obtain ⟨cs, fz, hc, hpre⟩ := hG p hp
    have hsz : sizeG W p.1 = cs.size := by simp [sizeG, hc]
    have hlen : p.2.cells.length ≤ cs.size := by
      have := congrArg List.length hpre
      simp only [List.length_take, Array.length_toList] at this
      omega
    refine ⟨rfl, Nat.zero_le _, (fun h => by rw [(glob_ro p hp).2] at h; cases h), cs, fz, hc, hsz.symm, by simpa [hsz] using hlen, fun i x _ hx => ?_, fun h => by rw [(glob_ro p hp).2] at h; cases h⟩
    have hi := (List.getElem?_eq_some_iff.1 hx).1
    have h1 : (cs.toList.take p.2.cells.length)[i]? = some x := by rw [hpre]; exact hx
    rw [List.getElem?_take_of_lt hi] at h1
    refine ⟨x, by simpa using h1, VR.of_simple ?_⟩
    exact List.all_eq_true.1 (List.all_eq_true.1 simple_globs p hp) x (List.mem_of_getElem? hx)
  · exfalso
    have ho' : (rowG i).map AObj.row = some o := ho
    simp only [Option.map_eq_some_iff] at ho'
    obtain ⟨r, _, rfl⟩ := ho'
    cases hne
  · have hr' : (rowG i).map AObj.row = some (.row r) := hr
    show (if v = 0 then _ else none) = none
    rw [if_neg (by omega)]
  · have hm : g ∈ globs.map (·.1) := by
      have : globs.map (·.1) = [0, 1, 2, 3, 4, 5, 6, 7, 8, 9, 10, 11, 12, 13] := rfl
      have hg' : g < 14 := hg
      rw [this]
      simp
      omega
    obtain ⟨p, hp, rfl⟩ := List.mem_map.1 hm
    refine ⟨⟨p.1, 0, 0, p.2.cells.length, sizeG W p.1, 0⟩, ?_, rfl, rfl, rfl⟩
    show (if 0 = 0 then _ else none) = _
    rw [if_pos rfl, rowG_mem p hp]
    rfl
  · obtain ⟨_, p, hp, rfl, _⟩ := renG_some h
    exact ⟨p.2, hget p hp, (glob_ro p hp).2⟩
end Go.Ae

/- Maps and walks over strings in the abstract heap. No condition. -/
import Derived.Test.YtmibkoadjehdaaaGreatDoorKy05
import Derived.MapKept
set_option linter.unusedVariables false
set_option linter.unusedSimpArgs false
namespace Go.Ae

/-- A new object that is no row. -/
theorem place_obj {P : Program} {ρ : Ren} {H : AHeap} {w : World} (hH : RelH P ρ H w) {n : Nat} {o : AObj} (hn : H.get n = some o) (ho : o.isRow = false) (hp : ∀ v, ρ n v = none) (hlt : n < H.next) {ob : Obj}
    (hob : ∀ ρ' w', ρ.le ρ' → w'.heap[w.heap.size]? = some ob → ObjOk P ρ' o ⟨w.heap.size, 0, 0, 0, 0, 0⟩ w') :
    RelH P (ρ.set n 0 ⟨w.heap.size, 0, 0, 0, 0, 0⟩) H { w with heap := w.heap.push ob } ∧ ∀ n0, n0 ≤ n → ExtN n0 ρ H w (ρ.set n 0 ⟨w.heap.size, 0, 0, 0, 0, 0⟩) H { w with heap := w.heap.push ob } := by
  have hmono : ρ.le (ρ.set n 0 ⟨w.heap.size, 0, 0, 0, 0, 0⟩) := Ren.le_set (hp 0) _
  have hold : ∀ {b : Nat}, b < w.heap.size → (w.heap.push ob)[b]? = w.heap[b]? := fun hb => by
    rw [Array.getElem?_push]; rw [if_neg (by omega)]
  have hnew : (w.heap.push ob)[w.heap.size]? = some ob := by simp
  have hnr : ∀ r, H.get n ≠ some (.row r) := fun r h => by rw [hn] at h; obtain rfl := Option.some.inj h; cases ho
  refine ⟨⟨hH.wf, ?_, ?_, ?_, ?_, ?_, hH.glob.mono hmono⟩, fun n0 hn0 => ⟨hmono, by simp, Nat.le_refl _, ?_, ?_, ?_, fun i r _ hg _ => ⟨hg, fun v s hs => hold (hH.dom i v s hs).2⟩, rfl, rfl⟩⟩
  · intro i v s h
    rcases Ren.set_cases h with ⟨rfl, rfl, rfl⟩ | h
    · exact ⟨hlt, by simp⟩
    · have := hH.dom i v s h
      exact ⟨this.1, by simp; omega⟩
  · intro i j u v s t h1 h2 he
    rcases Ren.set_cases h1 with ⟨e1, e2, e3⟩ | g1 <;> rcases Ren.set_cases h2 with ⟨e4, e5, e6⟩ | g2
    · exact .inl (by rw [e1, e4])
    · have := (hH.dom _ _ _ g2).2; rw [e3] at he; simp only at he; omega
    · have := (hH.dom _ _ _ g1).2; rw [e6] at he; simp only at he; omega
    · exact hH.apart i j u v s t g1 g2 he
  · intro i r' hr' s h
    rcases Ren.set_cases h with ⟨rfl, h0, rfl⟩ | h
    · exact absurd hr' (hnr r')
    · exact (hH.row i r' hr' s h).mono hmono (hold (hH.dom _ _ _ h).2)
  · intro i o' hi ho' s h
    rcases Ren.set_cases h with ⟨rfl, h0, rfl⟩ | h
    · rw [hn] at hi
      obtain rfl := Option.some.inj hi
      exact hob _ _ hmono hnew
    · exact (hH.obj i o' hi ho' s h).mono hmono (hold (hH.dom _ _ _ h).2)
  · intro i r' v hi hlt'
    unfold Ren.set
    rw [if_neg, hH.future i r' v hi hlt']
    rintro ⟨rfl, rfl⟩
    exact hnr r' hi
  · intro b hb _
    exact hold hb
  · intro i v s h
    rcases Ren.set_cases h with ⟨rfl, rfl, rfl⟩ | h
    · exact .inr (Nat.le_refl _)
    · exact .inl ⟨i, v, s, h, rfl⟩
  · intro i hi h
    refine ⟨rfl, fun v => ?_⟩
    unfold Ren.set
    rw [if_neg, h v]
    rintro ⟨rfl, _⟩
    omega
theorem push_obj {P : Program} {ρ : Ren} {H : AHeap} {w : World} (hH : RelH P ρ H w) {o : AObj} (ho : o.isRow = false) {ob : Obj}
    (hob : ∀ ρ' w', ρ.le ρ' → w'.heap[w.heap.size]? = some ob → ObjOk P ρ' o ⟨w.heap.size, 0, 0, 0, 0, 0⟩ w') :
    ∃ ρ', RelH P ρ' (H.push o) { w with heap := w.heap.push ob } ∧ Ext ρ H w ρ' (H.push o) { w with heap := w.heap.push ob } ∧ ρ' H.next 0 = some ⟨w.heap.size, 0, 0, 0, 0, 0⟩ := by
  have h := place_obj (hH.push o) (n := H.next) (o := o) (by rw [AHeap.push_get, if_pos rfl]) ho (fun v => hH.noPlace (Nat.le_refl _) v) (by rw [AHeap.push_next]; omega) hob
  exact ⟨_, h.1, (ExtN.push _ _ (Nat.le_refl _)).trans (h.2 H.next (Nat.le_refl _)), Ren.set_same ρ _ 0 _⟩
/-- An object that is no row is another one. -/
theorem put_obj {P : Program} {ρ : Ren} {H : AHeap} {w : World} (hH : RelH P ρ H w) {i : Nat} {o o' : AObj} (hg : H.get i = some o) (ho : o.isRow = false) (ho' : o'.isRow = false) {s : Seg} (hs : ρ i 0 = some s) {ob : Obj}
    (hob : ∀ w' : World, w'.heap[s.blk]? = some ob → ObjOk P ρ o' s w') :
    RelH P ρ (H.put i o') { w with heap := w.heap.setIfInBounds s.blk ob } ∧ Ext ρ H w ρ (H.put i o') { w with heap := w.heap.setIfInBounds s.blk ob } := by
  have hi := (hH.dom i _ s hs)
  have hnr : ∀ r, H.get i ≠ some (.row r) := fun r h => by rw [hg] at h; obtain rfl := Option.some.inj h; cases ho
  have hnro : ¬ H.ro i := fun ⟨r, h, _⟩ => hnr r h
  have hap : ∀ {j v t}, ρ j v = some t → t.blk = s.blk → j = i := fun {j v t} h he => (hH.apart j i v 0 t s h hs he).elim id fun h => absurd h.2 hnro
  have hnew : (w.heap.setIfInBounds s.blk ob)[s.blk]? = some ob := by simp [hi.2]
  have hold : ∀ {b : Nat}, b ≠ s.blk → (w.heap.setIfInBounds s.blk ob)[b]? = w.heap[b]? := fun hb => by rw [Array.getElem?_setIfInBounds_ne (Ne.symm hb)]
  have hro : ∀ {j}, H.ro j → (H.put i o').ro j := fun {j} ⟨r, h, hr⟩ => ⟨r, by rw [AHeap.put_get, if_neg (fun e => hnr r (by rw [← e]; exact h)), h], hr⟩
  refine ⟨⟨fun j hj => ?_, fun j v t h => ?_, fun i1 j1 u1 v1 s1 t1 h1 h2 he => (hH.apart i1 j1 u1 v1 s1 t1 h1 h2 he).imp id fun h => ⟨hro h.1, hro h.2⟩, fun j q hq t h => ?_, fun j oj hq hoj t h => ?_, fun j q v hq hlt => ?_, hH.glob⟩,
    ⟨Ren.le_refl ρ, by simp, Nat.le_refl _, fun b _ hb => ?_, fun j v t h => .inl ⟨j, v, t, h, rfl⟩, fun j hj h => ⟨?_, h⟩, fun j q _ hq hqr => ?_, rfl, rfl⟩⟩
  · rw [AHeap.put_next] at hj
    rw [AHeap.put_get, if_neg (by omega)]
    exact hH.wf j hj
  · have := hH.dom j v t h
    exact ⟨this.1, by simpa using this.2⟩
  · rw [AHeap.put_get] at hq
    split at hq
    · obtain rfl := Option.some.inj hq; cases ho'
    · rename_i he
      exact (hH.row j q hq t h).mono (Ren.le_refl ρ) (hold fun hb => he (hap h hb))
  · rw [AHeap.put_get] at hq
    split at hq
    · rename_i he
      subst he
      obtain rfl := Option.some.inj hq
      rw [hs] at h
      obtain rfl := Option.some.inj h
      exact hob _ hnew
    · rename_i he
      exact (hH.obj j oj hq hoj t h).mono (Ren.le_refl ρ) (hold fun hb => he (hap h hb))
  · rw [AHeap.put_get] at hq
    split at hq
    · obtain rfl := Option.some.inj hq; cases ho'
    · exact hH.future j q v hq hlt
  · exact hold fun e => hb i _ s hs e.symm
  · rw [AHeap.put_get, if_neg]
    rintro rfl
    rw [h 0] at hs
    cases hs
  · have hne : j ≠ i := fun e => hnr q (e ▸ hq)
    exact ⟨by rw [AHeap.put_get, if_neg hne]; exact hq, fun v t ht => hold fun hb => hne (hap ht hb)⟩

/-! ### Maps -/
def isKeyB : TypeDesc → Value → Bool
  | .bool, .bool _ => true
  | .int q, .int q' _ => decide (q = q')
  | .string, .string _ => true
  | _, _ => false
theorem isKeyB_spec {d : TypeDesc} {k : Value} (h : isKeyB d k = true) : simpleV k = true ∧ MapKept.IsKey d k := by
  unfold isKeyB at h
  split at h
  · exact ⟨rfl, trivial⟩
  · rename_i q q' n
    have h' : q = q' := of_decide_eq_true h
    exact ⟨rfl, h'.symm⟩
  · exact ⟨rfl, trivial⟩
  · exact absurd h (by simp)
theorem sameNow_true {d : TypeDesc} {k x : Value} (h : Instr.sameNow d k x = some true) : x = k := by
  unfold Instr.sameNow at h
  split at h
  · rename_i a k1 b k2
    split at h
    · rename_i hk
      subst hk
      simp only [Option.some.injEq, beq_iff_eq] at h
      rw [h]
    · cases h
  · have h' := Option.some.inj h
    rw [(MapKept.bytes_beq _ _).1 h']
  · have h' := Option.some.inj h
    simp at h'
    rw [h']
  · exact absurd h (by simp)
theorem sameNow_simple {d : TypeDesc} {k x : Value} {b : Bool} (h : Instr.sameNow d k x = some b) : simpleV x = true := by
  unfold Instr.sameNow at h
  split at h <;> first | rfl | cases h
theorem findNow_sim {ρ : Ren} {d : TypeDesc} {k : Value} : ∀ {es es' : List MapEntry} (_ : All2 (EntryR ρ) es es') {i : Nat} {r : Option (Nat × Value)}, Instr.findNow d k es i = some r →
    (r = none ∧ Instr.findNow d k es' i = some none) ∨ ∃ j v v', r = some (j, v) ∧ Instr.findNow d k es' i = some (some (j, v')) ∧ VR ρ v v'
  | _, _, .nil, i, r, h => by
    simp only [Instr.findNow, Option.some.injEq] at h
    exact .inl ⟨h.symm, rfl⟩
  | _, _, .cons (x := e) (y := e') h1 h2, i, r, h => by
    unfold Instr.findNow at h
    cases hs : Instr.sameNow d k e.key with
    | none => rw [hs] at h; cases h
    | some b =>
      have he : e'.key = e.key := VR.simple_eq (sameNow_simple hs) h1.1
      rw [hs] at h
      cases b with
      | true =>
        simp only [Option.some.injEq] at h
        subst h
        exact .inr ⟨i, e.val, e'.val, rfl, by unfold Instr.findNow; rw [he, hs], h1.2.1⟩
      | false =>
        simp only at h
        have ih := findNow_sim h2 h
        unfold Instr.findNow
        rw [he, hs]
        exact ih
theorem findNow_at {d : TypeDesc} {k : Value} : ∀ {es : List MapEntry} {i j : Nat} {v : Value}, Instr.findNow d k es i = some (some (j, v)) → ∃ n e, j = i + n ∧ es[n]? = some e ∧ e.val = v ∧ e.key = k
  | [], i, j, v, h => by simp [Instr.findNow] at h
  | e :: es, i, j, v, h => by
    unfold Instr.findNow at h
    split at h
    · rename_i hs
      simp only [Option.some.injEq, Prod.mk.injEq] at h
      exact ⟨0, e, h.1.symm, rfl, h.2, sameNow_true hs⟩
    · obtain ⟨n, e', h1, h2, h3⟩ := findNow_at h
      exact ⟨n + 1, e', by omega, by simpa using h2, h3⟩
    · cases h
theorem All2.append {α β : Type} {R : α → β → Prop} : ∀ {xs us : List α} {ys vs : List β}, All2 R xs ys → All2 R us vs → All2 R (xs ++ us) (ys ++ vs)
  | _, _, _, _, .nil, h => h
  | _, _, _, _, .cons h1 h2, h => .cons h1 (All2.append h2 h)
theorem All2.modify {α β : Type} {R : α → β → Prop} {f : α → α} {g : β → β} (hfg : ∀ x y, R x y → R (f x) (g y)) : ∀ {xs : List α} {ys : List β} (i : Nat), All2 R xs ys → All2 R (xs.modify i f) (ys.modify i g)
  | _, _, i, .nil => by simp only [List.modify_nil]; exact .nil
  | _, _, 0, .cons h1 h2 => by simp only [List.modify_zero_cons]; exact .cons (hfg _ _ h1) h2
  | _, _, i + 1, .cons h1 h2 => by simp only [List.modify_succ_cons]; exact .cons h1 (All2.modify hfg i h2)
def mapPutA (P : Program) (H : AHeap) (t : TypeId) (m k x : Value) : Option AHeap :=
  match P.underlying t, m with
  | some (.map kt _), .map (some r) => match P.underlying kt, H.get r with
    | some d, some (.map es cl) =>
      if isKeyB d k then match Instr.findNow d k es 0 with
        | some none => some (H.put r (.map (es ++ [{ key := k, val := x, born := cl }]) (cl + 1)))
        | some (some (i, _)) => some (H.put r (.map (es.modify i fun e => { e with key := k, val := x }) cl))
        | none => none
      else none
    | _, _ => none
  | _, _ => none
theorem mapPutA_sim {P : Program} {ρ : Ren} {H H' : AHeap} {w : World} (hH : RelH P ρ H w) {t : TypeId} {m k x m' k' x' : Value} (h : mapPutA P H t m k x = some H') (hm : VR ρ m m') (hk : VR ρ k k') (hx : VR ρ x x') :
    ∃ w', (Instr.mapUpdate t m' k' x').run P w = .ok () w' ∧ RelH P ρ H' w' ∧ Ext ρ H w ρ H' w' := by
  unfold mapPutA at h
  split at h
  case h_2 => cases h
  rename_i kt et r hu
  split at h
  case h_2 => cases h
  rename_i d es cl hd hg
  split at h
  case isFalse => cases h
  rename_i hkey
  obtain ⟨hks, hki⟩ := isKeyB_spec hkey
  obtain rfl := VR.simple_eq hks hk
  cases hm with
  | map hs =>
    rename_i s
    obtain ⟨es', hb, hes⟩ := hH.obj r _ hg rfl s hs
    cases hf : Instr.findNow d k' es 0 with
    | none => rw [hf] at h; cases h
    | some q =>
      rw [hf] at h
      rcases findNow_sim hes hf with ⟨rfl, hf'⟩ | ⟨j, v, v', rfl, hf', hvv⟩
      · simp only [Option.some.injEq] at h
        subst h
        have hp := put_obj (o' := .map (es ++ [{ key := k', val := x, born := cl }]) (cl + 1)) hH hg rfl rfl hs (ob := .map (es'.push { key := k', val := x', born := cl }) (cl + 1))
          (fun w' hw' => ⟨_, hw', by simp only [Array.toList_push]; exact hes.append (.cons ⟨hk, hx, rfl⟩ .nil)⟩)
        exact ⟨_, by simp [Instr.mapUpdate, run_underlying hu, MapKept.run_getObj_map hb, MapKept.run_checkKey hd hki, MapKept.run_findKey hd hf', MapKept.run_setObj_map _ hb, Result.andThen], hp⟩
      · simp only [Option.some.injEq] at h
        subst h
        obtain ⟨n, e, e1, e2, e3, e4⟩ := findNow_at hf'
        obtain rfl : j = n := by omega
        have hj : es'[j]? = some e := by simpa using e2
        have hp := put_obj (o' := .map (es.modify j fun e => { e with key := k', val := x }) cl) hH hg rfl rfl hs (ob := .map (es'.modify j fun e => { e with key := k', val := x' }) cl)
          (fun w' hw' => ⟨_, hw', by simp only [Array.toList_modify]; exact hes.modify (fun a b hab => ⟨hk, hx, hab.2.2⟩) j⟩)
        exact ⟨_, by simp [Instr.mapUpdate, run_underlying hu, MapKept.run_getObj_map hb, MapKept.run_checkKey hd hki, MapKept.run_findKey hd hf', hj, e4, MapKept.run_keyThatStays hki, MapKept.run_setObj_map _ hb, Result.andThen], hp⟩
def lookA (P : Program) (H : AHeap) (t : TypeId) (m k : Value) (ok : Bool) : Option Value :=
  match P.underlying t, m with
  | some (.map kt et), .map (some r) => match P.underlying kt, H.get r with
    | some d, some (.map es _) =>
      if isKeyB d k then match Instr.findNow d k es 0 with
        | some none => (zeroV P et).map fun z => if ok then .tuple #[z, .bool false] else z
        | some (some (_, v)) => some (if ok then .tuple #[v, .bool true] else v)
        | none => none
      else none
    | _, _ => none
  | _, _ => none
theorem lookA_sim {P : Program} {ρ : Ren} {H : AHeap} {w : World} (hH : RelH P ρ H w) {t : TypeId} {m k m' k' v : Value} {ok : Bool} (h : lookA P H t m k ok = some v) (hm : VR ρ m m') (hk : VR ρ k k') :
    ∃ v', VR ρ v v' ∧ (Instr.lookup t m' k' ok).run P w = .ok v' w := by
  unfold lookA at h
  split at h
  case h_2 => cases h
  rename_i kt et r hu
  split at h
  case h_2 => cases h
  rename_i d es cl hd hg
  split at h
  case isFalse => cases h
  rename_i hkey
  obtain ⟨hks, hki⟩ := isKeyB_spec hkey
  obtain rfl := VR.simple_eq hks hk
  cases hm with
  | map hs =>
    rename_i s
    obtain ⟨es', hb, hes⟩ := hH.obj r _ hg rfl s hs
    cases hf : Instr.findNow d k' es 0 with
    | none => rw [hf] at h; cases h
    | some q =>
      rw [hf] at h
      rcases findNow_sim hes hf with ⟨rfl, hf'⟩ | ⟨j, v1, v', rfl, hf', hvv⟩
      · simp only [Option.map_eq_some_iff] at h
        obtain ⟨z, hz, rfl⟩ := h
        obtain ⟨h1, h2⟩ := zeroV_sim (ρ := ρ) hz
        refine ⟨if ok then .tuple #[z, .bool false] else z, ?_, ?_⟩
        · cases ok
          · exact h1
          · exact h1.pair (.bool false)
        · simp [Instr.lookup, run_underlying hu, MapKept.run_getObj_map hb, MapKept.run_checkKey hd hki, MapKept.run_findKey hd hf', h2, Result.andThen]
      · simp only [Option.some.injEq] at h
        subst h
        refine ⟨if ok then .tuple #[v', .bool true] else v', ?_, ?_⟩
        · cases ok
          · exact hvv
          · exact hvv.pair (.bool true)
        · simp [Instr.lookup, run_underlying hu, MapKept.run_getObj_map hb, MapKept.run_checkKey hd hki, MapKept.run_findKey hd hf', Result.andThen]
/-! ### What makes such an object, and walks -/
def isMapD : TypeDesc → Bool
  | .map _ _ => true
  | _ => false
def isIntV : Value → Bool
  | .int _ _ => true
  | _ => false
def makeMapA (P : Program) (H : AHeap) (t : TypeId) (r : Option Value) : Option (Value × AHeap) :=
  match r with
  | none => some (.map (some H.next), H.push (.map [] 0))
  | some v => match P.underlying t with
    | some d => if isMapD d && isIntV v then some (.map (some H.next), H.push (.map [] 0)) else none
    | none => none
theorem makeMapA_sim {P : Program} {ρ : Ren} {H H' : AHeap} {w : World} (hH : RelH P ρ H w) {t : TypeId} {r r' : Option Value} {v : Value} (h : makeMapA P H t r = some (v, H')) (hr : VRo ρ r r') :
    ∃ v' ρ' w', (Instr.makeMap t r').run P w = .ok v' w' ∧ VR ρ' v v' ∧ RelH P ρ' H' w' ∧ Ext ρ H w ρ' H' w' := by
  have key : v = .map (some H.next) ∧ H' = H.push (.map [] 0) ∧ (Instr.makeMap t r').run P w = .ok (.map (some w.heap.size)) { w with heap := w.heap.push (.map #[] 0) } := by
    unfold makeMapA at h
    split at h
    · simp only [Option.some.injEq, Prod.mk.injEq] at h
      obtain ⟨rfl, rfl⟩ := h
      cases r' with
      | some _ => exact hr.elim
      | none => exact ⟨rfl, rfl, by simp [Instr.makeMap]⟩
    · rename_i x
      split at h
      case h_2 => cases h
      rename_i d hu
      split at h
      case isFalse => cases h
      rename_i hc
      simp only [Bool.and_eq_true] at hc
      simp only [Option.some.injEq, Prod.mk.injEq] at h
      obtain ⟨rfl, rfl⟩ := h
      cases r' with
      | none => exact hr.elim
      | some x' =>
        have hx : VR ρ x x' := hr
        cases x <;> simp only [isIntV, Bool.false_eq_true, and_false] at hc
        cases hx
        cases d <;> simp only [isMapD, Bool.false_eq_true, false_and] at hc
        exact ⟨rfl, rfl, by simp [Instr.makeMap, run_underlying hu, asInt, asIntOf, Result.andThen]⟩
  obtain ⟨rfl, rfl, hrun⟩ := key
  obtain ⟨ρ', h1, h2, h3⟩ := push_obj hH (o := .map [] 0) rfl (ob := .map #[] 0) (fun ρ' w' _ hw => ⟨#[], hw, .nil⟩)
  exact ⟨_, ρ', _, hrun, .map h3, h1, h2⟩
def rangeA (P : Program) (H : AHeap) (t : TypeId) (x : Value) : Option (Value × AHeap) :=
  match P.underlying t, x with
  | some .string, .string s => some (.pointer (some ⟨H.next, 0, none⟩), H.push (.iter s 0))
  | _, _ => none
theorem rangeA_sim {P : Program} {ρ : Ren} {H H' : AHeap} {w : World} (hH : RelH P ρ H w) {t : TypeId} {x x' v : Value} (h : rangeA P H t x = some (v, H')) (hx : VR ρ x x') :
    ∃ v' ρ' w', (Instr.range t x').run P w = .ok v' w' ∧ VR ρ' v v' ∧ RelH P ρ' H' w' ∧ Ext ρ H w ρ' H' w' := by
  unfold rangeA at h
  split at h
  case h_2 => cases h
  rename_i s hu
  simp only [Option.some.injEq, Prod.mk.injEq] at h
  obtain ⟨rfl, rfl⟩ := h
  cases hx
  obtain ⟨ρ', h1, h2, h3⟩ := push_obj hH (o := .iter s 0) rfl (ob := .stringIter s 0) (fun ρ' w' _ hw => ⟨hw, rfl, rfl⟩)
  exact ⟨.pointer (some ⟨w.heap.size, 0, none⟩), ρ', _, by simp [Instr.range, run_underlying hu], .ptr ⟨_, h3, Nat.le_refl _, rfl⟩, h1, h2⟩
def nextA (H : AHeap) (it : Value) (str : Bool) : Option (Value × AHeap) :=
  match it, str with
  | .pointer (some a), true => match H.get a.block with
    | some (.iter s q) => if a.off = 0 ∧ verOf a = 0 then
        if q < s.size then some (.tuple #[.bool true, .int .i64 q, .int .i32 (Utf8.decode s q).1], H.put a.block (.iter s (q + (Utf8.decode s q).2)))
        else some (.tuple #[.bool false], H)
      else none
    | _ => none
  | _, _ => none
theorem run_getObj_at {P : Program} {w : World} {r : Nat} {o : Obj} (hb : w.heap[r]? = some o) (hc : ∀ s q, o = .stringIter s q → True) (hs : ∃ s q, o = .stringIter s q) : (getObj r).run P w = .ok o w := by
  obtain ⟨s, q, rfl⟩ := hs
  simp [getObj, Sem.run, hb]
theorem run_setObj_iter {P : Program} {w : World} {r : Nat} {s : ByteArray} {q : Nat} (o : Obj) (hb : w.heap[r]? = some (.stringIter s q)) : (setObj r o).run P w = .ok () { w with heap := w.heap.setIfInBounds r o } := by
  simp [setObj, Sem.run, hb]
theorem nextA_sim {P : Program} {ρ : Ren} {H H' : AHeap} {w : World} (hH : RelH P ρ H w) {it it' v : Value} {str : Bool} (ty : TypeId) (h : nextA H it str = some (v, H')) (hx : VR ρ it it') :
    ∃ w', (Instr.next it' str ty).run P w = .ok v w' ∧ VR ρ v v ∧ RelH P ρ H' w' ∧ Ext ρ H w ρ H' w' := by
  unfold nextA at h
  split at h
  case h_2 => cases h
  rename_i a
  split at h
  case h_2 => cases h
  rename_i s q hg
  split at h
  case isFalse => cases h
  rename_i hc
  cases hx with
  | ptr hp =>
    obtain ⟨sg, hs, hlo, rfl⟩ := hp
    rw [hc.2] at hs
    obtain ⟨hb, hb0, hl0⟩ := hH.obj a.block _ hg rfl sg hs
    have hat : sg.at a.off = ⟨sg.blk, 0, none⟩ := by simp [Seg.at, hb0, hl0, hc.1]
    rw [hat]
    have hget := run_getObj_at (P := P) hb (fun _ _ _ => trivial) ⟨s, q, rfl⟩
    split at h
    · rename_i hq
      simp only [Option.some.injEq, Prod.mk.injEq] at h
      obtain ⟨rfl, rfl⟩ := h
      have hp := put_obj (o' := .iter s (q + (Utf8.decode s q).2)) hH hg rfl rfl hs (ob := .stringIter s (q + (Utf8.decode s q).2)) (fun w' hw' => ⟨hw', hb0, hl0⟩)
      refine ⟨_, by simp [Instr.next, hget, hq, run_setObj_iter _ hb, Result.andThen, goInt], VR.of_flat (by simp [flatV, simpleV]), hp⟩
    · rename_i hq
      simp only [Option.some.injEq, Prod.mk.injEq] at h
      obtain ⟨rfl, rfl⟩ := h
      exact ⟨w, by simp [Instr.next, hget, hq, Result.andThen], VR.of_flat (by simp [flatV, simpleV]), hH, ExtN.refl _ _ _ _⟩

/-- The operations over such objects. -/
def aO (P : Program) (ev : Operand → Value) (H : AHeap) (o : Oper) : Option (Value × AHeap) :=
  match o.op with
  | .mapUpdate t m k x => (mapPutA P H t (ev m) (ev k) (ev x)).map fun H' => (undef, H')
  | .insert t m k x => (mapPutA P H t (ev m) (ev k) (ev x)).map fun H' => (undef, H')
  | .lookup t m k ok => (lookA P H t (ev m) (ev k) ok).map fun v => (v, H)
  | .makeMap t r => makeMapA P H t (r.map ev)
  | .range t x => rangeA P H t (ev x)
  | .next it s => nextA H (ev it) s
  | _ => none
theorem aO_sim {P : Program} {ρ : Ren} {H H' : AHeap} {w : World} (hH : RelH P ρ H w) {ev ev' : Operand → Value} {o : Oper} {v : Value} (h : aO P ev H o = some (v, H'))
    (hv : ∀ x ∈ o.op.operands, VR ρ (ev x) (ev' x)) :
    ∃ v' ρ' w', ((execOp ev' o).run P w = .ok (.value v') w' ∨ (v' = undef ∧ (execOp ev' o).run P w = .ok .skip w')) ∧ VR ρ' v v' ∧ RelH P ρ' H' w' ∧ Ext ρ H w ρ' H' w' := by
  obtain ⟨dst, op, type, pos, after, guard⟩ := o
  unfold aO at h
  split at h
  · rename_i t m k x heq
    dsimp only at heq; subst heq
    simp only [Option.map_eq_some_iff, Prod.mk.injEq] at h
    obtain ⟨H1, hst, rfl, rfl⟩ := h
    obtain ⟨w', h1, h2, h3⟩ := mapPutA_sim hH hst (hv m (by simp [Op.operands])) (hv k (by simp [Op.operands])) (hv x (by simp [Op.operands]))
    exact ⟨undef, ρ, w', .inr ⟨rfl, by simp [execOp, h1]⟩, .tuple rfl (by simp), h2, h3⟩
  · rename_i t m k x heq
    dsimp only at heq; subst heq
    simp only [Option.map_eq_some_iff, Prod.mk.injEq] at h
    obtain ⟨H1, hst, rfl, rfl⟩ := h
    obtain ⟨w', h1, h2, h3⟩ := mapPutA_sim hH hst (hv m (by simp [Op.operands])) (hv k (by simp [Op.operands])) (hv x (by simp [Op.operands]))
    exact ⟨undef, ρ, w', .inr ⟨rfl, by simp [execOp, h1]⟩, .tuple rfl (by simp), h2, h3⟩
  · rename_i t m k ok heq
    dsimp only at heq; subst heq
    simp only [Option.map_eq_some_iff, Prod.mk.injEq] at h
    obtain ⟨v1, hl, rfl, rfl⟩ := h
    obtain ⟨v', h1, h2⟩ := lookA_sim hH hl (hv m (by simp [Op.operands])) (hv k (by simp [Op.operands]))
    exact ⟨v', ρ, w, .inl (by simp [execOp, h2]), h1, hH, ExtN.refl _ _ _ _⟩
  · rename_i t r heq
    dsimp only at heq; subst heq
    have hr : VRo ρ (r.map ev) (r.map ev') := by
      cases r with
      | none => trivial
      | some x => exact hv x (by simp [Op.operands])
    obtain ⟨v', ρ', w', h1, h2, h3, h4⟩ := makeMapA_sim hH h hr
    exact ⟨v', ρ', w', .inl (by simp [execOp, h1]), h2, h3, h4⟩
  · rename_i t x heq
    dsimp only at heq; subst heq
    obtain ⟨v', ρ', w', h1, h2, h3, h4⟩ := rangeA_sim hH h (hv x (by simp [Op.operands]))
    exact ⟨v', ρ', w', .inl (by simp [execOp, h1]), h2, h3, h4⟩
  · rename_i it s heq
    dsimp only at heq; subst heq
    obtain ⟨w', h1, h2, h3, h4⟩ := nextA_sim hH type h (hv it (by simp [Op.operands]))
    exact ⟨v, ρ, w', .inl (by simp [execOp, h1]), h2, h3, h4⟩
  · cases h
end Go.Ae

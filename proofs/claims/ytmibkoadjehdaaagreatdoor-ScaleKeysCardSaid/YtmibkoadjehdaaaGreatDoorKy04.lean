/- Operations that make a new row: alloc, a boxed value, a slice literal, make. Operations that write: a store, append, copy. -/
import Derived.Test.YtmibkoadjehdaaaGreatDoorKy03
import Derived.IntWalk
import Derived.Laws.IdiomStrings
import Derived.Laws.IdiomCopy
set_option linter.unusedVariables false
set_option linter.unusedSimpArgs false
namespace Go.Ae

def Ren.set (ρ : Ren) (i v : Nat) (s : Seg) : Ren := fun j u => if j = i ∧ u = v then some s else ρ j u
theorem Ren.le_set {ρ : Ren} {i v : Nat} (h : ρ i v = none) (s : Seg) : ρ.le (ρ.set i v s) := by
  intro j u t ht
  unfold Ren.set
  split
  · rename_i hc
    obtain ⟨rfl, rfl⟩ := hc
    rw [h] at ht; cases ht
  · exact ht
theorem Ren.set_same (ρ : Ren) (i v : Nat) (s : Seg) : ρ.set i v s i v = some s := by simp [Ren.set]
theorem Ren.set_cases {ρ : Ren} {i v j u : Nat} {s t : Seg} (h : ρ.set i v s j u = some t) : (j = i ∧ u = v ∧ t = s) ∨ ρ j u = some t := by
  unfold Ren.set at h
  split at h
  · rename_i hc; exact .inl ⟨hc.1, hc.2, (Option.some.inj h).symm⟩
  · exact .inr h

theorem RowOk.mono {P : Program} {ρ ρ' : Ren} {r : Row} {s : Seg} {w w' : World} (h : RowOk P ρ r s w) (hρ : ρ.le ρ') (hw : w'.heap[s.blk]? = w.heap[s.blk]?) : RowOk P ρ' r s w' := by
  obtain ⟨h1, h2, h3, c, fz, h4, h5, h6, h7, h8⟩ := h
  exact ⟨h1, h2, h3, c, fz, hw.trans h4, h5, h6, fun i x hi hx => let ⟨y, hy, hv⟩ := h7 i x hi hx; ⟨y, hy, hv.mono hρ⟩, h8⟩
theorem All2.imp {α β : Type} {R S : α → β → Prop} (h : ∀ x y, R x y → S x y) : ∀ {xs : List α} {ys : List β}, All2 R xs ys → All2 S xs ys
  | _, _, .nil => .nil
  | _, _, .cons h1 h2 => .cons (h _ _ h1) (All2.imp h h2)
theorem MapOk.mono {ρ ρ' : Ren} {es : List MapEntry} {cl : Nat} {s : Seg} {w w' : World} (h : MapOk ρ es cl s w) (hρ : ρ.le ρ') (hw : w'.heap[s.blk]? = w.heap[s.blk]?) : MapOk ρ' es cl s w' := by
  obtain ⟨es', h1, h2⟩ := h
  exact ⟨es', hw.trans h1, h2.imp fun _ _ h => ⟨h.1.mono hρ, h.2.1.mono hρ, h.2.2⟩⟩

theorem ObjOk.mono {P : Program} {ρ ρ' : Ren} {o : AObj} {s : Seg} {w w' : World} (h : ObjOk P ρ o s w) (hρ : ρ.le ρ') (hw : w'.heap[s.blk]? = w.heap[s.blk]?) : ObjOk P ρ' o s w' := by
  cases o with
  | row r => trivial
  | map es cl => exact MapOk.mono h hρ hw
  | iter b q => exact ⟨hw.trans h.1, h.2⟩
  | loop ts k st pe =>
    obtain ⟨L, q, h1, h2, h3⟩ := h
    exact ⟨L, q, hw.trans h1, h2.mono hρ, h3⟩
  | opq o => exact hw.trans h
/-- A row that is there by name alone gets its place in a new block. -/
theorem place_new' {P : Program} {ρ : Ren} {H : AHeap} {w : World} (hH : RelH P ρ H w) {n : Nat} {r : Row} (hn : H.get n = some (.row r)) (hp : ∀ v, ρ n v = none) (hlt : n < H.next)
    (_hv : r.ver = 0) {esz : Nat} (hs : szT P r.elem = some esz) {cs : Array Value} (hle : r.cells.length ≤ cs.size) (hc : VRs ρ r.cells (cs.toList.take r.cells.length)) {fz : Nat × Nat} (hfz : ∀ k, k < cs.size → ¬ (fz.1 ≤ k ∧ k < fz.2)) :
    RelH P (ρ.set n 0 ⟨w.heap.size, 0, 0, r.cells.length, cs.size, esz⟩) H { w with heap := w.heap.push (.cells cs r.elem fz) } ∧
    ∀ n0, n0 ≤ n → ExtN n0 ρ H w (ρ.set n 0 ⟨w.heap.size, 0, 0, r.cells.length, cs.size, esz⟩) H { w with heap := w.heap.push (.cells cs r.elem fz) } := by
  have hmono : ρ.le (ρ.set n 0 ⟨w.heap.size, 0, 0, r.cells.length, cs.size, esz⟩) := Ren.le_set (hp 0) _
  have hold : ∀ {b : Nat}, b < w.heap.size → (w.heap.push (Obj.cells cs r.elem fz))[b]? = w.heap[b]? := fun hb => by
    rw [Array.getElem?_push]; rw [if_neg (by omega)]
  have hnew : (w.heap.push (Obj.cells cs r.elem fz))[w.heap.size]? = some (.cells cs r.elem fz) := by simp
  refine ⟨⟨hH.wf, ?_, ?_, ?_, ?_, ?_, hH.glob.mono hmono⟩, fun n0 hn0 => ⟨hmono, by simp, Nat.le_refl _, ?_, ?_, ?_, fun i r _ hg _ => ⟨hg, fun v s hs => hold (hH.dom i v s hs).2⟩, rfl, rfl⟩⟩
  · intro i v s h
    rcases Ren.set_cases h with ⟨rfl, rfl, rfl⟩ | h
    · exact ⟨hlt, by simp⟩
    · have := hH.dom i v s h
      exact ⟨this.1, by simp; omega⟩
  · intro i j u v s t h1 h2 he
    rcases Ren.set_cases h1 with ⟨e1, e2, e3⟩ | g1 <;> rcases Ren.set_cases h2 with ⟨e4, e5, e6⟩ | g2
    · exact .inl (by rw [e1, e4])
    · have := (hH.dom _ _ _ g2).2; rw [e3] at he; simp only at he; omega
    · have := (hH.dom _ _ _ g1).2; rw [e6] at he; simp only at he; omega
    · exact hH.apart i j u v s t g1 g2 he
  · intro i r' hr' s h
    rcases Ren.set_cases h with ⟨rfl, h0, rfl⟩ | h
    · rw [hn] at hr'
      obtain rfl : r = r' := by simpa using hr'
      refine ⟨rfl, Nat.zero_le _, fun _ => ⟨hs, fun _ => ⟨rfl, rfl⟩⟩, cs, fz, hnew, rfl, by simpa using hle, fun k x _ hx => ?_, fun _ k _ hk => hfz k hk⟩
      obtain ⟨y, hy, hvy⟩ := hc.get k x hx
      rw [List.getElem?_take] at hy
      split at hy
      · exact ⟨y, by simpa using hy, hvy.mono hmono⟩
      · cases hy
    · exact (hH.row i r' hr' s h).mono hmono (hold (hH.dom _ _ _ h).2)
  · intro i o hi ho s h
    rcases Ren.set_cases h with ⟨rfl, h0, rfl⟩ | h
    · rw [hn] at hi; obtain rfl := Option.some.inj hi; cases ho
    · exact (hH.obj i o hi ho s h).mono hmono (hold (hH.dom _ _ _ h).2)
  · intro i r' v hi hlt'
    have h0 := hH.future i r' v hi hlt'
    unfold Ren.set
    rw [if_neg, h0]
    rintro ⟨rfl, rfl⟩
    omega
  · intro b hb _
    exact hold hb
  · intro i v s h
    rcases Ren.set_cases h with ⟨rfl, rfl, rfl⟩ | h
    · exact .inr (Nat.le_refl _)
    · exact .inl ⟨i, v, s, h, rfl⟩
  · intro i hi h
    refine ⟨rfl, fun v => ?_⟩
    unfold Ren.set
    rw [if_neg, h v]
    rintro ⟨rfl, _⟩
    omega

theorem place_new {P : Program} {ρ : Ren} {H : AHeap} {w : World} (hH : RelH P ρ H w) {n : Nat} {r : Row} (hn : H.get n = some (.row r)) (hp : ∀ v, ρ n v = none) (hlt : n < H.next)
    (hv : r.ver = 0) {esz : Nat} (hs : szT P r.elem = some esz) {cs : Array Value} (hle : r.cells.length ≤ cs.size) (hc : VRs ρ r.cells (cs.toList.take r.cells.length)) :
    RelH P (ρ.set n 0 ⟨w.heap.size, 0, 0, r.cells.length, cs.size, esz⟩) H { w with heap := w.heap.push (.cells cs r.elem) } ∧
    ∀ n0, n0 ≤ n → ExtN n0 ρ H w (ρ.set n 0 ⟨w.heap.size, 0, 0, r.cells.length, cs.size, esz⟩) H { w with heap := w.heap.push (.cells cs r.elem) } :=
  place_new' hH hn hp hlt hv hs hle hc (fz := (0, 0)) (fun k _ => by simp)
/-- A count of draws, behind. -/
theorem RelH.drewW {P : Program} {ρ : Ren} {H : AHeap} {w : World} (h : RelH P ρ H w) (n : Nat) : RelH P ρ H { w with drawn := n } := h.drew n
theorem ExtN.drewW {n0 : Nat} {ρ ρ' : Ren} {H H' : AHeap} {w w' : World} (h : ExtN n0 ρ H w ρ' H' w') (n : Nat) : ExtN n0 ρ H w ρ' H' { w' with drawn := n } :=
  ⟨h.mono, h.size, h.next, h.frame, h.fresh, h.phantom, h.ro, h.os, h.out⟩

/-- A further name, with no place yet. -/
theorem RelH.push {P : Program} {ρ : Ren} {H : AHeap} {w : World} (hH : RelH P ρ H w) (o : AObj) : RelH P ρ (H.push o) w := by
  have hne : ∀ {i v s}, ρ i v = some s → i ≠ H.next := fun h => Nat.ne_of_lt (hH.dom _ _ _ h).1
  refine ⟨fun i hi => ?_, fun i v s h => ?_, fun i j u v s t h1 h2 he => (hH.apart i j u v s t h1 h2 he).imp id fun h => ⟨AHeap.ro_push (hH.dom _ _ _ h1).1 h.1, AHeap.ro_push (hH.dom _ _ _ h2).1 h.2⟩, fun i r hr s h => ?_, fun i o hi ho s h => ?_, fun i r v hr hv => ?_, hH.glob⟩
  · rw [AHeap.push_next] at hi
    rw [AHeap.push_get, if_neg (by omega)]
    exact hH.wf i (by omega)
  · have := hH.dom i v s h
    exact ⟨by rw [AHeap.push_next]; omega, this.2⟩
  · rw [AHeap.push_get, if_neg (hne h)] at hr
    exact hH.row i r hr s h
  · rw [AHeap.push_get, if_neg (hne h)] at hi
    exact hH.obj i o hi ho s h
  · by_cases he : i = H.next
    · cases hρ : ρ i v with
      | none => rfl
      | some s => exact absurd he (hne hρ)
    · rw [AHeap.push_get, if_neg he] at hr
      exact hH.future i r v hr hv
theorem RelH.noPlace {P : Program} {ρ : Ren} {H : AHeap} {w : World} (hH : RelH P ρ H w) {i : Nat} (hi : H.next ≤ i) (v : Nat) : ρ i v = none := by
  cases hρ : ρ i v with
  | none => rfl
  | some s => have := (hH.dom i v s hρ).1; omega
theorem ExtN.push {ρ : Ren} {H : AHeap} {w : World} (o : AObj) (n0 : Nat) (hn : n0 ≤ H.next) : ExtN n0 ρ H w ρ (H.push o) w :=
  ⟨Ren.le_refl ρ, Nat.le_refl _, by rw [AHeap.push_next]; omega, fun _ _ _ => rfl, fun i v s h => .inl ⟨i, v, s, h, rfl⟩,
    fun i hi h => ⟨by rw [AHeap.push_get, if_neg (by omega)], h⟩, fun i r hi hg _ => ⟨by rw [AHeap.push_get, if_neg (by omega)]; exact hg, fun _ _ _ => rfl⟩, rfl, rfl⟩

/-! ### What is made -/

def zrep (c : Nat) (z : List Value) : List Value := (List.replicate c z).flatten
theorem zrep_succ (c : Nat) (z : List Value) : zrep (c + 1) z = z ++ zrep c z := by simp [zrep, List.replicate_succ]
theorem zrep_length (c : Nat) (z : List Value) : (zrep c z).length = c * z.length := by
  induction c with
  | zero => simp [zrep]
  | succ c ih => rw [zrep_succ, List.length_append, ih, Nat.add_mul, Nat.one_mul, Nat.add_comm]
theorem range_zrep (z : Array Value) (c : Nat) : ((Array.range (c * z.size)).map fun i => z[i % z.size]!).toList = zrep c z.toList := by
  rw [Array.toList_map, Array.toList_range]
  induction c with
  | zero => simp [zrep]
  | succ c ih =>
    rw [zrep_succ, ← ih, Nat.add_mul, Nat.one_mul, Nat.add_comm, List.range_add, List.map_append]
    congr 1
    · apply List.ext_getElem
      · simp
      · intro i h1 h2
        simp only [List.length_map, List.length_range] at h1
        simp [Nat.mod_eq_of_lt h1, h1]
    · rw [List.map_map]
      apply List.map_congr_left
      intro i _
      simp
theorem simple_zrep {c : Nat} {z : List Value} (h : ∀ x ∈ z, simpleV x = true) : ∀ x ∈ zrep c z, simpleV x = true := by
  intro x hx
  simp only [zrep, List.mem_flatten, List.mem_replicate] at hx
  obtain ⟨l, ⟨_, rfl⟩, hx⟩ := hx
  exact h x hx

/-- The row that is made, and the value by the row's name. -/
def aA (P : Program) (ev : Operand → Value) (o : Oper) : Option (Row × (Nat → Value)) :=
  match o.op with
  | .alloc t => match zeroT P t, szT P t with
    | some z, some _ => some (⟨z, t, 0, true⟩, fun n => .pointer (some ⟨n, 0, none⟩))
    | _, _ => none
  | .box t x => match szT P t with
    | some _ => some (⟨(ev x).cells.toList, t, 0, true⟩, fun n => .pointer (some ⟨n, 0, none⟩))
    | none => none
  | .buildSlice t len ps => match P.underlying t with
    | some (.slice e) => match szT P e, zeroT P e with
      | some (k + 1), some z =>
        if len * (k + 1) ≤ 16777216 then
          match Instr.fill (fun i => some (i * (k + 1), k + 1)) (zrep len z).toArray (evParts ev ps) with
          | some cells => some (⟨cells.toList, e, 0, true⟩, fun n => .slice (some ⟨n, 0, none⟩) len len)
          | none => none
        else none
      | _, _ => none
    | _ => none
  | .makeSlice t l c => match P.underlying t, ev l, ev c with
    | some (.slice e), .int _ l, .int _ c => match szT P e, zeroT P e, byT P e with
      | some (_ + 1), some z, some (by' + 1) =>
        if 0 ≤ l ∧ l ≤ c ∧ c * (by' + 1) ≤ 281474976710656 then some (⟨zrep c.toNat z, e, 0, true⟩, fun n => .slice (some ⟨n, 0, none⟩) l.toNat c.toNat) else none
      | _, _, _ => none
    | _, _, _ => none
  | .convert src dst x => match P.underlying src, P.underlying dst, ev x with
    | some .string, some (.slice e), .string s => match P.underlying e, szT P e with
      | some (.int .u8), some 1 => if s.size < openCap then some (⟨s.data.toList.map fun b => .int .u8 b.toNat, e, 0, true⟩, fun n => .slice (some ⟨n, 0, none⟩) s.size (openCap + 1)) else none
      | _, _ => none
    | _, _, _ => none
  | _ => none

theorem aA_sim {P : Program} {ρ : Ren} {H : AHeap} {w : World} (hH : RelH P ρ H w) {ev ev' : Operand → Value} {o : Oper} {r : Row} {mk : Nat → Value} (h : aA P ev o = some (r, mk))
    (hv : ∀ x ∈ o.op.operands, VR ρ (ev x) (ev' x)) {n : Nat} (hn : H.get n = some (.row r)) (hp : ∀ v, ρ n v = none) (hlt : n < H.next) :
    ∃ v' ρ' w', (execOp ev' o).run P w = .ok (.value v') w' ∧ VR ρ' (mk n) v' ∧ RelH P ρ' H w' ∧ (∀ n0, n0 ≤ n → ExtN n0 ρ H w ρ' H w') ∧ ∀ j v, j ≠ n → ρ' j v = ρ j v := by
  have oth : ∀ (s : Seg) (j v : Nat), j ≠ n → ρ.set n 0 s j v = ρ j v := fun s j v hj => by
    unfold Ren.set; rw [if_neg (by rintro ⟨h, _⟩; exact hj h)]
  have ptr : ∀ (e : Nat) (a b c d : Nat), VR (ρ.set n 0 ⟨e, 0, 0, a, b, c⟩) (.pointer (some ⟨n, d, none⟩)) (.pointer (some ⟨e, d, none⟩)) := fun e a b c d =>
    .ptr ⟨_, Ren.set_same ρ n 0 _, Nat.zero_le _, by simp [Seg.at]⟩
  obtain ⟨dst, op, type, pos, after, guard⟩ := o
  unfold aA at h
  split at h
  · rename_i t heq
    dsimp only at heq; subst heq
    split at h
    · rename_i z k hz hs
      simp only [Option.some.injEq, Prod.mk.injEq] at h
      obtain ⟨rfl, rfl⟩ := h
      obtain ⟨i, z', h1, h2, rfl, h4, h5⟩ := zeroT_spec hz
      have hnew := place_new (esz := k) hH hn hp hlt rfl hs (cs := z'.cells) (by simp) (by simp only [Array.length_toList]; rw [List.take_of_length_le (by simp)]; exact VRs.of_simple h4)
      refine ⟨_, _, _, ?_, ptr _ _ _ _ 0, hnew.1, hnew.2, oth _⟩
      simp [execOp, Instr.alloc, newVar, newRow, zeroValue, typeInfo, h1, h2]
    · cases h
  · rename_i t x heq
    dsimp only at heq; subst heq
    split at h
    · rename_i k hs
      simp only [Option.some.injEq, Prod.mk.injEq] at h
      obtain ⟨rfl, rfl⟩ := h
      have hx := (hv x (by simp [Op.operands])).cells
      have hl := hx.length
      have hnew := place_new (esz := k) hH hn hp hlt rfl hs (cs := (ev' x).cells) (by simp only [Array.length_toList] at hl ⊢; omega) (by dsimp only; rw [List.take_of_length_le (by omega)]; exact hx)
      refine ⟨_, _, _, ?_, ptr _ _ _ _ 0, hnew.1, hnew.2, oth _⟩
      simp [execOp, Instr.box, newVar, newRow]
    · cases h
  · rename_i t len ps heq
    dsimp only at heq; subst heq
    split at h
    case h_2 => cases h
    rename_i e hu
    split at h
    case h_2 => cases h
    rename_i k z hs hz
    split at h
    case isFalse => cases h
    rename_i hle
    split at h
    case h_2 => cases h
    rename_i cells hf
    simp only [Option.some.injEq, Prod.mk.injEq] at h
    obtain ⟨rfl, rfl⟩ := h
    obtain ⟨i, z', h1, h2, rfl, h4, h5⟩ := zeroT_spec hz
    have hsi : i.size = k + 1 := by simpa [szT, h1] using hs
    have hparts : PartsR ρ (evParts ev ps) (ps.map fun p => (p.1, ev' p.2)).toList := by
      have : ∀ l : List (Nat × Operand), (∀ p ∈ l, p ∈ ps.toList) → PartsR ρ (l.map fun p => (p.1, ev p.2)) (l.map fun p => (p.1, ev' p.2)) := by
        intro l
        induction l with
        | nil => intro _; exact .nil
        | cons p l ih =>
          intro hl
          refine .cons ⟨rfl, hv p.2 ?_⟩ (ih fun q hq => hl q (by simp [hq]))
          simp only [Op.operands, List.mem_toArray, List.mem_map]
          exact ⟨p, hl p (by simp), rfl⟩
      simpa [evParts] using this ps.toList (fun _ h => h)
    have hzz : VRs ρ (zrep len z'.cells.toList).toArray.toList (zrep len z'.cells.toList).toArray.toList := VRs.of_simple (by simpa using simple_zrep h4)
    obtain ⟨cells', hf', hvc⟩ := fill_sim _ _ _ _ _ _ hparts hzz hf
    have hl := hvc.length
    have hnew := place_new (esz := k + 1) hH hn hp hlt rfl hs (cs := cells') (by simp only [Array.length_toList] at hl ⊢; omega) (by dsimp only; rw [List.take_of_length_le (by omega)]; exact hvc)
    refine ⟨.slice (some ⟨w.heap.size, 0, none⟩) len len, _, _, ?_, ?_, hnew.1, hnew.2, oth _⟩
    · have hzs : z'.cells.size = k + 1 := by simpa [hsi] using h5
      have hrange : (Array.range (len * (k + 1))).map (fun i => z'.cells[i % z'.cells.size]!) = (zrep len z'.cells.toList).toArray := by
        apply Array.ext'
        rw [← hzs, range_zrep]
      have hnle : ¬ len * (k + 1) > 2 ^ 24 := by simp only [Nat.reducePow]; omega
      have hz00 : ¬ (0 : Nat) > 2 ^ 24 := by decide
      by_cases h0 : len * (k + 1) = 0
      · have hz0 : (Array.range 0).map (fun i => (#[] : Array Value)[i % (#[] : Array Value).size]!) = (zrep len z'.cells.toList).toArray := by
          have : len = 0 := by rcases Nat.mul_eq_zero.1 h0 with h | h <;> omega
          subst this
          simp [zrep]
        simp only [execOp, Instr.buildSlice, Sem.run_bind, run_underlying hu, Result.andThen_ok, run_sizeT hs, hz00, if_false, Sem.run_ite, h0, if_true, Sem.run_pure]
        rw [hz0]
        simp only [hf', newRow, Sem.run_bind, run_newObj, Result.andThen_ok, Sem.run_pure]
      · simp only [execOp, Instr.buildSlice, Sem.run_bind, run_underlying hu, Result.andThen_ok, run_sizeT hs, hnle, if_false, Sem.run_ite, h0, zeroValue, run_infoT h1, h2, Sem.run_pure]
        rw [hrange]
        simp only [hf', newRow, Sem.run_bind, run_newObj, Result.andThen_ok, Sem.run_pure]
    · refine .slice (.inr (.inl ⟨?_, rfl, _, Ren.set_same ρ n 0 _, Nat.zero_le _, by simp [Seg.at]⟩))
      have : len ≤ len * (k + 1) := Nat.le_mul_of_pos_right _ (by omega)
      have h9 : openCap = 9223372036854775808 := rfl
      omega
  · rename_i t l c heq
    dsimp only at heq; subst heq
    split at h
    case h_2 => cases h
    rename_i e k1 li k2 ci hu hl hc
    split at h
    case h_2 => cases h
    rename_i k z b hs hz hb
    split at h
    case isFalse => cases h
    rename_i hcond
    obtain ⟨hc0, hc1, hc2⟩ := hcond
    simp only [Option.some.injEq, Prod.mk.injEq] at h
    obtain ⟨rfl, rfl⟩ := h
    have hl' := hv l (by simp [Op.operands])
    have hc' := hv c (by simp [Op.operands])
    rw [hl] at hl'
    rw [hc] at hc'
    generalize hle : ev' l = el at hl'
    generalize hce : ev' c = ec at hc'
    cases hl'
    cases hc'
    obtain ⟨i, z', h1, h2, rfl, h4, h5⟩ := zeroT_spec hz
    have hsi : i.size = k + 1 := by simpa [szT, h1] using hs
    have hbi : i.bytes = b + 1 := by simpa [byT, h1] using hb
    have hcb : ci ≤ 281474976710656 := by
      have : ci * 1 ≤ ci * ((b : Int) + 1) := Int.mul_le_mul_of_nonneg_left (by omega) (by omega)
      omega
    have hzs : z'.cells.size = k + 1 := by simpa [hsi] using h5
    have hnew := place_new (esz := k + 1) hH hn hp hlt rfl hs (cs := (zrep ci.toNat z'.cells.toList).toArray) (by simp) (by simp only [List.take_length]; exact VRs.of_simple (simple_zrep h4))
    refine ⟨.slice (some ⟨w.heap.size, 0, none⟩) li.toNat ci.toNat, _, _, ?_, ?_, hnew.1, hnew.2, oth _⟩
    · have hrange : (Array.range (ci.toNat * (k + 1))).map (fun i => z'.cells[i % z'.cells.size]!) = (zrep ci.toNat z'.cells.toList).toArray := by
        apply Array.ext'
        rw [← hzs, range_zrep]
      have w1 : IntKind.i64.wrap li = li := IntWalk.i64_in li (by omega)
      have w2 : IntKind.i64.wrap ci = ci := IntWalk.i64_in ci (by omega)
      have hmul : ((b : Int) + 1) * ci = ci * ((b : Int) + 1) := Int.mul_comm _ _
      have t1 : (decide (ci < 0) || decide (281474976710656 < ((b : Int) + 1) * ci)) = false := by
        rw [hmul]
        simp only [Bool.or_eq_false_iff, decide_eq_false_iff_not]
        exact ⟨by omega, by omega⟩
      have t2 : decide (li < 0) = false := by simp; omega
      have t3 : decide (li > ci) = false := by simp; omega
      have t0 : (decide (ci < 0) || decide (((b + 1 : Nat) : Int) * ci > 2 ^ 48) || decide (li < 0) || decide (li > ci)) = false := by
        rw [t2, t3]
        simp only [Bool.or_false]
        simpa using t1
      by_cases h0 : ci.toNat * (k + 1) = 0
      · have hz0 : (Array.range (ci.toNat * (k + 1))).map (fun i => (#[] : Array Value)[i % (#[] : Array Value).size]!) = (zrep ci.toNat z'.cells.toList).toArray := by
          have : ci.toNat = 0 := by rcases Nat.mul_eq_zero.1 h0 with h | h <;> omega
          rw [this]
          simp [zrep]
        have hz1 : (Array.range 0).map (fun i => (#[] : Array Value)[i % (#[] : Array Value).size]!) = (zrep ci.toNat z'.cells.toList).toArray := by
          rw [← hz0, h0]
        simp only [execOp, Instr.makeSlice, Sem.run_bind, run_underlying hu, Result.andThen_ok, hle, hce, asInt, asIntOf, Sem.run_pure, run_infoT h1, hbi, w1, w2, t0, Bool.false_eq_true, if_false,
          run_askRoom, run_sizeT hs, h0, if_true, newRow, run_newObj]
        rw [hz1]
      · simp only [execOp, Instr.makeSlice, Sem.run_bind, run_underlying hu, Result.andThen_ok, hle, hce, asInt, asIntOf, Sem.run_pure, run_infoT h1, hbi, w1, w2, t0, Bool.false_eq_true, if_false,
          run_askRoom, run_sizeT hs, h0, newRow, run_newObj, zeroValue, h2]
        rw [hrange]
    · refine .slice (.inr (.inl ⟨?_, rfl, _, Ren.set_same ρ n 0 _, Nat.zero_le _, by simp [Seg.at]⟩))
      have h9 : openCap = 9223372036854775808 := rfl
      omega
  · rename_i src dst x heq
    dsimp only at heq; subst heq
    split at h
    case h_2 => cases h
    rename_i e str hus hud hx
    split at h
    case h_2 => cases h
    rename_i hue hse
    split at h
    case isFalse => cases h
    rename_i hlt'
    simp only [Option.some.injEq, Prod.mk.injEq] at h
    obtain ⟨rfl, rfl⟩ := h
    have hx' := hv x (by simp [Op.operands])
    rw [hx] at hx'
    generalize hex : ev' x = ex at hx'
    cases hx'
    have hge := grownCap_ge w str.size 0 e
    have hlen : (bytesRow str (grownCap w str.size 0 e)).size = grownCap w str.size 0 e := by
      have : str.data.size = str.size := rfl
      simp only [bytesRow, Array.size_append, Array.size_map, Array.size_replicate]
      omega
    have hsz : str.data.toList.length = str.size := by simp
    have hnew := place_new' (esz := 1) (fz := ((bytesRow str (grownCap w str.size 0 e)).size, (bytesRow str (grownCap w str.size 0 e)).size + 1)) hH hn hp hlt rfl hse (cs := bytesRow str (grownCap w str.size 0 e))
      (by simp only [List.length_map, hsz, hlen]; exact hge) (by
        dsimp only
        have : (bytesRow str (grownCap w str.size 0 e)).toList.take (str.data.toList.map fun b => Value.int .u8 b.toNat).length = str.data.toList.map fun b => Value.int .u8 b.toNat := by
          simp only [bytesRow, Array.toList_append, Array.toList_map]
          exact List.take_left' rfl
        rw [this]
        refine VRs.of_simple fun y hy => ?_
        simp only [List.mem_map] at hy
        obtain ⟨b, _, rfl⟩ := hy
        rfl) (fun k hk => by simp only; omega)
    refine ⟨.slice (some ⟨w.heap.size, 0, none⟩) str.size (grownCap w str.size 0 e), _, _, ?_, ?_, (hnew.1).drewW (w.drawn + 1), fun n0 h0 => (hnew.2 n0 h0).drewW (w.drawn + 1), oth _⟩
    · simp only [execOp, hex, Sem.run_bind, run_bytes_of_string w src dst e str hus hud hue, Result.andThen_ok, Sem.run_pure]
      rfl
    · refine .slice (.inr (.inr ⟨by simp [openCap], _, Ren.set_same ρ n 0 _, Nat.zero_le _, by simp [Seg.at], rfl, hlt', hge, ?_, ?_⟩))
      · simp only [List.length_map, hsz]; omega
      · simp only [hlen]; omega
  · cases h

end Go.Ae
namespace Go.Ae

/-! ### Cells written into a block -/

def seg (c : Array Value) (o : Nat) (vs : List Value) : Array Value := (c.toList.take o ++ vs ++ c.toList.drop (o + vs.length)).toArray
theorem seg_size {c : Array Value} {o : Nat} {vs : List Value} (h : o + vs.length ≤ c.size) : (seg c o vs).size = c.size := by
  simp only [seg, List.size_toArray, List.length_append, List.length_take, List.length_drop, Array.length_toList]
  omega
theorem seg_get {c : Array Value} {o : Nat} {vs : List Value} (h : o + vs.length ≤ c.size) (k : Nat) :
    (seg c o vs)[k]? = if k < o then c[k]? else if k < o + vs.length then vs[k - o]? else c[k]? := by
  have hl : (c.toList.take o).length = o := by simp; omega
  simp only [seg, List.getElem?_toArray, List.append_assoc]
  rw [List.getElem?_append]
  rw [hl]
  split
  · rename_i hk; rw [List.getElem?_take, if_pos hk]; simp
  · rw [List.getElem?_append]
    split
    · rename_i h1 h2; rw [if_pos (by omega)]
    · rename_i h1 h2
      rw [if_neg (by omega), List.getElem?_drop]
      rw [show o + vs.length + (k - o - vs.length) = k by omega]
      simp
theorem seg_cons {c : Array Value} {o : Nat} {v : Value} {vs : List Value} (h : o + (vs.length + 1) ≤ c.size) : seg (c.setIfInBounds o v) (o + 1) vs = seg c o (v :: vs) := by
  apply Array.ext_getElem?
  intro k
  rw [seg_get (by simp; omega), seg_get (by simpa using h)]
  simp only [Array.getElem?_setIfInBounds, List.length_cons]
  by_cases h1 : k < o
  · rw [if_pos (by omega), if_pos h1, if_neg (by omega)]
  · rw [if_neg h1]
    by_cases h2 : k = o
    · subst h2
      rw [if_pos (by omega), if_pos rfl, if_pos (by omega), if_pos (by omega)]
      simp
    · rw [if_neg (by omega)]
      by_cases h3 : k < o + 1 + vs.length
      · rw [if_pos h3, if_pos (by omega), show k - o = (k - (o + 1)) + 1 by omega]
        simp
      · rw [if_neg h3, if_neg (by omega), if_neg (by omega)]
theorem setCells_heap (b : Nat) : ∀ (vs : List Value) (o : Nat) (w : World) (c : Array Value) (e : TypeId) (fz : Nat × Nat), w.heap[b]? = some (.cells c e fz) → o + vs.length ≤ c.size →
    (w.setCells b o vs).heap[b]? = some (.cells (seg c o vs) e fz) ∧ (∀ k, k ≠ b → (w.setCells b o vs).heap[k]? = w.heap[k]?) ∧ (w.setCells b o vs).heap.size = w.heap.size ∧
      (w.setCells b o vs).os = w.os ∧ (w.setCells b o vs).output = w.output
  | [], o, w, c, e, fz, h, hl => by
    refine ⟨?_, fun _ _ => rfl, rfl, rfl, rfl⟩
    simp only [World.setCells, seg, List.append_nil, List.length_nil, Nat.add_zero, List.take_append_drop]
    simpa using h
  | v :: vs, o, w, c, e, fz, h, hl => by
    have h0 : (w.setCell ⟨b, o, none⟩ v).heap[b]? = some (.cells (c.setIfInBounds o v) e fz) := by
      simp [World.setCell, Array.getElem?_modify, h]
    obtain ⟨i1, i2, i3, i4, i5⟩ := setCells_heap b vs (o + 1) (w.setCell ⟨b, o, none⟩ v) _ e fz h0 (by simp at hl ⊢; omega)
    refine ⟨?_, fun k hk => ?_, ?_, i4, i5⟩
    · rw [World.setCells, i1, seg_cons (by simpa using hl)]
    · rw [World.setCells, i2 k hk]
      simp [World.setCell, Array.getElem?_modify, Ne.symm hk]
    · rw [World.setCells, i3]
      simp [World.setCell]

/-- Cells written into a row that has its place. -/
theorem put_place {P : Program} {ρ : Ren} {H : AHeap} {w : World} (hH : RelH P ρ H w) {i : Nat} {r r' : Row} (hg : H.get i = some (.row r)) (hrw : r.rw = true) (hv : r'.ver = r.ver) {s : Seg} (hs : ρ i r.ver = some s)
    {w' : World} (hrow : RowOk P ρ r' s w') (hother : ∀ k, k ≠ s.blk → w'.heap[k]? = w.heap[k]?) (hsize : w'.heap.size = w.heap.size) (hos : w'.os = w.os) (hout : w'.output = w.output) :
    RelH P ρ (H.put i (.row r')) w' ∧ Ext ρ H w ρ (H.put i (.row r')) w' := by
  have hi := (hH.dom i _ s hs).1
  refine ⟨⟨fun j hj => ?_, fun j v t h => ?_, fun i1 j1 u1 v1 s1 t1 h1 h2 he => (hH.apart i1 j1 u1 v1 s1 t1 h1 h2 he).imp id fun h => ⟨AHeap.ro_put hg hrw h.1, AHeap.ro_put hg hrw h.2⟩, fun j q hq t h => ?_, fun j o hq ho t h => ?_, fun j q v hq hlt => ?_, hH.glob⟩,
    ⟨Ren.le_refl ρ, by omega, Nat.le_refl _, fun b _ hb => ?_, fun j v t h => .inl ⟨j, v, t, h, rfl⟩, fun j hj h => ⟨?_, h⟩, fun j q _ hq hqr => ?_, hos, hout⟩⟩
  · rw [AHeap.put_next] at hj
    rw [AHeap.put_get, if_neg (by omega)]
    exact hH.wf j hj
  · have := hH.dom j v t h
    exact ⟨this.1, by omega⟩
  · rw [AHeap.put_get] at hq
    split at hq
    · rename_i he
      subst he
      obtain rfl : r' = q := by simpa using hq
      rw [hv, hs] at h
      obtain rfl := Option.some.inj h
      exact hrow
    · rename_i he
      refine (hH.row j q hq t h).mono (Ren.le_refl ρ) (hother _ fun hb => he ?_)
      exact hH.apart' hg hrw h hs hb
  · rw [AHeap.put_get] at hq
    split at hq
    · obtain rfl := Option.some.inj hq; cases ho
    · rename_i he
      refine (hH.obj j o hq ho t h).mono (Ren.le_refl ρ) (hother _ fun hb => he ?_)
      exact hH.apart' hg hrw h hs hb
  · rw [AHeap.put_get] at hq
    split at hq
    · rename_i he
      subst he
      obtain rfl : r' = q := by simpa using hq
      exact hH.future j r v hg (by omega)
    · exact hH.future j q v hq hlt
  · exact hother b fun e => hb i _ s hs e.symm
  · rw [AHeap.put_get, if_neg]
    rintro rfl
    rw [h r.ver] at hs
    cases hs
  · have hne : j ≠ i := by
      rintro rfl
      rw [hg] at hq
      obtain rfl : r = q := by simpa using hq
      rw [hrw] at hqr
      cases hqr
    exact ⟨by rw [AHeap.put_get, if_neg hne]; exact hq, fun v t ht => hother _ fun hb => hne (hH.apart' hg hrw ht hs hb)⟩

def lset (l : List Value) (o : Nat) (vs : List Value) : List Value := l.take o ++ vs ++ l.drop (o + vs.length)
theorem lset_length {l : List Value} {o : Nat} {vs : List Value} (h : o + vs.length ≤ l.length) : (lset l o vs).length = l.length := by
  simp only [lset, List.length_append, List.length_take, List.length_drop]
  omega
theorem lset_get {l : List Value} {o : Nat} {vs : List Value} (h : o + vs.length ≤ l.length) (k : Nat) :
    (lset l o vs)[k]? = if k < o then l[k]? else if k < o + vs.length then vs[k - o]? else l[k]? := by
  have := seg_get (c := l.toArray) (o := o) (vs := vs) (by simpa using h) k
  simpa [seg, lset] using this

def AHeap.setCells (H : AHeap) (a : Addr) (vs : List Value) : Option AHeap :=
  (H.rowAt a).bind fun r => if r.rw && decide (a.off + vs.length ≤ r.cells.length) && vs.all Value.oneCell' then some (H.put a.block (.row { r with cells := lset r.cells a.off vs })) else none

theorem All2.all {ρ : Ren} : ∀ {xs ys : List Value}, VRs ρ xs ys → xs.all Value.oneCell' = true → ∀ y ∈ ys, y.oneCell' = true
  | _, _, .nil, _, y, hy => by simp at hy
  | _, _, .cons h1 h2, h, y, hy => by
    simp only [List.all_cons, Bool.and_eq_true] at h
    rcases List.mem_cons.1 hy with rfl | hy
    · rw [h1.oneCell]; exact h.1
    · exact All2.all h2 h.2 y hy

theorem setCells_sim {P : Program} {ρ : Ren} {H H' : AHeap} {w : World} (hH : RelH P ρ H w) {a b : Addr} (hp : PR ρ a b) {vs vs' : List Value} (h : H.setCells a vs = some H') (hv : VRs ρ vs vs') :
    ∃ w', (storeCells b vs').run P w = .ok () w' ∧ RelH P ρ H' w' ∧ Ext ρ H w ρ H' w' := by
  unfold AHeap.setCells at h
  simp only [Option.bind_eq_some_iff] at h
  obtain ⟨r, hr, h⟩ := h
  split at h
  case isFalse => cases h
  rename_i hc
  simp only [Bool.and_eq_true, decide_eq_true_eq] at hc
  obtain ⟨⟨hrw, hle⟩, hone⟩ := hc
  obtain rfl := Option.some.inj h
  obtain ⟨hg, hver⟩ := AHeap.rowAt_spec hr
  obtain ⟨s, hs, hlo, rfl⟩ := hp
  rw [hver] at hs
  obtain ⟨h1, h2, h3, c, fz, hc, hsz, hfit, hcells, hfz⟩ := hH.row _ _ hg s hs
  have hlen := hv.length
  have hbnd : s.base + (a.off - s.lo) + vs'.length ≤ c.size := by omega
  obtain ⟨g1, g2, g3, g4, g5⟩ := setCells_heap s.blk vs' (s.base + (a.off - s.lo)) w c r.elem fz hc hbnd
  have hst := run_storeCells_cells (P := P) s.blk (s.base + (a.off - s.lo)) vs' 0 w
    (fun j hj => by
      simp only [World.cell?, hc, Option.isSome_none, Bool.false_eq_true, if_false]
      rw [Array.getElem?_eq_getElem (by omega)]
      rfl)
    (fun j hj => by
      have := hfz hrw (s.base + (a.off - s.lo) + 0 + j) (by omega) (by omega)
      simp only [World.frozen?, hc, Bool.and_eq_false_iff, decide_eq_false_iff_not]
      by_cases h0 : fz.1 ≤ s.base + (a.off - s.lo) + 0 + j
      · exact .inr fun h => this ⟨h0, h⟩
      · exact .inl h0)
    (hv.all hone)
  simp only [Nat.add_zero] at hst
  refine ⟨_, hst, ?_⟩
  refine put_place (r' := { r with cells := lset r.cells a.off vs }) hH hg hrw rfl hs ?_ g2 g3 g4 g5
  have hll : (lset r.cells a.off vs).length = r.cells.length := lset_length hle
  refine ⟨by simp only [hll]; exact h1, h2, h3, _, fz, g1, (seg_size hbnd).trans hsz, hfit, fun i x hi hx => ?_, hfz⟩
  simp only at hx
  rw [lset_get hle] at hx
  rw [seg_get hbnd]
  by_cases c1 : i < a.off
  · rw [if_pos c1] at hx
    rw [if_pos (by omega)]
    exact hcells i x hi hx
  · rw [if_neg c1] at hx
    rw [if_neg (by omega)]
    by_cases c2 : i < a.off + vs.length
    · rw [if_pos c2] at hx
      rw [if_pos (by omega), show s.base + (i - s.lo) - (s.base + (a.off - s.lo)) = i - a.off by omega]
      exact hv.get _ x hx
    · rw [if_neg c2] at hx
      rw [if_neg (by omega)]
      exact hcells i x hi hx

def storeA (P : Program) (H : AHeap) (t : TypeId) (x v : Value) : Option AHeap :=
  match x, szT P t with
  | .pointer (some a), some n => if v.cells.size = n then H.setCells a v.cells.toList else none
  | _, _ => none
theorem storeA_sim {P : Program} {ρ : Ren} {H H' : AHeap} {w : World} (hH : RelH P ρ H w) {t : TypeId} {x x' v v' : Value} (h : storeA P H t x v = some H') (hx : VR ρ x x') (hv : VR ρ v v') :
    ∃ w', (Instr.storeAt t x' v').run P w = .ok () w' ∧ RelH P ρ H' w' ∧ Ext ρ H w ρ H' w' := by
  unfold storeA at h
  split at h
  · rename_i a n hs
    split at h
    · rename_i hsz
      cases hx with
      | ptr hp =>
        obtain ⟨w', h1, h2, h3⟩ := setCells_sim hH hp h hv.cells
        have hl := hv.cells.length
        simp only [Array.length_toList] at hl
        refine ⟨w', ?_, h2, h3⟩
        simp [Instr.storeAt, Instr.sureAddr, storeVar, run_sizeT hs, ← hl, hsz, h1]
    · cases h
  · cases h

end Go.Ae

/- A slice of texts is taken over into an exact heap. ScaleKeys: a world that meets the statement's condition. ScaleKeys: the closed cells of its row. What the program's variables hold when the function is called. -/
import Derived.Test.YtmibkoadjehdaaaGreatDoorKy15
import Derived.Test.YtmibkoadjehdaaaGreatDoorKy19
import Derived.Test.YtmibkoadjehdaaaGreatDoorRows
import Derived.ProofKit
import Derived.LaidMore
import Derived.Lay
import Derived.Stop.Joined
import Derived.JoinedOf
import Derived.KernelRfl
import Derived.Test.YtmibkoadjehdaaaGreatDoorKy36
import Derived.OpenShut
import Derived.FnData
import Derived.ShapedOpen
set_option linter.unusedVariables false
set_option linter.unusedSimpArgs false
set_option linter.unusedVariables false
set_option linter.unusedSimpArgs false
namespace Go.Ae
open Go.Proofs
theorem push_ro {P : Program} {ρ : Ren} {H : AHeap} {w : World} (hH : RelH P ρ H w) (hro : ∀ i v s, ρ i v = some s → H.ro i) {r : Row} : RelH P ρ (H.push (.row r)) w ∧ ∀ i v t, ρ i v = some t → (H.push (.row r)).ro i := by
  have hold : ∀ {i v t}, ρ i v = some t → (H.push (.row r)).get i = H.get i := fun h => by rw [AHeap.push_get, if_neg (Nat.ne_of_lt (hH.dom _ _ _ h).1)]
  have hro' : ∀ i v t, ρ i v = some t → (H.push (.row r)).ro i := fun i v t h => AHeap.ro_push (hH.dom _ _ _ h).1 (hro i v t h)
  refine ⟨⟨?_, ?_, ?_, ?_, ?_, ?_, hH.glob⟩, hro'⟩
  · intro i hi
    rw [AHeap.push_next] at hi
    rw [AHeap.push_get, if_neg (by omega)]
    exact hH.wf i (by omega)
  · intro i v t h
    have := hH.dom i v t h
    exact ⟨by rw [AHeap.push_next]; omega, this.2⟩
  · intro i j u v s t h1 h2 he
    exact .inr ⟨hro' _ _ _ h1, hro' _ _ _ h2⟩
  · intro i q hq t h
    rw [hold h] at hq
    exact hH.row i q hq t h
  · intro i o hq ho t h
    rw [hold h] at hq
    exact hH.obj i o hq ho t h
  · intro i q v hq hlt
    by_cases he : i = H.next
    · subst he
      exact hH.noPlace (Nat.le_refl _) v
    · rw [AHeap.push_get, if_neg he] at hq
      exact hH.future i q v hq hlt
theorem imp_texts {P : Program} {W : World} {t e : TypeId} {b : Nat} (ht : P.underlying t = some (.slice e)) (he : P.underlying e = some .string) (hk : P.cellsOf e = 0 + 1) (hby : P.bytesOf e = b)
    {T : Type} (enc : TypeId × Value → T) {fuel : Nat} {cs : List Value} {d : DataW T} {ps : List MemPlace} {ρ : Ren} {H : AHeap} (h : DataW.trod enc P W 0 (fun _ => true) true fuel t cs = some (d, ps)) (hw : (DataW.weights P t d).all (· ≤ reachBytes) = true) (hH : RelH P ρ H W) (hro : ∀ i v s, ρ i v = some s → H.ro i) :
    ∃ ρ' bs z c e', RelH P ρ' (H.push (.row ⟨strV bs, e', 0, false⟩)) W ∧ ρ.le ρ' ∧ (∀ i v s, ρ' i v = some s → (H.push (.row ⟨strV bs, e', 0, false⟩)).ro i) ∧ VRs ρ' [.slice z bs.length c] cs ∧ bs.length * b ≤ reachBytes ∧ (bs ≠ [] → z = some ⟨H.next, 0, none⟩) := by
  rcases DataW.trod_slice ht h with ⟨rfl, hx⟩ | ⟨a, len, cap, elems, rest, n, rfl, rfl, hx, hb, hl, hm, hlen, hel, hsp, _⟩
  · obtain ⟨h1, h2⟩ := push_ro (r := ⟨strV [], 0, 0, false⟩) hH hro
    exact ⟨ρ, [], none, 0, 0, h1, Ren.le_refl ρ, h2, .cons (.nilslice 0 0) .nil, by simp, fun h => absurd rfl h⟩
  simp only [Prod.mk.injEq] at hx
  obtain ⟨rfl, _⟩ := hx
  simp only [DataW.weights, ht, List.all_cons, List.all_append, Bool.and_eq_true, decide_eq_true_eq, List.length_map] at hw
  obtain ⟨hw0, hw1, _⟩ := hw
  have hcell : ∀ i, i < len → ∃ cs, W.cells? 0 (a.add (i * (0 + 1))) (0 + 1) = some cs ∧ DataW.trod enc P W 0 (fun _ => true) true n e cs = elems[i]? := by
    intro i hi
    have h1 := hel i hi
    rw [hk, List.getElem?_eq_getElem (by omega), Option.bind_eq_some_iff] at h1
    obtain ⟨cs, hc, hd⟩ := h1
    exact ⟨cs, hc, by rw [hd, List.getElem?_eq_getElem (by omega)]⟩
  have hstr : ∀ i, i < len → ∃ s : ByteArray, W.cells? 0 (a.add (i * (0 + 1))) (0 + 1) = some [.string s] := by
    intro i hi
    obtain ⟨cs, h1, h2⟩ := hcell i hi
    rw [List.getElem?_eq_getElem (by omega)] at h2
    obtain ⟨s, rfl, _, _⟩ := DataW.trod_string he h2
    exact ⟨s, h1⟩
  obtain ⟨bs, hbl, hbs⟩ : ∃ bs : List (List UInt8), bs.length = len ∧ ∀ i (hi : i < bs.length), W.cells? 0 (a.add (i * (0 + 1))) (0 + 1) = some [.string (strB bs[i])] := by
    refine ⟨(List.range len).map fun i => match W.cells? 0 (a.add (i * (0 + 1))) (0 + 1) with | some [.string s] => s.data.toList | _ => [], by simp, fun i hi => ?_⟩
    have hi' : i < len := by simpa using hi
    obtain ⟨s, h1⟩ := hstr i hi'
    rw [h1]
    simp only [List.getElem_map, List.getElem_range, h1]
    rfl
  have hbnd : bs.length * b ≤ reachBytes := by
    rw [hbl, ← hlen, ← hby]
    exact Nat.le_trans (Nat.mul_le_mul_right _ (Nat.le_add_right _ _)) hw0
  by_cases hcap : cap = 0
  · subst hcap
    have h0 : len = 0 := by omega
    subst h0
    have hx0 : bs = [] := List.eq_nil_of_length_eq_zero hbl
    subst hx0
    obtain ⟨h1, h2⟩ := push_ro (r := ⟨strV [], 0, 0, false⟩) hH hro
    exact ⟨ρ, [], some ⟨0, 0, none⟩, 0, 0, h1, Ren.le_refl ρ, h2, .cons (.slice (.inl ⟨rfl, rfl, .inl rfl⟩)) .nil, by simp, fun h => absurd rfl h⟩
  have hfirst : ∃ cs, W.cells? 0 (a.add (0 * (0 + 1))) (0 + 1) = some cs := by
    by_cases h0 : 0 < len
    · obtain ⟨cs, h1, _⟩ := hcell 0 h0
      exact ⟨cs, h1⟩
    · obtain ⟨hrl, hr⟩ := hsp rfl
      have h1 := hr 0 (by omega)
      rw [hk, List.getElem?_eq_getElem (by omega), Option.bind_eq_some_iff] at h1
      obtain ⟨cs, hc, _⟩ := h1
      have : len + 0 = 0 := by omega
      rw [this] at hc
      exact ⟨cs, hc⟩
  have hadd : ∀ j, (a.add j).block = a.block := fun j => Go.ChangeShapes.block_add a j
  have key : ∀ {x : Addr} {cs : List Value}, W.cells? 0 x (0 + 1) = some cs → cs.length = 0 + 1 ∧ ∀ j, j < 0 + 1 → W.cell? (x.add j) = cs[j]? := fun h => (World.cells?_some h).2
  obtain ⟨cs0, hcs0⟩ := hfirst
  have h00 := (key hcs0).2 0 (by omega)
  have hl0 := (key hcs0).1
  rw [List.getElem?_eq_getElem (by omega)] at h00
  simp only [Nat.zero_mul, Addr.add, if_true] at h00
  obtain ⟨c, e', fz, hblk, hspot⟩ : ∃ c e' fz, W.heap[a.block]? = some (.cells c e' fz) ∧ a.spot = none := by
    unfold World.cell? at h00
    split at h00
    · rename_i c e' fz hg
      split at h00
      · cases h00
      · rename_i hsp'
        exact ⟨c, e', fz, hg, by simpa using hsp'⟩
    · cases h00
  have hcellc : ∀ i (hi : i < bs.length), c[a.off + i]? = some (.string (strB bs[i])) := by
    intro i hi
    have h2 := (key (hbs i hi)).2 0 (by omega)
    have hoff : ((a.add (i * (0 + 1))).add 0).off = a.off + i ∧ ((a.add (i * (0 + 1))).add 0).spot = none ∧ ((a.add (i * (0 + 1))).add 0).block = a.block :=
      ⟨by rw [add_off, add_off]; omega, add_spot (add_spot hspot), by rw [Go.ChangeShapes.block_add, hadd]⟩
    unfold World.cell? at h2
    rw [hoff.2.2, hblk, hoff.1, hoff.2.1] at h2
    simpa using h2
  have hcsz : a.off + bs.length ≤ c.size := by
    by_cases h0 : bs.length = 0
    · have hlt : a.off < c.size := by
        unfold World.cell? at h00
        rw [hblk, hspot] at h00
        simp only [Option.isSome_none, Bool.false_eq_true, if_false] at h00
        exact (Array.getElem?_eq_some_iff.1 h00).1
      omega
    · have := (Array.getElem?_eq_some_iff.1 (hcellc (bs.length - 1) (by omega))).1
      omega
  have hsl : (strV bs).length = bs.length := by simp [strV]
  have hrow : RowOk P ρ ⟨strV bs, e', 0, false⟩ ⟨a.block, a.off, 0, bs.length, c.size, 0⟩ W := by
    refine ⟨hsl.symm, Nat.zero_le _, (by intro h; simp at h), c, fz, hblk, rfl, (by simpa using hcsz), fun i x _ hx => ?_, (by intro h; simp at h)⟩
    have hi : i < bs.length := by have := (List.getElem?_eq_some_iff.1 hx).1; rw [← hsl]; exact this
    have hx' : x = .string (strB bs[i]) := by
      have h1 : (strV bs)[i]? = some (.string (strB bs[i])) := by simp [strV, hi]
      have h2 : (strV bs)[i]? = some x := hx
      rw [h1] at h2
      exact (Option.some.inj h2).symm
    subst hx'
    exact ⟨_, by simpa using hcellc i hi, .string _⟩
  obtain ⟨hH2, hle2, hro2⟩ := place_ro hH hro rfl rfl (s := ⟨a.block, a.off, 0, bs.length, c.size, 0⟩) (Array.getElem?_eq_some_iff.1 hblk).1 hrow
  refine ⟨_, bs, some ⟨H.next, 0, none⟩, cap, e', hH2, hle2, hro2, .cons ?_ .nil, hbnd, fun _ => rfl⟩
  rw [hbl]
  refine .slice (.inr (.inl ⟨?_, rfl, _, Ren.set_same _ _ _ _, Nat.le_refl _, ?_⟩))
  · have : maxLen < openCap := by decide
    omega
  · obtain ⟨ab, ao, asp⟩ := a
    simp only at hspot
    subst hspot
    rfl
end Go.Ae
namespace Go.Proofs.YtmibkoadjehdaaaGreatDoor.scaleKeys
open Go.ChangeShapes Go.WideShapes Go.ChangeAt Go.RowKit
set_option maxRecDepth 100000
noncomputable def w0 (os : Os) : World := World.laidAll Tryz.prog os Rows.scaleKeysRow.laid
noncomputable def args0 : Array Value := #[.string ByteArray.empty, .slice Option.none 0 0]
noncomputable def w1 (os : Os) : World := (w0 os).forCall (fun _ _ => 0) ⟨#[], args0, []⟩
theorem a1 (os : Os) : (w1 os).variablesZipB Tryz.prog = true := by kernel_rfl
theorem a2 (os : Os) : ((w1 os).heap.toList.drop Tryz.prog.globals.size).take ((begin Tryz.prog (fun _ _ => 0) default).world.heap.size - Tryz.prog.globals.size) = (begin Tryz.prog (fun _ _ => 0) default).world.heap.toList.drop Tryz.prog.globals.size := by kernel_rfl
theorem a3 (os : Os) : Input.okWideB Tryz.prog (w1 os) 6 ⟨#[], args0, []⟩ = true := by kernel_rfl
theorem a4 (os : Os) (H : Type) (enc : TypeId × Value → H) : Rows.scaleKeysSpec.preB enc Tryz.prog Tryz.f6 [] false (w1 os).memory args0 8 = true := by kernel_rfl
theorem a5 (os : Os) (H : Type) (enc : TypeId × Value → H) : Rows.scaleKeysSpec.sizedB enc Tryz.prog Tryz.f6 false (w1 os).memory args0 8 = true := by kernel_rfl
theorem a7 (os : Os) : (World.holding Tryz.prog os ⟨#[], #[], []⟩).layFits Tryz.prog Rows.scaleKeysRow.laid [] = true := by kernel_rfl
theorem a8 (os : Os) : (World.holding Tryz.prog os ⟨#[], #[], []⟩).layIfaces Tryz.prog Rows.scaleKeysRow.laid (World.laidAll Tryz.prog os Rows.scaleKeysRow.laid) = true := by kernel_rfl
theorem a6 (os : Os) : laidMetH Tryz.prog Rows.scaleKeysRow.laid (w1 os).memory := by
  rw [MakeChecks.laidMetH_plain _ _ _ (by kernel_rfl)]
  exact laidMet_laidAll _ (a7 os) (a8 os)
theorem witness (os : Os) (H : Type) (enc : TypeId × Value → H) : ∃ (w : World) (tape : Tape) (i : Input), w.os = os ∧ (w.forCall tape i).Shaped Tryz.checked.prog ∧ i.vars = [] ∧ Input.okWide Tryz.checked.prog (w.forCall tape i) .any w.heap.size 6 i ∧
      ((Rows.scaleKeysSpec.pre enc Tryz.checked.prog Tryz.f6 [] false (w.forCall tape i).memory i.args ∧ laidMetH Tryz.prog Rows.scaleKeysRow.laid (w.forCall tape i).memory) ∧ sizedMet enc Tryz.checked.prog Tryz.f6 (OpenSpec.ofChange Rows.scaleKeysSpec) false (w.forCall tape i).memory i.args) ∧
      ({} : Assume).holds Tryz.checked.prog (lone (Frame.enter Tryz.checked.prog 6 i.args .normal) [] (w.forCall tape i)) :=
  ChangeSpec.witness_shaped (enc := enc) (C := Tryz.checked) (os := os) (X := fun w _ => laidMetH Tryz.prog Rows.scaleKeysRow.laid w) false (w0 os) args0 8 (World.laidAll_os _ _ _)
      (World.shaped_of_ZipB (a1 os) (a2 os)) (a3 os) (a4 os H enc) (a5 os H enc) (a6 os)
end Go.Proofs.YtmibkoadjehdaaaGreatDoor.scaleKeys
namespace Go.Proofs.YtmibkoadjehdaaaGreatDoor.scaleKeys
set_option maxRecDepth 100000
theorem j1 : (Rows.scaleKeysRow.inPlace == Tryz.pinned.checked.prog.inPlace 6) = true := by kernel_rfl
theorem j2 : (Rows.scaleKeysRow.unfollowed == Tryz.pinned.checked.prog.unfollowed 6) = true := by kernel_rfl
theorem j3 : (Rows.scaleKeysRow.recurses == Tryz.pinned.checked.prog.recurses 6) = true := by kernel_rfl
theorem j4 : (Rows.scaleKeysRow.named == Tryz.pinned.checked.prog.varsNamed 6) = true := by kernel_rfl
theorem joined : joinedFacts Tryz.pinned.checked.prog 6 Tryz.f6 Rows.scaleKeysSpec Rows.scaleKeysRow = true := by
  unfold joinedFacts
  rw [j1, j2, j3, j4]
  kernel_rfl
end Go.Proofs.YtmibkoadjehdaaaGreatDoor.scaleKeys
namespace Go.Ae
open Go.Proofs Go.Proofs.YtmibkoadjehdaaaGreatDoor
set_option maxRecDepth 100000
/-! ### The cells of a datum without an address -/
def flatParts {α : Type} (P : Program) (f : TypeId → DataW Unit → Option (List Value)) (off : α → Nat) (ty : α → TypeId) : Nat → List α → List (DataW Unit) → Option (List Value)
  | _, [], [] => some []
  | o, x :: xs, d :: ds => if off x = o then match f (ty x) d with
      | some l => if l.length = P.cellsOf (ty x) then (flatParts P f off ty (o + P.cellsOf (ty x)) xs ds).map (l ++ ·) else none
      | none => none
    else none
  | _, _, _ => none
def flatT (P : Program) : Nat → TypeId → DataW Unit → Option (List Value)
  | 0, _, _ => none
  | n + 1, t, d => match P.underlying t, d with
    | some (.int k), .lit (.int k' z) => if k = k' then some [.int k z] else none
    | some .string, .lit (.string l) => some [.string ⟨l.toArray⟩]
    | some (.struct fs), .agg ds => flatParts P (flatT P n) (fun f : Field => f.offset) (fun f : Field => f.type) 0 fs.toList ds
    | some (.array m e), .agg ds => flatParts P (flatT P n) (fun i => i * P.cellsOf e) (fun _ => e) 0 (List.range m) ds
    | _, _ => none
theorem flatParts_spec {α : Type} {P : Program} {f : TypeId → DataW Unit → Option (List Value)} {off : α → Nat} {ty : α → TypeId} {W : World} {m : Nat} {cs : List Value}
    (hf : ∀ t cs d ps l, DataW.trod (fun _ => ()) P W 0 (fun _ => true) false m t cs = some (d, ps) → f t d = some l → cs.take l.length = l) :
    ∀ (L : List α) (xs : List (DataW Unit × List MemPlace)) (o : Nat) (l : List Value), (∀ (i : Nat) (x : α), L[i]? = some x → DataW.trod (fun _ => ()) P W 0 (fun _ => true) false m (ty x) ((cs.drop (off x)).take (P.cellsOf (ty x))) = xs[i]?) →
      flatParts P f off ty o L (xs.map (·.1)) = some l → (cs.drop o).take l.length = l
  | [], [], o, l, _, h => by
    simp only [flatParts, List.map_nil, Option.some.injEq] at h
    subst h
    rfl
  | [], _ :: _, o, l, _, h => by simp [flatParts] at h
  | _ :: _, [], o, l, _, h => by simp [flatParts] at h
  | x :: L, y :: xs, o, l, hx, h => by
    simp only [flatParts, List.map_cons] at h
    split at h
    case isFalse => cases h
    rename_i ho
    split at h
    case h_2 => cases h
    rename_i l0 hl0
    split at h
    case isFalse => cases h
    rename_i hlen
    simp only [Option.map_eq_some_iff] at h
    obtain ⟨l1, h1, rfl⟩ := h
    have h0 := hx 0 x rfl
    rw [List.getElem?_cons_zero] at h0
    have e0 := hf _ _ _ y.2 _ h0 hl0
    rw [ho, List.take_take, hlen, Nat.min_self] at e0
    have e1 := flatParts_spec hf L xs _ l1 (fun i x hi => by have := hx (i + 1) x (by simpa using hi); simpa using this) h1
    rw [List.length_append, hlen, List.take_add, e0, List.drop_drop, e1]
theorem flatT_spec {P : Program} {W : World} : ∀ (n m : Nat) (t : TypeId) (cs : List Value) (d : DataW Unit) (ps : List MemPlace) (l : List Value), DataW.trod (fun _ => ()) P W 0 (fun _ => true) false m t cs = some (d, ps) → flatT P n t d = some l → cs.take l.length = l
  | 0, _, _, _, _, _, _, _, hl => by cases hl
  | n + 1, m, t, cs, d, ps, l, h, hl => by
    simp only [flatT] at hl
    split at hl
    · rename_i k k' z hu
      split at hl
      case isFalse => cases hl
      obtain ⟨z', rfl, he, _⟩ := DataW.trod_int hu h
      simp only [Prod.mk.injEq, DataW.lit.injEq, Lit.int.injEq] at he
      obtain ⟨⟨_, rfl⟩, _⟩ := he
      obtain rfl := Option.some.inj hl
      rfl
    · rename_i bs hu
      obtain ⟨s, rfl, he, _⟩ := DataW.trod_string hu h
      simp only [Prod.mk.injEq, DataW.lit.injEq, Lit.string.injEq] at he
      obtain ⟨rfl, _⟩ := he
      obtain rfl := Option.some.inj hl
      rfl
    · rename_i fs ds hu
      obtain ⟨xs, m', rfl, he, _, hlen, hat⟩ := DataW.trod_struct hu h
      simp only [Prod.mk.injEq, DataW.agg.injEq] at he
      obtain ⟨rfl, _⟩ := he
      have := flatParts_spec (fun t cs d ps l => flatT_spec n m' t cs d ps l) fs.toList xs 0 l (fun i f hi => hat i f (by simpa using hi)) hl
      simpa using this
    · rename_i k e ds hu
      obtain ⟨xs, m', rfl, he, _, hlen, hat⟩ := DataW.trod_array hu h
      simp only [Prod.mk.injEq, DataW.agg.injEq] at he
      obtain ⟨rfl, _⟩ := he
      have := flatParts_spec (fun t cs d ps l => flatT_spec n m' t cs d ps l) (List.range k) xs 0 l (fun i x hi => by
        obtain ⟨hi1, hi2⟩ := List.getElem?_eq_some_iff.1 hi
        rw [List.length_range] at hi1
        rw [List.getElem_range] at hi2
        subst hi2
        exact hat i hi1) hl
      simpa using this
    · cases hl
theorem laid_at {P : Program} {w : World} {n : String} {d : DataW Unit} : ∀ {l : List (String × DataW Unit)} {ps : List MemPlace}, DataW.LaidVars P w l ps → (n, d) ∈ l →
    ∃ g t cs fuel p, P.globalNamed n = some g ∧ (P.globals[g]?).map (·.type) = some t ∧ w.var? P n = some cs ∧ DataW.trod (fun _ => ()) P w 0 (fun _ => true) false fuel t cs.toList = some (d, p)
  | [], _, _, h => by cases h
  | (n', d') :: l, ps, h, hm => by
    obtain ⟨g, t, cs, fuel, p, q, h1, h2, h3, h4, h5, _⟩ := h
    rcases List.mem_cons.1 hm with e | hm
    · simp only [Prod.mk.injEq] at e
      obtain ⟨rfl, rfl⟩ := e
      exact ⟨g, t, cs, fuel, p, h1, h2, h3, h4⟩
    · exact laid_at h5 hm
/-! ### The variables of this program -/
def HoldsG (W : World) (p : Nat × Row) : Prop := ∃ cs fz, W.heap[p.1]? = some (.cells cs p.2.elem fz) ∧ cs.toList.take p.2.cells.length = p.2.cells
theorem shaped_at {W : World} (hS : W.ShapedOpen Tryz.prog) {g : Nat} {t : TypeId} (hg : g < Tryz.prog.globals.size) (ht : ((((begin Tryz.prog (fun _ _ => 0) default).world.heap[g]?).bind Obj.row?).map (·.2)) = some t) : ∃ cs fz, W.heap[g]? = some (.cells cs t fz) := by
  cases hz : ((begin Tryz.prog (fun _ _ => 0) default).world.heap[g]?).bind Obj.row? with
  | none => rw [hz] at ht; cases ht
  | some q =>
    obtain ⟨z, t'⟩ := q
    rw [hz] at ht
    obtain rfl := Option.some.inj ht
    obtain ⟨cs, h, _⟩ := hS.1 g z t' hg hz
    exact ⟨cs, _, h⟩
theorem bare_at {W : World} (hS : W.ShapedOpen Tryz.prog) {g : Nat} {t : TypeId} (hg : g < Tryz.prog.globals.size) (ht : ((((begin Tryz.prog (fun _ _ => 0) default).world.heap[g]?).bind Obj.row?).map (·.2)) = some t) : HoldsG W (g, ⟨[], t, 0, false⟩) := by
  obtain ⟨cs, fz, h⟩ := shaped_at hS hg ht
  exact ⟨cs, fz, h, rfl⟩
theorem datum_at {W : World} (hS : W.ShapedOpen Tryz.prog) {l : List (String × DataW Unit)} {ps : List MemPlace} (hL : DataW.LaidVars Tryz.prog W l ps) {n : String} {d : DataW Unit} (hm : (n, d) ∈ l) {g : Nat} {t : TypeId} (hg : g < Tryz.prog.globals.size)
    (ht : ((((begin Tryz.prog (fun _ _ => 0) default).world.heap[g]?).bind Obj.row?).map (·.2)) = some t) (hn : Tryz.prog.globalNamed n = some g) (hty : (Tryz.prog.globals[g]?).map (·.type) = some t) {vs : List Value} (hf : flatT Tryz.prog 6 t d = some vs) : HoldsG W (g, ⟨vs, t, 0, false⟩) := by
  obtain ⟨cs, fz, h⟩ := shaped_at hS hg ht
  obtain ⟨g', t', cs', fuel, p, h1, h2, h3, h4⟩ := laid_at hL hm
  obtain rfl := Option.some.inj (hn.symm.trans h1)
  obtain rfl := Option.some.inj (hty.symm.trans h2)
  have : cs' = cs := by
    simp only [World.var?, hn, Option.bind_some, h, Option.some.injEq] at h3
    exact h3.symm
  subst this
  exact ⟨cs', fz, h, flatT_spec _ _ _ _ _ _ _ h4 hf⟩
theorem gsize : Tryz.prog.globals.size = 14 := by kernel_rfl
theorem gt0 : ((((begin Tryz.prog (fun _ _ => 0) default).world.heap[0]?).bind Obj.row?).map (·.2)) = some 259 := by kernel_rfl
theorem gt1 : ((((begin Tryz.prog (fun _ _ => 0) default).world.heap[1]?).bind Obj.row?).map (·.2)) = some 259 := by kernel_rfl
theorem gt2 : ((((begin Tryz.prog (fun _ _ => 0) default).world.heap[2]?).bind Obj.row?).map (·.2)) = some 308 := by kernel_rfl
theorem gt3 : ((((begin Tryz.prog (fun _ _ => 0) default).world.heap[3]?).bind Obj.row?).map (·.2)) = some 330 := by kernel_rfl
theorem gt4 : ((((begin Tryz.prog (fun _ _ => 0) default).world.heap[4]?).bind Obj.row?).map (·.2)) = some 343 := by kernel_rfl
theorem gt5 : ((((begin Tryz.prog (fun _ _ => 0) default).world.heap[5]?).bind Obj.row?).map (·.2)) = some 382 := by kernel_rfl
theorem gt6 : ((((begin Tryz.prog (fun _ _ => 0) default).world.heap[6]?).bind Obj.row?).map (·.2)) = some 388 := by kernel_rfl
theorem gt7 : ((((begin Tryz.prog (fun _ _ => 0) default).world.heap[7]?).bind Obj.row?).map (·.2)) = some 407 := by kernel_rfl
theorem gt8 : ((((begin Tryz.prog (fun _ _ => 0) default).world.heap[8]?).bind Obj.row?).map (·.2)) = some 410 := by kernel_rfl
theorem gt9 : ((((begin Tryz.prog (fun _ _ => 0) default).world.heap[9]?).bind Obj.row?).map (·.2)) = some 417 := by kernel_rfl
theorem gt10 : ((((begin Tryz.prog (fun _ _ => 0) default).world.heap[10]?).bind Obj.row?).map (·.2)) = some 418 := by kernel_rfl
theorem gt11 : ((((begin Tryz.prog (fun _ _ => 0) default).world.heap[11]?).bind Obj.row?).map (·.2)) = some 3 := by kernel_rfl
theorem gt12 : ((((begin Tryz.prog (fun _ _ => 0) default).world.heap[12]?).bind Obj.row?).map (·.2)) = some 77 := by kernel_rfl
theorem gt13 : ((((begin Tryz.prog (fun _ _ => 0) default).world.heap[13]?).bind Obj.row?).map (·.2)) = some 77 := by kernel_rfl
theorem globs_hold {W : World} (hS : W.ShapedOpen Tryz.prog) {l : List (String × DataW Unit)} {ps : List MemPlace} (hL : DataW.LaidVars Tryz.prog W l ps)
    (h3 : ("eddy/expr.signs", Rows.laid_eddy_expr_signs) ∈ l) (h4 : ("eddy/shape.needs", Rows.laid_eddy_shape_needs) ∈ l) (h5 : ("eddy/expr.words", Rows.laid_eddy_expr_words) ∈ l) (h6 : ("internal/strconv.uint64pow10", Rows.laid_internal_strconv_uint64pow10) ∈ l)
    (h7 : ("unicode/utf8.first", Rows.laid_unicode_utf8_first) ∈ l) (h8 : ("unicode/utf8.acceptRanges", Rows.laid_unicode_utf8_acceptRanges) ∈ l) (h9 : ("math/bits.deBruijn32tab", Rows.laid_math_bits_deBruijn32tab) ∈ l) (h10 : ("math/bits.deBruijn64tab", Rows.laid_math_bits_deBruijn64tab) ∈ l) : ∀ p ∈ globs, HoldsG W p := by
  have hlt : ∀ g, g < 14 → g < Tryz.prog.globals.size := fun g h => by rw [gsize]; exact h
  intro p hp
  simp only [globs, List.mem_cons, List.mem_nil_iff, or_false] at hp
  rcases hp with rfl | rfl | rfl | rfl | rfl | rfl | rfl | rfl | rfl | rfl | rfl | rfl | rfl | rfl
  · exact bare_at hS (hlt 0 (by decide)) gt0
  · exact bare_at hS (hlt 1 (by decide)) gt1
  · exact bare_at hS (hlt 2 (by decide)) gt2
  · exact datum_at hS hL h3 (hlt 3 (by decide)) gt3 (by kernel_rfl) (by kernel_rfl) (by kernel_rfl)
  · exact datum_at hS hL h4 (hlt 4 (by decide)) gt4 (by kernel_rfl) (by kernel_rfl) (by kernel_rfl)
  · exact datum_at hS hL h5 (hlt 5 (by decide)) gt5 (by kernel_rfl) (by kernel_rfl) (by kernel_rfl)
  · exact datum_at hS hL h6 (hlt 6 (by decide)) gt6 (by kernel_rfl) (by kernel_rfl) (by kernel_rfl)
  · exact datum_at hS hL h7 (hlt 7 (by decide)) gt7 (by kernel_rfl) (by kernel_rfl) (by kernel_rfl)
  · exact datum_at hS hL h8 (hlt 8 (by decide)) gt8 (by kernel_rfl) (by kernel_rfl) (by kernel_rfl)
  · exact datum_at hS hL h9 (hlt 9 (by decide)) gt9 (by kernel_rfl) (by kernel_rfl) (by kernel_rfl)
  · exact datum_at hS hL h10 (hlt 10 (by decide)) gt10 (by kernel_rfl) (by kernel_rfl) (by kernel_rfl)
  · exact bare_at hS (hlt 11 (by decide)) gt11
  · exact bare_at hS (hlt 12 (by decide)) gt12
  · exact bare_at hS (hlt 13 (by decide)) gt13
/-! ### The heap at the call -/
def rowG (i : Nat) : Option Row := (globs.find? fun p => p.1 == i).map (·.2)
theorem rowG_mem : ∀ p ∈ globs, rowG p.1 = some p.2 := by
  intro p hp
  simp only [globs, List.mem_cons, List.mem_nil_iff, or_false] at hp
  rcases hp with rfl | rfl | rfl | rfl | rfl | rfl | rfl | rfl | rfl | rfl | rfl | rfl | rfl | rfl <;> rfl
theorem rowG_some {i : Nat} {r : Row} (h : rowG i = some r) : ∃ p ∈ globs, p.1 = i ∧ p.2 = r := by
  simp only [rowG, Option.map_eq_some_iff] at h
  obtain ⟨p, h1, h2⟩ := h
  exact ⟨p, List.mem_of_find?_eq_some h1, by simpa using List.find?_some h1, h2⟩
def heapG : AHeap := ⟨fun i => (rowG i).map .row, 14⟩
def sizeG (W : World) (i : Nat) : Nat := match W.heap[i]? with
  | some (.cells c _ _) => c.size
  | _ => 0
def renG (W : World) : Ren := fun i v => if v = 0 then (rowG i).map fun r => ⟨i, 0, 0, r.cells.length, sizeG W i, 0⟩ else none
theorem renG_some {W : World} {i v : Nat} {s : Seg} (h : renG W i v = some s) : v = 0 ∧ ∃ p ∈ globs, p.1 = i ∧ s = ⟨i, 0, 0, p.2.cells.length, sizeG W i, 0⟩ := by
  unfold renG at h
  split at h
  · rename_i hv
    simp only [Option.map_eq_some_iff] at h
    obtain ⟨r, hr, rfl⟩ := h
    obtain ⟨p, hp, h1, h2⟩ := rowG_some hr
    exact ⟨hv, p, hp, h1, by rw [h2]⟩
  · cases h
theorem glob_lt : ∀ p ∈ globs, p.1 < 14 := by
  intro p hp
  have : globs.map (·.1) = [0, 1, 2, 3, 4, 5, 6, 7, 8, 9, 10, 11, 12, 13] := rfl
  have hm : p.1 ∈ globs.map (·.1) := List.mem_map.2 ⟨p, hp, rfl⟩
  rw [this] at hm
  simp at hm
  omega
theorem glob_ro : ∀ p ∈ globs, p.2.ver = 0 ∧ p.2.rw = false := by
  have : globs.all (fun p => p.2.ver == 0 && !p.2.rw) = true := rfl
  intro p hp
  have := List.all_eq_true.1 this p hp
  simpa using this
theorem relH_globs {W : World} (hG : ∀ p ∈ globs, HoldsG W p) : RelH Tryz.prog (renG W) heapG W ∧ (∀ p ∈ globs, heapG.get p.1 = some (.row p.2)) ∧ ∀ i v s, renG W i v = some s → heapG.ro i := by
  have hget : ∀ p ∈ globs, heapG.get p.1 = some (.row p.2) := fun p hp => by
    show (rowG p.1).map AObj.row = _
    rw [rowG_mem p hp]
    rfl
  refine ⟨⟨fun i hi => ?_, fun i v s h => ?_, fun i j u v s t h1 h2 he => .inl ?_, fun i r hr s h => ?_, fun i o ho hne s h => ?_, fun i r v hr hv => ?_, fun g hg => ?_⟩, hget, fun i v s h => ?_⟩
  · show (rowG i).map AObj.row = none
    cases hr : rowG i with
    | none => rfl
    | some r =>
      obtain ⟨p, hp, h1, _⟩ := rowG_some hr
      have := glob_lt p hp
      have : (14 : Nat) ≤ i := hi
      omega
  · obtain ⟨_, p, hp, rfl, rfl⟩ := renG_some h
    obtain ⟨cs, fz, hc, _⟩ := hG p hp
    exact ⟨glob_lt p hp, (Array.getElem?_eq_some_iff.1 hc).1⟩
  · obtain ⟨_, p, _, rfl, rfl⟩ := renG_some h1
    obtain ⟨_, q, _, rfl, rfl⟩ := renG_some h2
    exact he
  · obtain ⟨_, p, hp, rfl, rfl⟩ := renG_some h
    rw [hget p hp] at hr
    obtain rfl : p.2 = r := by simpa using hr
    obtain ⟨cs, fz, hc, hpre⟩ := hG p hp
    have hsz : sizeG W p.1 = cs.size := by simp [sizeG, hc]
    have hlen : p.2.cells.length ≤ cs.size := by
      have := congrArg List.length hpre
      simp only [List.length_take, Array.length_toList] at this
      omega
    refine ⟨rfl, Nat.zero_le _, (fun h => by rw [(glob_ro p hp).2] at h; cases h), cs, fz, hc, hsz.symm, by simpa [hsz] using hlen, fun i x _ hx => ?_, fun h => by rw [(glob_ro p hp).2] at h; cases h⟩
    have hi := (List.getElem?_eq_some_iff.1 hx).1
    have h1 : (cs.toList.take p.2.cells.length)[i]? = some x := by rw [hpre]; exact hx
    rw [List.getElem?_take_of_lt hi] at h1
    refine ⟨x, by simpa using h1, VR.of_simple ?_⟩
    exact List.all_eq_true.1 (List.all_eq_true.1 simple_globs p hp) x (List.mem_of_getElem? hx)
  · exfalso
    have ho' : (rowG i).map AObj.row = some o := ho
    simp only [Option.map_eq_some_iff] at ho'
    obtain ⟨r, _, rfl⟩ := ho'
    cases hne
  · have hr' : (rowG i).map AObj.row = some (.row r) := hr
    show (if v = 0 then _ else none) = none
    rw [if_neg (by omega)]
  · have hm : g ∈ globs.map (·.1) := by
      have : globs.map (·.1) = [0, 1, 2, 3, 4, 5, 6, 7, 8, 9, 10, 11, 12, 13] := rfl
      have hg' : g < 14 := hg
      rw [this]
      simp
      omega
    obtain ⟨p, hp, rfl⟩ := List.mem_map.1 hm
    refine ⟨⟨p.1, 0, 0, p.2.cells.length, sizeG W p.1, 0⟩, ?_, rfl, rfl, rfl⟩
    show (if 0 = 0 then _ else none) = _
    rw [if_pos rfl, rowG_mem p hp]
    rfl
  · obtain ⟨_, p, hp, rfl, _⟩ := renG_some h
    exact ⟨p.2, hget p hp, (glob_ro p hp).2⟩
end Go.Ae

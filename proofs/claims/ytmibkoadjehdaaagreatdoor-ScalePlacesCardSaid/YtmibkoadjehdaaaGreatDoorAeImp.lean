/- What a call is handed, taken over into the abstract heap; what a law's answer over it says of the world. No condition. -/
import Derived.Test.YtmibkoadjehdaaaGreatDoorAeFrame
import Derived.ChangeSlices
import Derived.ChangeFn
import Derived.Carry
import Derived.SizedLaws
import Derived.OpenShut
namespace Go.Ae
open Go.RowKit

/-- The world behind, but for the tape. -/
theorem acalls_law {P : Program} {f : FuncId} {args cargs : Array Value} {H : AHeap} {ρ : Ren} {w : World} (hH : RelH P ρ H w) (hargs : VRs ρ args.toList cargs.toList) (hro : ∀ i v s, ρ i v = some s → H.ro i)
    (h : ACalls P f args H fun v _ => v = .bool true) : Calls P f cargs w fun e w' => e = .returned (.bool true) ∧ Below w.heap.size w { w' with tape := w.tape } ∧ ∀ may, w.keptBut w' may := by
  refine (h ρ w cargs hH hargs).mono ?_
  rintro e w' ⟨v, cv, ρ', H', rfl, rfl, hv, _, hx⟩
  cases hv
  have hb : Below w.heap.size w { w' with tape := w.tape } := by
   refine ⟨hx.os, rfl, hx.out, hx.size, fun k hk => ?_⟩
   by_cases hex : ∃ i v s, ρ i v = some s ∧ s.blk = k
   · obtain ⟨i, v, s, hs, rfl⟩ := hex
     obtain ⟨r, hr, hrw⟩ := hro i v s hs
     exact (hx.ro i r (hH.dom i v s hs).1 hr hrw).2 v s hs
   · exact hx.frame k hk fun i v s hs he => hex ⟨i, v, s, hs, he⟩
  exact ⟨rfl, hb, fun may => ⟨(hb.frame may).1, (hb.frame may).2.1, (hb.frame may).2.2⟩⟩

def AHeap.empty : AHeap := ⟨fun _ => none, 0⟩
theorem relH_empty (P : Program) (w : World) (h0 : globN = 0 := by rfl) : RelH P (fun _ _ => none) AHeap.empty w := ⟨fun _ _ => rfl, by simp, by simp, by simp [AHeap.empty], by simp [AHeap.empty], by simp, fun g hg => by omega⟩

/-- Any reading of type t can be taken over; R tells what the abstract cells read as. -/
structure Imp (P : Program) (W : World) (t : TypeId) {α : Type} (R : AHeap → List Value → α → Prop) : Prop where
  keep : ∀ {H H' as x}, R H as x → Keep No H H' → R H' as x
  imp : ∀ {T : Type} (enc : TypeId × Value → T) (fuel : Nat) (cs : List Value) (d : DataW T) (ps : List MemPlace) (ρ : Ren) (H : AHeap),
    DataW.trod enc P W 0 (fun _ => true) true fuel t cs = some (d, ps) → (DataW.weights P t d).all (· ≤ reachBytes) = true → RelH P ρ H W → (∀ i v s, ρ i v = some s → H.ro i) →
    ∃ ρ' H' as x, RelH P ρ' H' W ∧ ρ.le ρ' ∧ (∀ i v s, ρ' i v = some s → H'.ro i) ∧ Keep No H H' ∧ VRs ρ' as cs ∧ R H' as x

def IntR (k : IntKind) (_ : AHeap) (as : List Value) (n : Int) : Prop := as = [.int k n] ∧ (Lit.int k n).wf = true
def BoolR (_ : AHeap) (as : List Value) (b : Bool) : Prop := as = [.bool b]
/-- A slice of such. -/
def SlR {α : Type} (k b : Nat) (Re : AHeap → List Value → α → Prop) (H : AHeap) (as : List Value) (xs : List α) : Prop :=
  ∃ v cells, as = [v] ∧ Rd H (fun _ => True) k v xs.length cells ∧ xs.length * b ≤ reachBytes ∧ ∀ i x, xs[i]? = some x → Re H ((cells.drop (i * k)).take k) x

theorem imp_int {P : Program} {W : World} {t : TypeId} {k : IntKind} (ht : P.underlying t = some (.int k)) : Imp P W t (IntR k) where
  keep h _ := h
  imp := by
    intro T enc fuel cs d ps ρ H h _ hH hro
    obtain ⟨n, rfl, _, hw⟩ := DataW.trod_int ht h
    exact ⟨ρ, H, [.int k n], n, hH, Ren.le_refl ρ, hro, Keep.refl, .cons (.int k n) .nil, rfl, hw⟩
theorem imp_bool {P : Program} {W : World} {t : TypeId} (ht : P.underlying t = some .bool) : Imp P W t BoolR where
  keep h _ := h
  imp := by
    intro T enc fuel cs d ps ρ H h _ hH hro
    obtain ⟨b, rfl, _⟩ := DataW.trod_bool ht h
    exact ⟨ρ, H, [.bool b], b, hH, Ren.le_refl ρ, hro, Keep.refl, .cons (.bool b) .nil, rfl⟩

/-- Elements one after another. -/
theorem imp_elems {P : Program} {W : World} {e : TypeId} {α : Type} {Re : AHeap → List Value → α → Prop} (I : Imp P W e Re) {T : Type} (enc : TypeId × Value → T) (fuel : Nat) :
    ∀ (css : List (List Value)) (ds : List (DataW T × List MemPlace)) (ρ : Ren) (H : AHeap), css.length = ds.length → (∀ (i : Nat) (cs : List Value), css[i]? = some cs → DataW.trod enc P W 0 (fun _ => true) true fuel e cs = ds[i]?) →
    (∀ y ∈ ds, (DataW.weights P e y.1).all (· ≤ reachBytes) = true) → RelH P ρ H W → (∀ i v s, ρ i v = some s → H.ro i) →
    ∃ ρ' H' ass xs, RelH P ρ' H' W ∧ ρ.le ρ' ∧ (∀ i v s, ρ' i v = some s → H'.ro i) ∧ Keep No H H' ∧ All2 (VRs ρ') ass css ∧ All2 (Re H') ass xs := by
  intro css
  induction css with
  | nil => intro ds ρ H _ _ _ hH hro; exact ⟨ρ, H, [], [], hH, Ren.le_refl ρ, hro, Keep.refl, .nil, .nil⟩
  | cons cs css ih =>
    intro ds ρ H hl hr hw hH hro
    cases ds with
    | nil => simp at hl
    | cons y ds =>
      have h0 := hr 0 cs rfl
      rw [List.getElem?_cons_zero] at h0
      obtain ⟨ρ1, H1, as, x, hH1, hle1, hro1, hk1, hv1, hR1⟩ := I.imp enc fuel cs y.1 y.2 ρ H h0 (hw y (by simp)) hH hro
      obtain ⟨ρ2, H2, ass, xs, hH2, hle2, hro2, hk2, hv2, hR2⟩ := ih ds ρ1 H1 (by simpa using hl) (fun i cs h => by have := hr (i + 1) cs (by simpa using h); simpa using this) (fun y hy => hw y (by simp [hy])) hH1 hro1
      exact ⟨ρ2, H2, as :: ass, x :: xs, hH2, hle1.trans hle2, hro2, hk1.after hk2, .cons (hv1.mono hle2) hv2, .cons (I.keep hR1 hk2) hR2⟩

theorem All2.length {α β : Type} {R : α → β → Prop} : ∀ {xs : List α} {ys : List β}, All2 R xs ys → xs.length = ys.length
  | _, _, .nil => rfl
  | _, _, .cons _ h => by simp [All2.length h]
theorem All2.get {α β : Type} {R : α → β → Prop} : ∀ {xs : List α} {ys : List β}, All2 R xs ys → ∀ (i : Nat) (y : β), ys[i]? = some y → ∃ x, xs[i]? = some x ∧ R x y
  | _, _, .nil, i, y, h => by simp at h
  | _, _, .cons h1 h2, 0, y, h => by simp only [List.getElem?_cons_zero, Option.some.injEq] at h ⊢; subst h; exact ⟨_, rfl, h1⟩
  | _, _, .cons h1 h2, i + 1, y, h => by simp only [List.getElem?_cons_succ] at h ⊢; exact All2.get h2 i y h
theorem flatten_at {k : Nat} : ∀ {ass : List (List Value)} {i : Nat} {as : List Value}, (∀ a ∈ ass, a.length = k) → ass[i]? = some as → (ass.flatten.drop (i * k)).take k = as
  | [], i, as, _, h => by simp at h
  | a :: ass, 0, as, hl, h => by
    simp only [List.getElem?_cons_zero, Option.some.injEq] at h
    subst h
    have := hl a (by simp)
    simp [← this]
  | a :: ass, i + 1, as, hl, h => by
    simp only [List.getElem?_cons_succ] at h
    have h1 := hl a (by simp)
    rw [List.flatten_cons, Nat.add_mul, Nat.one_mul, List.drop_append, List.drop_of_length_le (by omega), List.nil_append, h1, Nat.add_sub_cancel]
    exact flatten_at (fun a ha => hl a (by simp [ha])) h

theorem flatten_len {k : Nat} : ∀ {ass : List (List Value)}, (∀ a ∈ ass, a.length = k) → ass.flatten.length = ass.length * k
  | [], _ => by simp
  | a :: l, h => by rw [List.flatten_cons, List.length_append, h a (by simp), flatten_len (fun x hx => h x (by simp [hx])), List.length_cons, Nat.add_mul]; omega
theorem add_off (a : Addr) (i : Nat) : (a.add i).off = a.off + i := by unfold Addr.add; split <;> simp_all
theorem add_spot {a : Addr} {i : Nat} (h : a.spot = none) : (a.add i).spot = none := by unfold Addr.add; split <;> simp_all
/-- A further row, read alone, at a place that is there. -/
theorem place_ro {P : Program} {ρ : Ren} {H : AHeap} {w : World} (hH : RelH P ρ H w) (hro : ∀ i v s, ρ i v = some s → H.ro i) {r : Row} (hrw : r.rw = false) (hv : r.ver = 0) {s : Seg} (hs : s.blk < w.heap.size) (hrow : RowOk P ρ r s w) :
    RelH P (ρ.set H.next 0 s) (H.push (.row r)) w ∧ ρ.le (ρ.set H.next 0 s) ∧ (∀ i v t, (ρ.set H.next 0 s) i v = some t → (H.push (.row r)).ro i) := by
  have hnone : ∀ v, ρ H.next v = none := fun v => hH.noPlace (Nat.le_refl _) v
  have hmono : ρ.le (ρ.set H.next 0 s) := Ren.le_set (hnone 0) s
  have hnew : (H.push (.row r)).get H.next = some (.row r) := by rw [AHeap.push_get, if_pos rfl]
  have hold : ∀ {i v t}, ρ i v = some t → (H.push (.row r)).get i = H.get i := fun h => by rw [AHeap.push_get, if_neg (Nat.ne_of_lt (hH.dom _ _ _ h).1)]
  have hroN : (H.push (.row r)).ro H.next := ⟨r, hnew, hrw⟩
  have hro' : ∀ i v t, (ρ.set H.next 0 s) i v = some t → (H.push (.row r)).ro i := by
    intro i v t h
    rcases Ren.set_cases h with ⟨rfl, _, _⟩ | h
    · exact hroN
    · exact AHeap.ro_push (hH.dom _ _ _ h).1 (hro i v t h)
  refine ⟨⟨?_, ?_, ?_, ?_, ?_, ?_, hH.glob.mono hmono⟩, hmono, hro'⟩
  · intro i hi
    rw [AHeap.push_next] at hi
    rw [AHeap.push_get, if_neg (by omega)]
    exact hH.wf i (by omega)
  · intro i v t h
    rcases Ren.set_cases h with ⟨rfl, _, rfl⟩ | h
    · exact ⟨by rw [AHeap.push_next]; omega, hs⟩
    · have := hH.dom i v t h
      exact ⟨by rw [AHeap.push_next]; omega, this.2⟩
  · intro i j u v t t' h1 h2 he
    exact .inr ⟨hro' _ _ _ h1, hro' _ _ _ h2⟩
  · intro i q hq t h
    rcases Ren.set_cases h with ⟨rfl, hv0, rfl⟩ | h
    · rw [hnew] at hq
      obtain rfl : r = q := by simpa using hq
      exact hrow.mono hmono rfl
    · rw [hold h] at hq
      exact (hH.row i q hq t h).mono hmono rfl
  · intro i o hq ho t h
    rcases Ren.set_cases h with ⟨rfl, hv0, rfl⟩ | h
    · rw [hnew] at hq; obtain rfl := Option.some.inj hq; cases ho
    · rw [hold h] at hq
      exact (hH.obj i o hq ho t h).mono hmono rfl
  · intro i q v hq hlt
    unfold Ren.set
    by_cases he : i = H.next
    · subst he
      rw [hnew] at hq
      obtain rfl : r = q := by simpa using hq
      rw [if_neg (by omega), hnone]
    · rw [AHeap.push_get, if_neg he] at hq
      rw [if_neg (fun h => he h.1)]
      exact hH.future i q v hq hlt

theorem weights_all {P : Program} {T : Type} {e : TypeId} : ∀ {ds : List (DataW T)} {d : DataW T}, d ∈ ds → ∀ n ∈ DataW.weights P e d, n ∈ DataW.weightsAll P e ds
  | x :: ds, d, h, n, hn => by
    rw [DataW.weightsAll, List.mem_append]
    rcases List.mem_cons.1 h with rfl | h
    · exact .inl hn
    · exact .inr (weights_all h n hn)

theorem imp_slice {P : Program} {W : World} {t e : TypeId} {k b : Nat} {α : Type} {Re : AHeap → List Value → α → Prop} (ht : P.underlying t = some (.slice e)) (hk : P.cellsOf e = k + 1) (hby : P.bytesOf e = b) (I : Imp P W e Re) :
    Imp P W t (SlR (k + 1) b Re) where
  keep := by
    rintro H H' as x ⟨v, cells, rfl, h1, h2, h3⟩ hk
    exact ⟨v, cells, rfl, h1.keep0 hk, h2, fun i x hx => I.keep (h3 i x hx) hk⟩
  imp := by
    intro T enc fuel cs d ps ρ H h hw hH hro
    rcases DataW.trod_slice ht h with ⟨rfl, hx⟩ | ⟨a, len, cap, elems, rest, n, rfl, rfl, hx, hb, hl, hm, hlen, hel, hsp, _⟩
    · exact ⟨ρ, H, [.slice none 0 0], [], hH, Ren.le_refl ρ, hro, Keep.refl, .cons (.nilslice 0 0) .nil, _, [], rfl, .empty _ _, by simp, by simp⟩
    simp only [Prod.mk.injEq] at hx
    obtain ⟨rfl, _⟩ := hx
    simp only [DataW.weights, ht, List.all_cons, List.all_append, Bool.and_eq_true, decide_eq_true_eq, List.length_map] at hw
    obtain ⟨hw0, hw1, _⟩ := hw
    have hcell : ∀ i, i < len → ∃ cs, W.cells? 0 (a.add (i * (k + 1))) (k + 1) = some cs ∧ DataW.trod enc P W 0 (fun _ => true) true n e cs = elems[i]? := by
      intro i hi
      have h1 := hel i hi
      rw [hk, List.getElem?_eq_getElem (by omega), Option.bind_eq_some_iff] at h1
      obtain ⟨cs, hc, hd⟩ := h1
      exact ⟨cs, hc, by rw [hd, List.getElem?_eq_getElem (by omega)]⟩
    obtain ⟨css, hcss⟩ : ∃ css, css = (List.range len).map fun i => (W.cells? 0 (a.add (i * (k + 1))) (k + 1)).getD [] := ⟨_, rfl⟩
    have hcl : css.length = len := by simp [hcss]
    have hcg : ∀ i cs, css[i]? = some cs → i < len ∧ W.cells? 0 (a.add (i * (k + 1))) (k + 1) = some cs := by
      intro i cs h
      have hi : i < len := by have := (List.getElem?_eq_some_iff.1 h).1; omega
      obtain ⟨cs', h1, _⟩ := hcell i hi
      subst hcss
      rw [List.getElem?_map, List.getElem?_range hi, Option.map_some, h1] at h
      simp only [Option.getD_some, Option.some.injEq] at h
      exact ⟨hi, h ▸ h1⟩
    obtain ⟨ρ1, H1, ass, xs, hH1, hle1, hro1, hk1, hv1, hR1⟩ := imp_elems I enc n css elems ρ H (by omega) (fun i cs h => by
      obtain ⟨hi, h1⟩ := hcg i cs h
      obtain ⟨cs', h2, h3⟩ := hcell i hi
      rw [h1] at h2
      obtain rfl := Option.some.inj h2
      exact h3) (fun y hy => by
        rw [List.all_eq_true] at hw1 ⊢
        exact fun z hz => hw1 z (weights_all (List.mem_map_of_mem hy) z hz)) hH hro
    have hal : ass.length = len := hv1.length.trans hcl
    have hxl : xs.length = len := hR1.length.symm.trans hal
    have hbnd : xs.length * b ≤ reachBytes := by
      rw [hxl, ← hlen, ← hby]
      exact Nat.le_trans (Nat.mul_le_mul_right _ (Nat.le_add_right _ _)) hw0
    by_cases hcap : cap = 0
    · subst hcap
      have h0 : len = 0 := by omega
      subst h0
      have hx0 : xs = [] := List.eq_nil_of_length_eq_zero hxl
      subst hx0
      exact ⟨ρ1, H1, [.slice (some ⟨0, 0, none⟩) 0 0], [], hH1, hle1, hro1, hk1, .cons (.slice (.inl ⟨rfl, rfl, .inl rfl⟩)) .nil, _, [], rfl, .empty _ _, by simp, by simp⟩
    -- the block
    have hfirst : ∃ cs, W.cells? 0 (a.add (0 * (k + 1))) (k + 1) = some cs := by
      by_cases h0 : 0 < len
      · obtain ⟨cs, h1, _⟩ := hcell 0 h0
        exact ⟨cs, h1⟩
      · obtain ⟨hrl, hr⟩ := hsp rfl
        have h1 := hr 0 (by omega)
        rw [hk, List.getElem?_eq_getElem (by omega), Option.bind_eq_some_iff] at h1
        obtain ⟨cs, hc, _⟩ := h1
        have : len + 0 = 0 := by omega
        rw [this] at hc
        exact ⟨cs, hc⟩
    have hadd : ∀ j, (a.add j).block = a.block := fun j => Go.ChangeShapes.block_add a j
    have key : ∀ {x : Addr} {cs : List Value}, W.cells? 0 x (k + 1) = some cs → cs.length = k + 1 ∧ ∀ j, j < k + 1 → W.cell? (x.add j) = cs[j]? := fun h => (World.cells?_some h).2
    obtain ⟨cs0, hcs0⟩ := hfirst
    have h00 := (key hcs0).2 0 (by omega)
    have hl0 := (key hcs0).1
    rw [List.getElem?_eq_getElem (by omega)] at h00
    simp only [Nat.zero_mul, Addr.add, if_true] at h00
    obtain ⟨c, e', fz, hblk, hspot⟩ : ∃ c e' fz, W.heap[a.block]? = some (.cells c e' fz) ∧ a.spot = none := by
      unfold World.cell? at h00
      split at h00
      · rename_i c e' fz hg
        split at h00
        · cases h00
        · rename_i hsp'
          exact ⟨c, e', fz, hg, by simpa using hsp'⟩
      · cases h00
    have hcellc : ∀ i cs j, css[i]? = some cs → j < k + 1 → c[a.off + i * (k + 1) + j]? = cs[j]? ∧ j < cs.length := by
      intro i cs j h hj
      obtain ⟨hi, h1⟩ := hcg i cs h
      have h2 := (key h1).2 j hj
      have hl2 := (key h1).1
      rw [← h2]
      refine ⟨?_, by omega⟩
      have hoff : ((a.add (i * (k + 1))).add j).off = a.off + i * (k + 1) + j ∧ ((a.add (i * (k + 1))).add j).spot = none ∧ ((a.add (i * (k + 1))).add j).block = a.block :=
        ⟨by rw [add_off, add_off], add_spot (add_spot hspot), by rw [Go.ChangeShapes.block_add, hadd]⟩
      unfold World.cell?
      rw [hoff.2.2, hblk, hoff.1, hoff.2.1]
      simp
    have hasl : ∀ as ∈ ass, as.length = k + 1 := by
      intro as has
      obtain ⟨i, hi, rfl⟩ := List.getElem_of_mem has
      obtain ⟨cs, hcs⟩ : ∃ cs, css[i]? = some cs := ⟨css[i], List.getElem?_eq_getElem (by omega)⟩
      obtain ⟨as', ha', hv'⟩ := hv1.get i cs hcs
      rw [List.getElem?_eq_getElem hi] at ha'
      obtain rfl := Option.some.inj ha'
      rw [hv'.length]
      exact (key (hcg i cs hcs).2).1
    have hfl : ass.flatten.length = len * (k + 1) := by
      rw [flatten_len hasl, hal]
    have hcsz : a.off + len * (k + 1) ≤ c.size := by
      by_cases h0 : len = 0
      · subst h0
        have hlt : a.off < c.size := by
          unfold World.cell? at h00
          rw [hblk, hspot] at h00
          simp only [Option.isSome_none, Bool.false_eq_true, if_false] at h00
          exact (Array.getElem?_eq_some_iff.1 h00).1
        omega
      · obtain ⟨cs, hcs⟩ : ∃ cs, css[len - 1]? = some cs := ⟨css[len - 1], List.getElem?_eq_getElem (by omega)⟩
        obtain ⟨h1, h2⟩ := hcellc (len - 1) cs k hcs (by omega)
        rw [List.getElem?_eq_getElem h2] at h1
        have := (Array.getElem?_eq_some_iff.1 h1).1
        have hm : (len - 1) * (k + 1) + (k + 1) = len * (k + 1) := by
          rw [← Nat.succ_mul]; congr 1; omega
        omega
    have hrow : RowOk P ρ1 ⟨ass.flatten, e', 0, false⟩ ⟨a.block, a.off, 0, len * (k + 1), c.size, 0⟩ W := by
      refine ⟨hfl.symm, Nat.zero_le _, (by intro h; simp at h), c, fz, hblk, rfl, (by simpa using hcsz), fun i x _ hx => ?_, (by intro h; simp at h)⟩
      have hi : i < len * (k + 1) := by have := (List.getElem?_eq_some_iff.1 hx).1; rw [← hfl]; exact this
      have hq : i / (k + 1) < len := by rw [Nat.div_lt_iff_lt_mul (by omega)]; exact hi
      have hj : i % (k + 1) < k + 1 := Nat.mod_lt _ (by omega)
      have hij : i / (k + 1) * (k + 1) + i % (k + 1) = i := by rw [Nat.mul_comm]; exact Nat.div_add_mod i (k + 1)
      obtain ⟨cs, hcs⟩ : ∃ cs, css[i / (k + 1)]? = some cs := ⟨css[i / (k + 1)], List.getElem?_eq_getElem (by omega)⟩
      obtain ⟨as, has, hv⟩ := hv1.get _ _ hcs
      have hat := flatten_at (fun a ha => hasl a ha) has
      have hax : as[i % (k + 1)]? = some x := by
        rw [← hat, List.getElem?_take, if_pos hj, List.getElem?_drop, hij]; exact hx
      obtain ⟨y, hy, hvy⟩ := hv.get _ _ hax
      obtain ⟨h1, _⟩ := hcellc _ cs _ hcs hj
      refine ⟨y, ?_, hvy⟩
      simp only [Nat.sub_zero]
      rw [← hy, ← h1]
      congr 1
      omega
    obtain ⟨hH2, hle2, hro2⟩ := place_ro hH1 hro1 rfl rfl (s := ⟨a.block, a.off, 0, len * (k + 1), c.size, 0⟩) (Array.getElem?_eq_some_iff.1 hblk).1 hrow
    have hkn : Keep No H1 (H1.push (.row ⟨ass.flatten, e', 0, false⟩)) := Keep.refl.push
    refine ⟨_, _, [.slice (some ⟨H1.next, 0, none⟩) len cap], xs, hH2, hle1.trans hle2, hro2, hk1.after hkn, .cons (.slice (.inr (.inl ⟨?_, rfl, _, Ren.set_same _ _ _ _, Nat.le_refl _, ?_⟩))) .nil, _, ass.flatten, rfl, ?_, hbnd, ?_⟩
    · have : maxLen < openCap := by decide
      omega
    · obtain ⟨ab, ao, asp⟩ := a
      simp only at hspot
      subst hspot
      rfl
    · rw [hxl]
      by_cases h0 : len = 0
      · subst h0
        have : ass = [] := List.eq_nil_of_length_eq_zero hal
        subst this
        exact .empty _ _
      · exact .full _ _ _ _ h0 trivial (by simp) (cellsAt_of (by rw [AHeap.push_get, if_pos rfl]) rfl (by simp [hfl]) (by rw [List.drop_zero]; exact List.take_of_length_le (Nat.le_of_eq hfl)))
    · intro i x hx
      have hi : i < len := by have := (List.getElem?_eq_some_iff.1 hx).1; omega
      obtain ⟨as, has, hR⟩ := hR1.get i x hx
      rw [flatten_at (fun a ha => hasl a ha) has]
      exact I.keep hR hkn

/-- The same cells, told otherwise. -/
theorem Imp.map {P : Program} {W : World} {t : TypeId} {α β : Type} {R : AHeap → List Value → α → Prop} {R' : AHeap → List Value → β → Prop} (I : Imp P W t R) (hk : ∀ {H H' as x}, R' H as x → Keep No H H' → R' H' as x)
    (h : ∀ H as x, R H as x → ∃ y, R' H as y) : Imp P W t R' where
  keep := hk
  imp := by
    intro T enc fuel cs d ps ρ H h1 h2 h3 h4
    obtain ⟨ρ', H', as, x, a1, a2, a3, a4, a5, a6⟩ := I.imp enc fuel cs d ps ρ H h1 h2 h3 h4
    obtain ⟨y, hy⟩ := h H' as x a6
    exact ⟨ρ', H', as, y, a1, a2, a3, a4, a5, hy⟩
/-- Bytes. -/
def ByR (H : AHeap) (as : List Value) (bs : List UInt8) : Prop := ∃ v, as = [v] ∧ BR H (fun _ => True) v bs ∧ bs.length ≤ reachBytes
theorem All2.of_get' {α β : Type} {R : α → β → Prop} : ∀ {xs : List α} {ys : List β}, xs.length = ys.length → (∀ (i : Nat) (x : α) (y : β), xs[i]? = some x → ys[i]? = some y → R x y) → All2 R xs ys
  | [], [], _, _ => .nil
  | x :: xs, y :: ys, hl, h => .cons (h 0 x y rfl rfl) (All2.of_get' (by simpa using hl) fun i x y h1 h2 => h (i + 1) x y (by simpa using h1) (by simpa using h2))
  | [], _ :: _, h, _ => by simp at h
  | _ :: _, [], h, _ => by simp at h
theorem ByR.keep {H H' : AHeap} {as : List Value} {bs : List UInt8} (h : ByR H as bs) (hk : Keep No H H') : ByR H' as bs := by
  obtain ⟨v, h1, h2, h3⟩ := h
  exact ⟨v, h1, Rd.keep0 h2 hk, h3⟩
theorem imp_bytes {P : Program} {W : World} {t e : TypeId} (ht : P.underlying t = some (.slice e)) (he : P.underlying e = some (.int .u8)) (hk : P.cellsOf e = 1) (hb : P.bytesOf e = 1) : Imp P W t ByR := by
  refine (imp_slice (k := 0) (b := 1) ht hk hb (imp_int he)).map (fun h hk => h.keep hk) ?_
  rintro H as xs ⟨v, cells, rfl, h1, h2, h3⟩
  have hl := h1.length
  have hc : cells = bytesV (xs.map fun n => UInt8.ofNat n.toNat) := by
    apply List.ext_getElem?
    intro i
    by_cases hi : i < xs.length
    · obtain ⟨h4, h5⟩ := h3 i xs[i] (List.getElem?_eq_getElem hi)
      have hi' : i < cells.length := by omega
      simp only [Nat.zero_add, Nat.mul_one] at h4
      rw [List.drop_eq_getElem_cons hi'] at h4
      simp only [List.take_succ_cons, List.take_zero, List.cons.injEq, and_true] at h4
      rw [List.getElem?_eq_getElem hi', h4]
      have hb := bounds_u8 h5
      simp [bytesV, List.getElem?_eq_getElem hi]
      omega
    · rw [List.getElem?_eq_none (by omega), List.getElem?_eq_none (by simp; omega)]
  refine ⟨xs.map fun n => UInt8.ofNat n.toNat, v, rfl, ?_, by simpa using h2⟩
  unfold BR
  rw [← hc, List.length_map]
  exact h1
/-- The i-th element. -/
theorem SlR.at {α : Type} {k b : Nat} {Re : AHeap → List Value → α → Prop} {H : AHeap} {v : Value} {xs : List α} {i : Nat} {x : α} (h : SlR k b Re H [v] xs) (hx : xs[i]? = some x) :
    ∃ ad c as, v = .slice (some ad) xs.length c ∧ ad.block < H.next ∧ H.cellsAt (aadd ad (i * k)) k = some as ∧ Re H as x := by
  obtain ⟨v', cells, hv, h1, h2, h3⟩ := h
  obtain rfl : v = v' := by simpa using hv
  have hi := (List.getElem?_eq_some_iff.1 hx).1
  obtain ⟨ad, c, rfl, _, hlt, hc⟩ := h1.at hi
  exact ⟨ad, c, _, rfl, hlt, hc, h3 i x hx⟩
theorem SlR.slice {α : Type} {k b : Nat} {Re : AHeap → List Value → α → Prop} {H : AHeap} {v : Value} {xs : List α} (h : SlR k b Re H [v] xs) : ∃ z c, v = .slice z xs.length c ∧ xs.length * b ≤ reachBytes := by
  obtain ⟨v', cells, hv, h1, h2, h3⟩ := h
  obtain rfl : v = v' := by simpa using hv
  obtain ⟨z, c, rfl⟩ := h1.slice
  exact ⟨z, c, rfl, h2⟩

theorem weights_two {P : Program} {T : Type} {t0 t1 : TypeId} {us : List TypeId} {d0 d1 : DataW T} {gs : List (DataW T)} (h : (DataW.weightsEach P (t0 :: t1 :: us) (d0 :: d1 :: gs)).all (· ≤ reachBytes) = true) :
    (DataW.weights P t0 d0).all (· ≤ reachBytes) = true ∧ (DataW.weights P t1 d1).all (· ≤ reachBytes) = true := by
  simp only [DataW.weightsEach, List.all_append, Bool.and_eq_true] at h
  exact ⟨h.1, h.2.1⟩
theorem weights_three {P : Program} {T : Type} {t0 t1 t2 : TypeId} {us : List TypeId} {d0 d1 d2 : DataW T} {gs : List (DataW T)} (h : (DataW.weightsEach P (t0 :: t1 :: t2 :: us) (d0 :: d1 :: d2 :: gs)).all (· ≤ reachBytes) = true) :
    (DataW.weights P t0 d0).all (· ≤ reachBytes) = true ∧ (DataW.weights P t1 d1).all (· ≤ reachBytes) = true ∧ (DataW.weights P t2 d2).all (· ≤ reachBytes) = true := by
  simp only [DataW.weightsEach, List.all_append, Bool.and_eq_true] at h
  exact ⟨h.1, h.2.1, h.2.2.1⟩

end Go.Ae

/- What a call is handed, taken over into the abstract heap; what a law's answer over it says of the world. Facts on the types of this program. -/
import Derived.Test.YtmibkoadjehdaaaGreatDoorKy13
import Derived.ChangeSlices
import Derived.ChangeFn
import Derived.Carry
import Derived.SizedLaws
import Derived.OpenShut
import Derived.Test.YtmibkoadjehdaaaGreatDoorKy14
import Derived.Test.YtmibkoadjehdaaaGreatDoorProg
import Derived.KernelRfl
set_option linter.unusedVariables false
set_option linter.unusedSimpArgs false
namespace Go.Ae
open Go.RowKit

/-- The world behind, but for the tape. -/
theorem acalls_law {P : Program} {f : FuncId} {args cargs : Array Value} {H : AHeap} {ρ : Ren} {w : World} (hH : RelH P ρ H w) (hargs : VRs ρ args.toList cargs.toList) (hro : ∀ i v s, ρ i v = some s → H.ro i)
    (h : ACalls P f args H fun v _ => v = .bool true) : Calls P f cargs w fun e w' => e = .returned (.bool true) ∧ Below w.heap.size w { w' with tape := w.tape } ∧ ∀ may, w.keptBut w' may := by
  refine (h ρ w cargs hH hargs).mono ?_
  rintro e w' ⟨v, cv, ρ', H', rfl, rfl, hv, _, hx⟩
  cases hv
  have hb : Below w.heap.size w { w' with tape := w.tape } := by
   refine ⟨hx.os, rfl, hx.out, hx.size, fun k hk => ?_⟩
   by_cases hex : ∃ i v s, ρ i v = some s ∧ s.blk = k
   · obtain ⟨i, v, s, hs, rfl⟩ := hex
     obtain ⟨r, hr, hrw⟩ := hro i v s hs
     exact (hx.ro i r (hH.dom i v s hs).1 hr hrw).2 v s hs
   · exact hx.frame k hk fun i v s hs he => hex ⟨i, v, s, hs, he⟩
  exact ⟨rfl, hb, fun may => ⟨(hb.frame may).1, (hb.frame may).2.1, (hb.frame may).2.2⟩⟩

def AHeap.empty : AHeap := ⟨fun _ => none, 0⟩
/-- Any reading of type t can be taken over; R tells what the abstract cells read as. -/
structure Imp (P : Program) (W : World) (t : TypeId) {α : Type} (R : AHeap → List Value → α → Prop) : Prop where
  keep : ∀ {H H' asv x}, R H asv x → Keep No H H' → R H' asv x
  imp : ∀ {T : Type} (enc : TypeId × Value → T) (fuel : Nat) (cs : List Value) (d : DataW T) (ps : List MemPlace) (ρ : Ren) (H : AHeap),
    DataW.trod enc P W 0 (fun _ => true) true fuel t cs = some (d, ps) → (DataW.weights P t d).all (· ≤ reachBytes) = true → RelH P ρ H W → (∀ i v s, ρ i v = some s → H.ro i) →
    ∃ ρ' H' asv x, RelH P ρ' H' W ∧ ρ.le ρ' ∧ (∀ i v s, ρ' i v = some s → H'.ro i) ∧ Keep No H H' ∧ VRs ρ' asv cs ∧ R H' asv x

/-- A slice of such. -/
def SlR {α : Type} (k b : Nat) (Re : AHeap → List Value → α → Prop) (H : AHeap) (asv : List Value) (xs : List α) : Prop :=
  ∃ v cells, asv = [v] ∧ Rd H (fun _ => True) k v xs.length cells ∧ xs.length * b ≤ reachBytes ∧ ∀ i x, xs[i]? = some x → Re H ((cells.drop (i * k)).take k) x

theorem All2.length {α β : Type} {R : α → β → Prop} : ∀ {xs : List α} {ys : List β}, All2 R xs ys → xs.length = ys.length
  | _, _, .nil => rfl
  | _, _, .cons _ h => by simp [All2.length h]
theorem All2.get {α β : Type} {R : α → β → Prop} : ∀ {xs : List α} {ys : List β}, All2 R xs ys → ∀ (i : Nat) (y : β), ys[i]? = some y → ∃ x, xs[i]? = some x ∧ R x y
  | _, _, .nil, i, y, h => by simp at h
  | _, _, .cons h1 h2, 0, y, h => by simp only [List.getElem?_cons_zero, Option.some.injEq] at h ⊢; subst h; exact ⟨_, rfl, h1⟩
  | _, _, .cons h1 h2, i + 1, y, h => by simp only [List.getElem?_cons_succ] at h ⊢; exact All2.get h2 i y h
theorem add_off (a : Addr) (i : Nat) : (a.add i).off = a.off + i := by unfold Addr.add; split <;> simp_all
theorem add_spot {a : Addr} {i : Nat} (h : a.spot = none) : (a.add i).spot = none := by unfold Addr.add; split <;> simp_all
/-- A further row, read alone, at a place that is there. -/
theorem place_ro {P : Program} {ρ : Ren} {H : AHeap} {w : World} (hH : RelH P ρ H w) (hro : ∀ i v s, ρ i v = some s → H.ro i) {r : Row} (hrw : r.rw = false) (hv : r.ver = 0) {s : Seg} (hs : s.blk < w.heap.size) (hrow : RowOk P ρ r s w) :
    RelH P (ρ.set H.next 0 s) (H.push (.row r)) w ∧ ρ.le (ρ.set H.next 0 s) ∧ (∀ i v t, (ρ.set H.next 0 s) i v = some t → (H.push (.row r)).ro i) := by
  have hnone : ∀ v, ρ H.next v = none := fun v => hH.noPlace (Nat.le_refl _) v
  have hmono : ρ.le (ρ.set H.next 0 s) := Ren.le_set (hnone 0) s
  have hnew : (H.push (.row r)).get H.next = some (.row r) := by rw [AHeap.push_get, if_pos rfl]
  have hold : ∀ {i v t}, ρ i v = some t → (H.push (.row r)).get i = H.get i := fun h => by rw [AHeap.push_get, if_neg (Nat.ne_of_lt (hH.dom _ _ _ h).1)]
  have hroN : (H.push (.row r)).ro H.next := ⟨r, hnew, hrw⟩
  have hro' : ∀ i v t, (ρ.set H.next 0 s) i v = some t → (H.push (.row r)).ro i := by
    intro i v t h
    rcases Ren.set_cases h with ⟨rfl, _, _⟩ | h
    · exact hroN
    · exact AHeap.ro_push (hH.dom _ _ _ h).1 (hro i v t h)
  refine ⟨⟨?_, ?_, ?_, ?_, ?_, ?_, hH.glob.mono hmono⟩, hmono, hro'⟩
  · intro i hi
    rw [AHeap.push_next] at hi
    rw [AHeap.push_get, if_neg (by omega)]
    exact hH.wf i (by omega)
  · intro i v t h
    rcases Ren.set_cases h with ⟨rfl, _, rfl⟩ | h
    · exact ⟨by rw [AHeap.push_next]; omega, hs⟩
    · have := hH.dom i v t h
      exact ⟨by rw [AHeap.push_next]; omega, this.2⟩
  · intro i j u v t t' h1 h2 he
    exact .inr ⟨hro' _ _ _ h1, hro' _ _ _ h2⟩
  · intro i q hq t h
    rcases Ren.set_cases h with ⟨rfl, hv0, rfl⟩ | h
    · rw [hnew] at hq
      obtain rfl : r = q := by simpa using hq
      exact hrow.mono hmono rfl
    · rw [hold h] at hq
      exact (hH.row i q hq t h).mono hmono rfl
  · intro i o hq ho t h
    rcases Ren.set_cases h with ⟨rfl, hv0, rfl⟩ | h
    · rw [hnew] at hq; obtain rfl := Option.some.inj hq; cases ho
    · rw [hold h] at hq
      exact (hH.obj i o hq ho t h).mono hmono rfl
  · intro i q v hq hlt
    unfold Ren.set
    by_cases he : i = H.next
    · subst he
      rw [hnew] at hq
      obtain rfl : r = q := by simpa using hq
      rw [if_neg (by omega), hnone]
    · rw [AHeap.push_get, if_neg he] at hq
      rw [if_neg (fun h => he h.1)]
      exact hH.future i q v hq hlt

/-- The same cells, told otherwise. -/
theorem Imp.map {P : Program} {W : World} {t : TypeId} {α β : Type} {R : AHeap → List Value → α → Prop} {R' : AHeap → List Value → β → Prop} (I : Imp P W t R) (hk : ∀ {H H' asv x}, R' H asv x → Keep No H H' → R' H' asv x)
    (h : ∀ H asv x, R H asv x → ∃ y, R' H asv y) : Imp P W t R' where
  keep := hk
  imp := by
    intro T enc fuel cs d ps ρ H h1 h2 h3 h4
    obtain ⟨ρ', H', asv, x, a1, a2, a3, a4, a5, a6⟩ := I.imp enc fuel cs d ps ρ H h1 h2 h3 h4
    obtain ⟨y, hy⟩ := h H' asv x a6
    exact ⟨ρ', H', asv, y, a1, a2, a3, a4, a5, hy⟩
/-- Bytes. -/
def ByR (H : AHeap) (asv : List Value) (bs : List UInt8) : Prop := ∃ v, asv = [v] ∧ BR H (fun _ => True) v bs ∧ bs.length ≤ reachBytes
theorem ByR.keep {H H' : AHeap} {asv : List Value} {bs : List UInt8} (h : ByR H asv bs) (hk : Keep No H H') : ByR H' asv bs := by
  obtain ⟨v, h1, h2, h3⟩ := h
  exact ⟨v, h1, Rd.keep0 h2 hk, h3⟩
/-- The i-th element. -/
theorem SlR.at {α : Type} {k b : Nat} {Re : AHeap → List Value → α → Prop} {H : AHeap} {v : Value} {xs : List α} {i : Nat} {x : α} (h : SlR k b Re H [v] xs) (hx : xs[i]? = some x) :
    ∃ ad c asv, v = .slice (some ad) xs.length c ∧ ad.block < H.next ∧ H.cellsAt (aadd ad (i * k)) k = some asv ∧ Re H asv x := by
  obtain ⟨v', cells, hv, h1, h2, h3⟩ := h
  obtain rfl : v = v' := by simpa using hv
  have hi := (List.getElem?_eq_some_iff.1 hx).1
  obtain ⟨ad, c, rfl, _, hlt, hc⟩ := h1.at hi
  exact ⟨ad, c, _, rfl, hlt, hc, h3 i x hx⟩
theorem SlR.slice {α : Type} {k b : Nat} {Re : AHeap → List Value → α → Prop} {H : AHeap} {v : Value} {xs : List α} (h : SlR k b Re H [v] xs) : ∃ z c, v = .slice z xs.length c ∧ xs.length * b ≤ reachBytes := by
  obtain ⟨v', cells, hv, h1, h2, h3⟩ := h
  obtain rfl : v = v' := by simpa using hv
  obtain ⟨z, c, rfl⟩ := h1.slice
  exact ⟨z, c, rfl, h2⟩

theorem weights_two {P : Program} {T : Type} {t0 t1 : TypeId} {us : List TypeId} {d0 d1 : DataW T} {gs : List (DataW T)} (h : (DataW.weightsEach P (t0 :: t1 :: us) (d0 :: d1 :: gs)).all (· ≤ reachBytes) = true) :
    (DataW.weights P t0 d0).all (· ≤ reachBytes) = true ∧ (DataW.weights P t1 d1).all (· ≤ reachBytes) = true := by
  simp only [DataW.weightsEach, List.all_append, Bool.and_eq_true] at h
  exact ⟨h.1, h.2.1⟩
end Go.Ae
namespace Go.Ae
open Go.Proofs
theorem follows : Tryz.prog.follows .mixedOrders = true := by kernel_rfl
theorem ag2 : isAggT Tryz.prog 2 = some false := by kernel_rfl
theorem ag3 : isAggT Tryz.prog 3 = some false := by kernel_rfl
theorem ag5 : isAggT Tryz.prog 5 = some false := by kernel_rfl
theorem ag9 : isAggT Tryz.prog 9 = some false := by kernel_rfl
theorem ag22 : isAggT Tryz.prog 22 = some false := by kernel_rfl
theorem ag25 : isAggT Tryz.prog 25 = some false := by kernel_rfl
theorem ag26 : isAggT Tryz.prog 26 = some false := by kernel_rfl
theorem ag27 : isAggT Tryz.prog 27 = some false := by kernel_rfl
theorem ag28 : isAggT Tryz.prog 28 = some false := by kernel_rfl
theorem ag29 : isAggT Tryz.prog 29 = some false := by kernel_rfl
theorem ag30 : isAggT Tryz.prog 30 = some false := by kernel_rfl
theorem ag39 : isAggT Tryz.prog 39 = some false := by kernel_rfl
theorem ag40 : isAggT Tryz.prog 40 = some false := by kernel_rfl
theorem ag52 : isAggT Tryz.prog 52 = some false := by kernel_rfl
theorem ag54 : isAggT Tryz.prog 54 = some false := by kernel_rfl
theorem ag59 : isAggT Tryz.prog 59 = some false := by kernel_rfl
theorem ag61 : isAggT Tryz.prog 61 = some false := by kernel_rfl
theorem ag80 : isAggT Tryz.prog 80 = some false := by kernel_rfl
theorem ag82 : isAggT Tryz.prog 82 = some true := by kernel_rfl
theorem ag86 : isAggT Tryz.prog 86 = some true := by kernel_rfl
theorem ag87 : isAggT Tryz.prog 87 = some false := by kernel_rfl
theorem ag88 : isAggT Tryz.prog 88 = some false := by kernel_rfl
theorem ag89 : isAggT Tryz.prog 89 = some false := by kernel_rfl
theorem ag90 : isAggT Tryz.prog 90 = some false := by kernel_rfl
theorem ag91 : isAggT Tryz.prog 91 = some false := by kernel_rfl
theorem ag92 : isAggT Tryz.prog 92 = some false := by kernel_rfl
theorem ag100 : isAggT Tryz.prog 100 = some false := by kernel_rfl
theorem ag101 : isAggT Tryz.prog 101 = some false := by kernel_rfl
theorem ag104 : isAggT Tryz.prog 104 = some false := by kernel_rfl
theorem ag107 : isAggT Tryz.prog 107 = some false := by kernel_rfl
theorem ag108 : isAggT Tryz.prog 108 = some false := by kernel_rfl
theorem ag239 : isAggT Tryz.prog 239 = some true := by kernel_rfl
theorem ag241 : isAggT Tryz.prog 241 = some true := by kernel_rfl
theorem ag242 : isAggT Tryz.prog 242 = some false := by kernel_rfl
theorem bu32 : placesT Tryz.prog 32 = some (#[(0, 1), (1, 1), (2, 1), (3, 1), (4, 1), (5, 1)], [.pointer none, .slice none 0 0, .slice none 0 0, .slice none 0 0, .slice none 0 0, .slice none 0 0]) := by kernel_rfl
theorem bu94 : placesT Tryz.prog 94 = some (#[(0, 1), (1, 1), (2, 1), (3, 1), (4, 1), (5, 1), (6, 1), (7, 1), (8, 1), (9, 1)], [.slice none 0 0, .slice none 0 0, .slice none 0 0, .slice none 0 0, .slice none 0 0, .slice none 0 0, .slice none 0 0, .slice none 0 0, .slice none 0 0, .slice none 0 0]) := by kernel_rfl
theorem by3 : byT Tryz.prog 3 = some 8 := by kernel_rfl
theorem by5 : byT Tryz.prog 5 = some 1 := by kernel_rfl
theorem by9 : byT Tryz.prog 9 = some 16 := by kernel_rfl
theorem by22 : byT Tryz.prog 22 = some 24 := by kernel_rfl
theorem by39 : byT Tryz.prog 39 = some 24 := by kernel_rfl
theorem by40 : byT Tryz.prog 40 = some 24 := by kernel_rfl
theorem by52 : byT Tryz.prog 52 = some 24 := by kernel_rfl
theorem by54 : byT Tryz.prog 54 = some 24 := by kernel_rfl
theorem by61 : byT Tryz.prog 61 = some 24 := by kernel_rfl
theorem by75 : byT Tryz.prog 75 = some 56 := by kernel_rfl
theorem by80 : byT Tryz.prog 80 = some 24 := by kernel_rfl
theorem by82 : byT Tryz.prog 82 = some 56 := by kernel_rfl
theorem by86 : byT Tryz.prog 86 = some 96 := by kernel_rfl
theorem by99 : byT Tryz.prog 99 = some 32 := by kernel_rfl
theorem by100 : byT Tryz.prog 100 = some 24 := by kernel_rfl
theorem by101 : byT Tryz.prog 101 = some 24 := by kernel_rfl
theorem by103 : byT Tryz.prog 103 = some 32 := by kernel_rfl
theorem by104 : byT Tryz.prog 104 = some 24 := by kernel_rfl
theorem by106 : byT Tryz.prog 106 = some 80 := by kernel_rfl
theorem by107 : byT Tryz.prog 107 = some 24 := by kernel_rfl
theorem by108 : byT Tryz.prog 108 = some 24 := by kernel_rfl
theorem by110 : byT Tryz.prog 110 = some 48 := by kernel_rfl
theorem by239 : byT Tryz.prog 239 = some 40 := by kernel_rfl
theorem by241 : byT Tryz.prog 241 = some 104 := by kernel_rfl
theorem by242 : byT Tryz.prog 242 = some 24 := by kernel_rfl
theorem es22 : elemSz Tryz.prog 22 = some 1 := by kernel_rfl
theorem es26 : elemSz Tryz.prog 26 = some 1 := by kernel_rfl
theorem es27 : elemSz Tryz.prog 27 = some 1 := by kernel_rfl
theorem es28 : elemSz Tryz.prog 28 = some 1 := by kernel_rfl
theorem es29 : elemSz Tryz.prog 29 = some 1 := by kernel_rfl
theorem es30 : elemSz Tryz.prog 30 = some 1 := by kernel_rfl
theorem es39 : elemSz Tryz.prog 39 = some 4 := by kernel_rfl
theorem es40 : elemSz Tryz.prog 40 = some 4 := by kernel_rfl
theorem es52 : elemSz Tryz.prog 52 = some 1 := by kernel_rfl
theorem es54 : elemSz Tryz.prog 54 = some 4 := by kernel_rfl
theorem es59 : elemSz Tryz.prog 59 = some 1 := by kernel_rfl
theorem es61 : elemSz Tryz.prog 61 = some 1 := by kernel_rfl
theorem es80 : elemSz Tryz.prog 80 = some 4 := by kernel_rfl
theorem es87 : elemSz Tryz.prog 87 = some 1 := by kernel_rfl
theorem es88 : elemSz Tryz.prog 88 = some 1 := by kernel_rfl
theorem es89 : elemSz Tryz.prog 89 = some 1 := by kernel_rfl
theorem es90 : elemSz Tryz.prog 90 = some 1 := by kernel_rfl
theorem es91 : elemSz Tryz.prog 91 = some 1 := by kernel_rfl
theorem es92 : elemSz Tryz.prog 92 = some 1 := by kernel_rfl
theorem es100 : elemSz Tryz.prog 100 = some 2 := by kernel_rfl
theorem es101 : elemSz Tryz.prog 101 = some 2 := by kernel_rfl
theorem es104 : elemSz Tryz.prog 104 = some 6 := by kernel_rfl
theorem es107 : elemSz Tryz.prog 107 = some 3 := by kernel_rfl
theorem es108 : elemSz Tryz.prog 108 = some 1 := by kernel_rfl
theorem es242 : elemSz Tryz.prog 242 = some 7 := by kernel_rfl
theorem fo32_0 : fieldOff Tryz.prog 32 0 = some 0 := by kernel_rfl
theorem fo32_1 : fieldOff Tryz.prog 32 1 = some 1 := by kernel_rfl
theorem fo32_2 : fieldOff Tryz.prog 32 2 = some 2 := by kernel_rfl
theorem fo32_3 : fieldOff Tryz.prog 32 3 = some 3 := by kernel_rfl
theorem fo32_4 : fieldOff Tryz.prog 32 4 = some 4 := by kernel_rfl
theorem fo32_5 : fieldOff Tryz.prog 32 5 = some 5 := by kernel_rfl
theorem fo75_2 : fieldOff Tryz.prog 75 2 = some 2 := by kernel_rfl
theorem fo82_0 : fieldOff Tryz.prog 82 0 = some 0 := by kernel_rfl
theorem fo82_1 : fieldOff Tryz.prog 82 1 = some 1 := by kernel_rfl
theorem fo82_2 : fieldOff Tryz.prog 82 2 = some 2 := by kernel_rfl
theorem fo82_3 : fieldOff Tryz.prog 82 3 = some 3 := by kernel_rfl
theorem fo86_0 : fieldOff Tryz.prog 86 0 = some 0 := by kernel_rfl
theorem fo86_1 : fieldOff Tryz.prog 86 1 = some 1 := by kernel_rfl
theorem fo86_2 : fieldOff Tryz.prog 86 2 = some 5 := by kernel_rfl
theorem fo94_0 : fieldOff Tryz.prog 94 0 = some 0 := by kernel_rfl
theorem fo94_1 : fieldOff Tryz.prog 94 1 = some 1 := by kernel_rfl
theorem fo94_2 : fieldOff Tryz.prog 94 2 = some 2 := by kernel_rfl
theorem fo94_3 : fieldOff Tryz.prog 94 3 = some 3 := by kernel_rfl
theorem fo94_4 : fieldOff Tryz.prog 94 4 = some 4 := by kernel_rfl
theorem fo94_5 : fieldOff Tryz.prog 94 5 = some 5 := by kernel_rfl
theorem fo94_6 : fieldOff Tryz.prog 94 6 = some 6 := by kernel_rfl
theorem fo94_7 : fieldOff Tryz.prog 94 7 = some 7 := by kernel_rfl
theorem fo94_8 : fieldOff Tryz.prog 94 8 = some 8 := by kernel_rfl
theorem fo94_9 : fieldOff Tryz.prog 94 9 = some 9 := by kernel_rfl
theorem fo99_3 : fieldOff Tryz.prog 99 3 = some 3 := by kernel_rfl
theorem fo103_0 : fieldOff Tryz.prog 103 0 = some 0 := by kernel_rfl
theorem fo106_0 : fieldOff Tryz.prog 106 0 = some 0 := by kernel_rfl
theorem fo110_2 : fieldOff Tryz.prog 110 2 = some 2 := by kernel_rfl
theorem fo239_0 : fieldOff Tryz.prog 239 0 = some 0 := by kernel_rfl
theorem fo239_1 : fieldOff Tryz.prog 239 1 = some 1 := by kernel_rfl
theorem fo241_0 : fieldOff Tryz.prog 241 0 = some 0 := by kernel_rfl
theorem fo241_1 : fieldOff Tryz.prog 241 1 = some 1 := by kernel_rfl
theorem sz2 : szT Tryz.prog 2 = some 1 := by kernel_rfl
theorem sz3 : szT Tryz.prog 3 = some 1 := by kernel_rfl
theorem sz5 : szT Tryz.prog 5 = some 1 := by kernel_rfl
theorem sz9 : szT Tryz.prog 9 = some 1 := by kernel_rfl
theorem sz22 : szT Tryz.prog 22 = some 1 := by kernel_rfl
theorem sz25 : szT Tryz.prog 25 = some 1 := by kernel_rfl
theorem sz26 : szT Tryz.prog 26 = some 1 := by kernel_rfl
theorem sz27 : szT Tryz.prog 27 = some 1 := by kernel_rfl
theorem sz28 : szT Tryz.prog 28 = some 1 := by kernel_rfl
theorem sz29 : szT Tryz.prog 29 = some 1 := by kernel_rfl
theorem sz30 : szT Tryz.prog 30 = some 1 := by kernel_rfl
theorem sz32 : szT Tryz.prog 32 = some 6 := by kernel_rfl
theorem sz39 : szT Tryz.prog 39 = some 1 := by kernel_rfl
theorem sz40 : szT Tryz.prog 40 = some 1 := by kernel_rfl
theorem sz52 : szT Tryz.prog 52 = some 1 := by kernel_rfl
theorem sz54 : szT Tryz.prog 54 = some 1 := by kernel_rfl
theorem sz59 : szT Tryz.prog 59 = some 1 := by kernel_rfl
theorem sz61 : szT Tryz.prog 61 = some 1 := by kernel_rfl
theorem sz75 : szT Tryz.prog 75 = some 4 := by kernel_rfl
theorem sz80 : szT Tryz.prog 80 = some 1 := by kernel_rfl
theorem sz82 : szT Tryz.prog 82 = some 4 := by kernel_rfl
theorem sz86 : szT Tryz.prog 86 = some 6 := by kernel_rfl
theorem sz87 : szT Tryz.prog 87 = some 1 := by kernel_rfl
theorem sz88 : szT Tryz.prog 88 = some 1 := by kernel_rfl
theorem sz89 : szT Tryz.prog 89 = some 1 := by kernel_rfl
theorem sz90 : szT Tryz.prog 90 = some 1 := by kernel_rfl
theorem sz91 : szT Tryz.prog 91 = some 1 := by kernel_rfl
theorem sz92 : szT Tryz.prog 92 = some 1 := by kernel_rfl
theorem sz94 : szT Tryz.prog 94 = some 10 := by kernel_rfl
theorem sz99 : szT Tryz.prog 99 = some 4 := by kernel_rfl
theorem sz100 : szT Tryz.prog 100 = some 1 := by kernel_rfl
theorem sz101 : szT Tryz.prog 101 = some 1 := by kernel_rfl
theorem sz103 : szT Tryz.prog 103 = some 2 := by kernel_rfl
theorem sz104 : szT Tryz.prog 104 = some 1 := by kernel_rfl
theorem sz106 : szT Tryz.prog 106 = some 4 := by kernel_rfl
theorem sz107 : szT Tryz.prog 107 = some 1 := by kernel_rfl
theorem sz108 : szT Tryz.prog 108 = some 1 := by kernel_rfl
theorem sz110 : szT Tryz.prog 110 = some 3 := by kernel_rfl
theorem sz239 : szT Tryz.prog 239 = some 2 := by kernel_rfl
theorem sz241 : szT Tryz.prog 241 = some 7 := by kernel_rfl
theorem sz242 : szT Tryz.prog 242 = some 1 := by kernel_rfl
theorem ze3 : zeroT Tryz.prog 3 = some [.int .i64 0] := by kernel_rfl
theorem ze5 : zeroT Tryz.prog 5 = some [.int .u8 0] := by kernel_rfl
theorem ze9 : zeroT Tryz.prog 9 = some [.string .empty] := by kernel_rfl
theorem ze22 : zeroT Tryz.prog 22 = some [.slice none 0 0] := by kernel_rfl
theorem ze39 : zeroT Tryz.prog 39 = some [.slice none 0 0] := by kernel_rfl
theorem ze40 : zeroT Tryz.prog 40 = some [.slice none 0 0] := by kernel_rfl
theorem ze52 : zeroT Tryz.prog 52 = some [.slice none 0 0] := by kernel_rfl
theorem ze54 : zeroT Tryz.prog 54 = some [.slice none 0 0] := by kernel_rfl
theorem ze61 : zeroT Tryz.prog 61 = some [.slice none 0 0] := by kernel_rfl
theorem ze75 : zeroT Tryz.prog 75 = some [.string .empty, .int .i64 0, .int .i64 0, .slice none 0 0] := by kernel_rfl
theorem ze80 : zeroT Tryz.prog 80 = some [.slice none 0 0] := by kernel_rfl
theorem ze82 : zeroT Tryz.prog 82 = some [.int .i64 0, .int .i64 0, .string .empty, .slice none 0 0] := by kernel_rfl
theorem ze86 : zeroT Tryz.prog 86 = some [.string .empty, .int .i64 0, .int .i64 0, .string .empty, .slice none 0 0, .slice none 0 0] := by kernel_rfl
theorem ze99 : zeroT Tryz.prog 99 = some [.int .i64 0, .int .i64 0, .int .i64 0, .int .i64 0] := by kernel_rfl
theorem ze100 : zeroT Tryz.prog 100 = some [.slice none 0 0] := by kernel_rfl
theorem ze101 : zeroT Tryz.prog 101 = some [.slice none 0 0] := by kernel_rfl
theorem ze103 : zeroT Tryz.prog 103 = some [.int .i64 0, .slice none 0 0] := by kernel_rfl
theorem ze104 : zeroT Tryz.prog 104 = some [.slice none 0 0] := by kernel_rfl
theorem ze106 : zeroT Tryz.prog 106 = some [.int .i64 0, .slice none 0 0, .slice none 0 0, .slice none 0 0] := by kernel_rfl
theorem ze107 : zeroT Tryz.prog 107 = some [.slice none 0 0] := by kernel_rfl
theorem ze108 : zeroT Tryz.prog 108 = some [.slice none 0 0] := by kernel_rfl
theorem ze110 : zeroT Tryz.prog 110 = some [.string .empty, .slice none 0 0, .int .i64 0] := by kernel_rfl
theorem ze239 : zeroT Tryz.prog 239 = some [.string .empty, .slice none 0 0] := by kernel_rfl
theorem ze241 : zeroT Tryz.prog 241 = some [.int .i64 0, .string .empty, .int .i64 0, .int .i64 0, .string .empty, .slice none 0 0, .slice none 0 0] := by kernel_rfl
theorem ze242 : zeroT Tryz.prog 242 = some [.slice none 0 0] := by kernel_rfl
theorem nm3 : (Tryz.f3.name == "runtime.NumGoroutine" || Tryz.f3.body.isNone) = false := by kernel_rfl
instance : FnT Tryz.prog 3 := ⟨_, Tryz.func3, nm3⟩
theorem nm7 : (Tryz.f7.name == "runtime.NumGoroutine" || Tryz.f7.body.isNone) = false := by kernel_rfl
instance : FnT Tryz.prog 7 := ⟨_, Tryz.func7, nm7⟩
theorem nm8 : (Tryz.f8.name == "runtime.NumGoroutine" || Tryz.f8.body.isNone) = false := by kernel_rfl
instance : FnT Tryz.prog 8 := ⟨_, Tryz.func8, nm8⟩
theorem nm29 : (Tryz.f29.name == "runtime.NumGoroutine" || Tryz.f29.body.isNone) = false := by kernel_rfl
instance : FnT Tryz.prog 29 := ⟨_, Tryz.func29, nm29⟩
theorem nm9 : (Tryz.f9.name == "runtime.NumGoroutine" || Tryz.f9.body.isNone) = false := by kernel_rfl
instance : FnT Tryz.prog 9 := ⟨_, Tryz.func9, nm9⟩
theorem nm30 : (Tryz.f30.name == "runtime.NumGoroutine" || Tryz.f30.body.isNone) = false := by kernel_rfl
instance : FnT Tryz.prog 30 := ⟨_, Tryz.func30, nm30⟩
theorem nm51 : (Tryz.f51.name == "runtime.NumGoroutine" || Tryz.f51.body.isNone) = false := by kernel_rfl
instance : FnT Tryz.prog 51 := ⟨_, Tryz.func51, nm51⟩
theorem nm50 : (Tryz.f50.name == "runtime.NumGoroutine" || Tryz.f50.body.isNone) = false := by kernel_rfl
instance : FnT Tryz.prog 50 := ⟨_, Tryz.func50, nm50⟩
theorem nm10 : (Tryz.f10.name == "runtime.NumGoroutine" || Tryz.f10.body.isNone) = false := by kernel_rfl
instance : FnT Tryz.prog 10 := ⟨_, Tryz.func10, nm10⟩
theorem nm11 : (Tryz.f11.name == "runtime.NumGoroutine" || Tryz.f11.body.isNone) = false := by kernel_rfl
instance : FnT Tryz.prog 11 := ⟨_, Tryz.func11, nm11⟩
theorem nm12 : (Tryz.f12.name == "runtime.NumGoroutine" || Tryz.f12.body.isNone) = false := by kernel_rfl
instance : FnT Tryz.prog 12 := ⟨_, Tryz.func12, nm12⟩
theorem nm31 : (Tryz.f31.name == "runtime.NumGoroutine" || Tryz.f31.body.isNone) = false := by kernel_rfl
instance : FnT Tryz.prog 31 := ⟨_, Tryz.func31, nm31⟩
theorem nm52 : (Tryz.f52.name == "runtime.NumGoroutine" || Tryz.f52.body.isNone) = false := by kernel_rfl
instance : FnT Tryz.prog 52 := ⟨_, Tryz.func52, nm52⟩
theorem nm53 : (Tryz.f53.name == "runtime.NumGoroutine" || Tryz.f53.body.isNone) = false := by kernel_rfl
instance : FnT Tryz.prog 53 := ⟨_, Tryz.func53, nm53⟩
theorem nm54 : (Tryz.f54.name == "runtime.NumGoroutine" || Tryz.f54.body.isNone) = false := by kernel_rfl
instance : FnT Tryz.prog 54 := ⟨_, Tryz.func54, nm54⟩
theorem nm55 : (Tryz.f55.name == "runtime.NumGoroutine" || Tryz.f55.body.isNone) = false := by kernel_rfl
instance : FnT Tryz.prog 55 := ⟨_, Tryz.func55, nm55⟩
theorem nm100 : (Tryz.f100.name == "runtime.NumGoroutine" || Tryz.f100.body.isNone) = false := by kernel_rfl
instance : FnT Tryz.prog 100 := ⟨_, Tryz.func100, nm100⟩
theorem nm13 : (Tryz.f13.name == "runtime.NumGoroutine" || Tryz.f13.body.isNone) = false := by kernel_rfl
instance : FnT Tryz.prog 13 := ⟨_, Tryz.func13, nm13⟩
instance : AgT Tryz.prog 2 (false) := ⟨ag2⟩
instance : AgT Tryz.prog 3 (false) := ⟨ag3⟩
instance : AgT Tryz.prog 5 (false) := ⟨ag5⟩
instance : AgT Tryz.prog 9 (false) := ⟨ag9⟩
instance : AgT Tryz.prog 22 (false) := ⟨ag22⟩
instance : AgT Tryz.prog 25 (false) := ⟨ag25⟩
instance : AgT Tryz.prog 26 (false) := ⟨ag26⟩
instance : AgT Tryz.prog 27 (false) := ⟨ag27⟩
instance : AgT Tryz.prog 28 (false) := ⟨ag28⟩
instance : AgT Tryz.prog 29 (false) := ⟨ag29⟩
instance : AgT Tryz.prog 30 (false) := ⟨ag30⟩
instance : AgT Tryz.prog 39 (false) := ⟨ag39⟩
instance : AgT Tryz.prog 40 (false) := ⟨ag40⟩
instance : AgT Tryz.prog 52 (false) := ⟨ag52⟩
instance : AgT Tryz.prog 54 (false) := ⟨ag54⟩
instance : AgT Tryz.prog 59 (false) := ⟨ag59⟩
instance : AgT Tryz.prog 61 (false) := ⟨ag61⟩
instance : AgT Tryz.prog 80 (false) := ⟨ag80⟩
instance : AgT Tryz.prog 82 (true) := ⟨ag82⟩
instance : AgT Tryz.prog 86 (true) := ⟨ag86⟩
instance : AgT Tryz.prog 87 (false) := ⟨ag87⟩
instance : AgT Tryz.prog 88 (false) := ⟨ag88⟩
instance : AgT Tryz.prog 89 (false) := ⟨ag89⟩
instance : AgT Tryz.prog 90 (false) := ⟨ag90⟩
instance : AgT Tryz.prog 91 (false) := ⟨ag91⟩
instance : AgT Tryz.prog 92 (false) := ⟨ag92⟩
instance : AgT Tryz.prog 100 (false) := ⟨ag100⟩
instance : AgT Tryz.prog 101 (false) := ⟨ag101⟩
instance : AgT Tryz.prog 104 (false) := ⟨ag104⟩
instance : AgT Tryz.prog 107 (false) := ⟨ag107⟩
instance : AgT Tryz.prog 108 (false) := ⟨ag108⟩
instance : AgT Tryz.prog 239 (true) := ⟨ag239⟩
instance : AgT Tryz.prog 241 (true) := ⟨ag241⟩
instance : AgT Tryz.prog 242 (false) := ⟨ag242⟩
instance : BuT Tryz.prog 32 #[(0, 1), (1, 1), (2, 1), (3, 1), (4, 1), (5, 1)] [.pointer none, .slice none 0 0, .slice none 0 0, .slice none 0 0, .slice none 0 0, .slice none 0 0] := ⟨bu32⟩
instance : BuT Tryz.prog 94 #[(0, 1), (1, 1), (2, 1), (3, 1), (4, 1), (5, 1), (6, 1), (7, 1), (8, 1), (9, 1)] [.slice none 0 0, .slice none 0 0, .slice none 0 0, .slice none 0 0, .slice none 0 0, .slice none 0 0, .slice none 0 0, .slice none 0 0, .slice none 0 0, .slice none 0 0] := ⟨bu94⟩
instance : ByT Tryz.prog 3 (8) := ⟨by3⟩
instance : ByT Tryz.prog 5 (1) := ⟨by5⟩
instance : ByT Tryz.prog 9 (16) := ⟨by9⟩
instance : ByT Tryz.prog 22 (24) := ⟨by22⟩
instance : ByT Tryz.prog 39 (24) := ⟨by39⟩
instance : ByT Tryz.prog 40 (24) := ⟨by40⟩
instance : ByT Tryz.prog 52 (24) := ⟨by52⟩
instance : ByT Tryz.prog 54 (24) := ⟨by54⟩
instance : ByT Tryz.prog 61 (24) := ⟨by61⟩
instance : ByT Tryz.prog 75 (56) := ⟨by75⟩
instance : ByT Tryz.prog 80 (24) := ⟨by80⟩
instance : ByT Tryz.prog 82 (56) := ⟨by82⟩
instance : ByT Tryz.prog 86 (96) := ⟨by86⟩
instance : ByT Tryz.prog 99 (32) := ⟨by99⟩
instance : ByT Tryz.prog 100 (24) := ⟨by100⟩
instance : ByT Tryz.prog 101 (24) := ⟨by101⟩
instance : ByT Tryz.prog 103 (32) := ⟨by103⟩
instance : ByT Tryz.prog 104 (24) := ⟨by104⟩
instance : ByT Tryz.prog 106 (80) := ⟨by106⟩
instance : ByT Tryz.prog 107 (24) := ⟨by107⟩
instance : ByT Tryz.prog 108 (24) := ⟨by108⟩
instance : ByT Tryz.prog 110 (48) := ⟨by110⟩
instance : ByT Tryz.prog 239 (40) := ⟨by239⟩
instance : ByT Tryz.prog 241 (104) := ⟨by241⟩
instance : ByT Tryz.prog 242 (24) := ⟨by242⟩
instance : EsT Tryz.prog 22 (1) := ⟨es22⟩
instance : EsT Tryz.prog 26 (1) := ⟨es26⟩
instance : EsT Tryz.prog 27 (1) := ⟨es27⟩
instance : EsT Tryz.prog 28 (1) := ⟨es28⟩
instance : EsT Tryz.prog 29 (1) := ⟨es29⟩
instance : EsT Tryz.prog 30 (1) := ⟨es30⟩
instance : EsT Tryz.prog 39 (4) := ⟨es39⟩
instance : EsT Tryz.prog 40 (4) := ⟨es40⟩
instance : EsT Tryz.prog 52 (1) := ⟨es52⟩
instance : EsT Tryz.prog 54 (4) := ⟨es54⟩
instance : EsT Tryz.prog 59 (1) := ⟨es59⟩
instance : EsT Tryz.prog 61 (1) := ⟨es61⟩
instance : EsT Tryz.prog 80 (4) := ⟨es80⟩
instance : EsT Tryz.prog 87 (1) := ⟨es87⟩
instance : EsT Tryz.prog 88 (1) := ⟨es88⟩
instance : EsT Tryz.prog 89 (1) := ⟨es89⟩
instance : EsT Tryz.prog 90 (1) := ⟨es90⟩
instance : EsT Tryz.prog 91 (1) := ⟨es91⟩
instance : EsT Tryz.prog 92 (1) := ⟨es92⟩
instance : EsT Tryz.prog 100 (2) := ⟨es100⟩
instance : EsT Tryz.prog 101 (2) := ⟨es101⟩
instance : EsT Tryz.prog 104 (6) := ⟨es104⟩
instance : EsT Tryz.prog 107 (3) := ⟨es107⟩
instance : EsT Tryz.prog 108 (1) := ⟨es108⟩
instance : EsT Tryz.prog 242 (7) := ⟨es242⟩
instance : FoT Tryz.prog 32 0 0 := ⟨fo32_0⟩
instance : FoT Tryz.prog 32 1 1 := ⟨fo32_1⟩
instance : FoT Tryz.prog 32 2 2 := ⟨fo32_2⟩
instance : FoT Tryz.prog 32 3 3 := ⟨fo32_3⟩
instance : FoT Tryz.prog 32 4 4 := ⟨fo32_4⟩
instance : FoT Tryz.prog 32 5 5 := ⟨fo32_5⟩
instance : FoT Tryz.prog 75 2 2 := ⟨fo75_2⟩
instance : FoT Tryz.prog 82 0 0 := ⟨fo82_0⟩
instance : FoT Tryz.prog 82 1 1 := ⟨fo82_1⟩
instance : FoT Tryz.prog 82 2 2 := ⟨fo82_2⟩
instance : FoT Tryz.prog 82 3 3 := ⟨fo82_3⟩
instance : FoT Tryz.prog 86 0 0 := ⟨fo86_0⟩
instance : FoT Tryz.prog 86 1 1 := ⟨fo86_1⟩
instance : FoT Tryz.prog 86 2 5 := ⟨fo86_2⟩
instance : FoT Tryz.prog 94 0 0 := ⟨fo94_0⟩
instance : FoT Tryz.prog 94 1 1 := ⟨fo94_1⟩
instance : FoT Tryz.prog 94 2 2 := ⟨fo94_2⟩
instance : FoT Tryz.prog 94 3 3 := ⟨fo94_3⟩
instance : FoT Tryz.prog 94 4 4 := ⟨fo94_4⟩
instance : FoT Tryz.prog 94 5 5 := ⟨fo94_5⟩
instance : FoT Tryz.prog 94 6 6 := ⟨fo94_6⟩
instance : FoT Tryz.prog 94 7 7 := ⟨fo94_7⟩
instance : FoT Tryz.prog 94 8 8 := ⟨fo94_8⟩
instance : FoT Tryz.prog 94 9 9 := ⟨fo94_9⟩
instance : FoT Tryz.prog 99 3 3 := ⟨fo99_3⟩
instance : FoT Tryz.prog 103 0 0 := ⟨fo103_0⟩
instance : FoT Tryz.prog 106 0 0 := ⟨fo106_0⟩
instance : FoT Tryz.prog 110 2 2 := ⟨fo110_2⟩
instance : FoT Tryz.prog 239 0 0 := ⟨fo239_0⟩
instance : FoT Tryz.prog 239 1 1 := ⟨fo239_1⟩
instance : FoT Tryz.prog 241 0 0 := ⟨fo241_0⟩
instance : FoT Tryz.prog 241 1 1 := ⟨fo241_1⟩
instance : SzT Tryz.prog 2 (1) := ⟨sz2⟩
instance : SzT Tryz.prog 3 (1) := ⟨sz3⟩
instance : SzT Tryz.prog 5 (1) := ⟨sz5⟩
instance : SzT Tryz.prog 9 (1) := ⟨sz9⟩
instance : SzT Tryz.prog 22 (1) := ⟨sz22⟩
instance : SzT Tryz.prog 25 (1) := ⟨sz25⟩
instance : SzT Tryz.prog 26 (1) := ⟨sz26⟩
instance : SzT Tryz.prog 27 (1) := ⟨sz27⟩
instance : SzT Tryz.prog 28 (1) := ⟨sz28⟩
instance : SzT Tryz.prog 29 (1) := ⟨sz29⟩
instance : SzT Tryz.prog 30 (1) := ⟨sz30⟩
instance : SzT Tryz.prog 32 (6) := ⟨sz32⟩
instance : SzT Tryz.prog 39 (1) := ⟨sz39⟩
instance : SzT Tryz.prog 40 (1) := ⟨sz40⟩
instance : SzT Tryz.prog 52 (1) := ⟨sz52⟩
instance : SzT Tryz.prog 54 (1) := ⟨sz54⟩
instance : SzT Tryz.prog 59 (1) := ⟨sz59⟩
instance : SzT Tryz.prog 61 (1) := ⟨sz61⟩
instance : SzT Tryz.prog 75 (4) := ⟨sz75⟩
instance : SzT Tryz.prog 80 (1) := ⟨sz80⟩
instance : SzT Tryz.prog 82 (4) := ⟨sz82⟩
instance : SzT Tryz.prog 86 (6) := ⟨sz86⟩
instance : SzT Tryz.prog 87 (1) := ⟨sz87⟩
instance : SzT Tryz.prog 88 (1) := ⟨sz88⟩
instance : SzT Tryz.prog 89 (1) := ⟨sz89⟩
instance : SzT Tryz.prog 90 (1) := ⟨sz90⟩
instance : SzT Tryz.prog 91 (1) := ⟨sz91⟩
instance : SzT Tryz.prog 92 (1) := ⟨sz92⟩
instance : SzT Tryz.prog 94 (10) := ⟨sz94⟩
instance : SzT Tryz.prog 99 (4) := ⟨sz99⟩
instance : SzT Tryz.prog 100 (1) := ⟨sz100⟩
instance : SzT Tryz.prog 101 (1) := ⟨sz101⟩
instance : SzT Tryz.prog 103 (2) := ⟨sz103⟩
instance : SzT Tryz.prog 104 (1) := ⟨sz104⟩
instance : SzT Tryz.prog 106 (4) := ⟨sz106⟩
instance : SzT Tryz.prog 107 (1) := ⟨sz107⟩
instance : SzT Tryz.prog 108 (1) := ⟨sz108⟩
instance : SzT Tryz.prog 110 (3) := ⟨sz110⟩
instance : SzT Tryz.prog 239 (2) := ⟨sz239⟩
instance : SzT Tryz.prog 241 (7) := ⟨sz241⟩
instance : SzT Tryz.prog 242 (1) := ⟨sz242⟩
instance : UnT Tryz.prog 2 (.int .i64) := ⟨Tryz.underlying2⟩
instance : UnT Tryz.prog 3 (.int .i64) := ⟨Tryz.underlying3⟩
instance : UnT Tryz.prog 5 (.int .u8) := ⟨Tryz.underlying5⟩
instance : UnT Tryz.prog 9 .string := ⟨Tryz.underlying9⟩
instance : UnT Tryz.prog 22 (.slice 9) := ⟨Tryz.underlying22⟩
instance : UnT Tryz.prog 26 (.slice 39) := ⟨Tryz.underlying26⟩
instance : UnT Tryz.prog 27 (.slice 40) := ⟨Tryz.underlying27⟩
instance : UnT Tryz.prog 28 (.slice 100) := ⟨Tryz.underlying28⟩
instance : UnT Tryz.prog 29 (.slice 54) := ⟨Tryz.underlying29⟩
instance : UnT Tryz.prog 30 (.slice 107) := ⟨Tryz.underlying30⟩
instance : UnT Tryz.prog 39 (.slice 75) := ⟨Tryz.underlying39⟩
instance : UnT Tryz.prog 40 (.slice 99) := ⟨Tryz.underlying40⟩
instance : UnT Tryz.prog 52 (.slice 104) := ⟨Tryz.underlying52⟩
instance : UnT Tryz.prog 54 (.slice 106) := ⟨Tryz.underlying54⟩
instance : UnT Tryz.prog 59 (.slice 61) := ⟨Tryz.underlying59⟩
instance : UnT Tryz.prog 61 (.slice 3) := ⟨Tryz.underlying61⟩
instance : UnT Tryz.prog 80 (.slice 82) := ⟨Tryz.underlying80⟩
instance : UnT Tryz.prog 87 (.slice 22) := ⟨Tryz.underlying87⟩
instance : UnT Tryz.prog 88 (.slice 80) := ⟨Tryz.underlying88⟩
instance : UnT Tryz.prog 89 (.slice 101) := ⟨Tryz.underlying89⟩
instance : UnT Tryz.prog 90 (.slice 52) := ⟨Tryz.underlying90⟩
instance : UnT Tryz.prog 91 (.slice 242) := ⟨Tryz.underlying91⟩
instance : UnT Tryz.prog 92 (.slice 108) := ⟨Tryz.underlying92⟩
instance : UnT Tryz.prog 100 (.slice 103) := ⟨Tryz.underlying100⟩
instance : UnT Tryz.prog 101 (.slice 239) := ⟨Tryz.underlying101⟩
instance : UnT Tryz.prog 104 (.slice 86) := ⟨Tryz.underlying104⟩
instance : UnT Tryz.prog 107 (.slice 110) := ⟨Tryz.underlying107⟩
instance : UnT Tryz.prog 108 (.slice 5) := ⟨Tryz.underlying108⟩
instance : UnT Tryz.prog 242 (.slice 241) := ⟨Tryz.underlying242⟩
instance : ZeT Tryz.prog 3 ([.int .i64 0]) := ⟨ze3⟩
instance : ZeT Tryz.prog 5 ([.int .u8 0]) := ⟨ze5⟩
instance : ZeT Tryz.prog 9 ([.string .empty]) := ⟨ze9⟩
instance : ZeT Tryz.prog 22 ([.slice none 0 0]) := ⟨ze22⟩
instance : ZeT Tryz.prog 39 ([.slice none 0 0]) := ⟨ze39⟩
instance : ZeT Tryz.prog 40 ([.slice none 0 0]) := ⟨ze40⟩
instance : ZeT Tryz.prog 52 ([.slice none 0 0]) := ⟨ze52⟩
instance : ZeT Tryz.prog 54 ([.slice none 0 0]) := ⟨ze54⟩
instance : ZeT Tryz.prog 61 ([.slice none 0 0]) := ⟨ze61⟩
instance : ZeT Tryz.prog 75 ([.string .empty, .int .i64 0, .int .i64 0, .slice none 0 0]) := ⟨ze75⟩
instance : ZeT Tryz.prog 80 ([.slice none 0 0]) := ⟨ze80⟩
instance : ZeT Tryz.prog 82 ([.int .i64 0, .int .i64 0, .string .empty, .slice none 0 0]) := ⟨ze82⟩
instance : ZeT Tryz.prog 86 ([.string .empty, .int .i64 0, .int .i64 0, .string .empty, .slice none 0 0, .slice none 0 0]) := ⟨ze86⟩
instance : ZeT Tryz.prog 99 ([.int .i64 0, .int .i64 0, .int .i64 0, .int .i64 0]) := ⟨ze99⟩
instance : ZeT Tryz.prog 100 ([.slice none 0 0]) := ⟨ze100⟩
instance : ZeT Tryz.prog 101 ([.slice none 0 0]) := ⟨ze101⟩
instance : ZeT Tryz.prog 103 ([.int .i64 0, .slice none 0 0]) := ⟨ze103⟩
instance : ZeT Tryz.prog 104 ([.slice none 0 0]) := ⟨ze104⟩
instance : ZeT Tryz.prog 106 ([.int .i64 0, .slice none 0 0, .slice none 0 0, .slice none 0 0]) := ⟨ze106⟩
instance : ZeT Tryz.prog 107 ([.slice none 0 0]) := ⟨ze107⟩
instance : ZeT Tryz.prog 108 ([.slice none 0 0]) := ⟨ze108⟩
instance : ZeT Tryz.prog 110 ([.string .empty, .slice none 0 0, .int .i64 0]) := ⟨ze110⟩
instance : ZeT Tryz.prog 239 ([.string .empty, .slice none 0 0]) := ⟨ze239⟩
instance : ZeT Tryz.prog 241 ([.int .i64 0, .string .empty, .int .i64 0, .int .i64 0, .string .empty, .slice none 0 0, .slice none 0 0]) := ⟨ze241⟩
instance : ZeT Tryz.prog 242 ([.slice none 0 0]) := ⟨ze242⟩
end Go.Ae

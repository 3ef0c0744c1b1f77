/- eddykept's book over the abstract heap: its parts, by the colours of blocks. No condition. -/
import Derived.Test.YtfhpgikgjheobaaEuA
import Derived.Test.YtfhpgikgjheobaaEtW
set_option linter.unusedSimpArgs false
set_option linter.unusedVariables false
set_option linter.unnecessarySimpa false
set_option maxRecDepth 100000
set_option maxHeartbeats 1600000
namespace Go.Ae
open Go.Proofs

/-- Which part of the book a block belongs to. 0: none; 1 to 6: the rows of its lists; 7: bytes that it only keeps; 8: bytes that wait; 9: the book itself; 10: rows that are no longer its lists. -/
abbrev Col := Nat → Nat
def recol (c : Col) (H H' : AHeap) (j : Nat) : Col := fun b => if H.next ≤ b ∧ b < H'.next then j else c b
def el (a : Nat) : TypeId := if a ≤ 4 then 29 else 3
def upd {α : Type} (f : Nat → α) (a : Nat) (x : α) : Nat → α := fun i => if i = a then x else f i
def six {α : Type} (o t w n m l : α) : Nat → α := fun i => if i = 1 then o else if i = 2 then t else if i = 3 then w else if i = 4 then n else if i = 5 then m else l
section
variable {α : Type} {o t w n m l x : α}
theorem six1 : upd (six o t w n m l) 1 x = six x t w n m l := by funext i; by_cases h : i = 1 <;> simp [upd, six, h]
theorem six2 : upd (six o t w n m l) 2 x = six o x w n m l := by funext i; by_cases h : i = 2 <;> simp [upd, six, h]
theorem six3 : upd (six o t w n m l) 3 x = six o t x n m l := by funext i; by_cases h : i = 3 <;> simp [upd, six, h]
theorem six4 : upd (six o t w n m l) 4 x = six o t w x m l := by funext i; by_cases h : i = 4 <;> simp [upd, six, h]
theorem six5 : upd (six o t w n m l) 5 x = six o t w n x l := by funext i; by_cases h : i = 5 <;> simp [upd, six, h]
end

/-- The book's lists, without the book's own row. -/
structure Bp (H : AHeap) (c : Col) (k : Nat) (sv : Nat → Value) (cl : Nat → List Value) : Prop where
  kn : k < H.next
  ck : c k = 9
  cb : ∀ b, c b ≠ 0 → b < H.next
  parts : ∀ a, 1 ≤ a → a ≤ 6 → Opn H (fun b => c b = a) (el a) 1 (sv a) (cl a).length (cl a)
section
variable {H H' : AHeap} {c c' : Col} {k : Nat} {sv : Nat → Value} {cl : Nat → List Value} {G : Blks}
theorem Bp.move (h : Bp H c k sv cl) (hk : Keep G H H') (hG : ∀ b, 1 ≤ c b → c b ≤ 6 → ¬ G b) (hc : ∀ b, 1 ≤ c b → c b ≤ 6 → c' b = c b) (hk' : c' k = 9) (hb : ∀ b, c' b ≠ 0 → b < H'.next) : Bp H' c' k sv cl := by
  refine ⟨Nat.lt_of_lt_of_le h.kn hk.1, hk', hb, fun a h1 h6 => ?_⟩
  refine ((h.parts a h1 h6).keep hk fun b _ hb _ => hG b (by omega) (by omega)).weak fun b hb => ?_
  rw [hc b (by omega) (by omega)]
  exact hb
theorem Bp.keep (h : Bp H c k sv cl) (hk : Keep G H H') (hG : ∀ b, G b → c b = 0 ∨ 7 ≤ c b) : Bp H' c k sv cl :=
  h.move hk (fun b h1 h6 hg => by have := hG b hg; omega) (fun _ _ _ => rfl) h.ck fun b hb => Nat.lt_of_lt_of_le (h.cb b hb) hk.1
theorem recol_old {b j : Nat} (hb : b < H.next) : recol c H H' j b = c b := if_neg (by omega)
theorem recol_cb (h : ∀ b, c b ≠ 0 → b < H.next) (hle : H.next ≤ H'.next) {j : Nat} : ∀ b, recol c H H' j b ≠ 0 → b < H'.next := by
  intro b hb
  unfold recol at hb
  split at hb
  · rename_i h1; exact h1.2
  · exact Nat.lt_of_lt_of_le (h b hb) hle
theorem Bp.recol (h : Bp H c k sv cl) (hk : Keep G H H') (hG : ∀ b, G b → c b = 0 ∨ 7 ≤ c b) (j : Nat) : Bp H' (recol c H H' j) k sv cl := by
  have h0 : ∀ b, 1 ≤ c b → Ae.recol c H H' j b = c b := fun b hb => recol_old (h.cb b (by omega))
  exact h.move hk (fun b h1 h6 hg => by have := hG b hg; omega) (fun b h1 _ => h0 b h1) (by rw [h0 k (by rw [h.ck]; omega), h.ck]) (recol_cb h.cb hk.1)
/-- append to a list of the book. -/
theorem Bp.app (h : Bp H c k sv cl) {P : Program} {a t y m : Nat} {x : Value} {news : List Value} (h1 : 1 ≤ a) (h6 : a ≤ 6) (T : AppT P t t (el a) 0 y) (hx : srcA H 1 x = some (m, news)) (hm : m ≠ 0) (hnl : news.length = m) (ho : news.all Value.oneCell' = true)
    (hL : ((cl a).length + m) * (y + 1) ≤ 140737488355328) :
    ∃ sv' H', appendA P H t t (sv a) x = some (sv', H') ∧ Bp H' (Ae.recol c H H' a) k (upd sv a sv') (upd cl a (cl a ++ news)) ∧ Keep (fun b => c b = a) H H' ∧ H'.next ≤ H.next + 1 ∧ (∃ z q, sv' = .slice z ((cl a).length + m) q) := by
  obtain ⟨sv', H', g1, g2, g3, g4, g5⟩ := Opn.snoc T (h.parts a h1 h6) hx hm (by rw [hnl, Nat.zero_add, Nat.mul_one]) ho hL
  have h0 : ∀ b, 1 ≤ c b → Ae.recol c H H' a b = c b := fun b hb => recol_old (h.cb b (by omega))
  refine ⟨sv', H', g1, ⟨Nat.lt_of_lt_of_le h.kn g3.1, by rw [h0 k (by rw [h.ck]; omega), h.ck], recol_cb h.cb g3.1, fun j j1 j6 => ?_⟩, g3, g4, g2.rd.slice⟩
  by_cases hj : j = a
  · subst hj
    have e1 : upd sv j sv' j = sv' := if_pos rfl
    have e2 : upd cl j (cl j ++ news) j = cl j ++ news := if_pos rfl
    rw [e1, e2, List.length_append, hnl]
    refine g2.weak fun b hb => ?_
    rcases hb with hb | hb
    · show Ae.recol c H H' j b = j
      have hb' : c b = j := hb
      rw [h0 b (by omega), hb']
    · exact if_pos hb
  · have e1 : upd sv a sv' j = sv j := if_neg hj
    have e2 : upd cl a (cl a ++ news) j = cl j := if_neg hj
    rw [e1, e2]
    refine ((h.parts j j1 j6).keep g3 fun b _ hb _ hg => hj ?_).weak fun b hb => ?_
    · have hb' : c b = j := hb
      have hg' : c b = a := hg
      omega
    · have hb' : c b = j := hb
      rw [h0 b (by omega), hb']
end

/-- A list of bytes that waits: its block, what it holds, the copy of that, its mark, how many more must come. -/
structure We where
  blk : Nat
  bs : List UInt8
  nv : Value
  mark : Int
  lf : Int
def We.sl (e : We) : Value := .slice (some ⟨e.blk, 0, none⟩) e.bs.length e.bs.length
structure WeOk (H : AHeap) (c : Col) (e : We) : Prop where
  row : H.get e.blk = some (.row ⟨bytesV e.bs, 5, 0, true⟩)
  lt : e.blk < H.next
  col : c e.blk = 8
  len : e.bs.length ≤ 32776
  nv : BR H (fun b => c b = 7) e.nv e.bs
  mk0 : 0 ≤ e.mark
  mk1 : e.mark ≤ 1000000
  lf0 : 1 ≤ e.lf
  lf1 : e.lf ≤ 9
/-- What the lists say. -/
structure Dt (H : AHeap) (c : Col) (ps : List (Value × Value)) (es : List We) : Prop where
  pr : ∀ p ∈ ps, ∃ bs, BR H (fun b => c b = 7) p.1 bs ∧ BR H (fun b => c b = 7) p.2 bs ∧ bs.length ≤ 32926
  en : ∀ e ∈ es, WeOk H c e
  nd : (es.map We.blk).Nodup
section
variable {H H' : AHeap} {c c' : Col} {ps : List (Value × Value)} {es : List We} {G : Blks}
theorem br_move {v : Value} {bs : List UInt8} (h : BR H (fun b => c b = 7) v bs) (hk : Keep G H H') (hG : ∀ b, c b = 7 → ¬ G b) (hc : ∀ b, c b = 7 → c' b = 7) : BR H' (fun b => c' b = 7) v bs :=
  Rd.weak (Rd.keep h hk fun b _ hb => hG b hb) fun b _ hb => hc b hb
theorem WeOk.move {e : We} (h : WeOk H c e) (hk : Keep G H H') (hG : ∀ b, c b = 7 → ¬ G b) (hc : ∀ b, c b = 7 → c' b = 7) (hb : ¬ G e.blk) (hc' : c' e.blk = 8) : WeOk H' c' e :=
  ⟨hk.row h.row h.lt hb, Nat.lt_of_lt_of_le h.lt hk.1, hc', h.len, br_move h.nv hk hG hc, h.mk0, h.mk1, h.lf0, h.lf1⟩
theorem Dt.move (h : Dt H c ps es) (hk : Keep G H H') (hG : ∀ b, c b = 7 ∨ c b = 8 → ¬ G b) (hc : ∀ b, c b = 7 ∨ c b = 8 → c' b = c b) : Dt H' c' ps es := by
  have h7 : ∀ b, c b = 7 → c' b = 7 := fun b hb => (hc b (.inl hb)).trans hb
  refine ⟨fun p hp => ?_, fun e he => (h.en e he).move hk (fun b hb => hG b (.inl hb)) h7 (hG _ (.inr (h.en e he).col)) ((hc _ (.inr (h.en e he).col)).trans (h.en e he).col), h.nd⟩
  obtain ⟨bs, h1, h2, h3⟩ := h.pr p hp
  exact ⟨bs, br_move h1 hk (fun b hb => hG b (.inl hb)) h7, br_move h2 hk (fun b hb => hG b (.inl hb)) h7, h3⟩
end

section
variable {H H' : AHeap} {c : Col} {ps : List (Value × Value)} {es : List We} {G : Blks}
theorem Dt.recol (h : Dt H c ps es) (hk : Keep G H H') (hG : ∀ b, c b = 7 ∨ c b = 8 → ¬ G b) (cb : ∀ b, c b ≠ 0 → b < H.next) (j : Nat) : Dt H' (recol c H H' j) ps es :=
  h.move hk hG fun b hb => recol_old (cb b (by omega))
theorem br_recol {v : Value} {bs : List UInt8} (h : BR H (fun b => c b = 7) v bs) (hk : Keep G H H') (hG : ∀ b, c b = 7 → ¬ G b) (cb : ∀ b, c b ≠ 0 → b < H.next) (j : Nat) : BR H' (fun b => recol c H H' j b = 7) v bs :=
  br_move h hk hG fun b hb => (recol_old (cb b (by omega))).trans hb
/-- Two more lists that are kept. -/
theorem Dt.two (h : Dt H c ps es) {x y x' y' : Value} {bs bs' : List UInt8} (h1 : BR H (fun b => c b = 7) x bs) (h2 : BR H (fun b => c b = 7) y bs) (h3 : bs.length ≤ 32926) (h1' : BR H (fun b => c b = 7) x' bs') (h2' : BR H (fun b => c b = 7) y' bs') (h3' : bs'.length ≤ 32926) :
    Dt H c (ps ++ [(x, y), (x', y')]) es := by
  refine ⟨fun p hp => ?_, h.en, h.nd⟩
  rcases List.mem_append.1 hp with hp | hp
  · exact h.pr p hp
  · simp only [List.mem_cons, List.not_mem_nil, or_false] at hp
    rcases hp with rfl | rfl
    · exact ⟨bs, h1, h2, h3⟩
    · exact ⟨bs', h1', h2', h3'⟩
end
/-! Bytes out of numbers -/
def u8I (n : Int) : UInt8 := UInt8.ofNat (n % 256).toNat
theorem u8I_wrap (n : Int) : IntKind.u8.wrap n = ((u8I n).toNat : Int) := by
  have h8 : IntKind.u8.bits = 8 := rfl
  have hs : IntKind.u8.signed = false := rfl
  unfold IntKind.wrap u8I
  rw [h8, hs]
  have h1 : (n % 256).toNat < 256 := by omega
  have h2 : (UInt8.ofNat (n % 256).toNat).toNat = (n % 256).toNat := by simp; omega
  rw [h2]
  simp only [Bool.false_and, Bool.false_eq_true, if_false]
  omega
theorem set_bytes {bs : List UInt8} {i : Nat} (hi : i < bs.length) (y : UInt8) : lset (bytesV bs) i [.int .u8 y.toNat] = bytesV (bs.set i y) := by
  apply List.ext_getElem?
  intro j
  rw [lset_get (by simp; omega)]
  simp only [bytesV, List.length_singleton, List.getElem?_map, List.getElem?_set]
  by_cases h1 : j < i
  · rw [if_pos h1, if_neg (by omega)]
  · rw [if_neg h1]
    by_cases h2 : j < i + 1
    · obtain rfl : j = i := by omega
      rw [if_pos h2, if_pos rfl, if_pos hi]
      simp
    · rw [if_neg h2, if_neg (by omega)]
/-- append to a slice whose capacity is its length. -/
theorem Opn.grow {H : AHeap} {P : Program} {t u e k b m n : Nat} {x : Value} {ad : Addr} {cells news : List Value} (T : AppT P t u e k b) (hn : n < openCap) (ho : oldA H ad (n * (k + 1)) = some cells) (hcl : cells.length = n * (k + 1)) (hx : srcA H (k + 1) x = some (m, news)) (hm : m ≠ 0)
    (hnl : news.length = m * (k + 1)) (hL : (n + m) * (b + 1) ≤ 140737488355328) :
    ∃ sv' H', appendA P H t u (.slice (some ad) n n) x = some (sv', H') ∧ Opn H' (New H H') e (k + 1) sv' (n + m) (cells ++ news) ∧ Keep No H H' ∧ H'.next = H.next + 1 := by
  refine ⟨_, _, app_grow T hx hm hL hn (by omega) ho, ?_, Keep.refl.push, by simp⟩
  have hl : (cells ++ news).length = (n + m) * (k + 1) := by rw [List.length_append, hcl, hnl, Nat.add_mul]
  refine .inr ⟨⟨H.next, 0, none⟩, openCap + (k + 1), ⟨cells ++ news, e, 0, true⟩, rfl, ⟨by simp, by simp⟩, by simp, by rw [AHeap.push_get, if_pos rfl], rfl, rfl, by rw [hl]; simp, ?_, rfl, .inr ⟨rfl, by rw [hl]; simp⟩⟩
  rw [List.drop_zero, List.take_of_length_le (by rw [hl]; exact Nat.le_refl _)]
theorem old_row {H : AHeap} {b n : Nat} {bs : List UInt8} (hg : H.get b = some (.row ⟨bytesV bs, 5, 0, true⟩)) (hn : n = bs.length) : oldA H ⟨b, 0, none⟩ (n * 1) = some (bytesV bs) := by
  subst hn
  unfold oldA
  split
  · rename_i h0
    have : bs = [] := List.eq_nil_of_length_eq_zero (by omega)
    subst this
    rfl
  · refine cellsAt_of (ad := ⟨b, 0, none⟩) hg rfl (by simp) ?_
    rw [List.drop_zero, List.take_of_length_le (by simp)]
/-- An append whose outcome is known. -/
theorem ew_appX {P : Program} {N : Nat} {m m' : Mode} {E : Env} {H H' : AHeap} {v : Value} {d' : Option Nat} {ty : TypeId} {p : String} {af : Array Edge} {g : Option (Nat × Bool)} {c : Call} {x y : Operand} {t u : TypeId} {s z : Value}
    (hm : m.head = some (⟨d', .call c, ty, p, af, g⟩, m') := by exact rfl) (hw : wantE m.ops E g = some true := by exact rfl) (hd : bltO d' N = true := by exact rfl)
    (hc : c.callee = .builtin .append := by exact rfl) (ha' : c.args.toList = [x, y] := by exact rfl) (ht : c.argTypes.toList = [t, u] := by exact rfl) (hx : evE E x = some s := by exact rfl) (hy : evE E y = some z := by exact rfl)
    (hR : appendA P H t u s z = some (v, H')) (hk : m.kept H' := by exact Mode.kept_seq rfl) (h : EW P N m' (putO d' v E) H') : EW P N m E H :=
  ew_e hm hw hd ⟨by simp [isE, hc], fun a ha => ⟨ac_builtin hc, x_append hc ha' ht (ha.eval hx) (ha.eval hy) hR⟩⟩ hk h
end Go.Ae

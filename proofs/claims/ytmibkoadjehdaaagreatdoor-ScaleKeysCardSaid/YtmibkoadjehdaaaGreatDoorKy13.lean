/- What stays, what a slice reads as: frames over the abstract heap. Slices of one's own that grow, of any elements. The walk with a frame of which a list of places is known: rules whose conditions are worked out. -/
import Derived.Test.YtmibkoadjehdaaaGreatDoorKy12
set_option linter.unusedVariables false
set_option linter.unusedSimpArgs false
namespace Go.Ae

abbrev Blks := Nat → Prop
def No : Blks := fun _ => False
/-- All rows of H stay but those of F. -/
def Keep (F : Blks) (H H' : AHeap) : Prop := H.next ≤ H'.next ∧ ∀ i, i < H.next → ¬ F i → H'.get i = H.get i
/-- The blocks that are new. -/
def New (H H' : AHeap) : Blks := fun b => H.next ≤ b ∧ b < H'.next
def Or (F G : Blks) : Blks := fun b => F b ∨ G b

section
variable {F G : Blks} {H H' H1 H2 : AHeap} {o : AObj} {i : Nat}
theorem Keep.refl : Keep F H H := ⟨Nat.le_refl _, fun _ _ _ => rfl⟩
theorem Keep.push (h : Keep F H H1) : Keep F H (H1.push o) := ⟨Nat.le_succ_of_le h.1, fun i hi hf => by rw [AHeap.push_get, if_neg (by have := h.1; omega)]; exact h.2 i hi hf⟩
theorem Keep.put (h : Keep F H H1) (hi : i < H.next → F i) : Keep F H (H1.put i o) := ⟨h.1, fun j hj hf => by
  rw [AHeap.put_get, if_neg (fun e => hf (by subst e; exact hi hj))]; exact h.2 j hj hf⟩
theorem Keep.trans (h : Keep F H H1) (h' : Keep G H1 H2) (hg : ∀ i, i < H.next → G i → F i) : Keep F H H2 :=
  ⟨Nat.le_trans h.1 h'.1, fun i hi hf => (h'.2 i (Nat.lt_of_lt_of_le hi h.1) fun hG => hf (hg i hi hG)).trans (h.2 i hi hf)⟩
theorem Keep.weak (h : Keep F H H1) (hg : ∀ i, i < H.next → F i → G i) : Keep G H H1 := ⟨h.1, fun i hi hf => h.2 i hi fun hF => hf (hg i hi hF)⟩
theorem Keep.no (h : Keep No H H1) : Keep G H H1 := h.weak fun _ _ h => h.elim
theorem Keep.after (h : Keep F H H1) (h' : Keep No H1 H2) : Keep F H H2 := h.trans h' fun _ _ h => h.elim
theorem Keep.get {x : Option AObj} (h : Keep F H H1) (hx : H.get i = x) (hi : i < H.next) (hf : ¬ F i) : H1.get i = x := (h.2 i hi hf).trans hx
theorem Keep.get0 {x : Option AObj} (h : Keep No H H1) (hx : H.get i = x) (hi : i < H.next) : H1.get i = x := (h.2 i hi id).trans hx
theorem Keep.row0 {r : Row} (h : Keep No H H1) (hx : H.get i = some (.row r)) (hi : i < H.next) : H1.get i = some (.row r) := h.get0 hx hi
theorem Keep.row {r : Row} (h : Keep F H H1) (hx : H.get i = some (.row r)) (hi : i < H.next) (hf : ¬ F i) : H1.get i = some (.row r) := h.get hx hi hf
theorem Keep.cells {ad : Addr} {n : Nat} (h : Keep F H H1) (hi : ad.block < H.next) (hf : ¬ F ad.block) : H1.cellsAt ad n = H.cellsAt ad n := by
  unfold AHeap.cellsAt AHeap.rowAt; rw [h.2 _ hi hf]
end

theorem cells_k {H H1 : AHeap} {ad : Addr} {n : Nat} {l : List Value} (h : H.cellsAt ad n = some l) (hlt : ad.block < H.next) (hk : Keep No H H1) : H1.cellsAt ad n = some l := (hk.cells hlt id).trans h
theorem n_slice' {P : Program} {a : Act} {H : AHeap} {d : Option Tmp} {t ty : TypeId} {p : String} {af : Array Edge} {g : Option (Nat × Bool)} {x : Operand} {u v : Value} {lo hi mx : Option Operand} {lv hv mv : Option Value} (hx : a.eval x = u) (hs : isStrV u = false)
    (hl : lo.map a.eval = lv) (hh : hi.map a.eval = hv) (hm : mx.map a.eval = mv) (h : sliceA P t u lv hv mv = some v) : nRes P a H ⟨d, .slice t x lo hi mx, ty, p, af, g⟩ = some (v, H) := by
  subst hl hh hm; exact n_slice hx hs h

/-- A slice of n elements of k cells reads as these cells; its block is of F. -/
inductive Rd (H : AHeap) (F : Blks) (k : Nat) : Value → Nat → List Value → Prop
  | empty (z : Option Addr) (c : Nat) : Rd H F k (.slice z 0 c) 0 []
  | full (ad : Addr) (n c : Nat) (cells : List Value) (hn : n ≠ 0) (hF : F ad.block) (hlt : ad.block < H.next) (h : H.cellsAt ad (n * k) = some cells) : Rd H F k (.slice (some ad) n c) n cells

section
variable {F G : Blks} {H H' H1 H2 : AHeap} {k n : Nat} {v : Value} {cells : List Value}
theorem Rd.keep (h : Rd H F k v n cells) (hk : Keep G H H') (hd : ∀ b, b < H.next → F b → ¬ G b) : Rd H' F k v n cells := by
  cases h with
  | empty z c => exact .empty z c
  | full ad n c cells hn hF hlt h => exact .full ad n c cells hn hF (Nat.lt_of_lt_of_le hlt hk.1) (by rw [hk.cells hlt (hd _ hlt hF)]; exact h)
theorem Rd.keep0 (h : Rd H F k v n cells) (hk : Keep No H H') : Rd H' F k v n cells := h.keep hk fun _ _ _ h => h
theorem Rd.weak (h : Rd H F k v n cells) (hd : ∀ b, b < H.next → F b → G b) : Rd H G k v n cells := by
  cases h with
  | empty z c => exact .empty z c
  | full ad n c cells hn hF hlt h => exact .full ad n c cells hn (hd _ hlt hF) hlt h
theorem Rd.slice (h : Rd H F k v n cells) : ∃ z c, v = .slice z n c := by
  cases h with
  | empty z c => exact ⟨z, c, rfl⟩
  | full ad n c cells hn hF hlt h => exact ⟨_, _, rfl⟩
theorem cellsAt_length {ad : Addr} {m : Nat} (h : H.cellsAt ad m = some cells) : cells.length = m := by
  unfold AHeap.cellsAt at h
  simp only [Option.bind_eq_some_iff] at h
  obtain ⟨r, _, h⟩ := h
  split at h
  · obtain rfl := Option.some.inj h
    simp; omega
  · cases h
theorem cellsAt_sub {ad : Addr} {m j i : Nat} (h : H.cellsAt ad m = some cells) (hj : j + i ≤ m) : H.cellsAt (aadd ad j) i = some ((cells.drop j).take i) := by
  unfold AHeap.cellsAt at h ⊢
  simp only [Option.bind_eq_some_iff] at h
  obtain ⟨r, hr, h⟩ := h
  have : H.rowAt (aadd ad j) = some r := by unfold AHeap.rowAt at hr ⊢; exact hr
  rw [this]
  split at h
  · obtain rfl := Option.some.inj h
    rename_i hle
    have hc : (aadd ad j).off + i ≤ r.cells.length := by rw [aadd_off]; omega
    rw [Option.bind_some, if_pos hc, aadd_off, List.drop_take, List.drop_drop, List.take_take, Nat.min_eq_left (by omega)]
  · cases h
theorem Rd.length (h : Rd H F k v n cells) : cells.length = n * k := by
  cases h with
  | empty z c => simp
  | full ad n c cells hn hF hlt h => exact cellsAt_length h
theorem Rd.src (h : Rd H F k v n cells) : srcA H k v = some (n, cells) := by
  cases h with
  | empty z c => cases z <;> simp [srcA]
  | full ad n c cells hn hF hlt h => simp [srcA, hn, h]
/-- The i-th element. -/
theorem Rd.at (h : Rd H F k v n cells) {i : Nat} (hi : i < n) : ∃ ad c, v = .slice (some ad) n c ∧ F ad.block ∧ ad.block < H.next ∧ H.cellsAt (aadd ad (i * k)) k = some ((cells.drop (i * k)).take k) := by
  cases h with
  | empty z c => omega
  | full ad n c cells hn hF hlt h =>
    refine ⟨ad, c, rfl, hF, hlt, cellsAt_sub h ?_⟩
    have : (i + 1) * k ≤ n * k := Nat.mul_le_mul_right k hi
    rw [Nat.add_mul, Nat.one_mul] at this
    exact this
end

/-! copy into a row of one's own -/
section
variable {F : Blks} {P : Program} {H : AHeap} {t e : TypeId} {n m c d : Nat} {x : Value} {cells : List Value} {ad : Addr} {r : Row}
theorem put_self {i : Nat} {o : AObj} (h : H.get i = some o) : H.put i o = H := by
  cases H with | mk get next =>
  simp only [AHeap.put, AHeap.mk.injEq, and_true]
  funext j
  split
  · subst j; exact h.symm
  · rfl
end

def bytesV (bs : List UInt8) : List Value := bs.map fun b => .int .u8 b.toNat
@[simp] theorem bytesV_length (bs : List UInt8) : (bytesV bs).length = bs.length := by simp [bytesV]
@[simp] theorem bytesV_one (bs : List UInt8) : (bytesV bs).all Value.oneCell' = true := by simp [bytesV, Value.oneCell']
theorem bytesV_append (a b : List UInt8) : bytesV (a ++ b) = bytesV a ++ bytesV b := by simp [bytesV]
/-- A slice of bytes. -/
def BR (H : AHeap) (F : Blks) (v : Value) (bs : List UInt8) : Prop := Rd H F 1 v bs.length (bytesV bs)

/-! Bytes as a string -/
def strB (bs : List UInt8) : ByteArray := ⟨bs.toArray⟩
theorem strOf_bytes (bs : List UInt8) : strOf (bs.map fun b => (b.toNat : Int)) = strB bs := by
  have key : ∀ (l : List UInt8) (acc : ByteArray), (l.map fun b => (b.toNat : Int)).foldl (fun r n => r.push (UInt8.ofNat n.toNat)) acc = ⟨acc.data ++ l.toArray⟩ := by
    intro l
    induction l with
    | nil => intro acc; simp
    | cons b l ih => intro acc; rw [List.map_cons, List.foldl_cons, ih]; simp [ByteArray.push]
  unfold strOf
  rw [key]
  simp [strB]
theorem strB_toList (bs : List UInt8) : (strB bs).toList = bs := by
  have loop : ∀ (a : ByteArray) (n i : Nat) (r : List UInt8), a.size - i = n → ByteArray.toList.loop a i r = r.reverse ++ a.data.toList.drop i := by
    intro a n
    induction n with
    | zero =>
      intro i r h
      unfold ByteArray.toList.loop
      rw [if_neg (by omega), List.drop_of_length_le (by simp [← ByteArray.size_data] at h ⊢; omega), List.append_nil]
    | succ n ih =>
      intro i r h
      unfold ByteArray.toList.loop
      have hi : i < a.size := by omega
      have hi' : i < a.data.size := by simpa using hi
      rw [if_pos hi, ih (i + 1) _ (by omega)]
      have hg : a.get! i = a.data[i] := by
        show a.data[i]! = a.data[i]
        exact getElem!_pos a.data i hi'
      rw [hg, List.reverse_cons, List.append_assoc, List.singleton_append, ← Array.getElem_toList, ← List.drop_eq_getElem_cons (by simpa using hi')]
  unfold ByteArray.toList
  rw [loop _ _ _ _ rfl]
  simp [strB]
section
variable {P : Program} {a : Act} {H : AHeap} {d : Option Tmp} {ty t yt s e : TypeId} {p : String} {af : Array Edge} {g : Option (Nat × Bool)} {x y : Operand} {v : Value} {F : Blks} {bs cs : List UInt8}
theorem n_conv_br (hs : P.underlying s = some (.slice e)) (ht : P.underlying t = some .string) (he : P.underlying e = some (.int .u8)) (hx : a.eval x = v) (h : BR H F v bs) :
    nRes P a H ⟨d, .convert s t x, ty, p, af, g⟩ = some (.string (strB bs), H) := by
  have hl := h.length
  unfold BR at h
  generalize hn : bs.length = n at h
  generalize hc : bytesV bs = cells at h
  cases h with
  | empty z c =>
    have hb : bs = [] := List.eq_nil_of_length_eq_zero hn
    subst hb
    cases z with
    | none => exact n_str_nil hs ht he hx
    | some ad =>
      have h3 : aR P a.eval H ⟨d, .convert s t x, ty, p, af, g⟩ = some (.string .empty) := by simp [aR, toStrA, hs, ht, hx, he]
      simp [nRes, h3, strB]; rfl
  | full ad n c cells hn' hF hlt h =>
    rw [← strOf_bytes]
    refine n_str_bytes hs ht he hx ?_
    rw [Nat.mul_one] at h
    rw [h, ← hc]
    simp [bytesV]
theorem n_streq (hx : a.eval x = .string (strB bs)) (hy : a.eval y = .string (strB cs)) : nRes P a H ⟨d, .binOp .eql t x y yt, ty, p, af, g⟩ = some (.bool (decide (bs = cs)), H) := by
  refine n_str hx hy ?_
  simp only [strBin, strB_toList, Option.some.injEq, Value.bool.injEq]
  by_cases h : bs = cs <;> simp [h]
end

end Go.Ae
namespace Go.Ae

/-- A slice that can be read and laid on: n elements of k cells. -/
def Opn (H : AHeap) (F : Blks) (e k : Nat) (sv : Value) (n : Nat) (cells : List Value) : Prop :=
  (sv = .slice none 0 0 ∧ n = 0 ∧ cells = []) ∨
  ∃ ad c r, sv = .slice (some ad) n c ∧ F ad.block ∧ ad.block < H.next ∧ H.get ad.block = some (.row r) ∧ verOf ad = r.ver ∧ r.elem = e ∧ ad.off + n * k ≤ r.cells.length ∧
    (r.cells.drop ad.off).take (n * k) = cells ∧ r.rw = true ∧ (c = n ∨ c = openCap + k ∧ ad.off + n * k = r.cells.length)
section
variable {F G : Blks} {H H' : AHeap} {sv : Value} {P : Program} {e k n : Nat} {cells : List Value}
theorem Opn.nil : Opn H F e k (.slice none 0 0) 0 [] := .inl ⟨rfl, rfl, rfl⟩
theorem Opn.rd (h : Opn H F e k sv n cells) : Rd H F k sv n cells := by
  rcases h with ⟨rfl, rfl, rfl⟩ | ⟨ad, c, r, rfl, hF, hlt, hg, hv, he, hle, ht, _⟩
  · exact .empty _ _
  · by_cases h0 : n = 0
    · subst h0
      rw [Nat.zero_mul, List.take_zero] at ht
      subst ht
      exact .empty _ _
    · exact .full ad _ c _ h0 hF hlt (by rw [cellsAt_get hg hv hle, ht])
theorem Opn.keep (h : Opn H F e k sv n cells) (hk : Keep G H H') (hd : ∀ b, b < H.next → F b → (∀ r, H.get b = some (.row r) → r.elem = e) → ¬ G b) : Opn H' F e k sv n cells := by
  rcases h with ⟨rfl, rfl, rfl⟩ | ⟨ad, c, r, rfl, hF, hlt, hg, hv, he, hle, ht, ho⟩
  · exact .inl ⟨rfl, rfl, rfl⟩
  · refine .inr ⟨ad, c, r, rfl, hF, Nat.lt_of_lt_of_le hlt hk.1, hk.get hg hlt (hd _ hlt hF fun r' hr' => ?_), hv, he, hle, ht, ho⟩
    rw [hg] at hr'
    simp only [Option.some.injEq, AObj.row.injEq] at hr'
    exact hr' ▸ he
theorem Opn.keep0 (h : Opn H F e k sv n cells) (hk : Keep No H H') : Opn H' F e k sv n cells := h.keep hk fun _ _ _ _ h => h
theorem Opn.weak (h : Opn H F e k sv n cells) (hd : ∀ b, F b → G b) : Opn H G e k sv n cells := by
  rcases h with h | ⟨ad, c, r, rfl, hF, rest⟩
  · exact .inl h
  · exact .inr ⟨ad, c, r, rfl, hd _ hF, rest⟩
/-- More elements. -/
theorem Opn.snoc {t u b m : Nat} {x : Value} {news : List Value} (T : AppT P t u e k b) (h : Opn H F e (k + 1) sv n cells) (hx : srcA H (k + 1) x = some (m, news)) (hm : m ≠ 0) (hnl : news.length = m * (k + 1)) (h1 : news.all Value.oneCell' = true)
    (hL : (n + m) * (b + 1) ≤ 140737488355328) :
    ∃ sv' H', appendA P H t u sv x = some (sv', H') ∧ Opn H' (Or F (New H H')) e (k + 1) sv' (n + m) (cells ++ news) ∧ Keep F H H' ∧ H'.next ≤ H.next + 1 ∧ (∀ i r, H.get i = some (.row r) → i < H.next → r.elem ≠ e → H'.get i = H.get i) := by
  have hcl := h.rd.length
  have fresh : ∀ cells', cells' = cells ++ news → Opn (H.push (.row ⟨cells', e, 0, true⟩)) (Or F (New H (H.push (.row ⟨cells', e, 0, true⟩)))) e (k + 1) (.slice (some ⟨H.next, 0, none⟩) (n + m) (openCap + (k + 1))) (n + m) (cells ++ news) := by
    rintro _ rfl
    have hl : (cells ++ news).length = (n + m) * (k + 1) := by rw [List.length_append, hcl, hnl, Nat.add_mul]
    refine .inr ⟨⟨H.next, 0, none⟩, openCap + (k + 1), ⟨cells ++ news, e, 0, true⟩, rfl, .inr ⟨by simp, by simp⟩, by simp, by rw [AHeap.push_get, if_pos rfl], rfl, rfl, by rw [hl]; simp, ?_, rfl, .inr ⟨rfl, by rw [hl]; simp⟩⟩
    rw [List.drop_zero, List.take_of_length_le (by rw [hl]; exact Nat.le_refl _)]
  have old : ∀ cells', (∀ i r, H.get i = some (.row r) → i < H.next → r.elem ≠ e → (H.push (.row ⟨cells', e, 0, true⟩)).get i = H.get i) := by
    intro cells' i r _ hi _
    rw [AHeap.push_get, if_neg (by omega)]
  rcases h with ⟨rfl, rfl, rfl⟩ | ⟨ad, c, r, rfl, hF, hlt, hg, hv, he, hle, ht, hrw, rfl | ⟨rfl, hend⟩⟩
  · refine ⟨_, _, app_nil T hx hm (by simpa using hL), ?_, Keep.refl.push, by simp, old _⟩
    have := fresh news (by simp)
    simpa using this
  · have ho : oldA H ad (c * (k + 1)) = some cells := by
      unfold oldA
      split
      · rename_i h0
        rw [h0, List.take_zero] at ht
        rw [ht]
      · rw [cellsAt_get hg hv hle, ht]
    have hm' : c + m ≤ (c + m) * (b + 1) := Nat.le_mul_of_pos_right _ (by omega)
    have hop : c < openCap := by unfold openCap; omega
    exact ⟨_, _, app_grow T hx hm hL hop (by omega) ho, fresh _ rfl, Keep.refl.push, by simp, old _⟩
  · refine ⟨_, _, app_open T hx hm hL rfl hg hv hrw he h1 hend, ?_, Keep.refl.put fun _ => hF, by simp, ?_⟩
    · refine .inr ⟨⟨ad.block, ad.off, spotOf (r.ver + 1)⟩, openCap + (k + 1), { r with cells := r.cells ++ news, ver := r.ver + 1 }, rfl, .inl hF, hlt, by rw [AHeap.put_get, if_pos rfl], by simp, he, ?_, ?_, hrw, .inr ⟨rfl, ?_⟩⟩
      · simp only [List.length_append, hnl, Nat.add_mul]; omega
      · have h2 : r.cells.drop ad.off = cells := by rw [← ht, List.take_of_length_le]; simp; omega
        have h3 : ad.off - r.cells.length = 0 := by omega
        simp only [List.drop_append, h2, h3, List.drop_zero]
        rw [List.take_of_length_le]
        simp only [List.length_append, hcl, hnl, Nat.add_mul]; omega
      · simp only [List.length_append, hnl, Nat.add_mul]; omega
    · intro i r' hi hlt' hne
      rw [AHeap.put_get, if_neg]
      rintro rfl
      rw [hg] at hi
      simp only [Option.some.injEq, AObj.row.injEq] at hi
      exact hne (hi ▸ he)
/-- The row of a slice that isn't empty. -/
theorem Opn.at_row (h : Opn H F e k sv n cells) (hn : n ≠ 0) : ∃ ad c rc vr, sv = .slice (some ad) n c ∧ F ad.block ∧ ad.block < H.next ∧ H.get ad.block = some (.row ⟨rc, e, vr, true⟩) ∧ verOf ad = vr ∧ ad.off + n * k ≤ rc.length ∧
    (rc.drop ad.off).take (n * k) = cells ∧ (c = n ∨ c = openCap + k ∧ ad.off + n * k = rc.length) := by
  rcases h with ⟨_, rfl, _⟩ | ⟨ad, c, r, rfl, hF, hlt, hg, hv, he, hle, ht, hrw, ho⟩
  · exact absurd rfl hn
  · obtain ⟨rc, e', vr, rw'⟩ := r
    simp only at hv he hle ht hrw ho
    subst he hrw
    exact ⟨ad, c, rc, vr, rfl, hF, hlt, hg, hv, hle, ht, ho⟩
theorem lset_mid {l vs : List Value} {o q : Nat} {n k : Nat} (hq : q < n) (hv : vs.length = k) (hl : o + n * k ≤ l.length) : ((lset l (o + q * k) vs).drop o).take (n * k) = lset ((l.drop o).take (n * k)) (q * k) vs := by
  have h1 : (q + 1) * k ≤ n * k := Nat.mul_le_mul_right k hq
  rw [Nat.add_mul, Nat.one_mul] at h1
  apply List.ext_getElem?
  intro i
  rw [lset_get (by rw [List.length_take, List.length_drop]; omega), List.getElem?_take]
  by_cases hi : i < n * k
  · rw [if_pos hi, List.getElem?_drop, lset_get (by omega), List.getElem?_take, if_pos hi, List.getElem?_drop]
    by_cases h2 : i < q * k
    · rw [if_pos (by omega), if_pos h2]
    · rw [if_neg (by omega), if_neg h2]
      by_cases h3 : i < q * k + vs.length
      · rw [if_pos (by omega), if_pos h3]; congr 1; omega
      · rw [if_neg (by omega), if_neg h3]
  · rw [if_neg hi, if_neg (by omega), if_neg (by omega), List.getElem?_take, if_neg hi]
/-- An element is written. -/
theorem Opn.set {ad : Addr} {rc vs : List Value} {vr q c : Nat} (hF : F ad.block) (hlt : ad.block < H.next) (hv : verOf ad = vr) (hle : ad.off + n * k ≤ rc.length) (ht : (rc.drop ad.off).take (n * k) = cells)
    (ho : c = n ∨ c = openCap + k ∧ ad.off + n * k = rc.length) (hq : q < n) (hvs : vs.length = k) :
    Opn (H.put ad.block (.row ⟨lset rc (ad.off + q * k) vs, e, vr, true⟩)) F e k (.slice (some ad) n c) n (lset cells (q * k) vs) := by
  have h1 : (q + 1) * k ≤ n * k := Nat.mul_le_mul_right k hq
  rw [Nat.add_mul, Nat.one_mul] at h1
  have hl : (lset rc (ad.off + q * k) vs).length = rc.length := lset_length (by omega)
  refine .inr ⟨ad, c, ⟨lset rc (ad.off + q * k) vs, e, vr, true⟩, rfl, hF, by simpa using hlt, by rw [AHeap.put_get, if_pos rfl], hv, rfl, by dsimp only; omega, ?_, rfl, ho.imp id fun h => ⟨h.1, by dsimp only; omega⟩⟩
  rw [← ht]
  exact lset_mid hq hvs hle
end

end Go.Ae
namespace Go.Ae

abbrev Env := List (Nat × Value)
def lookE : Env → Nat → Option Value
  | [], _ => none
  | (d, v) :: E, t => bif Nat.beq t d then some v else lookE E t
def evE (E : Env) : Operand → Option Value
  | .tmp t => lookE E t
  | .const v => some v
  | .func f => some (.func (.func f) #[] #[])
  | .global g => some (.pointer (some ⟨g, 0, none⟩))
/-- What is known of the frame. -/
def Agree (N : Nat) (E : Env) (a : Act) : Prop := (a.tmps.size = N ∧ a.defers = []) ∧ ∀ t v, lookE E t = some v → t < N ∧ a.eval (.tmp t) = v
def Sub : Env → Env → Prop
  | [], _ => True
  | (t, v) :: E', E => lookE E t = some v ∧ Sub E' E
theorem Sub.agree {N : Nat} {E : Env} {a : Act} (h : Agree N E a) : ∀ {E' : Env}, Sub E' E → Agree N E' a
  | [], _ => ⟨h.1, fun t v hl => by cases hl⟩
  | (t, v) :: E', hs => by
    refine ⟨h.1, fun u w hl => ?_⟩
    unfold lookE at hl
    cases hb : Nat.beq u t with
    | true =>
      rw [hb] at hl
      simp only [cond_true, Option.some.injEq] at hl
      subst hl
      obtain rfl := Nat.eq_of_beq_eq_true hb
      exact h.2 _ _ hs.1
    | false =>
      rw [hb] at hl
      exact (Sub.agree h hs.2).2 u w hl
theorem Agree.eval {N : Nat} {E : Env} {a : Act} (h : Agree N E a) {x : Operand} {v : Value} (hx : evE E x = some v) : a.eval x = v := by
  cases x with
  | tmp t => exact (h.2 t v hx).2
  | const u => simpa [evE, Act.eval] using hx
  | func f => simpa [evE, Act.eval] using hx
  | global g => simpa [evE, Act.eval] using hx
theorem Agree.put {N : Nat} {E : Env} {a : Act} (h : Agree N E a) {d : Nat} (v : Value) (hd : Nat.blt d N = true) : Agree N ((d, v) :: E) (a.put (some d) v) := by
  have hd' : d < N := by simpa [Nat.blt_eq] using hd
  refine ⟨⟨by rw [Act.size_put]; exact h.1.1, by rw [defers_put]; exact h.1.2⟩, fun t w hl => ?_⟩
  unfold lookE at hl
  rw [Act.eval_put_tmp]
  cases hb : Nat.beq t d with
  | true =>
    rw [hb] at hl
    simp only [cond_true, Option.some.injEq] at hl
    subst hl
    obtain rfl := Nat.eq_of_beq_eq_true hb
    exact ⟨hd', if_pos ⟨rfl, by rw [h.1.1]; exact hd'⟩⟩
  | false =>
    rw [hb] at hl
    have hne : t ≠ d := by rintro rfl; simp at hb
    rw [if_neg (fun c => hne c.1)]
    exact h.2 t w hl
/-- Is the operation wanted, by what is known. -/
def wantE (ops : Array Oper) (E : Env) (g : Option (Nat × Bool)) : Option Bool :=
  match g with
  | none => some true
  | some (j, w) => match (ops[j]?).bind (·.dst) with
    | some t => match lookE E t with
      | some (.bool b) => some (b == w)
      | some (.tuple _) => some false
      | _ => none
    | none => none
theorem Agree.wanted {N : Nat} {E : Env} {a : Act} (h : Agree N E a) {ops : Array Oper} {o : Oper} {b : Bool} (hw : wantE ops E o.guard = some b) : Region.wanted o (yielded ops a.tmps) = b := by
  unfold wantE at hw
  split at hw
  · rename_i hg
    rw [wanted_none hg]
    simpa using hw
  · rename_i j w hg
    split at hw
    · rename_i t hd
      split at hw
      · rename_i b' hl
        obtain ⟨h1, h2⟩ := h.2 t _ hl
        have := wanted_eval hg hd h2 (by rw [h.1.1]; exact h1)
        rw [this]
        simp only [Option.some.injEq] at hw
        rw [← hw]
        cases b' <;> cases w <;> rfl
      · rename_i vs hl
        obtain ⟨h1, h2⟩ := h.2 t _ hl
        have := wanted_eval hg hd h2 (by rw [h.1.1]; exact h1)
        rw [this]
        simp only [Option.some.injEq] at hw
        rw [← hw]
        rfl
      · cases hw
    · cases hw

/-! Facts on types, found by their names -/
class SzT (P : Program) (t : TypeId) (n : outParam Nat) : Prop where h : szT P t = some n
class AgT (P : Program) (t : TypeId) (b : outParam Bool) : Prop where h : isAggT P t = some b
class ByT (P : Program) (t : TypeId) (n : outParam Nat) : Prop where h : byT P t = some n
class ZeT (P : Program) (t : TypeId) (l : outParam (List Value)) : Prop where h : zeroT P t = some l
class FoT (P : Program) (s : TypeId) (f : Nat) (off : outParam Nat) : Prop where h : fieldOff P s f = some off
class EsT (P : Program) (t : TypeId) (n : outParam Nat) : Prop where h : elemSz P t = some n
class UnT (P : Program) (t : TypeId) (d : outParam TypeDesc) : Prop where h : P.underlying t = some d
class BuT (P : Program) (t : TypeId) (pl : outParam (Array (Nat × Nat))) (zs : outParam (List Value)) : Prop where h : placesT P t = some (pl, zs)

/-! Where a region stands -/
inductive Mode where
  | seq (ops : Array Oper) (K : Act → AHeap → Prop) (rest : List Oper)
  | drawn (ops : Array Oper) (B : List Nat) (K : Act → AHeap → Prop) (sched : List Nat) (log : Log)
def Mode.ops : Mode → Array Oper
  | .seq ops _ _ => ops
  | .drawn ops _ _ _ _ => ops
def EW (P : Program) (N : Nat) (m : Mode) (E : Env) (H : AHeap) : Prop :=
  match m with
  | .seq ops K rest => ∀ a, Agree N E a → wpSeq P ops K rest a H
  | .drawn ops B K sched log => ∀ a, Agree N E a → wpS P ops B K sched a H log
def Mode.head : Mode → Option (Oper × Mode)
  | .seq ops K (o :: rest) => some (o, .seq ops K rest)
  | .seq _ _ [] => none
  | .drawn ops B K (i :: sched) log => match ops[i]? with
    | some o => some (o, .drawn ops B K sched log)
    | none => none
  | .drawn _ _ _ [] _ => none
/-- The number of the operation. -/
def Mode.at : Mode → Nat
  | .drawn _ _ _ (i :: _) _ => i
  | _ => 0
/-- A drawn region's memory of what was read: these cells stay. -/
def Mode.logged (m : Mode) (i : Nat) (p : AHeap → Prop) : Mode :=
  match m with
  | .seq ops K rest => .seq ops K rest
  | .drawn ops B K sched log => .drawn ops B K sched ((i, p) :: log)
/-- What was read ahead of a step that writes, and in an order that is not bound, is as it was. -/
def Mode.kept (m : Mode) (H' : AHeap) : Prop :=
  match m with
  | .seq .. => True
  | .drawn _ B _ (i :: _) log => ∀ p ∈ log, anc B p.1 i = true ∨ p.2 H'
  | .drawn _ _ _ [] _ => True

theorem head_seq {ops : Array Oper} {K : Act → AHeap → Prop} {rest : List Oper} {o : Oper} {m' : Mode} (h : (Mode.seq ops K rest).head = some (o, m')) : ∃ rest', rest = o :: rest' ∧ m' = .seq ops K rest' := by
  cases rest with
  | nil => cases h
  | cons x rest =>
    simp only [Mode.head, Option.some.injEq, Prod.mk.injEq] at h
    obtain ⟨rfl, rfl⟩ := h
    exact ⟨_, rfl, rfl⟩
theorem head_drawn {ops : Array Oper} {B : List Nat} {K : Act → AHeap → Prop} {sched : List Nat} {log : Log} {o : Oper} {m' : Mode} (h : (Mode.drawn ops B K sched log).head = some (o, m')) :
    ∃ i sched', sched = i :: sched' ∧ ops[i]? = some o ∧ m' = .drawn ops B K sched' log := by
  cases sched with
  | nil => cases h
  | cons i sched =>
    simp only [Mode.head] at h
    split at h
    · rename_i o' ho
      simp only [Option.some.injEq, Prod.mk.injEq] at h
      obtain ⟨rfl, rfl⟩ := h
      exact ⟨_, _, rfl, ho, rfl⟩
    · cases h
section
variable {P : Program} {N : Nat} {m m' : Mode} {E : Env} {H H' : AHeap} {v : Value} {d : Nat} {d' : Option Nat} {op : Op} {ty : TypeId} {p : String} {af : Array Edge} {g : Option (Nat × Bool)}

/-- One operation: what it gives, and the heap behind it. -/
def Nr (P : Program) (N : Nat) (E : Env) (H : AHeap) (o : Oper) (v : Value) (H' : AHeap) : Prop := isE o = false ∧ isRead o = false ∧ ∀ a, Agree N E a → nRes P a H o = some (v, H')
theorem ew_n (hm : m.head = some (⟨some d, op, ty, p, af, g⟩, m') := by exact rfl) (hw : wantE m.ops E g = some true := by exact rfl) (hd : Nat.blt d N = true := by exact rfl)
    (hn : Nr P N E H ⟨some d, op, ty, p, af, g⟩ v H') (h : EW P N m' ((d, v) :: E) H') : EW P N m E H := by
  cases m with
  | seq ops K rest =>
    intro a ha
    obtain ⟨rest, rfl, rfl⟩ := head_seq hm
    exact qn (ha.wanted hw) hn.1 (hn.2.2 a ha) (h _ (ha.put v hd))
  | drawn ops B K sched log =>
    intro a ha
    obtain ⟨i, sched, rfl, ho, rfl⟩ := head_drawn hm
    exact sn ho (ha.wanted hw) hn.1 hn.2.1 (hn.2.2 a ha) (h _ (ha.put v hd))
theorem ew_skip (hm : m.head = some (⟨some d, op, ty, p, af, g⟩, m') := by exact rfl) (hw : wantE m.ops E g = some false := by exact rfl) (hd : Nat.blt d N = true := by exact rfl) (h : EW P N m' ((d, undef) :: E) H) : EW P N m E H := by
  cases m with
  | seq ops K rest =>
    intro a ha
    obtain ⟨rest, rfl, rfl⟩ := head_seq hm
    exact qskip (ha.wanted hw) (h _ (ha.put undef hd))
  | drawn ops B K sched log =>
    intro a ha
    obtain ⟨i, sched, rfl, ho, rfl⟩ := head_drawn hm
    exact sskip ho (ha.wanted hw) (h _ (ha.put undef hd))
theorem ew_dec {c : Prop} {_dc : Decidable c} (hm : m.head = some (⟨some d, op, ty, p, af, g⟩, m') := by exact rfl) (hw : wantE m.ops E g = some true := by exact rfl) (hd : Nat.blt d N = true := by exact rfl)
    (hn : Nr P N E H ⟨some d, op, ty, p, af, g⟩ (.bool (decide c)) H) (ht : c → EW P N m' ((d, .bool true) :: E) H) (hf : ¬ c → EW P N m' ((d, .bool false) :: E) H) : EW P N m E H := by
  by_cases h : c
  · exact ew_n hm hw hd (v := .bool true) (by simpa only [h, decide_true] using hn) (ht h)
  · exact ew_n hm hw hd (v := .bool false) (by simpa only [h, decide_false] using hn) (hf h)
/-- A load. -/
def lv : Bool → List Value → Option Value
  | false, [v] => some v
  | false, _ => none
  | true, l => some (.agg l.toArray)
theorem ew_load {t : TypeId} {x : Operand} {n : Nat} {b : Bool} {ad : Addr} {l : List Value} (hm : m.head = some (⟨some d, .load t x, ty, p, af, g⟩, m') := by exact rfl) (s : SzT P t n := by exact inferInstance) (ag : AgT P t b := by exact inferInstance)
    (hw : wantE m.ops E g = some true := by exact rfl) (hd : Nat.blt d N = true := by exact rfl) (hx : evE E x = some (.pointer (some ad)) := by exact rfl)
    (hc : H.cellsAt ad n = some l) (hv : lv b l = some v) (h : EW P N (m'.logged m.at fun H' => H'.cellsAt ad n = H.cellsAt ad n) ((d, v) :: E) H) : EW P N m E H := by
  have key : ∀ a, Agree N E a → nRes P a H ⟨some d, .load t x, ty, p, af, g⟩ = some (v, H) ∧ (isAggT P t = some false ∧ n = 1 ∨ isAggT P t = some true) := by
    intro a ha
    cases b with
    | true =>
      simp only [lv, Option.some.injEq] at hv
      subst hv
      exact ⟨n_loadn s.h ag.h (ha.eval hx) hc, .inr ag.h⟩
    | false =>
      have h1 : l = [v] := by
        cases l with
        | nil => cases hv
        | cons x l =>
          cases l with
          | nil => simpa [lv] using hv
          | cons y l => cases hv
      subst h1
      have hn : n = 1 := by have := cellsAt_length hc; simpa using this.symm
      subst hn
      exact ⟨n_load1 s.h ag.h (ha.eval hx) hc, .inl ⟨ag.h, rfl⟩⟩
  cases m with
  | seq ops K rest =>
    intro a ha
    obtain ⟨rest, rfl, rfl⟩ := head_seq hm
    exact qn (ha.wanted hw) rfl (key a ha).1 (h _ (ha.put v hd))
  | drawn ops B K sched log =>
    intro a ha
    obtain ⟨i, sched, rfl, ho, rfl⟩ := head_drawn hm
    exact sload ho (ha.wanted hw) (ha.eval hx) s.h (key a ha).2 (key a ha).1 (h _ (ha.put v hd))
/-- What writes, or draws. -/
def Er (P : Program) (N : Nat) (E : Env) (H : AHeap) (o : Oper) (v : Value) (H' : AHeap) : Prop := isE o = true ∧ ∀ a, Agree N E a → acall P a.eval o = none ∧ aE P a.eval H o = some (v, H')
def putO (d : Option Nat) (v : Value) (E : Env) : Env := match d with | some d => (d, v) :: E | none => E
def bltO (d : Option Nat) (N : Nat) : Bool := match d with | some d => Nat.blt d N | none => true
theorem Agree.putO {a : Act} (h : Agree N E a) (v : Value) (hd : bltO d' N = true) : Agree N (putO d' v E) (a.put d' v) := by
  cases d' with
  | none => exact h
  | some d => exact h.put v hd
theorem ew_e (hm : m.head = some (⟨d', op, ty, p, af, g⟩, m') := by exact rfl) (hw : wantE m.ops E g = some true := by exact rfl) (hd : bltO d' N = true := by exact rfl)
    (he : Er P N E H ⟨d', op, ty, p, af, g⟩ v H') (hk : m.kept H') (h : EW P N m' (putO d' v E) H') : EW P N m E H := by
  cases m with
  | seq ops K rest =>
    intro a ha
    obtain ⟨rest, rfl, rfl⟩ := head_seq hm
    exact qe (ha.wanted hw) he.1 (he.2 a ha).1 (he.2 a ha).2 (h _ (ha.putO v hd))
  | drawn ops B K sched log =>
    intro a ha
    obtain ⟨i, sched, rfl, ho, rfl⟩ := head_drawn hm
    exact se ho (ha.wanted hw) he.1 (he.2 a ha).1 (he.2 a ha).2 hk (h _ (ha.putO v hd))
/-- A call, by a promise. -/
def Cr (P : Program) (N : Nat) (E : Env) (o : Oper) (f : FuncId) (args : Array Value) : Prop := isE o = true ∧ ∀ a, Agree N E a → acall P a.eval o = some (f, args)
theorem ew_call {f : FuncId} {args : Array Value} {R : Value → AHeap → Prop} (hm : m.head = some (⟨d', op, ty, p, af, g⟩, m') := by exact rfl) (hw : wantE m.ops E g = some true := by exact rfl) (hd : bltO d' N = true := by exact rfl)
    (hc : Cr P N E ⟨d', op, ty, p, af, g⟩ f args) (hR : ACalls P f args H R) (h : ∀ v H', R v H' → m.kept H' ∧ EW P N m' (putO d' v E) H') : EW P N m E H := by
  cases m with
  | seq ops K rest =>
    intro a ha
    obtain ⟨rest, rfl, rfl⟩ := head_seq hm
    exact qcallR (ha.wanted hw) hc.1 (hc.2 a ha) hR fun v H' hr => (h v H' hr).2 _ (ha.putO v hd)
  | drawn ops B K sched log =>
    intro a ha
    obtain ⟨i, sched, rfl, ho, rfl⟩ := head_drawn hm
    exact scallR ho (ha.wanted hw) hc.1 (hc.2 a ha) hR fun v H' hr => ⟨(h v H' hr).1, (h v H' hr).2 _ (ha.putO v hd)⟩
/-- An append, by a promise. -/
theorem ew_app {c : Call} {x y : Operand} {t u : TypeId} {s z : Value} {R : Value → AHeap → Prop} (hm : m.head = some (⟨d', .call c, ty, p, af, g⟩, m') := by exact rfl) (hw : wantE m.ops E g = some true := by exact rfl) (hd : bltO d' N = true := by exact rfl)
    (hc : c.callee = .builtin .append := by exact rfl) (ha' : c.args.toList = [x, y] := by exact rfl) (ht : c.argTypes.toList = [t, u] := by exact rfl) (hx : evE E x = some s := by exact rfl) (hy : evE E y = some z := by exact rfl)
    (hR : ∃ v H', appendA P H t u s z = some (v, H') ∧ R v H') (h : ∀ v H', R v H' → m.kept H' ∧ EW P N m' (putO d' v E) H') : EW P N m E H := by
  obtain ⟨v, H', h1, h2⟩ := hR
  exact ew_e hm hw hd ⟨by simp [isE, hc], fun a ha => ⟨ac_builtin hc, x_append hc ha' ht (ha.eval hx) (ha.eval hy) h1⟩⟩ (h v H' h2).1 (h v H' h2).2
theorem ew_fresh (h : ∀ b, b = H.next → EW P N m E H) : EW P N m E H := h _ rfl
end

end Go.Ae

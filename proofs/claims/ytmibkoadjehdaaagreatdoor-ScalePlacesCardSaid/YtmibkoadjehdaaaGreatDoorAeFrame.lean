/- What stays, what a slice reads as: frames over the abstract heap. No condition. -/
import Derived.Test.YtmibkoadjehdaaaGreatDoorAeWalk
namespace Go.Ae

abbrev Blks := Nat → Prop
def No : Blks := fun _ => False
/-- All rows of H stay but those of F. -/
def Keep (F : Blks) (H H' : AHeap) : Prop := H.next ≤ H'.next ∧ ∀ i, i < H.next → ¬ F i → H'.get i = H.get i
/-- The blocks that are new. -/
def New (H H' : AHeap) : Blks := fun b => H.next ≤ b ∧ b < H'.next
def Or (F G : Blks) : Blks := fun b => F b ∨ G b

section
variable {F G : Blks} {H H' H1 H2 : AHeap} {o : AObj} {i : Nat}
theorem Keep.refl : Keep F H H := ⟨Nat.le_refl _, fun _ _ _ => rfl⟩
theorem Keep.push (h : Keep F H H1) : Keep F H (H1.push o) := ⟨Nat.le_succ_of_le h.1, fun i hi hf => by rw [AHeap.push_get, if_neg (by have := h.1; omega)]; exact h.2 i hi hf⟩
theorem Keep.put (h : Keep F H H1) (hi : i < H.next → F i) : Keep F H (H1.put i o) := ⟨h.1, fun j hj hf => by
  rw [AHeap.put_get, if_neg (fun e => hf (by subst e; exact hi hj))]; exact h.2 j hj hf⟩
theorem Keep.trans (h : Keep F H H1) (h' : Keep G H1 H2) (hg : ∀ i, i < H.next → G i → F i) : Keep F H H2 :=
  ⟨Nat.le_trans h.1 h'.1, fun i hi hf => (h'.2 i (Nat.lt_of_lt_of_le hi h.1) fun hG => hf (hg i hi hG)).trans (h.2 i hi hf)⟩
theorem Keep.weak (h : Keep F H H1) (hg : ∀ i, i < H.next → F i → G i) : Keep G H H1 := ⟨h.1, fun i hi hf => h.2 i hi fun hF => hf (hg i hi hF)⟩
theorem Keep.no (h : Keep No H H1) : Keep G H H1 := h.weak fun _ _ h => h.elim
theorem Keep.after (h : Keep F H H1) (h' : Keep No H1 H2) : Keep F H H2 := h.trans h' fun _ _ h => h.elim
theorem Keep.get {x : Option AObj} (h : Keep F H H1) (hx : H.get i = x) (hi : i < H.next) (hf : ¬ F i) : H1.get i = x := (h.2 i hi hf).trans hx
theorem Keep.get0 {x : Option AObj} (h : Keep No H H1) (hx : H.get i = x) (hi : i < H.next) : H1.get i = x := (h.2 i hi id).trans hx
theorem Keep.row0 {r : Row} (h : Keep No H H1) (hx : H.get i = some (.row r)) (hi : i < H.next) : H1.get i = some (.row r) := h.get0 hx hi
theorem Keep.row {r : Row} (h : Keep F H H1) (hx : H.get i = some (.row r)) (hi : i < H.next) (hf : ¬ F i) : H1.get i = some (.row r) := h.get hx hi hf
theorem Keep.cells {ad : Addr} {n : Nat} (h : Keep F H H1) (hi : ad.block < H.next) (hf : ¬ F ad.block) : H1.cellsAt ad n = H.cellsAt ad n := by
  unfold AHeap.cellsAt AHeap.rowAt; rw [h.2 _ hi hf]
theorem cells_congr {ad : Addr} {n : Nat} (h : H1.get ad.block = H.get ad.block) : H1.cellsAt ad n = H.cellsAt ad n := by unfold AHeap.cellsAt AHeap.rowAt; rw [h]
end

theorem cells_k {H H1 : AHeap} {ad : Addr} {n : Nat} {l : List Value} (h : H.cellsAt ad n = some l) (hlt : ad.block < H.next) (hk : Keep No H H1) : H1.cellsAt ad n = some l := (hk.cells hlt id).trans h
theorem n_slice' {P : Program} {a : Act} {H : AHeap} {d : Option Tmp} {t ty : TypeId} {p : String} {af : Array Edge} {g : Option (Nat × Bool)} {x : Operand} {u v : Value} {lo hi mx : Option Operand} {lv hv mv : Option Value} (hx : a.eval x = u) (hs : isStrV u = false)
    (hl : lo.map a.eval = lv) (hh : hi.map a.eval = hv) (hm : mx.map a.eval = mv) (h : sliceA P t u lv hv mv = some v) : nRes P a H ⟨d, .slice t x lo hi mx, ty, p, af, g⟩ = some (v, H) := by
  subst hl hh hm; exact n_slice hx hs h

/-- A slice of n elements of k cells reads as these cells; its block is of F. -/
inductive Rd (H : AHeap) (F : Blks) (k : Nat) : Value → Nat → List Value → Prop
  | empty (z : Option Addr) (c : Nat) : Rd H F k (.slice z 0 c) 0 []
  | full (ad : Addr) (n c : Nat) (cells : List Value) (hn : n ≠ 0) (hF : F ad.block) (hlt : ad.block < H.next) (h : H.cellsAt ad (n * k) = some cells) : Rd H F k (.slice (some ad) n c) n cells

section
variable {F G : Blks} {H H' H1 H2 : AHeap} {k n : Nat} {v : Value} {cells : List Value}
theorem Rd.keep (h : Rd H F k v n cells) (hk : Keep G H H') (hd : ∀ b, b < H.next → F b → ¬ G b) : Rd H' F k v n cells := by
  cases h with
  | empty z c => exact .empty z c
  | full ad n c cells hn hF hlt h => exact .full ad n c cells hn hF (Nat.lt_of_lt_of_le hlt hk.1) (by rw [hk.cells hlt (hd _ hlt hF)]; exact h)
theorem Rd.keep0 (h : Rd H F k v n cells) (hk : Keep No H H') : Rd H' F k v n cells := h.keep hk fun _ _ _ h => h
theorem Rd.weak (h : Rd H F k v n cells) (hd : ∀ b, b < H.next → F b → G b) : Rd H G k v n cells := by
  cases h with
  | empty z c => exact .empty z c
  | full ad n c cells hn hF hlt h => exact .full ad n c cells hn (hd _ hlt hF) hlt h
theorem Rd.slice (h : Rd H F k v n cells) : ∃ z c, v = .slice z n c := by
  cases h with
  | empty z c => exact ⟨z, c, rfl⟩
  | full ad n c cells hn hF hlt h => exact ⟨_, _, rfl⟩
theorem cellsAt_length {ad : Addr} {m : Nat} (h : H.cellsAt ad m = some cells) : cells.length = m := by
  unfold AHeap.cellsAt at h
  simp only [Option.bind_eq_some_iff] at h
  obtain ⟨r, _, h⟩ := h
  split at h
  · obtain rfl := Option.some.inj h
    simp; omega
  · cases h
theorem cellsAt_sub {ad : Addr} {m j i : Nat} (h : H.cellsAt ad m = some cells) (hj : j + i ≤ m) : H.cellsAt (aadd ad j) i = some ((cells.drop j).take i) := by
  unfold AHeap.cellsAt at h ⊢
  simp only [Option.bind_eq_some_iff] at h
  obtain ⟨r, hr, h⟩ := h
  have : H.rowAt (aadd ad j) = some r := by unfold AHeap.rowAt at hr ⊢; exact hr
  rw [this]
  split at h
  · obtain rfl := Option.some.inj h
    rename_i hle
    have hc : (aadd ad j).off + i ≤ r.cells.length := by rw [aadd_off]; omega
    rw [Option.bind_some, if_pos hc, aadd_off, List.drop_take, List.drop_drop, List.take_take, Nat.min_eq_left (by omega)]
  · cases h
theorem Rd.length (h : Rd H F k v n cells) : cells.length = n * k := by
  cases h with
  | empty z c => simp
  | full ad n c cells hn hF hlt h => exact cellsAt_length h
theorem Rd.src (h : Rd H F k v n cells) : srcA H k v = some (n, cells) := by
  cases h with
  | empty z c => cases z <;> simp [srcA]
  | full ad n c cells hn hF hlt h => simp [srcA, hn, h]
theorem aadd_aadd (ad : Addr) (i j : Nat) : aadd (aadd ad i) j = aadd ad (i + j) := by simp [aadd, Nat.add_assoc]
/-- The i-th element. -/
theorem Rd.at (h : Rd H F k v n cells) {i : Nat} (hi : i < n) : ∃ ad c, v = .slice (some ad) n c ∧ F ad.block ∧ ad.block < H.next ∧ H.cellsAt (aadd ad (i * k)) k = some ((cells.drop (i * k)).take k) := by
  cases h with
  | empty z c => omega
  | full ad n c cells hn hF hlt h =>
    refine ⟨ad, c, rfl, hF, hlt, cellsAt_sub h ?_⟩
    have : (i + 1) * k ≤ n * k := Nat.mul_le_mul_right k hi
    rw [Nat.add_mul, Nat.one_mul] at this
    exact this
end

theorem src_of {H : AHeap} {k n c m : Nat} {ad : Addr} {l : List Value} (hn : n ≠ 0) (hm : n * k = m) (h : H.cellsAt ad m = some l) : srcA H k (.slice (some ad) n c) = some (n, l) := by subst hm; simp [srcA, hn, h]
/-! copy into a row of one's own -/
section
variable {F : Blks} {P : Program} {H : AHeap} {t e : TypeId} {n m c d : Nat} {x : Value} {cells : List Value} {ad : Addr} {r : Row}
theorem copy_zero {base : Option Addr} {k : Nat} (hu : P.underlying t = some (.slice e)) (hs : szT P e = some (k + 1)) (hx : Rd H F (k + 1) x 0 cells) : copyA P H t (.slice base m c) x = some (.int .i64 0, H) := by
  obtain ⟨z, c', rfl⟩ := hx.slice
  simp [copyA, hu, hs, lenV]
theorem copy_all {k : Nat} (hu : P.underlying t = some (.slice e)) (hs : szT P e = some (k + 1)) (hx : Rd H F (k + 1) x n cells) (hn : n ≠ 0) (hg : H.get ad.block = some (.row r)) (hv : verOf ad = r.ver) (hrw : r.rw = true)
    (h0 : ad.off = 0) (hl : r.cells.length = n * (k + 1)) (h1 : cells.all Value.oneCell' = true) : copyA P H t (.slice (some ad) n c) x = some (.int .i64 n, H.put ad.block (.row ⟨cells, r.elem, r.ver, true⟩)) := by
  have hlen := hx.length
  cases hx with
  | empty z c => exact absurd rfl hn
  | full ad' n c' cells hn' hF hlt h =>
    have hset : H.setCells ad cells = some (H.put ad.block (.row ⟨cells, r.elem, r.ver, true⟩)) := by
      rw [setCells_of hg hv hrw (by omega) h1]
      congr 4
      rw [h0]
      simp [lset, hl, hlen]
    have hmin : Nat.min n n = n := Nat.min_self n
    simp [copyA, hu, hs, lenV, hmin, hn, srcN, h, hset]
theorem put_self {i : Nat} {o : AObj} (h : H.get i = some o) : H.put i o = H := by
  cases H with | mk get next =>
  simp only [AHeap.put, AHeap.mk.injEq, and_true]
  funext j
  split
  · subst j; exact h.symm
  · rfl
theorem copy_row {k : Nat} (hu : P.underlying t = some (.slice e)) (hs : szT P e = some (k + 1)) (hx : Rd H F (k + 1) x n cells) (hg : H.get ad.block = some (.row r)) (hv : verOf ad = r.ver) (hrw : r.rw = true)
    (h0 : ad.off = 0) (hl : r.cells.length = n * (k + 1)) (h1 : cells.all Value.oneCell' = true) : copyA P H t (.slice (some ad) n c) x = some (.int .i64 n, H.put ad.block (.row ⟨cells, r.elem, r.ver, true⟩)) := by
  by_cases hn : n = 0
  · subst hn
    have hc : cells = [] := List.eq_nil_of_length_eq_zero (by have := hx.length; omega)
    have hr : r.cells = [] := List.eq_nil_of_length_eq_zero (by omega)
    have : H.put ad.block (.row ⟨cells, r.elem, r.ver, true⟩) = H := put_self (by rw [hg]; obtain ⟨a, b, c, d⟩ := r; simp_all)
    rw [this]
    exact copy_zero hu hs hx
  · exact copy_all hu hs hx hn hg hv hrw h0 hl h1
theorem copy_at {k vr b : Nat} {olds : List Value} {e' : TypeId} (hu : P.underlying t = some (.slice e)) (hs : szT P e = some (k + 1)) (hx : Rd H F (k + 1) x n cells) (hg : H.get ad.block = some (.row ⟨olds, e', vr, true⟩)) (hv : verOf ad = vr)
    (h0 : ad.off = 0) (hl : olds.length = n * (k + 1)) (h1 : cells.all Value.oneCell' = true) (hb : ad.block = b) : copyA P H t (.slice (some ad) n c) x = some (.int .i64 n, H.put b (.row ⟨cells, e', vr, true⟩)) := by
  subst hb; exact copy_row hu hs hx hg hv rfl h0 hl h1
end

def bytesV (bs : List UInt8) : List Value := bs.map fun b => .int .u8 b.toNat
@[simp] theorem bytesV_length (bs : List UInt8) : (bytesV bs).length = bs.length := by simp [bytesV]
@[simp] theorem bytesV_one (bs : List UInt8) : (bytesV bs).all Value.oneCell' = true := by simp [bytesV, Value.oneCell']
theorem bytesV_append (a b : List UInt8) : bytesV (a ++ b) = bytesV a ++ bytesV b := by simp [bytesV]
theorem bytesV_inj {a b : List UInt8} (h : bytesV a = bytesV b) : a = b := by
  unfold bytesV at h
  refine List.map_inj_right (fun x y hxy => ?_) |>.1 h
  simp only [Value.int.injEq, true_and] at hxy
  exact UInt8.toNat_inj.1 (by omega)
/-- A slice of bytes. -/
def BR (H : AHeap) (F : Blks) (v : Value) (bs : List UInt8) : Prop := Rd H F 1 v bs.length (bytesV bs)

/-! Bytes as a string -/
def strB (bs : List UInt8) : ByteArray := ⟨bs.toArray⟩
theorem strOf_bytes (bs : List UInt8) : strOf (bs.map fun b => (b.toNat : Int)) = strB bs := by
  have key : ∀ (l : List UInt8) (acc : ByteArray), (l.map fun b => (b.toNat : Int)).foldl (fun r n => r.push (UInt8.ofNat n.toNat)) acc = ⟨acc.data ++ l.toArray⟩ := by
    intro l
    induction l with
    | nil => intro acc; simp
    | cons b l ih => intro acc; rw [List.map_cons, List.foldl_cons, ih]; simp [ByteArray.push]
  unfold strOf
  rw [key]
  simp [strB]
theorem strB_toList (bs : List UInt8) : (strB bs).toList = bs := by
  have loop : ∀ (a : ByteArray) (n i : Nat) (r : List UInt8), a.size - i = n → ByteArray.toList.loop a i r = r.reverse ++ a.data.toList.drop i := by
    intro a n
    induction n with
    | zero =>
      intro i r h
      unfold ByteArray.toList.loop
      rw [if_neg (by omega), List.drop_of_length_le (by simp [← ByteArray.size_data] at h ⊢; omega), List.append_nil]
    | succ n ih =>
      intro i r h
      unfold ByteArray.toList.loop
      have hi : i < a.size := by omega
      have hi' : i < a.data.size := by simpa using hi
      rw [if_pos hi, ih (i + 1) _ (by omega)]
      have hg : a.get! i = a.data[i] := by
        show a.data[i]! = a.data[i]
        exact getElem!_pos a.data i hi'
      rw [hg, List.reverse_cons, List.append_assoc, List.singleton_append, ← Array.getElem_toList, ← List.drop_eq_getElem_cons (by simpa using hi')]
  unfold ByteArray.toList
  rw [loop _ _ _ _ rfl]
  simp [strB]
section
variable {P : Program} {a : Act} {H : AHeap} {d : Option Tmp} {ty t yt s e : TypeId} {p : String} {af : Array Edge} {g : Option (Nat × Bool)} {x y : Operand} {v : Value} {F : Blks} {bs cs : List UInt8}
theorem n_conv_br (hs : P.underlying s = some (.slice e)) (ht : P.underlying t = some .string) (he : P.underlying e = some (.int .u8)) (hx : a.eval x = v) (h : BR H F v bs) :
    nRes P a H ⟨d, .convert s t x, ty, p, af, g⟩ = some (.string (strB bs), H) := by
  have hl := h.length
  unfold BR at h
  generalize hn : bs.length = n at h
  generalize hc : bytesV bs = cells at h
  cases h with
  | empty z c =>
    have hb : bs = [] := List.eq_nil_of_length_eq_zero hn
    subst hb
    cases z with
    | none => exact n_str_nil hs ht he hx
    | some ad =>
      have h3 : aR P a.eval H ⟨d, .convert s t x, ty, p, af, g⟩ = some (.string .empty) := by simp [aR, toStrA, hs, ht, hx, he]
      simp [nRes, h3, strB]; rfl
  | full ad n c cells hn' hF hlt h =>
    rw [← strOf_bytes]
    refine n_str_bytes hs ht he hx ?_
    rw [Nat.mul_one] at h
    rw [h, ← hc]
    simp [bytesV]
theorem n_streq (hx : a.eval x = .string (strB bs)) (hy : a.eval y = .string (strB cs)) : nRes P a H ⟨d, .binOp .eql t x y yt, ty, p, af, g⟩ = some (.bool (decide (bs = cs)), H) := by
  refine n_str hx hy ?_
  simp only [strBin, strB_toList, Option.some.injEq, Value.bool.injEq]
  by_cases h : bs = cs <;> simp [h]
end

end Go.Ae

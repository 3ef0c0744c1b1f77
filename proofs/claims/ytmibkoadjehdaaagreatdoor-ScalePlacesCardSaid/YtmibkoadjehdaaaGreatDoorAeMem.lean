/- Reads of the abstract heap, and operations that make a new row. No condition. -/
import Derived.Test.YtmibkoadjehdaaaGreatDoorAeStep
namespace Go.Ae

/-! ### Reading cells -/

def AHeap.rowAt (H : AHeap) (a : Addr) : Option Row :=
  match H.get a.block with
  | some (.row r) => if verOf a = r.ver then some r else none
  | _ => none
def AHeap.cellsAt (H : AHeap) (a : Addr) (n : Nat) : Option (List Value) :=
  (H.rowAt a).bind fun r => if a.off + n ≤ r.cells.length then some ((r.cells.drop a.off).take n) else none

theorem AHeap.rowAt_spec {H : AHeap} {a : Addr} {r : Row} (h : H.rowAt a = some r) : H.get a.block = some (.row r) ∧ verOf a = r.ver := by
  unfold AHeap.rowAt at h
  split at h
  · rename_i r' hg
    split at h
    · obtain rfl := Option.some.inj h; exact ⟨hg, ‹_›⟩
    · cases h
  · cases h

theorem cellsAt_sim {P : Program} {ρ : Ren} {H : AHeap} {w : World} (hH : RelH P ρ H w) {a b : Addr} (hp : PR ρ a b) {n : Nat} {l : List Value} (h : H.cellsAt a n = some l) :
    l.length = n ∧ ∃ l', VRs ρ l l' ∧ ∀ j v, l'[j]? = some v → w.cell? (b.add j) = some v := by
  unfold AHeap.cellsAt at h
  simp only [Option.bind_eq_some_iff] at h
  obtain ⟨r, hr, h⟩ := h
  split at h
  case isFalse => cases h
  rename_i hle
  obtain rfl := Option.some.inj h
  obtain ⟨hg, hv⟩ := AHeap.rowAt_spec hr
  obtain ⟨s, hs, hlo, rfl⟩ := hp
  rw [hv] at hs
  obtain ⟨h1, h2, _, c, fz, hc, hsz, hfit, hcells, _⟩ := hH.row _ _ hg s hs
  refine ⟨by simp; omega, (c.toList.drop (s.base + (a.off - s.lo))).take n, VRs.of_get (by simp; omega) fun i x y hx hy => ?_, fun j v hv => ?_⟩
  · rw [List.getElem?_take] at hx hy
    split at hx
    · rename_i hi
      rw [if_pos hi] at hy
      rw [List.getElem?_drop] at hx hy
      obtain ⟨y', hy', hvr⟩ := hcells (a.off + i) x (by omega) hx
      rw [show s.base + (a.off + i - s.lo) = s.base + (a.off - s.lo) + i by omega, ← Array.getElem?_toList, hy] at hy'
      exact Option.some.inj hy' ▸ hvr
    · cases hx
  · rw [List.getElem?_take] at hv
    split at hv
    · rw [List.getElem?_drop] at hv
      rw [Seg.at_add s hlo]
      simp only [World.cell?, Seg.at, hc]
      rw [← hv, ← Array.getElem?_toList]
      simp only [Option.isSome_none, Bool.false_eq_true, if_false]
      congr 1
      omega
    · cases hv

def loadA (P : Program) (H : AHeap) (t : TypeId) (x : Value) : Option Value :=
  match x, szT P t, isAggT P t with
  | .pointer (some a), some n, some true => (H.cellsAt a n).map fun l => .agg l.toArray
  | .pointer (some a), some _, some false => (H.cellsAt a 1).bind fun l => l.head?
  | _, _, _ => none
theorem loadA_run {P : Program} {ρ : Ren} {H : AHeap} {w : World} (hH : RelH P ρ H w) {t : TypeId} {x x' v : Value} (h : loadA P H t x = some v) (hx : VR ρ x x') :
    ∃ v', VR ρ v v' ∧ ∃ b, x' = .pointer (some b) ∧ (loadVar t b).run P w = .ok v' w := by
  unfold loadA at h
  split at h
  · rename_i a n hs ha
    simp only [Option.map_eq_some_iff] at h
    obtain ⟨l, hl, rfl⟩ := h
    cases hx with
    | ptr hp =>
      rename_i b
      obtain ⟨hn, l', hv, hc⟩ := cellsAt_sim hH hp hl
      have hlen := hv.length
      have hr := run_loadCells_list (P := P) w b l' hc
      rw [← hlen, hn] at hr
      exact ⟨.agg l'.toArray, VR.agg' (by simpa using hv), b, rfl, by simp [loadVar, run_isAggT ha, run_sizeT hs, hr]⟩
  · rename_i a n hs ha
    simp only [Option.bind_eq_some_iff] at h
    obtain ⟨l, hl, hv0⟩ := h
    cases hx with
    | ptr hp =>
      rename_i b
      obtain ⟨hn, l', hv, hc⟩ := cellsAt_sim hH hp hl
      rw [List.head?_eq_getElem?] at hv0
      obtain ⟨y, hy, h1⟩ := hv.get 0 v hv0
      have := hc 0 y hy
      rw [Addr.add, if_pos rfl] at this
      exact ⟨y, h1, b, rfl, by simp [loadVar, run_isAggT ha, this]⟩
  · cases h
theorem loadA_sim {P : Program} {ρ : Ren} {H : AHeap} {w : World} (hH : RelH P ρ H w) {t : TypeId} {x x' v : Value} (h : loadA P H t x = some v) (hx : VR ρ x x') :
    ∃ v', VR ρ v v' ∧ (Instr.loadAt t x').run P w = .ok v' w := by
  obtain ⟨v', h1, b, rfl, h2⟩ := loadA_run hH h hx
  exact ⟨v', h1, by simp [Instr.loadAt, Instr.sureAddr, h2]⟩

/-! ### A slice of bytes as a string -/

def byteV : Value → Option Int
  | .int .u8 n => some n
  | _ => none
def bytesOf : List Value → Option (List Int)
  | [] => some []
  | v :: l => match byteV v, bytesOf l with
    | some n, some ns => some (n :: ns)
    | _, _ => none
theorem bytesOf_map : ∀ (ns : List Int), bytesOf (ns.map (Value.int .u8)) = some ns
  | [] => rfl
  | n :: ns => by simp [bytesOf, byteV, bytesOf_map ns]
theorem bytesOf_eq : ∀ {l : List Value} {ns : List Int}, bytesOf l = some ns → l = ns.map (Value.int .u8)
  | [], ns, h => by simp [bytesOf] at h; subst h; rfl
  | v :: l, ns, h => by
    unfold bytesOf at h
    split at h
    · rename_i n ms h1 h2
      obtain rfl := Option.some.inj h
      unfold byteV at h1
      split at h1
      · obtain rfl := Option.some.inj h1
        simp [← bytesOf_eq h2]
      · cases h1
    · cases h
def strOf (ns : List Int) : ByteArray := ns.foldl (fun r n => r.push (UInt8.ofNat n.toNat)) ByteArray.empty
theorem VRs.ints {ρ : Ren} : ∀ {ns : List Int} {k : IntKind} {l : List Value}, VRs ρ (ns.map (Value.int k)) l → l = ns.map (Value.int k)
  | [], _, _, .nil => rfl
  | _ :: ns, _, _, .cons h1 h2 => by cases h1; rw [VRs.ints (ns := ns) h2]; rfl

def toStrA (P : Program) (H : AHeap) (src dst : TypeId) (x : Value) : Option Value :=
  match P.underlying src, P.underlying dst, x with
  | some (.slice e), some .string, .slice (some a) len _ => match P.underlying e with
    | some (.int .u8) => if len = 0 then some (.string .empty) else ((H.cellsAt a len).bind bytesOf).map fun ns => .string (strOf ns)
    | _ => none
  | some (.slice e), some .string, .slice none _ _ => match P.underlying e with
    | some (.int .u8) => some (.string .empty)
    | _ => none
  | _, _, _ => none
theorem toStrA_sim {P : Program} {ρ : Ren} {H : AHeap} {w : World} (hH : RelH P ρ H w) {src dst : TypeId} {x x' v : Value} (h : toStrA P H src dst x = some v) (hx : VR ρ x x') :
    ∃ v', VR ρ v v' ∧ (convert src dst x').run P w = .ok v' w := by
  unfold toStrA at h
  split at h
  · rename_i e a len cap hs hd
    split at h
    · rename_i he
      cases hx with
      | slice hp =>
        rename_i b cap'
        split at h
        · rename_i h0
          subst h0
          obtain rfl := Option.some.inj h
          refine ⟨_, .string _, ?_⟩
          rw [run_convert_bytes_string w src dst e (some b) 0 cap' hs he hd, run_bytesToString w b 0 cap' [] (by simp [loadCells, loadCellsFrom])]
          rfl
        · rename_i h0
          simp only [Option.map_eq_some_iff, Option.bind_eq_some_iff] at h
          obtain ⟨ns, ⟨l, hl, hb⟩, rfl⟩ := h
          have hpr : PR ρ a b := by
            rcases hp with ⟨e1, _⟩ | ⟨_, _, hp⟩ | ⟨_, s, h1, h2, h3, _⟩
            · exact absurd e1 h0
            · exact hp
            · exact ⟨s, h1, h2, h3⟩
          obtain ⟨hn, l', hv, hc⟩ := cellsAt_sim hH hpr hl
          obtain rfl := bytesOf_eq hb
          obtain rfl := hv.ints
          refine ⟨_, .string _, ?_⟩
          have hr := run_loadCells_list (P := P) w b _ hc
          rw [hn] at hr
          rw [run_convert_bytes_string w src dst e (some b) len cap' hs he hd, run_bytesToString w b len cap' ns hr]
          rfl
    · cases h
  · rename_i e n c hs hd
    split at h
    · rename_i he
      obtain rfl := Option.some.inj h
      cases hx
      refine ⟨_, .string _, ?_⟩
      rw [run_convert_bytes_string w src dst e none _ _ hs he hd]
      rfl
    · cases h
  · cases h

/-! ### Pointers and unsafe.Pointer -/
def uptrA (P : Program) (H : AHeap) (src dst : TypeId) (x : Value) : Option Value :=
  match P.underlying src, P.underlying dst, x with
  | some (.pointer t), some .unsafePointer, .pointer (some a) => match szT P t, H.rowAt a with
    | some (_ + 1), some r => if a.off < r.cells.length then some (.pointer (some a)) else none
    | _, _ => none
  | some .unsafePointer, some (.pointer u), .pointer (some a) => match szT P u, H.rowAt a with
    | some (k + 1), some r => if r.elem = u ∧ r.rw = true ∧ r.ver = 0 ∧ a.off = 0 ∧ k + 1 ≤ r.cells.length then some (.pointer (some a)) else none
    | _, _ => none
  | _, _, _ => none
theorem cellsOf_sz {P : Program} {t : TypeId} {n : Nat} (h : szT P t = some n) : P.cellsOf t = n := by
  unfold szT at h
  unfold Program.cellsOf
  rw [h]; rfl
/-- n elements of a row's own type, from a place in it on. -/
theorem liesAt_own {P : Program} {e : TypeId} {m : Nat} (hc : P.cellsOf e = m + 1) (count i n : Nat) (hn : i + n ≤ count) : liesAt P P.depth e count (i * (m + 1)) e n = true := by
  have hd : P.depth = (2 * (P.types.size + Made.depth) + 1) + 1 := rfl
  rw [hd]
  simp only [liesAt, Bool.or_eq_true]
  left
  rw [hd]
  simp only [rowAt, hc]
  rw [if_neg (by omega)]
  simp only [Nat.mul_mod_left, Nat.mul_div_left _ (show 0 < m + 1 by omega), Bool.or_eq_true]
  left
  simp [hn, sameLayout]
theorem rowAt_world {P : Program} {ρ : Ren} {H : AHeap} {w : World} (hH : RelH P ρ H w) {a b : Addr} {r : Row} (hr : H.rowAt a = some r) (hp : PR ρ a b) :
    ∃ s, ρ a.block r.ver = some s ∧ s.lo ≤ a.off ∧ b = s.at a.off ∧ RowOk P ρ r s w := by
  obtain ⟨hg, hv⟩ := AHeap.rowAt_spec hr
  obtain ⟨s, hs, hlo, rfl⟩ := hp
  rw [hv] at hs
  exact ⟨s, hs, hlo, rfl, hH.row _ _ hg s hs⟩
theorem uptrA_sim {P : Program} {ρ : Ren} {H : AHeap} {w : World} (hH : RelH P ρ H w) {src dst : TypeId} {x x' v : Value} (h : uptrA P H src dst x = some v) (hx : VR ρ x x') :
    ∃ v', VR ρ v v' ∧ (convert src dst x').run P w = .ok v' w := by
  unfold uptrA at h
  split at h
  · rename_i t a hs hd
    split at h
    case h_2 => cases h
    rename_i k r hsz hr
    split at h
    case isFalse => cases h
    rename_i hlt
    obtain rfl := Option.some.inj h
    cases hx with
    | ptr hp =>
      obtain ⟨s, h1, h2, rfl, g1, g2, _, c, fz, hc, hcs, hfit, _⟩ := rowAt_world hH hr hp
      have hsh : w.shape? s.blk = some (r.elem, c.size) := by simp [World.shape?, hc]
      have hlt' : ¬ c.size ≤ s.base + (a.off - s.lo) := by omega
      refine ⟨_, .ptr hp, ?_⟩
      simp [convert, run_underlying hs, run_underlying hd, Conv.unsafePointer, Conv.seenAt, viewAt, cellsIn, Seg.at, hsh, run_sizeT hsz, hlt']
  · rename_i u a hs hd
    split at h
    case h_2 => cases h
    rename_i k r hsz hr
    split at h
    case isFalse => cases h
    rename_i hc0
    obtain ⟨he, hrw, hver, hoff, hle⟩ := hc0
    obtain rfl := Option.some.inj h
    cases hx with
    | ptr hp =>
      obtain ⟨s, h1, h2, rfl, g1, g2, g3, c, fz, hc, hcs, hfit, _⟩ := rowAt_world hH hr hp
      obtain ⟨hb0, hl0⟩ := (g3 hrw).2 hver
      subst he
      have hsh : w.shape? s.blk = some (r.elem, c.size) := by simp [World.shape?, hc]
      have hco := cellsOf_sz hsz
      have hl := liesAt_own (P := P) hco (c.size / (k + 1)) 0 1 (by
        rw [Nat.zero_add]
        exact (Nat.le_div_iff_mul_le (by omega)).2 (by omega))
      simp only [Nat.zero_mul] at hl
      have hat : s.at a.off = ⟨s.blk, 0, none⟩ := by simp [Seg.at, hb0, hl0, hoff]
      refine ⟨_, .ptr hp, ?_⟩
      rw [hat]
      simp [convert, run_underlying hs, run_underlying hd, Conv.unsafePointer, Conv.seenAt, viewAt, variablesAt, hsh, run_sizeT hsz, hco, hl]
  · cases h

def aR (P : Program) (ev : Operand → Value) (H : AHeap) (o : Oper) : Option Value :=
  match o.op with
  | .load t x => loadA P H t (ev x)
  | .convert src dst x => match toStrA P H src dst (ev x) with
    | some v => some v
    | none => uptrA P H src dst (ev x)
  | _ => none
theorem aR_sim {P : Program} {ρ : Ren} {H : AHeap} {w : World} (hH : RelH P ρ H w) {ev ev' : Operand → Value} {o : Oper} {v : Value} (h : aR P ev H o = some v)
    (hv : ∀ x ∈ o.op.operands, VR ρ (ev x) (ev' x)) : ∃ v', VR ρ v v' ∧ (execOp ev' o).run P w = .ok (.value v') w := by
  obtain ⟨dst, op, type, pos, after, guard⟩ := o
  unfold aR at h
  split at h
  · rename_i t x heq
    dsimp only at heq; subst heq
    obtain ⟨v', h1, h2⟩ := loadA_sim hH h (hv x (by simp [Op.operands]))
    exact ⟨v', h1, by simp [execOp, h2]⟩
  · rename_i src dst x heq
    dsimp only at heq; subst heq
    split at h
    · rename_i v1 hv1
      obtain rfl := Option.some.inj h
      obtain ⟨v', h1, h2⟩ := toStrA_sim hH hv1 (hv x (by simp [Op.operands]))
      exact ⟨v', h1, by simp [execOp, h2]⟩
    · obtain ⟨v', h1, h2⟩ := uptrA_sim hH h (hv x (by simp [Op.operands]))
      exact ⟨v', h1, by simp [execOp, h2]⟩
  · cases h

end Go.Ae

/- One step of EtherHonest's script, written down in the book. No condition. -/
import Derived.Test.YtfhpgikgjheobaaEtN
set_option linter.unusedSimpArgs false
set_option linter.unusedVariables false
set_option linter.unnecessarySimpa false
set_option maxRecDepth 100000
set_option maxHeartbeats 1600000
namespace Go.Ae
open Go.Proofs
attribute [local irreducible] awC wpSeq wpS nRes aw aE acall ACalls szT isAggT zeroT byT elemSz fieldOff Program.underlying appendA copyA thenA inBlockA bodyA AHeap.push AHeap.put AHeap.cellsAt AHeap.setCells resV loadA intBin EW EC EX Nr Nc Er Cr Agree

def tbl27 : Tbl := [(8, [0, 1, 2, 3, 4, 5, 6, 7, 8, 9, 10], [0, 0, 2, 6, 14, 0, 32, 126, 255, 511, 1023])]

/-- The book at block k; O: the rows of its list, D: the rows of their bytes. -/
structure Bk (H : AHeap) (O D : Blks) (k : Nat) (S : List Msg) (c d p fl : Nat) : Prop where
  row : ∃ sv cells, H.get k = some (.row ⟨[sv, .int .i64 c, .int .i64 d, .int .i64 p, .int .i64 fl], 69, 0, true⟩) ∧ Opn H O 32 3 sv S.length cells ∧
    ∀ i x, S[i]? = some x → ∃ dv, (cells.drop (i * 3)).take 3 = [.int .i64 x.1, .int .i64 x.2.1, dv] ∧ BR H D dv x.2.2
  kn : k < H.next
  ob : ∀ b, O b → b < H.next
  db : ∀ b, D b → b < H.next
  ok : ¬ O k
  dk : ¬ D k
  od : ∀ b, O b → ¬ D b
theorem Bk.keep {H H' : AHeap} {O D G : Blks} {k c d p fl : Nat} {S : List Msg} (h : Bk H O D k S c d p fl) (hk : Keep G H H') (hG : ∀ b, G b → b ≠ k ∧ ¬ O b ∧ ¬ D b) : Bk H' O D k S c d p fl := by
  obtain ⟨sv, cells, h1, h2, h3⟩ := h.row
  refine ⟨⟨sv, cells, hk.row h1 h.kn (fun hg => (hG k hg).1 rfl), h2.keep hk fun b _ hb _ hg => (hG b hg).2.1 hb, fun i x hx => ?_⟩, Nat.lt_of_lt_of_le h.kn hk.1, fun b hb => Nat.lt_of_lt_of_le (h.ob b hb) hk.1, fun b hb => Nat.lt_of_lt_of_le (h.db b hb) hk.1, h.ok, h.dk, h.od⟩
  obtain ⟨dv, h4, h5⟩ := h3 i x hx
  exact ⟨dv, h4, Rd.keep h5 hk fun b _ hb hg => (hG b hg).2.2 hb⟩
theorem Bk.keep0 {H H' : AHeap} {O D : Blks} {k c d p fl : Nat} {S : List Msg} (h : Bk H O D k S c d p fl) (hk : Keep No H H') : Bk H' O D k S c d p fl := h.keep hk fun _ h => h.elim
/-- Other counts. -/
theorem Bk.count {H : AHeap} {O D : Blks} {k c d p fl c' d' p' fl' : Nat} {S : List Msg} {sv : Value} (h : Bk H O D k S c d p fl) (hg : H.get k = some (.row ⟨[sv, .int .i64 c, .int .i64 d, .int .i64 p, .int .i64 fl], 69, 0, true⟩)) :
    Bk (H.put k (.row ⟨[sv, .int .i64 c', .int .i64 d', .int .i64 p', .int .i64 fl'], 69, 0, true⟩)) O D k S c' d' p' fl' := by
  obtain ⟨sv', cells, h1, h2, h3⟩ := h.row
  rw [hg] at h1
  simp only [Option.some.injEq, AObj.row.injEq, Row.mk.injEq, List.cons.injEq] at h1
  obtain rfl := h1.1.1
  have hk : Keep (fun b => b = k) H (H.put k (.row ⟨[sv, .int .i64 c', .int .i64 d', .int .i64 p', .int .i64 fl'], 69, 0, true⟩)) := Keep.refl.put fun _ => rfl
  refine ⟨⟨sv, cells, by rw [AHeap.put_get, if_pos rfl], h2.keep hk (fun b _ hb _ hg => h.ok (hg ▸ hb)), fun i x hx => ?_⟩, by rw [AHeap.put_next]; exact h.kn, fun b hb => by rw [AHeap.put_next]; exact h.ob b hb, fun b hb => by rw [AHeap.put_next]; exact h.db b hb, h.ok, h.dk, h.od⟩
  obtain ⟨dv, h4, h5⟩ := h3 i x hx
  exact ⟨dv, h4, Rd.keep h5 hk fun b _ hb hg => h.dk (hg ▸ hb)⟩
theorem Bk.reads {H : AHeap} {O D : Blks} {k c d p fl : Nat} {S : List Msg} (h : Bk H O D k S c d p fl) : ∃ sv, H.get k = some (.row ⟨[sv, .int .i64 c, .int .i64 d, .int .i64 p, .int .i64 fl], 69, 0, true⟩) ∧ FlR H (Or O D) sv S := by
  obtain ⟨sv, cells, h1, h2, h3⟩ := h.row
  refine ⟨sv, h1, cells, h2.rd.weak fun b _ hb => .inl hb, fun i x hx => ?_⟩
  obtain ⟨dv, h4, h5⟩ := h3 i x hx
  exact ⟨dv, h4, Rd.weak h5 fun b _ hb => .inr hb⟩
/-- One more packet in the book: the list laid on (H to H1), the book's row written. -/
theorem Bk.snoc {H H1 : AHeap} {O D : Blks} {k c d p fl : Nat} {S : List Msg} {x : Msg} {sv' dv : Value} {cells : List Value} (h : Bk H O D k S c d p fl) {Dn : Blks}
    (hcells : ∀ i y, S[i]? = some y → ∃ dv, (cells.drop (i * 3)).take 3 = [.int .i64 y.1, .int .i64 y.2.1, dv] ∧ BR H D dv y.2.2) (hlen : cells.length = S.length * 3)
    (ho : Opn H1 (Or O (New H H1)) 32 3 sv' (S.length + 1) (cells ++ [.int .i64 x.1, .int .i64 x.2.1, dv])) (hk : Keep O H H1) (hd : BR H Dn dv x.2.2) (hDn : ∀ b, Dn b → b < H.next ∧ b ≠ k ∧ ¬ O b) :
    Bk (H1.put k (.row ⟨[sv', .int .i64 c, .int .i64 d, .int .i64 p, .int .i64 fl], 69, 0, true⟩)) (Or O (New H H1)) (Or D Dn) k (S ++ [x]) c d p fl := by
  have hkk : Keep (fun b => b = k) H1 (H1.put k (.row ⟨[sv', .int .i64 c, .int .i64 d, .int .i64 p, .int .i64 fl], 69, 0, true⟩)) := Keep.refl.put fun _ => rfl
  have hok : ¬ Or O (New H H1) k := fun h' => h'.elim h.ok fun h' => by have := h'.1; have := h.kn; omega
  refine ⟨⟨sv', cells ++ [.int .i64 x.1, .int .i64 x.2.1, dv], by rw [AHeap.put_get, if_pos rfl], ?_, ?_⟩, ?_, ?_, ?_, hok, ?_, ?_⟩
  · rw [List.length_append]
    exact ho.keep hkk fun b _ hb _ hg => hok (hg ▸ hb)
  · intro i y hy
    have br : ∀ (Dx : Blks) (dv : Value) (z : List UInt8), BR H Dx dv z → (∀ b, Dx b → b ≠ k ∧ ¬ O b) → (∀ b, Dx b → Or D Dn b) → BR (H1.put k (.row ⟨[sv', .int .i64 c, .int .i64 d, .int .i64 p, .int .i64 fl], 69, 0, true⟩)) (Or D Dn) dv z :=
      fun Dx dv z hb h1 h2 => Rd.weak (Rd.keep (Rd.keep hb hk fun b _ hx ho => (h1 b hx).2 ho) hkk fun b _ hx hg => (h1 b hx).1 hg) fun b _ hx => h2 b hx
    by_cases hi : i < S.length
    · rw [List.getElem?_append_left hi] at hy
      obtain ⟨dv', h4, h5⟩ := hcells i y hy
      refine ⟨dv', ?_, br D dv' _ h5 (fun b hb => ⟨fun he => h.dk (he ▸ hb), fun ho => h.od b ho hb⟩) fun b hb => .inl hb⟩
      rw [List.drop_append_of_le_length (by omega), List.take_append_of_le_length (by simp; omega), h4]
    · have hi' : i = S.length := by have := (List.getElem?_eq_some_iff.1 hy).1; simp at this; omega
      subst hi'
      rw [List.getElem?_append_right (Nat.le_refl _), Nat.sub_self] at hy
      obtain rfl := Option.some.inj hy
      refine ⟨dv, ?_, br Dn dv _ hd (fun b hb => (hDn b hb).2) fun b hb => .inr hb⟩
      rw [← hlen, List.drop_left]
      rfl
  · rw [AHeap.put_next]; exact Nat.lt_of_lt_of_le h.kn hk.1
  · rintro b (hb | hb)
    · rw [AHeap.put_next]; exact Nat.lt_of_lt_of_le (h.ob b hb) hk.1
    · rw [AHeap.put_next]; exact hb.2
  · rintro b (hb | hb)
    · rw [AHeap.put_next]; exact Nat.lt_of_lt_of_le (h.db b hb) hk.1
    · rw [AHeap.put_next]; exact Nat.lt_of_lt_of_le (hDn b hb).1 hk.1
  · rintro (hb | hb)
    · exact h.dk hb
    · exact (hDn k hb).2.1 rfl
  · rintro b (hb | hb) (hb' | hb')
    · exact h.od b hb hb'
    · exact (hDn b hb').2.2 hb
    · have := h.db b hb'; have := hb.1; omega
    · have := (hDn b hb').1; have := hb.1; omega

/-- A network and a book beside one another. -/
structure Hn (H0 H : AHeap) (F O D : Blks) (e k : Nat) (m : Int) (M S : List Msg) (c d p fl : Nat) : Prop where
  kp : Keep No H0 H
  net : NetM H F e m M
  book : Bk H O D k S c d p fl
  apart : ∀ b, F b → b ≠ k ∧ ¬ O b ∧ ¬ D b
  f0 : ∀ b, F b → H0.next ≤ b
  o0 : ∀ b, O b → H0.next ≤ b
  d0 : ∀ b, D b → H0.next ≤ b
  k0 : H0.next ≤ k
section
variable {H0 H H' : AHeap} {F F' O D : Blks} {e k c d p fl c' d' p' fl' : Nat} {m : Int} {M M' S : List Msg}
theorem Hn.keep0 (h : Hn H0 H F O D e k m M S c d p fl) (hk : Keep No H H') : Hn H0 H' F O D e k m M S c d p fl := ⟨h.kp.after hk, h.net.keep0 hk, h.book.keep0 hk, h.apart, h.f0, h.o0, h.d0, h.k0⟩
theorem Hn.step (h : Hn H0 H F O D e k m M S c d p fl) (hk : Keep F H H') (hN : NetM H' F' e m M') (hg : Grow F F' H) : Hn H0 H' F' O D e k m M' S c d p fl :=
  ⟨h.kp.own hk h.f0, hN, h.book.keep hk h.apart, fun b hb => (hg b hb).elim (h.apart b) fun hn => ⟨fun he => by have := h.book.kn; omega, fun ho => by have := h.book.ob b ho; omega, fun hd => by have := h.book.db b hd; omega⟩, hg.own h.kp.1 h.f0, h.o0, h.d0, h.k0⟩
theorem Hn.count {sv : Value} (h : Hn H0 H F O D e k m M S c d p fl) (hg : H.get k = some (.row ⟨[sv, .int .i64 c, .int .i64 d, .int .i64 p, .int .i64 fl], 69, 0, true⟩)) (c' d' p' fl' : Nat) :
    Hn H0 (H.put k (.row ⟨[sv, .int .i64 c', .int .i64 d', .int .i64 p', .int .i64 fl'], 69, 0, true⟩)) F O D e k m M S c' d' p' fl' :=
  ⟨h.kp.own (F := fun b => b = k) (Keep.refl.put fun _ => rfl) (fun b hb => hb ▸ h.k0), h.net.keep (G := fun b => b = k) (Keep.refl.put fun _ => rfl) (fun b _ hb he => (h.apart b hb).1 he), h.book.count hg, h.apart, h.f0, h.o0, h.d0, h.k0⟩
end

/-- One more packet in the book. -/
theorem Hn.snoc {H0 Hx H4 : AHeap} {F O D Dn : Blks} {e k c d p fl : Nat} {m : Int} {M S : List Msg} {x : Msg} {sv' dv : Value} {cells : List Value} (t : Hn H0 Hx F O D e k m M S c d p fl)
    (hcells : ∀ i y, S[i]? = some y → ∃ dv, (cells.drop (i * 3)).take 3 = [.int .i64 y.1, .int .i64 y.2.1, dv] ∧ BR Hx D dv y.2.2) (hlen : cells.length = S.length * 3)
    (ho : Opn H4 (Or O (New Hx H4)) 32 3 sv' (S.length + 1) (cells ++ [.int .i64 x.1, .int .i64 x.2.1, dv])) (hk : Keep O Hx H4) (hd : BR Hx Dn dv x.2.2) (hDn : ∀ b, Dn b → b < Hx.next ∧ b ≠ k ∧ ¬ O b ∧ ¬ F b ∧ H0.next ≤ b) :
    Hn H0 (H4.put k (.row ⟨[sv', .int .i64 c, .int .i64 d, .int .i64 p, .int .i64 fl], 69, 0, true⟩)) F (Or O (New Hx H4)) (Or D Dn) e k m M (S ++ [x]) c d p fl := by
  have hn := t.kp.1
  refine ⟨(t.kp.own hk t.o0).own (F := fun b => b = k) (Keep.refl.put fun _ => rfl) (fun b hb => hb ▸ t.k0), (t.net.keep hk fun b _ hb ho => (t.apart b hb).2.1 ho).keep (G := fun b => b = k) (Keep.refl.put fun _ => rfl) (fun b _ hb he => (t.apart b hb).1 he),
    t.book.snoc hcells hlen ho hk hd (fun b hb => ⟨(hDn b hb).1, (hDn b hb).2.1, (hDn b hb).2.2.1⟩), fun b hb => ⟨(t.apart b hb).1, ?_, ?_⟩, t.f0, ?_, ?_, t.k0⟩
  · rintro (ho' | ho')
    · exact (t.apart b hb).2.1 ho'
    · have := t.net.bound b hb; have := ho'.1; omega
  · rintro (hd' | hd')
    · exact (t.apart b hb).2.2 hd'
    · exact (hDn b hd').2.2.2.1 hb
  · rintro b (hb | hb)
    · exact t.o0 b hb
    · exact Nat.le_trans hn hb.1
  · rintro b (hb | hb)
    · exact t.d0 b hb
    · exact (hDn b hb).2.2.2.2
theorem T29 : AppT Try.prog 29 29 5 0 0 := ⟨Try.underlying29, ⟨_, Try.underlying29, rfl⟩, sz5, by5, ⟨_, ze5⟩⟩
/-- append(nil, bytes...) -/
theorem app_bytes {G : Blks} {H : AHeap} {dv : Value} {bs : List UInt8} (hd : BR H G dv bs) (hl : bs.length ≤ 140737488355328) :
    ∃ v H', appendA Try.prog H 29 29 (.slice none 0 0) dv = some (v, H') ∧ BR H' (New H H') v bs ∧ Keep No H H' ∧ H'.next ≤ H.next + 1 := by
  have hs := Rd.src hd
  by_cases h0 : bs.length = 0
  · obtain rfl := List.eq_nil_of_length_eq_zero h0
    exact ⟨_, _, app_none T29 hs (Nat.le_refl _), .empty _ _, Keep.refl, by omega⟩
  · refine ⟨_, _, app_nil T29 hs h0 (by omega), ?_, Keep.refl.push, by simp⟩
    exact .full ⟨H.next, 0, none⟩ _ _ _ h0 ⟨Nat.le_refl _, by simp⟩ (by simp) (cellsAt_of (by rw [AHeap.push_get, if_pos rfl]) rfl (by simp) (by rw [List.drop_zero, List.take_of_length_le (by simp)]))

/-- What a step does. -/
inductive StepR (m : Int) (M S : List Msg) (c d p fl : Nat) (kind a b : Int) (dat : List UInt8) : Bool → List Msg → List Msg → Nat → Nat → Nat → Nat → Prop
  | send (h : kind = 1) (hs : (sendP m M a b dat).1 = 0) : StepR m M S c d p fl kind a b dat true (sendP m M a b dat).2 (S ++ [(a, b, dat)]) c d p fl
  | nosend (h : kind = 1) (hs : ¬ (sendP m M a b dat).1 = 0) : StepR m M S c d p fl kind a b dat true (sendP m M a b dat).2 S c d p fl
  | none (h : kind = 2) (hn : atI M a = Option.none) : StepR m M S c d p fl kind a b dat true M S c d p fl
  | got (h : kind = 2) (x : Msg) (hx : atI M a = some x) : StepR m M S c d p fl kind a b dat (knownP S fl x) (M.eraseIdx a.toNat) S c (d + 1) p fl
  | drop (h : kind = 3) (hx : (atI M a).isSome = true) : StepR m M S c d p fl kind a b dat true (cutP M a) S c d (p + 1) fl
  | nodrop (h : kind = 3) (hx : (atI M a).isSome = false) : StepR m M S c d p fl kind a b dat true (cutP M a) S c d p fl
  | copy (h : kind = 4) (hc : (copyP M a).1 = 0) : StepR m M S c d p fl kind a b dat true (copyP M a).2 S (c + 1) d p fl
  | nocopy (h : kind = 4) (hc : ¬ (copyP M a).1 = 0) : StepR m M S c d p fl kind a b dat true (copyP M a).2 S c d p fl
  | flip (h : kind = 5) (hf : (flipP M a b).1 = true) : StepR m M S c d p fl kind a b dat true (flipP M a b).2 S c d p (fl + 1)
  | noflip (h : kind = 5) (hf : (flipP M a b).1 = false) : StepR m M S c d p fl kind a b dat true (flipP M a b).2 S c d p fl
  | other (h : kind ≠ 1 ∧ kind ≠ 2 ∧ kind ≠ 3 ∧ kind ≠ 4 ∧ kind ≠ 5) : StepR m M S c d p fl kind a b dat true M S c d p fl

theorem step_calls {H0 H : AHeap} {F O D : Blks} {e k c d p fl : Nat} {m : Int} {M S : List Msg} (t : Hn H0 H F O D e k m M S c d p fl) (kind wh ai bi : Int) (dv : Value) (dat : List UInt8) (hd : BR H0 (fun _ => True) dv dat) (hdl : dat.length ≤ 140737488355328)
    (hb1 : -9223372036854775808 ≤ bi) (hb2 : bi ≤ 9223372036854775807) (hSl : S.length ≤ 3518437208882) (hSs : ∀ s ∈ S, s.2.2.length ≤ 140737488355328) (hc : c ≤ 4611686018427387904) (hd' : d ≤ 4611686018427387904) (hp : p ≤ 4611686018427387904) (hf : fl ≤ 4611686018427387904) :
    ACalls Try.prog 27 #[.pointer (some ⟨k, 0, none⟩), .pointer (some ⟨e, 0, none⟩), .int .i64 m, .agg #[.int .i64 kind, .int .i64 wh, .int .i64 ai, .int .i64 bi, dv]] H fun v H' =>
      ∃ r M' S' c' d' p' fl' F' O' D', v = .bool r ∧ Hn H0 H' F' O' D' e k m M' S' c' d' p' fl' ∧ StepR m M S c d p fl kind ai bi dat r M' S' c' d' p' fl' := by
  obtain ⟨zd, cd, rfl⟩ := Rd.slice hd
  refine k_open (args := [.pointer (some ⟨k, 0, none⟩), .pointer (some ⟨e, 0, none⟩), .int .i64 m, .agg #[.int .i64 kind, .int .i64 wh, .int .i64 ai, .int .i64 bi, .slice zd dat.length cd]]) (E0 := [(0, .pointer (some ⟨k, 0, none⟩)), (1, .pointer (some ⟨e, 0, none⟩)), (2, .int .i64 m), (3, .agg #[.int .i64 kind, .int .i64 wh, .int .i64 ai, .int .i64 bi, .slice zd dat.length cd])]) tbl27 Try.func27 rfl follows (by kernel_rfl) Try.ntmps27 rfl rfl ?_
  have hkn := t.book.kn
  have hlo := t.kp.1
  by_cases h1 : kind = 1
  · subst h1
    repeat' (first
    | (show EW _ _ _ _ _; first | refine ew_p (h := ?_) | refine ew_bu (h := ?_) | refine ew_skip (h := ?_) | refine ew_ld (h := ?_) | (refine ew_fresh ?_; intro b hb; refine ew_nw hb (h := ?_); (try simp only [AHeap.push_next, AHeap.put_next] at hb)) | refine ew_st (h := ?_) | (refine ew_df (ht := ?_) (hf := ?_) <;> intro _) | refine ew_ar (h := ?_) | refine w_nil ?_ | refine w_nilD ?_)
    | (show EC _ _ _ _ _ _ _; first | refine k_seq ?_ | refine k_region ?_ | refine k_draw (h := ?_) | refine k_skip ?_ | refine k_ret ?_ | refine k_exit ?_ | refine k_block ?_ | refine k_true (h := ?_) | refine k_false (h := ?_))
    | (show EX _ (bodyA _ _ _) _ _ _; first | refine x_end1 (hq := ?_))
    | (show EX _ _ _ _ _; first | refine x_normal ?_ | refine x_ret ?_ | refine x_exit ?_ | refine x_same ?_ | refine x_other (h := ?_) | refine x_bnormal ?_ | refine x_bret ?_))
    have t1 : Hn H0 (H.push (.row ⟨[.int .i64 1, .int .i64 wh, .int .i64 ai, .int .i64 bi, .slice zd dat.length cd], 72, 0, true⟩)) F O D e k m M S c d p fl := t.keep0 (by exact kp)
    have hr0 : (H.push (.row ⟨[.int .i64 1, .int .i64 wh, .int .i64 ai, .int .i64 bi, .slice zd dat.length cd], 72, 0, true⟩)).get b = some (.row ⟨[.int .i64 1, .int .i64 wh, .int .i64 ai, .int .i64 bi, .slice zd dat.length cd], 72, 0, true⟩) := by exact rdx
    have hb0n : ¬ F b := fun h => by have := t.net.bound b h; omega
    have hb0o : ¬ O b := fun h => by have := t.book.ob b h; omega
    have hb0l : b < (H.push (.row ⟨[.int .i64 1, .int .i64 wh, .int .i64 ai, .int .i64 bi, .slice zd dat.length cd], 72, 0, true⟩)).next := by simp only [AHeap.push_next]; omega
    (first | (refine' ew_callS (hc := cr_call) (hR := ?_) (h := ?_); rotate_left 1) | (refine' ew_call (hc := cr_call) (hR := ?_) (h := ?_); rotate_left 1))
    · exact sendM ai bi t1.net (Rd.keep0 hd t1.kp) hdl
    rintro _ H2 ⟨rfl, hk2, F2, hN2, hg2⟩
    have t2 := t1.step hk2 hN2 hg2
    have hr02 := hk2.row hr0 hb0l hb0n
    have hle2 := hk2.1
    have hb0l2 : b < H2.next := by omega
    have hbk : b ≠ k := by omega
    obtain ⟨sv, cells, hr, ho, hcl⟩ := t2.book.row
    by_cases hs : (sendP m M ai bi dat).1 = 0
    · have hcond : 0 ≤ ai ∧ ai < m ∧ 0 ≤ bi ∧ bi < m ∧ ai ≠ bi := Classical.byContradiction fun h => by
        unfold sendP at hs
        rw [if_pos h] at hs
        cases hs
      obtain ⟨q1, q2, q3, q4, q5⟩ := hcond
      have hkn2 := t2.book.kn
      repeat' (first
    | (show EW _ _ _ _ _; first | refine ew_p (h := ?_) | refine ew_bu (h := ?_) | refine ew_skip (h := ?_) | refine ew_ld (h := ?_) | (refine ew_fresh ?_; intro b hb; refine ew_nw hb (h := ?_); (try simp only [AHeap.push_next, AHeap.put_next] at hb)) | refine ew_st (h := ?_) | (refine ew_df (ht := ?_) (hf := ?_) <;> intro _) | refine ew_ar (h := ?_) | refine w_nil ?_ | refine w_nilD ?_)
    | (show EC _ _ _ _ _ _ _; first | refine k_seq ?_ | refine k_region ?_ | refine k_draw (h := ?_) | refine k_skip ?_ | refine k_ret ?_ | refine k_exit ?_ | refine k_block ?_ | refine k_true (h := ?_) | refine k_false (h := ?_))
    | (show EX _ (bodyA _ _ _) _ _ _; first | refine x_end1 (hq := ?_))
    | (show EX _ _ _ _ _; first | refine x_normal ?_ | refine x_ret ?_ | refine x_exit ?_ | refine x_same ?_ | refine x_other (h := ?_) | refine x_bnormal ?_ | refine x_bret ?_))
      rename_i b0 hb0
      have t3 : Hn H0 ((H2.push (.row ⟨[.int .i64 0, .int .i64 0, .slice none 0 0], 32, 0, true⟩)).put b (.row ⟨[.int .i64 ai, .int .i64 bi, .slice none 0 0], 32, 0, true⟩)) F2 O D e k m _ S c d p fl := t2.keep0 (by exact kp)
      (first | (refine' ew_appS (hR := ?_) (h := ?_); rotate_left 1) | (refine' ew_app (hR := ?_) (h := ?_); rotate_left 1))
      · exact app_bytes (Rd.keep0 hd t3.kp) hdl
      rintro v H3 ⟨hbr3, hk3, hn3⟩
      obtain ⟨zv, cv, rfl⟩ := Rd.slice hbr3
      have t4 := t3.keep0 hk3
      have hle3 := hk3.1
      simp only [AHeap.push_next, AHeap.put_next] at hle3 hn3
      have e0 := hk3.row0 (i := b0) (r := ⟨[.int .i64 1, .int .i64 wh, .int .i64 ai, .int .i64 bi, .slice zd dat.length cd], 72, 0, true⟩) (by exact rdx) (by simp only [AHeap.push_next, AHeap.put_next]; omega)
      have e1 := hk3.row0 (i := b) (r := ⟨[.int .i64 ai, .int .i64 bi, .slice none 0 0], 32, 0, true⟩) (by exact rdx) (by simp only [AHeap.push_next, AHeap.put_next]; omega)
      have e2 := hk3.row0 (i := k) (r := ⟨[sv, .int .i64 c, .int .i64 d, .int .i64 p, .int .i64 fl], 69, 0, true⟩) (by exact rdx) (by simp only [AHeap.push_next, AHeap.put_next]; omega)
      have hbk' : b ≠ k := by omega
      have hk23 : Keep No H2 H3 := Keep.after (by exact kp) hk3
      repeat' (first
    | (show EW _ _ _ _ _; first | refine ew_p (h := ?_) | refine ew_bu (h := ?_) | refine ew_skip (h := ?_) | refine ew_ld (h := ?_) | (refine ew_fresh ?_; intro b hb; refine ew_nw hb (h := ?_); (try simp only [AHeap.push_next, AHeap.put_next] at hb)) | refine ew_st (h := ?_) | (refine ew_df (ht := ?_) (hf := ?_) <;> intro _) | refine ew_ar (h := ?_) | refine w_nil ?_ | refine w_nilD ?_)
    | (show EC _ _ _ _ _ _ _; first | refine k_seq ?_ | refine k_region ?_ | refine k_draw (h := ?_) | refine k_skip ?_ | refine k_ret ?_ | refine k_exit ?_ | refine k_block ?_ | refine k_true (h := ?_) | refine k_false (h := ?_))
    | (show EX _ (bodyA _ _ _) _ _ _; first | refine x_end1 (hq := ?_))
    | (show EX _ _ _ _ _; first | refine x_normal ?_ | refine x_ret ?_ | refine x_exit ?_ | refine x_same ?_ | refine x_other (h := ?_) | refine x_bnormal ?_ | refine x_bret ?_))
      rename_i b1 hbb1
      obtain ⟨Hx, hHx⟩ : ∃ Hx, Hx = (H3.put b1 (.row ⟨[.int .i64 ai, .int .i64 bi, .slice zv dat.length cv], 32, 0, true⟩)).push (.row ⟨[.int .i64 ai, .int .i64 bi, .slice zv dat.length cv], 32, 0, true⟩) := ⟨_, rfl⟩
      have hkx : Keep No H2 Hx := by rw [hHx]; exact kp
      have hkb : Keep (fun y => y = b1) H3 Hx := by rw [hHx]; exact Keep.push (Keep.put (F := fun y => y = b1) Keep.refl fun _ => rfl)
      have hxn : Hx.next = H3.next + 1 := by rw [hHx, AHeap.push_next, AHeap.put_next]
      have hxs : Hx.get b = some (.row ⟨[.int .i64 ai, .int .i64 bi, .slice zv dat.length cv], 32, 0, true⟩) := by rw [hHx]; exact rdx
      have hx0 : Hx.get b0 = some (.row ⟨[.int .i64 1, .int .i64 wh, .int .i64 ai, .int .i64 bi, .slice zd dat.length cd], 72, 0, true⟩) := by rw [hHx]; exact rdx
      have hxk : Hx.get k = some (.row ⟨[sv, .int .i64 c, .int .i64 d, .int .i64 p, .int .i64 fl], 69, 0, true⟩) := by rw [hHx]; exact rdx
      have t5 := t2.keep0 hkx
      have hbrx : BR Hx _ (.slice zv dat.length cv) dat := Rd.keep hbr3 hkb fun y _ hy he => by have := hy.1; simp only [AHeap.push_next, AHeap.put_next] at this; omega
      rw [← hHx]
      (first | (refine' ew_appS (hR := ?_) (h := ?_); rotate_left 1) | (refine' ew_app (hR := ?_) (h := ?_); rotate_left 1))
      · exact Opn.snoc T36 (ho.keep0 hkx) (news := [.int .i64 ai, .int .i64 bi, .slice zv dat.length cv]) (by refine src_of (by decide) (m := 3) rfl ?_; (first | assumption | (apply cells_row; (focus ((repeat' (first | assumption | (rw [aadd_block]) | (apply gN; (focus (first | exact rfl | omega | (simp only [AHeap.push_next, AHeap.put_next, aadd_block] <;> omega))); (focus exact rfl)) | (apply gO; (focus (first | omega | (simp only [AHeap.push_next, AHeap.put_next, aadd_block, ne_eq] <;> omega)))) | (apply gS; (focus (first | exact rfl | omega | (simp only [AHeap.push_next, AHeap.put_next, aadd_block] <;> omega))); (focus exact rfl)) | (apply gP; (focus (first | omega | (simp only [AHeap.push_next, AHeap.put_next, aadd_block, ne_eq] <;> omega)))) | exact rfl)); done)); (focus exact rfl); (focus exact rfl); (focus (first | exact (rfl : _ = some [_, _, _])))) | (apply cells_k; (focus assumption); (focus (first | assumption | (simp only [aadd_block] <;> first | assumption | omega))); (focus ((repeat' (first | exact Keep.refl | assumption | (apply Keep.push) | (refine Keep.put ?_ ?_; rotate_left; (focus (intro hlt; first | assumption | omega | (exfalso; simp only [AHeap.push_next, AHeap.put_next, aadd_block] at hlt; omega)))))); done))))) (by decide) rfl rfl (by omega)
      rintro sv' H4 ⟨ho4, hk4, hn4, hd4⟩
      refine ⟨by (dsimp only [Mode.kept, Mode.logged, Mode.at]; (repeat' (first | exact (fun _ h => absurd h List.not_mem_nil) | (refine List.forall_mem_cons.2 ⟨?_, ?_⟩) | (refine .inl ?_; exact rfl) | (refine .inl ?_; dsimp only; decide)))), ?_⟩
      have h40 := hk4.row hx0 (by omega) hb0o
      have h4k := hk4.row hxk (by omega) t2.book.ok
      obtain ⟨z4, c4, rfl⟩ := ho4.rd.slice
      repeat' (first
    | (show EW _ _ _ _ _; first | refine ew_p (h := ?_) | refine ew_bu (h := ?_) | refine ew_skip (h := ?_) | refine ew_ld (h := ?_) | (refine ew_fresh ?_; intro b hb; refine ew_nw hb (h := ?_); (try simp only [AHeap.push_next, AHeap.put_next] at hb)) | refine ew_st (h := ?_) | (refine ew_df (ht := ?_) (hf := ?_) <;> intro _) | refine ew_ar (h := ?_) | refine w_nil ?_ | refine w_nilD ?_)
    | (show EC _ _ _ _ _ _ _; first | refine k_seq ?_ | refine k_region ?_ | refine k_draw (h := ?_) | refine k_skip ?_ | refine k_ret ?_ | refine k_exit ?_ | refine k_block ?_ | refine k_true (h := ?_) | refine k_false (h := ?_))
    | (show EX _ (bodyA _ _ _) _ _ _; first | refine x_end1 (hq := ?_))
    | (show EX _ _ _ _ _; first | refine x_normal ?_ | refine x_ret ?_ | refine x_exit ?_ | refine x_same ?_ | refine x_other (h := ?_) | refine x_bnormal ?_ | refine x_bret ?_))
      refine ⟨true, _, _, _, _, _, _, _, _, _, rfl, t5.snoc (x := (ai, bi, dat)) (fun i y hy => let ⟨dv, h4, h5⟩ := hcl i y hy; ⟨dv, h4, Rd.keep0 h5 hkx⟩) ho.rd.length ho4 hk4 hbrx ?_, .send rfl hs⟩
      intro y hy
      have h1 := hy.1
      have h2 := hy.2
      have h3 := t2.kp.1
      simp only [AHeap.push_next, AHeap.put_next] at h1
      refine ⟨by omega, by omega, fun h => ?_, fun h => ?_, by omega⟩
      · have := t2.book.ob y h; omega
      · have := t2.net.bound y h; omega
    · repeat' (first
    | (show EW _ _ _ _ _; first | refine ew_p (h := ?_) | refine ew_bu (h := ?_) | refine ew_skip (h := ?_) | refine ew_ld (h := ?_) | (refine ew_fresh ?_; intro b hb; refine ew_nw hb (h := ?_); (try simp only [AHeap.push_next, AHeap.put_next] at hb)) | refine ew_st (h := ?_) | (refine ew_df (ht := ?_) (hf := ?_) <;> intro _) | refine ew_ar (h := ?_) | refine w_nil ?_ | refine w_nilD ?_)
    | (show EC _ _ _ _ _ _ _; first | refine k_seq ?_ | refine k_region ?_ | refine k_draw (h := ?_) | refine k_skip ?_ | refine k_ret ?_ | refine k_exit ?_ | refine k_block ?_ | refine k_true (h := ?_) | refine k_false (h := ?_))
    | (show EX _ (bodyA _ _ _) _ _ _; first | refine x_end1 (hq := ?_))
    | (show EX _ _ _ _ _; first | refine x_normal ?_ | refine x_ret ?_ | refine x_exit ?_ | refine x_same ?_ | refine x_other (h := ?_) | refine x_bnormal ?_ | refine x_bret ?_))
      exact ⟨true, _, _, _, _, _, _, _, _, _, rfl, t2, .nosend rfl hs⟩
  by_cases h2 : kind = 2
  · subst h2
    repeat' (first
    | (show EW _ _ _ _ _; first | refine ew_p (h := ?_) | refine ew_bu (h := ?_) | refine ew_skip (h := ?_) | refine ew_ld (h := ?_) | (refine ew_fresh ?_; intro b hb; refine ew_nw hb (h := ?_); (try simp only [AHeap.push_next, AHeap.put_next] at hb)) | refine ew_st (h := ?_) | (refine ew_df (ht := ?_) (hf := ?_) <;> intro _) | refine ew_ar (h := ?_) | refine w_nil ?_ | refine w_nilD ?_)
    | (show EC _ _ _ _ _ _ _; first | refine k_seq ?_ | refine k_region ?_ | refine k_draw (h := ?_) | refine k_skip ?_ | refine k_ret ?_ | refine k_exit ?_ | refine k_block ?_ | refine k_true (h := ?_) | refine k_false (h := ?_))
    | (show EX _ (bodyA _ _ _) _ _ _; first | refine x_end1 (hq := ?_))
    | (show EX _ _ _ _ _; first | refine x_normal ?_ | refine x_ret ?_ | refine x_exit ?_ | refine x_same ?_ | refine x_other (h := ?_) | refine x_bnormal ?_ | refine x_bret ?_))
    have t1 : Hn H0 (H.push (.row ⟨[.int .i64 2, .int .i64 wh, .int .i64 ai, .int .i64 bi, .slice zd dat.length cd], 72, 0, true⟩)) F O D e k m M S c d p fl := t.keep0 (by exact kp)
    (first | (refine' ew_callS (hc := cr_call) (hR := ?_) (h := ?_); rotate_left 1) | (refine' ew_call (hc := cr_call) (hR := ?_) (h := ?_); rotate_left 1))
    · exact deliverM ai t1.net
    rintro v H2 (⟨hn, rfl, hk2⟩ | ⟨x, bx, hx, rfl, hk2, hbF, hbn, hbr, F2, hN2, hg2, hnb⟩)
    · have t2 := t1.keep0 hk2
      repeat' (first
    | (show EW _ _ _ _ _; first | refine ew_p (h := ?_) | refine ew_bu (h := ?_) | refine ew_skip (h := ?_) | refine ew_ld (h := ?_) | (refine ew_fresh ?_; intro b hb; refine ew_nw hb (h := ?_); (try simp only [AHeap.push_next, AHeap.put_next] at hb)) | refine ew_st (h := ?_) | (refine ew_df (ht := ?_) (hf := ?_) <;> intro _) | refine ew_ar (h := ?_) | refine w_nil ?_ | refine w_nilD ?_)
    | (show EC _ _ _ _ _ _ _; first | refine k_seq ?_ | refine k_region ?_ | refine k_draw (h := ?_) | refine k_skip ?_ | refine k_ret ?_ | refine k_exit ?_ | refine k_block ?_ | refine k_true (h := ?_) | refine k_false (h := ?_))
    | (show EX _ (bodyA _ _ _) _ _ _; first | refine x_end1 (hq := ?_))
    | (show EX _ _ _ _ _; first | refine x_normal ?_ | refine x_ret ?_ | refine x_exit ?_ | refine x_same ?_ | refine x_other (h := ?_) | refine x_bnormal ?_ | refine x_bret ?_))
      (first | (refine' ew_callS (hc := cr_call) (hR := ?_) (h := ?_); rotate_left 1) | (refine' ew_call (hc := cr_call) (hR := ?_) (h := ?_); rotate_left 1))
      · exact sameFlight_calls (f := 0) (t := 0) (f' := 0) (t' := 0) (F := No) (G := No) (bs := []) (cs := []) _ (.empty _ _) (.empty _ _)
      rintro _ H3 ⟨rfl, hk3⟩
      rw [decide_eq_true ⟨rfl, rfl, rfl⟩]
      have t3 : Hn H0 ((H2.push (.row ⟨[.int .i64 0, .int .i64 0, .slice none 0 0], 32, 0, true⟩)).put b (.row ⟨[.int .i64 0, .int .i64 0, .slice none 0 0], 32, 0, true⟩)) F O D e k m M S c d p fl := t2.keep0 (by exact kp)
      repeat' (first
    | (show EW _ _ _ _ _; first | refine ew_p (h := ?_) | refine ew_bu (h := ?_) | refine ew_skip (h := ?_) | refine ew_ld (h := ?_) | (refine ew_fresh ?_; intro b hb; refine ew_nw hb (h := ?_); (try simp only [AHeap.push_next, AHeap.put_next] at hb)) | refine ew_st (h := ?_) | (refine ew_df (ht := ?_) (hf := ?_) <;> intro _) | refine ew_ar (h := ?_) | refine w_nil ?_ | refine w_nilD ?_)
    | (show EC _ _ _ _ _ _ _; first | refine k_seq ?_ | refine k_region ?_ | refine k_draw (h := ?_) | refine k_skip ?_ | refine k_ret ?_ | refine k_exit ?_ | refine k_block ?_ | refine k_true (h := ?_) | refine k_false (h := ?_))
    | (show EX _ (bodyA _ _ _) _ _ _; first | refine x_end1 (hq := ?_))
    | (show EX _ _ _ _ _; first | refine x_normal ?_ | refine x_ret ?_ | refine x_exit ?_ | refine x_same ?_ | refine x_other (h := ?_) | refine x_bnormal ?_ | refine x_bret ?_))
      exact ⟨true, _, _, _, _, _, _, _, _, _, rfl, t3.keep0 hk3, .none rfl hn⟩
    · have t2 := t1.step hk2 hN2 hg2
      have hbk := (t1.apart bx hbF).1
      have hle2 := hk2.1
      have hkn2 := t2.book.kn
      obtain ⟨sv, hr, _⟩ := t2.book.reads
      repeat' (first
    | (show EW _ _ _ _ _; first | refine ew_p (h := ?_) | refine ew_bu (h := ?_) | refine ew_skip (h := ?_) | refine ew_ld (h := ?_) | (refine ew_fresh ?_; intro b hb; refine ew_nw hb (h := ?_); (try simp only [AHeap.push_next, AHeap.put_next] at hb)) | refine ew_st (h := ?_) | (refine ew_df (ht := ?_) (hf := ?_) <;> intro _) | refine ew_ar (h := ?_) | refine w_nil ?_ | refine w_nilD ?_)
    | (show EC _ _ _ _ _ _ _; first | refine k_seq ?_ | refine k_region ?_ | refine k_draw (h := ?_) | refine k_skip ?_ | refine k_ret ?_ | refine k_exit ?_ | refine k_block ?_ | refine k_true (h := ?_) | refine k_false (h := ?_))
    | (show EX _ (bodyA _ _ _) _ _ _; first | refine x_end1 (hq := ?_))
    | (show EX _ _ _ _ _; first | refine x_normal ?_ | refine x_ret ?_ | refine x_exit ?_ | refine x_same ?_ | refine x_other (h := ?_) | refine x_bnormal ?_ | refine x_bret ?_))
      have t3 := t2.keep0 (H' := (H2.push (.row ⟨[.int .i64 0, .int .i64 0, .slice none 0 0], 32, 0, true⟩)).put b (.row ⟨[.int .i64 x.1, .int .i64 x.2.1, .slice (some ⟨bx, 0, none⟩) x.2.2.length x.2.2.length], 32, 0, true⟩)) (by exact kp)
      have t4 := t3.count (sv := sv) (by exact rdx) c (d + 1) p fl
      obtain ⟨sv4, hr4, hS4⟩ := t4.book.reads
      (first | (refine' ew_callS (hc := cr_call) (hR := ?_) (h := ?_); rotate_left 1) | (refine' ew_call (hc := cr_call) (hR := ?_) (h := ?_); rotate_left 1))
      · exact known_calls (f := x) (d := d + 1) (G := fun y => y = bx) _ hr4 (by simp only [AHeap.push_next, AHeap.put_next]; omega) hS4 (rd_row (e := 5) (rw' := true) (by exact rdx) rfl (by simp only [AHeap.push_next, AHeap.put_next]; omega)) (by omega) hSs
      rintro _ H5 ⟨rfl, hk5⟩
      repeat' (first
    | (show EW _ _ _ _ _; first | refine ew_p (h := ?_) | refine ew_bu (h := ?_) | refine ew_skip (h := ?_) | refine ew_ld (h := ?_) | (refine ew_fresh ?_; intro b hb; refine ew_nw hb (h := ?_); (try simp only [AHeap.push_next, AHeap.put_next] at hb)) | refine ew_st (h := ?_) | (refine ew_df (ht := ?_) (hf := ?_) <;> intro _) | refine ew_ar (h := ?_) | refine w_nil ?_ | refine w_nilD ?_)
    | (show EC _ _ _ _ _ _ _; first | refine k_seq ?_ | refine k_region ?_ | refine k_draw (h := ?_) | refine k_skip ?_ | refine k_ret ?_ | refine k_exit ?_ | refine k_block ?_ | refine k_true (h := ?_) | refine k_false (h := ?_))
    | (show EX _ (bodyA _ _ _) _ _ _; first | refine x_end1 (hq := ?_))
    | (show EX _ _ _ _ _; first | refine x_normal ?_ | refine x_ret ?_ | refine x_exit ?_ | refine x_same ?_ | refine x_other (h := ?_) | refine x_bnormal ?_ | refine x_bret ?_))
      exact ⟨_, _, _, _, _, _, _, _, _, _, rfl, t4.keep0 hk5, .got rfl x hx⟩
  by_cases h3 : kind = 3
  · subst h3
    repeat' (first
    | (show EW _ _ _ _ _; first | refine ew_p (h := ?_) | refine ew_bu (h := ?_) | refine ew_skip (h := ?_) | refine ew_ld (h := ?_) | (refine ew_fresh ?_; intro b hb; refine ew_nw hb (h := ?_); (try simp only [AHeap.push_next, AHeap.put_next] at hb)) | refine ew_st (h := ?_) | (refine ew_df (ht := ?_) (hf := ?_) <;> intro _) | refine ew_ar (h := ?_) | refine w_nil ?_ | refine w_nilD ?_)
    | (show EC _ _ _ _ _ _ _; first | refine k_seq ?_ | refine k_region ?_ | refine k_draw (h := ?_) | refine k_skip ?_ | refine k_ret ?_ | refine k_exit ?_ | refine k_block ?_ | refine k_true (h := ?_) | refine k_false (h := ?_))
    | (show EX _ (bodyA _ _ _) _ _ _; first | refine x_end1 (hq := ?_))
    | (show EX _ _ _ _ _; first | refine x_normal ?_ | refine x_ret ?_ | refine x_exit ?_ | refine x_same ?_ | refine x_other (h := ?_) | refine x_bnormal ?_ | refine x_bret ?_))
    have t1 : Hn H0 (H.push (.row ⟨[.int .i64 3, .int .i64 wh, .int .i64 ai, .int .i64 bi, .slice zd dat.length cd], 72, 0, true⟩)) F O D e k m M S c d p fl := t.keep0 (by exact kp)
    (first | (refine' ew_callS (hc := cr_call) (hR := ?_) (h := ?_); rotate_left 1) | (refine' ew_call (hc := cr_call) (hR := ?_) (h := ?_); rotate_left 1))
    · exact dropM ai t1.net
    rintro _ H2 ⟨rfl, hk2, F2, hN2, hg2⟩
    have t2 := t1.step hk2 hN2 hg2
    obtain ⟨sv, hr, _⟩ := t2.book.reads
    cases hdr : (atI M ai).isSome with
    | true =>
      repeat' (first
    | (show EW _ _ _ _ _; first | refine ew_p (h := ?_) | refine ew_bu (h := ?_) | refine ew_skip (h := ?_) | refine ew_ld (h := ?_) | (refine ew_fresh ?_; intro b hb; refine ew_nw hb (h := ?_); (try simp only [AHeap.push_next, AHeap.put_next] at hb)) | refine ew_st (h := ?_) | (refine ew_df (ht := ?_) (hf := ?_) <;> intro _) | refine ew_ar (h := ?_) | refine w_nil ?_ | refine w_nilD ?_)
    | (show EC _ _ _ _ _ _ _; first | refine k_seq ?_ | refine k_region ?_ | refine k_draw (h := ?_) | refine k_skip ?_ | refine k_ret ?_ | refine k_exit ?_ | refine k_block ?_ | refine k_true (h := ?_) | refine k_false (h := ?_))
    | (show EX _ (bodyA _ _ _) _ _ _; first | refine x_end1 (hq := ?_))
    | (show EX _ _ _ _ _; first | refine x_normal ?_ | refine x_ret ?_ | refine x_exit ?_ | refine x_same ?_ | refine x_other (h := ?_) | refine x_bnormal ?_ | refine x_bret ?_))
      exact ⟨true, _, _, _, _, _, _, _, _, _, rfl, t2.count hr c d (p + 1) fl, .drop rfl hdr⟩
    | false =>
      repeat' (first
    | (show EW _ _ _ _ _; first | refine ew_p (h := ?_) | refine ew_bu (h := ?_) | refine ew_skip (h := ?_) | refine ew_ld (h := ?_) | (refine ew_fresh ?_; intro b hb; refine ew_nw hb (h := ?_); (try simp only [AHeap.push_next, AHeap.put_next] at hb)) | refine ew_st (h := ?_) | (refine ew_df (ht := ?_) (hf := ?_) <;> intro _) | refine ew_ar (h := ?_) | refine w_nil ?_ | refine w_nilD ?_)
    | (show EC _ _ _ _ _ _ _; first | refine k_seq ?_ | refine k_region ?_ | refine k_draw (h := ?_) | refine k_skip ?_ | refine k_ret ?_ | refine k_exit ?_ | refine k_block ?_ | refine k_true (h := ?_) | refine k_false (h := ?_))
    | (show EX _ (bodyA _ _ _) _ _ _; first | refine x_end1 (hq := ?_))
    | (show EX _ _ _ _ _; first | refine x_normal ?_ | refine x_ret ?_ | refine x_exit ?_ | refine x_same ?_ | refine x_other (h := ?_) | refine x_bnormal ?_ | refine x_bret ?_))
      exact ⟨true, _, _, _, _, _, _, _, _, _, rfl, t2, .nodrop rfl hdr⟩
  by_cases h4 : kind = 4
  · subst h4
    repeat' (first
    | (show EW _ _ _ _ _; first | refine ew_p (h := ?_) | refine ew_bu (h := ?_) | refine ew_skip (h := ?_) | refine ew_ld (h := ?_) | (refine ew_fresh ?_; intro b hb; refine ew_nw hb (h := ?_); (try simp only [AHeap.push_next, AHeap.put_next] at hb)) | refine ew_st (h := ?_) | (refine ew_df (ht := ?_) (hf := ?_) <;> intro _) | refine ew_ar (h := ?_) | refine w_nil ?_ | refine w_nilD ?_)
    | (show EC _ _ _ _ _ _ _; first | refine k_seq ?_ | refine k_region ?_ | refine k_draw (h := ?_) | refine k_skip ?_ | refine k_ret ?_ | refine k_exit ?_ | refine k_block ?_ | refine k_true (h := ?_) | refine k_false (h := ?_))
    | (show EX _ (bodyA _ _ _) _ _ _; first | refine x_end1 (hq := ?_))
    | (show EX _ _ _ _ _; first | refine x_normal ?_ | refine x_ret ?_ | refine x_exit ?_ | refine x_same ?_ | refine x_other (h := ?_) | refine x_bnormal ?_ | refine x_bret ?_))
    have t1 : Hn H0 (H.push (.row ⟨[.int .i64 4, .int .i64 wh, .int .i64 ai, .int .i64 bi, .slice zd dat.length cd], 72, 0, true⟩)) F O D e k m M S c d p fl := t.keep0 (by exact kp)
    (first | (refine' ew_callS (hc := cr_call) (hR := ?_) (h := ?_); rotate_left 1) | (refine' ew_call (hc := cr_call) (hR := ?_) (h := ?_); rotate_left 1))
    · exact copyM ai t1.net
    rintro _ H2 ⟨rfl, hk2, F2, hN2, hg2⟩
    have t2 := t1.step hk2 hN2 hg2
    obtain ⟨sv, hr, _⟩ := t2.book.reads
    by_cases hcc : (copyP M ai).1 = 0
    · repeat' (first
    | (show EW _ _ _ _ _; first | refine ew_p (h := ?_) | refine ew_bu (h := ?_) | refine ew_skip (h := ?_) | refine ew_ld (h := ?_) | (refine ew_fresh ?_; intro b hb; refine ew_nw hb (h := ?_); (try simp only [AHeap.push_next, AHeap.put_next] at hb)) | refine ew_st (h := ?_) | (refine ew_df (ht := ?_) (hf := ?_) <;> intro _) | refine ew_ar (h := ?_) | refine w_nil ?_ | refine w_nilD ?_)
    | (show EC _ _ _ _ _ _ _; first | refine k_seq ?_ | refine k_region ?_ | refine k_draw (h := ?_) | refine k_skip ?_ | refine k_ret ?_ | refine k_exit ?_ | refine k_block ?_ | refine k_true (h := ?_) | refine k_false (h := ?_))
    | (show EX _ (bodyA _ _ _) _ _ _; first | refine x_end1 (hq := ?_))
    | (show EX _ _ _ _ _; first | refine x_normal ?_ | refine x_ret ?_ | refine x_exit ?_ | refine x_same ?_ | refine x_other (h := ?_) | refine x_bnormal ?_ | refine x_bret ?_))
      exact ⟨true, _, _, _, _, _, _, _, _, _, rfl, t2.count hr (c + 1) d p fl, .copy rfl hcc⟩
    · repeat' (first
    | (show EW _ _ _ _ _; first | refine ew_p (h := ?_) | refine ew_bu (h := ?_) | refine ew_skip (h := ?_) | refine ew_ld (h := ?_) | (refine ew_fresh ?_; intro b hb; refine ew_nw hb (h := ?_); (try simp only [AHeap.push_next, AHeap.put_next] at hb)) | refine ew_st (h := ?_) | (refine ew_df (ht := ?_) (hf := ?_) <;> intro _) | refine ew_ar (h := ?_) | refine w_nil ?_ | refine w_nilD ?_)
    | (show EC _ _ _ _ _ _ _; first | refine k_seq ?_ | refine k_region ?_ | refine k_draw (h := ?_) | refine k_skip ?_ | refine k_ret ?_ | refine k_exit ?_ | refine k_block ?_ | refine k_true (h := ?_) | refine k_false (h := ?_))
    | (show EX _ (bodyA _ _ _) _ _ _; first | refine x_end1 (hq := ?_))
    | (show EX _ _ _ _ _; first | refine x_normal ?_ | refine x_ret ?_ | refine x_exit ?_ | refine x_same ?_ | refine x_other (h := ?_) | refine x_bnormal ?_ | refine x_bret ?_))
      exact ⟨true, _, _, _, _, _, _, _, _, _, rfl, t2, .nocopy rfl hcc⟩
  by_cases h5 : kind = 5
  · subst h5
    repeat' (first
    | (show EW _ _ _ _ _; first | refine ew_p (h := ?_) | refine ew_bu (h := ?_) | refine ew_skip (h := ?_) | refine ew_ld (h := ?_) | (refine ew_fresh ?_; intro b hb; refine ew_nw hb (h := ?_); (try simp only [AHeap.push_next, AHeap.put_next] at hb)) | refine ew_st (h := ?_) | (refine ew_df (ht := ?_) (hf := ?_) <;> intro _) | refine ew_ar (h := ?_) | refine w_nil ?_ | refine w_nilD ?_)
    | (show EC _ _ _ _ _ _ _; first | refine k_seq ?_ | refine k_region ?_ | refine k_draw (h := ?_) | refine k_skip ?_ | refine k_ret ?_ | refine k_exit ?_ | refine k_block ?_ | refine k_true (h := ?_) | refine k_false (h := ?_))
    | (show EX _ (bodyA _ _ _) _ _ _; first | refine x_end1 (hq := ?_))
    | (show EX _ _ _ _ _; first | refine x_normal ?_ | refine x_ret ?_ | refine x_exit ?_ | refine x_same ?_ | refine x_other (h := ?_) | refine x_bnormal ?_ | refine x_bret ?_))
    have t1 : Hn H0 (H.push (.row ⟨[.int .i64 5, .int .i64 wh, .int .i64 ai, .int .i64 bi, .slice zd dat.length cd], 72, 0, true⟩)) F O D e k m M S c d p fl := t.keep0 (by exact kp)
    (first | (refine' ew_callS (hc := cr_call) (hR := ?_) (h := ?_); rotate_left 1) | (refine' ew_call (hc := cr_call) (hR := ?_) (h := ?_); rotate_left 1))
    · exact flipM ai bi t1.net hb1 hb2
    rintro _ H2 ⟨rfl, hk2, hN2⟩
    have t2 := t1.step hk2 hN2 Grow.refl
    obtain ⟨sv, hr, _⟩ := t2.book.reads
    cases hff : (flipP M ai bi).1 with
    | true =>
      repeat' (first
    | (show EW _ _ _ _ _; first | refine ew_p (h := ?_) | refine ew_bu (h := ?_) | refine ew_skip (h := ?_) | refine ew_ld (h := ?_) | (refine ew_fresh ?_; intro b hb; refine ew_nw hb (h := ?_); (try simp only [AHeap.push_next, AHeap.put_next] at hb)) | refine ew_st (h := ?_) | (refine ew_df (ht := ?_) (hf := ?_) <;> intro _) | refine ew_ar (h := ?_) | refine w_nil ?_ | refine w_nilD ?_)
    | (show EC _ _ _ _ _ _ _; first | refine k_seq ?_ | refine k_region ?_ | refine k_draw (h := ?_) | refine k_skip ?_ | refine k_ret ?_ | refine k_exit ?_ | refine k_block ?_ | refine k_true (h := ?_) | refine k_false (h := ?_))
    | (show EX _ (bodyA _ _ _) _ _ _; first | refine x_end1 (hq := ?_))
    | (show EX _ _ _ _ _; first | refine x_normal ?_ | refine x_ret ?_ | refine x_exit ?_ | refine x_same ?_ | refine x_other (h := ?_) | refine x_bnormal ?_ | refine x_bret ?_))
      exact ⟨true, _, _, _, _, _, _, _, _, _, rfl, t2.count hr c d p (fl + 1), .flip rfl hff⟩
    | false =>
      repeat' (first
    | (show EW _ _ _ _ _; first | refine ew_p (h := ?_) | refine ew_bu (h := ?_) | refine ew_skip (h := ?_) | refine ew_ld (h := ?_) | (refine ew_fresh ?_; intro b hb; refine ew_nw hb (h := ?_); (try simp only [AHeap.push_next, AHeap.put_next] at hb)) | refine ew_st (h := ?_) | (refine ew_df (ht := ?_) (hf := ?_) <;> intro _) | refine ew_ar (h := ?_) | refine w_nil ?_ | refine w_nilD ?_)
    | (show EC _ _ _ _ _ _ _; first | refine k_seq ?_ | refine k_region ?_ | refine k_draw (h := ?_) | refine k_skip ?_ | refine k_ret ?_ | refine k_exit ?_ | refine k_block ?_ | refine k_true (h := ?_) | refine k_false (h := ?_))
    | (show EX _ (bodyA _ _ _) _ _ _; first | refine x_end1 (hq := ?_))
    | (show EX _ _ _ _ _; first | refine x_normal ?_ | refine x_ret ?_ | refine x_exit ?_ | refine x_same ?_ | refine x_other (h := ?_) | refine x_bnormal ?_ | refine x_bret ?_))
      exact ⟨true, _, _, _, _, _, _, _, _, _, rfl, t2, .noflip rfl hff⟩
  · repeat' (first
    | (show EW _ _ _ _ _; first | refine ew_p (h := ?_) | refine ew_bu (h := ?_) | refine ew_skip (h := ?_) | refine ew_ld (h := ?_) | (refine ew_fresh ?_; intro b hb; refine ew_nw hb (h := ?_); (try simp only [AHeap.push_next, AHeap.put_next] at hb)) | refine ew_st (h := ?_) | (refine ew_df (ht := ?_) (hf := ?_) <;> intro _) | refine ew_ar (h := ?_) | refine w_nil ?_ | refine w_nilD ?_)
    | (show EC _ _ _ _ _ _ _; first | refine k_seq ?_ | refine k_region ?_ | refine k_draw (h := ?_) | refine k_skip ?_ | refine k_ret ?_ | refine k_exit ?_ | refine k_block ?_ | refine k_true (h := ?_) | refine k_false (h := ?_))
    | (show EX _ (bodyA _ _ _) _ _ _; first | refine x_end1 (hq := ?_))
    | (show EX _ _ _ _ _; first | refine x_normal ?_ | refine x_ret ?_ | refine x_exit ?_ | refine x_same ?_ | refine x_other (h := ?_) | refine x_bnormal ?_ | refine x_bret ?_))
    exact ⟨true, _, _, _, _, _, _, _, _, _, rfl, t.keep0 (by exact kp), .other ⟨h1, h2, h3, h4, h5⟩⟩

end Go.Ae

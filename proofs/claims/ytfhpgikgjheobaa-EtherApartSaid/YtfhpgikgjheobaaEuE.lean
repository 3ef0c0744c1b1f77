/- eddykept's book over the abstract heap: the lists that have waited are written. No condition. -/
import Derived.Test.YtfhpgikgjheobaaEuD
set_option linter.unusedSimpArgs false
set_option linter.unusedVariables false
set_option linter.unnecessarySimpa false
set_option maxRecDepth 100000
set_option maxHeartbeats 800000
namespace Go.Ae
open Go.Proofs
attribute [local irreducible] awC wpSeq wpS nRes aw aE acall ACalls szT isAggT zeroT byT elemSz fieldOff Program.underlying appendA copyA thenA inBlockA bodyA AHeap.push AHeap.put AHeap.cellsAt AHeap.setCells resV loadA intBin EW EC EX Nr Nc Er Cr Agree

def tbl54 : Tbl := [(8, [0, 1, 2, 3, 4, 5, 6, 7, 8, 9, 10, 11, 12, 13, 14, 15, 16, 17, 18, 19], [0, 0, 2, 6, 14, 30, 62, 62, 254, 510, 62, 62, 3134, 7230, 16382, 32766, 65534, 131071, 262143, 524287]), (10, [0, 1, 2, 3, 4, 5, 6, 7, 8, 9], [0, 0, 0, 6, 14, 0, 0, 96, 224, 511]), (11, [0, 1, 2, 3, 4, 5, 6, 7, 8, 9, 10, 11, 12, 13], [0, 0, 2, 6, 14, 0, 0, 96, 224, 480, 1022, 2047, 4095, 8191]), (12, [0, 1, 2, 3, 4, 5, 6, 7, 8, 9, 10, 11, 12, 13], [0, 0, 2, 6, 14, 0, 0, 96, 224, 480, 1022, 2047, 4095, 8191]), (13, [0, 1, 2, 3, 4, 5, 6, 7, 8, 9, 10, 11, 12, 13], [0, 0, 2, 6, 14, 0, 0, 96, 224, 480, 1022, 2047, 4095, 8191]), (14, [0, 1, 2, 3, 4, 5, 6, 7, 8, 9, 10, 11, 12, 13, 14], [0, 0, 2, 6, 14, 0, 0, 96, 224, 480, 992, 2046, 4095, 8191, 16383])]
theorem T42 : AppT Try.prog 42 42 3 0 7 := ⟨Try.underlying42, ⟨_, Try.underlying42, rfl⟩, sz3, by3, ⟨_, ze3⟩⟩
theorem T23e : AppT Try.prog 23 23 (el 3) 0 23 := T23
theorem T23f : AppT Try.prog 23 23 (el 4) 0 23 := T23
theorem T42e : AppT Try.prog 42 42 (el 5) 0 7 := T42
theorem T42f : AppT Try.prog 42 42 (el 6) 0 7 := T42
def mkV (e : We) : Value := .int .i64 e.mark
def lfV (e : We) : Value := .int .i64 e.lf
/-- What waits, and what is no longer the book's but still read. -/
structure Rs (H : AHeap) (c : Col) (ps : List (Value × Value)) (es : List We) (tw tn tm tl : Value) (old : List We) : Prop where
  dt : Dt H c ps es
  w : Rd H (fun b => c b = 10) 1 tw old.length (old.map We.sl)
  n : Rd H (fun b => c b = 10) 1 tn old.length (old.map We.nv)
  m : Rd H (fun b => c b = 10) 1 tm old.length (old.map mkV)
  l : Rd H (fun b => c b = 10) 1 tl old.length (old.map lfV)
section
variable {H H' : AHeap} {c c' : Col} {ps : List (Value × Value)} {es old : List We} {tw tn tm tl : Value} {G : Blks}
theorem rd_move {a n : Nat} {v : Value} {cells : List Value} (h : Rd H (fun b => c b = a) 1 v n cells) (hk : Keep G H H') (hG : ∀ b, c b = a → ¬ G b) (hc : ∀ b, b < H.next → c b = a → c' b = a) : Rd H' (fun b => c' b = a) 1 v n cells := by
  cases h with
  | empty z q => exact .empty z q
  | full ad n q cells hn hF hlt h => exact .full ad n q cells hn (hc _ hlt hF) (Nat.lt_of_lt_of_le hlt hk.1) (by rw [hk.cells hlt (hG _ hF)]; exact h)
theorem Rs.move (h : Rs H c ps es tw tn tm tl old) (hk : Keep G H H') (hG : ∀ b, 7 ≤ c b → c b ≠ 9 → ¬ G b) (hc : ∀ b, 7 ≤ c b → c b ≠ 9 → c' b = c b) : Rs H' c' ps es tw tn tm tl old := by
  have h10 : ∀ b, c b = 10 → ¬ G b := fun b hb => hG b (by omega) (by omega)
  have h10' : ∀ b, b < H.next → c b = 10 → c' b = 10 := fun b _ hb => by rw [hc b (by omega) (by omega)]; exact hb
  exact ⟨h.dt.move hk (fun b hb => hG b (by omega) (by omega)) fun b hb => hc b (by omega) (by omega), rd_move h.w hk h10 h10', rd_move h.n hk h10 h10', rd_move h.m hk h10 h10', rd_move h.l hk h10 h10'⟩
end
/-- One more in a list of the book. -/
theorem Bp.app1 {H : AHeap} {c : Col} {k : Nat} {sv : Nat → Value} {cl : Nat → List Value} (h : Bp H c k sv cl) {P : Program} {a t y e : Nat} {v : Value} (h1 : 1 ≤ a) (h6 : a ≤ 6) (T : AppT P t t (el a) 0 y) (ho : v.oneCell' = true)
    (hL : ((cl a).length + 1) * (y + 1) ≤ 140737488355328) :
    ∃ sv' H1 z q, appendA P (H.push (.row ⟨[v], e, 0, true⟩)) t t (sv a) (.slice (some ⟨H.next, 0, none⟩) 1 1) = some (sv', H1) ∧ sv' = .slice z ((cl a).length + 1) q ∧ Keep (fun b => c b = a) H H1 ∧ H.next < H1.next ∧
      ∃ c', (∀ b, b < H.next → c' b = c b) ∧ (∀ b, c' b = 0 ∨ c' b = a ∨ c' b = c b) ∧ Bp H1 c' k (upd sv a sv') (upd cl a (cl a ++ [v])) := by
  have hk : Keep No H (H.push (.row ⟨[v], e, 0, true⟩)) := Keep.refl.push
  have hp := h.keep hk fun _ h => h.elim
  obtain ⟨sv', H1, a1, p1, k1, n1, z, q, e1⟩ := hp.app h1 h6 T (x := .slice (some ⟨H.next, 0, none⟩) 1 1) (m := 1) (news := [v]) (src_of (by decide) (m := 1) rfl (cellsAt_of (ad := ⟨H.next, 0, none⟩) (by rw [AHeap.push_get, if_pos rfl]) rfl (by simp) rfl)) (by decide) rfl (by simp [ho]) hL
  have hn := k1.1
  rw [AHeap.push_next] at hn
  refine ⟨sv', H1, z, q, a1, e1, hk.no.trans k1 fun _ _ h => h, by omega, _, fun b hb => recol_old (by rw [AHeap.push_next]; omega), fun b => ?_, p1⟩
  unfold Ae.recol
  split
  · exact .inr (.inl rfl)
  · exact .inr (.inr rfl)

/-- Four lists begin anew; what they were is still read. -/
theorem Bp.retire {H H' : AHeap} {c : Col} {k : Nat} {o t w n m l : Value} {co ct cw cn cm cl : List Value} (h : Bp H c k (six o t w n m l) (six co ct cw cn cm cl)) (hk : Keep (fun b => b = k) H H') :
    Bp H' (fun b => if 3 ≤ c b ∧ c b ≤ 6 then 10 else c b) k (six o t (.slice none 0 0) (.slice none 0 0) (.slice none 0 0) (.slice none 0 0)) (six co ct [] [] [] []) := by
  have hck := h.ck
  refine ⟨Nat.lt_of_lt_of_le h.kn hk.1, by simp [hck], fun b hb => ?_, fun a h1 h6 => ?_⟩
  · refine Nat.lt_of_lt_of_le (h.cb b fun h0 => hb ?_) hk.1
    simp [h0]
  · have hne : ∀ b, 1 ≤ c b → c b ≤ 6 → ¬ b = k := fun b h1 h6 he => by rw [he, hck] at h6; omega
    have hc : a = 1 ∨ a = 2 ∨ a = 3 ∨ a = 4 ∨ a = 5 ∨ a = 6 := by omega
    rcases hc with rfl | rfl | rfl | rfl | rfl | rfl
    · refine ((h.parts 1 (by decide) (by decide)).keep hk fun b _ hb _ => hne b (by have hb' : c b = 1 := hb; omega) (by have hb' : c b = 1 := hb; omega)).weak fun b hb => ?_
      have hb' : c b = 1 := hb
      simp [hb']
    · refine ((h.parts 2 (by decide) (by decide)).keep hk fun b _ hb _ => hne b (by have hb' : c b = 2 := hb; omega) (by have hb' : c b = 2 := hb; omega)).weak fun b hb => ?_
      have hb' : c b = 2 := hb
      simp [hb']
    all_goals exact Opn.nil

theorem Bp.six6 {H : AHeap} {c : Col} {k : Nat} {o t w n m l x : Value} {co ct cw cn cm cl y : List Value} (h : Bp H c k (upd (six o t w n m l) 6 x) (upd (six co ct cw cn cm cl) 6 y)) : Bp H c k (six o t w n m x) (six co ct cw cn cm y) := by
  refine ⟨h.kn, h.ck, h.cb, fun a h1 h6 => ?_⟩
  have hp := h.parts a h1 h6
  have hc : a = 1 ∨ a = 2 ∨ a = 3 ∨ a = 4 ∨ a = 5 ∨ a = 6 := by omega
  rcases hc with rfl | rfl | rfl | rfl | rfl | rfl <;> exact hp
/-- A step of the book's own: one more in a list of it, and the row that says so. -/
theorem Rs.app1 {H H1 H2 : AHeap} {c c' : Col} {k a : Nat} {ps : List (Value × Value)} {es old : List We} {tw tn tm tl : Value} (h : Rs H c ps es tw tn tm tl old) (ha : a ≤ 6) (hck : c k = 9) (cb : ∀ b, c b ≠ 0 → b < H.next) (h1 : Keep (fun b => c b = a) H H1) (h2 : Keep (fun b => b = k) H1 H2)
    (hc : ∀ b, b < H.next → c' b = c b) : Rs H2 c' ps es tw tn tm tl old := by
  have h1' := h.move h1 (fun b h7 h9 he => by have he' : c b = a := he; omega) fun b h7 h9 => hc b (cb b (by omega))
  refine h1'.move h2 (fun b h7 h9 he => ?_) fun _ _ _ => rfl
  have he' : b = k := he
  rw [he', hc k (cb k (by omega)), hck] at h9
  omega

theorem rd_at {H : AHeap} {F : Blks} {ad : Addr} {n cp i : Nat} {cells : List Value} {x : Value} (h : Rd H F 1 (.slice (some ad) n cp) n cells) (hi : i < n) (hx : cells[i]? = some x) : F ad.block ∧ ad.block < H.next ∧ H.cellsAt (aadd ad ((i : Int).toNat * 1)) 1 = some [x] := by
  obtain ⟨ad', cp', h1, h2, h3, h4⟩ := h.at hi
  simp only [Value.slice.injEq, Option.some.injEq, true_and] at h1
  obtain ⟨rfl, rfl⟩ := h1
  refine ⟨h2, h3, ?_⟩
  rw [Int.toNat_natCast, h4, Nat.mul_one]
  have hl := (List.getElem?_eq_some_iff.1 hx).1
  rw [List.drop_eq_getElem_cons hl, (List.getElem?_eq_some_iff.1 hx).2]
  rfl

def TnP (H0 : AHeap) (c0 : Col) (k : Nat) (s : Int) (L0 T0 : Nat) (v : Value) (H : AHeap) : Prop :=
  v = .tuple #[] ∧ ∃ c o t w n m l ps es, H.get k = some (.row ⟨bkC false o t w n m l s, 61, 0, true⟩) ∧ Bp H c k (six o t w n m l) (six (ps.map (·.1)) (ps.map (·.2)) (es.map We.sl) (es.map We.nv) (es.map mkV) (es.map lfV)) ∧ Dt H c ps es ∧ Keep (fun b => c0 b ≠ 0) H0 H ∧ (∀ b, b < H0.next → (c b = 0 ↔ c0 b = 0)) ∧
    ps.length + 2 * es.length ≤ L0 + 2 * T0
def TnI (H0 : AHeap) (c0 : Col) (k : Nat) (tw tn tm tl : Value) (old : List We) (s : Int) (L0 : Nat) (n' : Nat) (E : Env) (H : AHeap) : Prop :=
  ∃ (q : Nat) (c : Col) (o t w n m l : Value) (ps : List (Value × Value)) (nw : List We), n' + q = old.length ∧ E = [(6, .int .i64 q), (0, .pointer (some ⟨k, 0, none⟩)), (2, tw), (3, tn), (4, tm), (5, tl)] ∧
    H.get k = some (.row ⟨bkC false o t w n m l s, 61, 0, true⟩) ∧ Bp H c k (six o t w n m l) (six (ps.map (·.1)) (ps.map (·.2)) (nw.map We.sl) (nw.map We.nv) (nw.map mkV) (nw.map lfV)) ∧ Rs H c ps (nw ++ old.drop q) tw tn tm tl old ∧
    Keep (fun b => c0 b ≠ 0) H0 H ∧ (∀ b, b < H0.next → (c b = 0 ↔ c0 b = 0)) ∧ ps.length + 2 * nw.length ≤ L0 + 2 * q
section
variable {H : AHeap} {c : Col} {k : Nat} {o t w n m l : Value} {s : Int} {ps : List (Value × Value)} {es : List We}
theorem turn_calls (hrow : H.get k = some (.row ⟨bkC false o t w n m l s, 61, 0, true⟩)) (hp : Bp H c k (six o t w n m l) (six (ps.map (·.1)) (ps.map (·.2)) (es.map We.sl) (es.map We.nv) (es.map mkV) (es.map lfV))) (hd : Dt H c ps es) (hl : ps.length + 2 * es.length ≤ 900000) :
    ACalls Try.prog 54 #[.pointer (some ⟨k, 0, none⟩)] H (TnP H c k s ps.length es.length) := by
  have hkn := hp.kn
  have r3 : Rd H (fun b => c b = 3) 1 w es.length (es.map We.sl) := by have h := (hp.parts 3 (by decide) (by decide)).rd; rw [show (six (ps.map (·.1)) (ps.map (·.2)) (es.map We.sl) (es.map We.nv) (es.map mkV) (es.map lfV) 3).length = es.length by simp [six]] at h; exact h
  have r4 : Rd H (fun b => c b = 4) 1 n es.length (es.map We.nv) := by have h := (hp.parts 4 (by decide) (by decide)).rd; rw [show (six (ps.map (·.1)) (ps.map (·.2)) (es.map We.sl) (es.map We.nv) (es.map mkV) (es.map lfV) 4).length = es.length by simp [six]] at h; exact h
  have r5 : Rd H (fun b => c b = 5) 1 m es.length (es.map mkV) := by have h := (hp.parts 5 (by decide) (by decide)).rd; rw [show (six (ps.map (·.1)) (ps.map (·.2)) (es.map We.sl) (es.map We.nv) (es.map mkV) (es.map lfV) 5).length = es.length by simp [six]] at h; exact h
  have r6 : Rd H (fun b => c b = 6) 1 l es.length (es.map lfV) := by have h := (hp.parts 6 (by decide) (by decide)).rd; rw [show (six (ps.map (·.1)) (ps.map (·.2)) (es.map We.sl) (es.map We.nv) (es.map mkV) (es.map lfV) 6).length = es.length by simp [six]] at h; exact h
  obtain ⟨zw, qw, rfl⟩ := r3.slice
  obtain ⟨zn, qn, rfl⟩ := r4.slice
  obtain ⟨zm, qm, rfl⟩ := r5.slice
  obtain ⟨zl, ql, rfl⟩ := r6.slice
  refine k_open (args := [.pointer (some ⟨k, 0, none⟩)]) (E0 := [(0, .pointer (some ⟨k, 0, none⟩))]) tbl54 Try.func54 rfl follows (by kernel_rfl) Try.ntmps54 rfl rfl ?_
  repeat' (first
    | (show EW _ _ _ _ _; first | refine ew_bk (h := ?_) | refine ew_p (h := ?_) | refine ew_skip (h := ?_) | refine ew_ld (h := ?_) | (refine ew_fresh ?_; intro b hb; refine ew_nw hb (h := ?_); (try simp only [AHeap.push_next, AHeap.put_next] at hb)) | refine ew_st (h := ?_) | (refine ew_df (ht := ?_) (hf := ?_) <;> intro _) | refine ew_ar (h := ?_) | refine w_nil ?_ | refine w_nilD ?_)
    | (show EC _ _ _ _ _ _ _; first | refine k_seq ?_ | refine k_region ?_ | refine k_draw (h := ?_) | refine k_skip ?_ | refine k_ret ?_ | refine k_exit ?_ | refine k_block ?_ | refine k_true (h := ?_) | refine k_false (h := ?_))
    | (show EX _ (bodyA _ _ _) _ _ _; first | refine x_end0 (hq := ?_))
    | (show EX _ _ _ _ _; first | refine x_normal ?_ | refine x_ret ?_ | refine x_exit ?_ | refine x_same ?_ | refine x_other (h := ?_) | refine x_bnormal ?_ | refine x_bret ?_))
  refine k_loop follows (TnI H c k (.slice zw es.length qw) (.slice zn es.length qn) (.slice zm es.length qm) (.slice zl es.length ql) es s ps.length) es.length [(6, _), (0, _), (2, _), (3, _), (4, _), (5, _)] (by kernel_rfl) ⟨rfl, rfl, rfl, rfl, rfl, rfl, trivial⟩ ?_ ?_
  · have hck := hp.ck
    refine ⟨0, (fun b => if 3 ≤ c b ∧ c b ≤ 6 then 10 else c b), _, _, _, _, _, _, ps, [], by omega, rfl, rdx, hp.retire ?_, ?_, ?_, fun b _ => ?_, by simp⟩
    · repeat (first | exact Keep.refl | refine Keep.put ?_ fun _ => rfl)
    · have hk : Keep (fun b => b = k) H ((((H.put k (.row ⟨bkC false o t (.slice none 0 0) (.slice zn es.length qn) (.slice zm es.length qm) (.slice zl es.length ql) s, 61, 0, true⟩)).put k (.row ⟨bkC false o t (.slice none 0 0) (.slice none 0 0) (.slice zm es.length qm) (.slice zl es.length ql) s, 61, 0, true⟩)).put k
          (.row ⟨bkC false o t (.slice none 0 0) (.slice none 0 0) (.slice none 0 0) (.slice zl es.length ql) s, 61, 0, true⟩)).put k (.row ⟨bkC false o t (.slice none 0 0) (.slice none 0 0) (.slice none 0 0) (.slice none 0 0) s, 61, 0, true⟩)) := by
        repeat (first | exact Keep.refl | refine Keep.put ?_ fun _ => rfl)
      have hG : ∀ b a, c b = a → a ≠ 9 → ¬ b = k := fun b a hb ha he => by rw [he, hck] at hb; omega
      refine ⟨hd.move hk (fun b hb he => by have he' : b = k := he; rw [he', hck] at hb; omega) fun b hb => if_neg (by omega), ?_, ?_, ?_, ?_⟩
      · exact Rd.weak (r3.keep hk fun b _ hb => hG b 3 hb (by decide)) fun b _ hb => if_pos (by have hb' : c b = 3 := hb; omega)
      · exact Rd.weak (r4.keep hk fun b _ hb => hG b 4 hb (by decide)) fun b _ hb => if_pos (by have hb' : c b = 4 := hb; omega)
      · exact Rd.weak (r5.keep hk fun b _ hb => hG b 5 hb (by decide)) fun b _ hb => if_pos (by have hb' : c b = 5 := hb; omega)
      · exact Rd.weak (r6.keep hk fun b _ hb => hG b 6 hb (by decide)) fun b _ hb => if_pos (by have hb' : c b = 6 := hb; omega)
    · have hkk : ∀ b, b = k → c b ≠ 0 := fun b hb h0 => by rw [hb, hck] at h0; omega
      repeat (first | exact Keep.refl | refine Keep.put ?_ fun _ => hkk _ rfl)
    · by_cases h : 3 ≤ c b ∧ c b ≤ 6
      · show (if 3 ≤ c b ∧ c b ≤ 6 then 10 else c b) = 0 ↔ _; rw [if_pos h]; omega
      · show (if 3 ≤ c b ∧ c b ≤ 6 then 10 else c b) = 0 ↔ _; rw [if_neg h]
  rintro n' E H1 ⟨q, c1, o1, t1, w1, n1, m1, l1, ps1, nw, hq, rfl, hrow1, hp1, hr1, hk1, hcol, hl1⟩
  have hn1 := hk1.1
  have hkn1 := hp1.kn
  by_cases hlt : q < es.length
  · obtain ⟨e, he⟩ : ∃ e, es[q]? = some e := ⟨es[q], List.getElem?_eq_getElem hlt⟩
    have hdrop : es.drop q = e :: es.drop (q + 1) := by rw [List.drop_eq_getElem_cons hlt]; congr 1; exact (List.getElem?_eq_some_iff.1 he).2
    have at1 : ∀ {v : Value} {f : We → Value}, Rd H1 (fun b => c1 b = 10) 1 v es.length (es.map f) → ∃ ad cp, v = .slice (some ad) es.length cp ∧ c1 ad.block = 10 ∧ ad.block < H1.next ∧ H1.cellsAt (aadd ad ((q : Int).toNat * 1)) 1 = some [f e] := fun {v f} h => by
      obtain ⟨ad, cp, h1, h2, h3, h4⟩ := h.at hlt
      refine ⟨ad, cp, h1, h2, h3, ?_⟩
      rw [Int.toNat_natCast, h4, Nat.mul_one, ← List.map_drop, hdrop]
      rfl
    obtain ⟨aw, cw, ew, fw, lw, hw⟩ := at1 hr1.w
    obtain ⟨an, cn, en, fn, ln, hn⟩ := at1 hr1.n
    obtain ⟨am, cm, em, fm, lm, hm⟩ := at1 hr1.m
    obtain ⟨al, cl, el', fl, ll, hl'⟩ := at1 hr1.l
    simp only [Value.slice.injEq, true_and] at ew en em el'
    obtain ⟨rfl, rfl⟩ := ew
    obtain ⟨rfl, rfl⟩ := en
    obtain ⟨rfl, rfl⟩ := em
    obtain ⟨rfl, rfl⟩ := el'
    have hd1 := hr1.dt
    rw [hdrop] at hd1
    have hwe := hd1.en e (by simp)
    have hlen := hwe.len
    have hf0 := hwe.lf0
    have hf1 := hwe.lf1
    obtain ⟨znv, qnv, hnv⟩ := Rd.slice hwe.nv
    rw [hnv] at hn
    have hw' : H1.cellsAt (aadd aw ((q : Int).toNat * 1)) 1 = some [.slice (some ⟨e.blk, 0, none⟩) e.bs.length e.bs.length] := hw
    have hm' : H1.cellsAt (aadd am ((q : Int).toNat * 1)) 1 = some [.int .i64 e.mark] := hm
    have hl2' : H1.cellsAt (aadd al ((q : Int).toNat * 1)) 1 = some [.int .i64 e.lf] := hl'
    clear hw hm hl'
    repeat' (first
    | (show EW _ _ _ _ _; first | refine ew_p (h := ?_) | refine ew_skip (h := ?_) | refine ew_ld (h := ?_) | (refine ew_fresh ?_; intro b hb; refine ew_nw hb (h := ?_); (try simp only [AHeap.push_next, AHeap.put_next] at hb)) | (refine ew_df (ht := ?_) (hf := ?_) <;> intro _) | refine ew_ar (h := ?_) | refine w_nil ?_ | refine w_nilD ?_)
    | (show EC _ _ _ _ _ _ _; first | refine k_seq ?_ | refine k_region ?_ | refine k_draw (h := ?_) | refine k_skip ?_ | refine k_ret ?_ | refine k_exit ?_ | refine k_block ?_ | refine k_true (h := ?_) | refine k_false (h := ?_))
    | (show EX _ (bodyA _ _ _) _ _ _; first | refine x_end0 (hq := ?_))
    | (show EX _ _ _ _ _; first | refine x_normal ?_ | refine x_ret ?_ | refine x_exit ?_ | refine x_same ?_ | refine x_other (h := ?_) | refine x_bnormal ?_ | refine x_bret ?_))
    have bw : BR H1 (fun b => b = e.blk) (.slice (some ⟨e.blk, 0, none⟩) e.bs.length e.bs.length) e.bs := rd_row hwe.row rfl hwe.lt
    have bn := hwe.nv
    rw [hnv] at bn
    (first | (refine' ew_callS (hc := cr_call) (hR := ?_) (h := ?_); rotate_left 1) | (refine' ew_call (hc := cr_call) (hR := ?_) (h := ?_); rotate_left 1))
    · exact ksame_calls _ bw bn (by omega)
    rintro _ H2 ⟨rfl, rfl⟩
    rw [decide_eq_true rfl]
    refine ⟨by (dsimp only [Mode.kept, Mode.logged, Mode.at]; (repeat' (first | exact (fun _ h => absurd h List.not_mem_nil) | (refine List.forall_mem_cons.2 ⟨?_, ?_⟩) | (refine .inl ?_; exact rfl) | (refine .inl ?_; dsimp only; decide) | (refine .inr ?_; exact rfl)))), ?_⟩
    repeat' (first
    | (show EW _ _ _ _ _; first | refine ew_p (h := ?_) | refine ew_skip (h := ?_) | refine ew_ld (h := ?_) | (refine ew_fresh ?_; intro b hb; refine ew_nw hb (h := ?_); (try simp only [AHeap.push_next, AHeap.put_next] at hb)) | (refine ew_df (ht := ?_) (hf := ?_) <;> intro _) | refine ew_ar (h := ?_) | refine w_nil ?_ | refine w_nilD ?_)
    | (show EC _ _ _ _ _ _ _; first | refine k_seq ?_ | refine k_region ?_ | refine k_draw (h := ?_) | refine k_skip ?_ | refine k_ret ?_ | refine k_exit ?_ | refine k_block ?_ | refine k_true (h := ?_) | refine k_false (h := ?_))
    | (show EX _ (bodyA _ _ _) _ _ _; first | refine x_end0 (hq := ?_))
    | (show EX _ _ _ _ _; first | refine x_normal ?_ | refine x_ret ?_ | refine x_exit ?_ | refine x_same ?_ | refine x_other (h := ?_) | refine x_bnormal ?_ | refine x_bret ?_))
    obtain ⟨H3, hH3⟩ : ∃ H3, H3 = H2.put k (.row ⟨bkC false o1 t1 w1 n1 m1 l1 s, 61, 0, true⟩) := ⟨_, rfl⟩
    have hk3 : Keep (fun b => b = k) H2 H3 := by rw [hH3]; exact Keep.put (F := fun b => b = k) Keep.refl fun _ => rfl
    have hck := hp1.ck
    have hne : ∀ {b a : Nat}, c1 b = a → a ≠ 9 → ¬ b = k := fun hb ha he => by rw [he, hck] at hb; omega
    refine ew_bk (c' := bkC false o1 t1 w1 n1 m1 l1 s) (hc := bk1) (hk := ?_) (h := ?_)
    · rw [← hH3]
      (dsimp only [Mode.kept, Mode.logged, Mode.at]; (repeat' (first | exact (fun _ h => absurd h List.not_mem_nil) | (refine List.forall_mem_cons.2 ⟨?_, ?_⟩) | (refine .inl ?_; exact rfl) | (refine .inl ?_; dsimp only; decide) | (refine .inr ?_; exact hk3.cells (by simp only [aadd_block]; omega) (by simp only [aadd_block]; exact hne fw (by decide))) | (refine .inr ?_; exact hk3.cells (by simp only [aadd_block]; omega) (by simp only [aadd_block]; exact hne fn (by decide))))))
    rw [← hH3]
    have hrow3 : H3.get k = some (.row ⟨bkC false o1 t1 w1 n1 m1 l1 s, 61, 0, true⟩) := by rw [hH3]; exact rdx
    have hp3 := hp1.keep hk3 fun b hb => .inr (by have hb' : b = k := hb; rw [hb', hck]; omega)
    have hr3 : Rs H3 c1 ps1 (nw ++ es.drop q) _ _ _ _ es := hr1.move hk3 (fun b h7 h9 he => by have he' : b = k := he; rw [he'] at h9; omega) fun _ _ _ => rfl
    have hn3 := hk3.1
    have hw3 := (hk3.cells (ad := aadd aw ((q : Int).toNat * 1)) (n := 1) (by simp only [aadd_block]; omega) (by simp only [aadd_block]; exact hne fw (by decide))).trans hw'
    have hn3' := (hk3.cells (ad := aadd an ((q : Int).toNat * 1)) (n := 1) (by simp only [aadd_block]; omega) (by simp only [aadd_block]; exact hne fn (by decide))).trans hn
    have hm3 := (hk3.cells (ad := aadd am ((q : Int).toNat * 1)) (n := 1) (by simp only [aadd_block]; omega) (by simp only [aadd_block]; exact hne fm (by decide))).trans hm'
    have hl3 := (hk3.cells (ad := aadd al ((q : Int).toNat * 1)) (n := 1) (by simp only [aadd_block]; omega) (by simp only [aadd_block]; exact hne fl (by decide))).trans hl2'
    have hk03 : Keep (fun b => c b ≠ 0) H H3 := hk1.trans hk3 fun b hb he => by have he' : b = k := he; rw [he']; intro h0; have := (hcol k (by rw [he'] at hb; exact hb)).2 h0; omega
    clear hw' hn hm' hl2' hr1 hp1 hrow1 hd1 bw bn
    by_cases hl1' : e.lf = 1
    · repeat' (first
    | (show EW _ _ _ _ _; first | refine ew_p (h := ?_) | refine ew_skip (h := ?_) | refine ew_ld (h := ?_) | (refine ew_fresh ?_; intro b hb; refine ew_nw hb (h := ?_); (try simp only [AHeap.push_next, AHeap.put_next] at hb)) | (refine ew_df (ht := ?_) (hf := ?_) <;> intro _) | refine ew_ar (h := ?_) | refine w_nil ?_ | refine w_nilD ?_)
    | (show EC _ _ _ _ _ _ _; first | refine k_seq ?_ | refine k_region ?_ | refine k_draw (h := ?_) | refine k_skip ?_ | refine k_ret ?_ | refine k_exit ?_ | refine k_block ?_ | refine k_true (h := ?_) | refine k_false (h := ?_))
    | (show EX _ (bodyA _ _ _) _ _ _; first | refine x_end0 (hq := ?_))
    | (show EX _ _ _ _ _; first | refine x_normal ?_ | refine x_ret ?_ | refine x_exit ?_ | refine x_same ?_ | refine x_other (h := ?_) | refine x_bnormal ?_ | refine x_bret ?_))
      have hd3 := hr3.dt
      rw [hdrop] at hd3
      have hec := hwe.col
      have hwlt := hwe.lt
      (first | (refine' ew_callS (hc := cr_call) (hR := ?_) (h := ?_); rotate_left 1) | (refine' ew_call (hc := cr_call) (hR := ?_) (h := ?_); rotate_left 1))
      · exact write_calls hrow3 hp3 rfl rfl hd3 (by omega)
      rintro _ H4 ⟨rfl, c2, o2, t2, pa, pb, hrow4, hp4, hd4, hk4, hco, hce⟩
      have hn4 := hk4.1
      have hn10 : ∀ {b : Nat}, c1 b = 10 → ¬ (c1 b = 1 ∨ c1 b = 2 ∨ b = e.blk ∨ b = k) := fun {b} hb h => by
        rcases h with h | h | h | h
        · omega
        · omega
        · rw [h] at hb; omega
        · rw [h] at hb; omega
      refine ⟨by (dsimp only [Mode.kept, Mode.logged, Mode.at]; (repeat' (first | exact (fun _ h => absurd h List.not_mem_nil) | (refine List.forall_mem_cons.2 ⟨?_, ?_⟩) | (refine .inl ?_; exact rfl) | (refine .inl ?_; dsimp only; decide) | (refine .inr ?_; exact hk4.cells (by simp only [aadd_block]; omega) (by simp only [aadd_block]; exact hn10 fw)) | (refine .inr ?_; exact hk4.cells (by simp only [aadd_block]; omega) (by simp only [aadd_block]; exact hn10 fm))))), ?_⟩
      repeat' (first
    | (show EW _ _ _ _ _; first | refine ew_p (h := ?_) | refine ew_skip (h := ?_) | refine ew_ld (h := ?_) | (refine ew_fresh ?_; intro b hb; refine ew_nw hb (h := ?_); (try simp only [AHeap.push_next, AHeap.put_next] at hb)) | (refine ew_df (ht := ?_) (hf := ?_) <;> intro _) | refine ew_ar (h := ?_) | refine w_nil ?_ | refine w_nilD ?_)
    | (show EC _ _ _ _ _ _ _; first | refine k_seq ?_ | refine k_region ?_ | refine k_draw (h := ?_) | refine k_skip ?_ | refine k_ret ?_ | refine k_exit ?_ | refine k_block ?_ | refine k_true (h := ?_) | refine k_false (h := ?_))
    | (show EX _ (bodyA _ _ _) _ _ _; first | refine x_end0 (hq := ?_))
    | (show EX _ _ _ _ _; first | refine x_normal ?_ | refine x_ret ?_ | refine x_exit ?_ | refine x_same ?_ | refine x_other (h := ?_) | refine x_bnormal ?_ | refine x_bret ?_))
      have hc10 : ∀ b, b < H3.next → c1 b = 10 → c2 b = 10 := fun b hb h => by rw [hco b hb fun he => by rw [he] at h; omega]; exact h
      have hp4' : Bp H4 c2 k (six o2 t2 w1 n1 m1 l1) (six ((ps1 ++ [pa, pb]).map (·.1)) ((ps1 ++ [pa, pb]).map (·.2)) (nw.map We.sl) (nw.map We.nv) (nw.map mkV) (nw.map lfV)) := by
        rw [six1, six2] at hp4
        exact hp4
      refine x_again (n' - 1) [(6, _), (0, _), (2, _), (3, _), (4, _), (5, _)] ⟨rfl, rfl, rfl, rfl, rfl, rfl, trivial⟩ (by omega) ⟨q + 1, c2, o2, t2, w1, n1, m1, l1, ps1 ++ [pa, pb], nw, by omega, rfl, hrow4, hp4',
        ⟨hd4, rd_move hr3.w hk4 (fun b hb => hn10 hb) hc10, rd_move hr3.n hk4 (fun b hb => hn10 hb) hc10, rd_move hr3.m hk4 (fun b hb => hn10 hb) hc10, rd_move hr3.l hk4 (fun b hb => hn10 hb) hc10⟩, ?_, ?_, by simp; omega⟩
      · refine hk03.trans hk4 fun b hb h => ?_
        intro h0
        have := (hcol b hb).2 h0
        rcases h with h | h | h | h
        · omega
        · omega
        · rw [h] at this; omega
        · rw [h] at this; omega
      · intro b hb
        by_cases he : b = e.blk
        · rw [he, hce]
          have := (hcol b hb)
          rw [he, hec] at this
          omega
        · rw [hco b (by omega) he]
          exact hcol b hb
    · have xw : (es.map We.sl)[q]? = some (.slice (some ⟨e.blk, 0, none⟩) e.bs.length e.bs.length) := by rw [List.getElem?_map, he]; rfl
      have xn : (es.map We.nv)[q]? = some (.slice znv e.bs.length qnv) := by rw [List.getElem?_map, he, Option.map_some, hnv]
      have xm : (es.map mkV)[q]? = some (.int .i64 e.mark) := by rw [List.getElem?_map, he]; rfl
      have xl : (es.map lfV)[q]? = some (.int .i64 e.lf) := by rw [List.getElem?_map, he]; rfl
      clear hw3 hn3' hm3 hl3
      obtain ⟨gw, jw, hw3⟩ := rd_at hr3.w hlt xw
      obtain ⟨gn, jn, hv3⟩ := rd_at hr3.n hlt xn
      obtain ⟨gm, jm, hm3⟩ := rd_at hr3.m hlt xm
      obtain ⟨gl, jl, hl3⟩ := rd_at hr3.l hlt xl
      repeat' (first
    | (show EW _ _ _ _ _; first | refine ew_p (h := ?_) | refine ew_skip (h := ?_) | refine ew_ld (h := ?_) | (refine ew_fresh ?_; intro b hb; refine ew_nw hb (h := ?_); (try simp only [AHeap.push_next, AHeap.put_next] at hb)) | (refine ew_df (ht := ?_) (hf := ?_) <;> intro _) | refine ew_ar (h := ?_) | refine w_nil ?_ | refine w_nilD ?_)
    | (show EC _ _ _ _ _ _ _; first | refine k_seq ?_ | refine k_region ?_ | refine k_draw (h := ?_) | refine k_skip ?_ | refine k_ret ?_ | refine k_exit ?_ | refine k_block ?_ | refine k_true (h := ?_) | refine k_false (h := ?_))
    | (show EX _ (bodyA _ _ _) _ _ _; first | refine x_end0 (hq := ?_))
    | (show EX _ _ _ _ _; first | refine x_normal ?_ | refine x_ret ?_ | refine x_exit ?_ | refine x_same ?_ | refine x_other (h := ?_) | refine x_bnormal ?_ | refine x_bret ?_))
      obtain ⟨v3, Ha3, z3, q3, ap3, e3, k3, n3, c3, hc3, hz3, p3⟩ := hp3.app1 (P := Try.prog) (a := 3) (e := 29) (v := .slice (some ⟨e.blk, 0, none⟩) e.bs.length e.bs.length) (by decide) (by decide) T23e rfl (by simp [six]; omega)
      rw [six3, six3] at p3
      rw [show (six (ps1.map (·.1)) (ps1.map (·.2)) (nw.map We.sl) (nw.map We.nv) (nw.map mkV) (nw.map lfV) 3).length = nw.length by simp [six]] at e3
      subst e3
      rw [← hb] at ap3
      refine ew_appX (hR := ap3) (hk := by (first | exact Mode.kept_seq rfl | (dsimp only [Mode.kept, Mode.logged, Mode.at]; (repeat' (first | exact (fun _ h => absurd h List.not_mem_nil) | (refine List.forall_mem_cons.2 ⟨?_, ?_⟩) | (refine .inl ?_; exact rfl) | (refine .inl ?_; dsimp only; decide))); done))) (h := ?_)
      have ra3 := k3.row hrow3 (by omega) (by show ¬ c1 k = 3; omega)
      repeat' (first
    | (show EW _ _ _ _ _; first | refine ew_p (h := ?_) | refine ew_skip (h := ?_) | refine ew_ld (h := ?_) | (refine ew_fresh ?_; intro b hb; refine ew_nw hb (h := ?_); (try simp only [AHeap.push_next, AHeap.put_next] at hb)) | (refine ew_df (ht := ?_) (hf := ?_) <;> intro _) | refine ew_ar (h := ?_) | refine w_nil ?_ | refine w_nilD ?_)
    | (show EC _ _ _ _ _ _ _; first | refine k_seq ?_ | refine k_region ?_ | refine k_draw (h := ?_) | refine k_skip ?_ | refine k_ret ?_ | refine k_exit ?_ | refine k_block ?_ | refine k_true (h := ?_) | refine k_false (h := ?_))
    | (show EX _ (bodyA _ _ _) _ _ _; first | refine x_end0 (hq := ?_))
    | (show EX _ _ _ _ _; first | refine x_normal ?_ | refine x_ret ?_ | refine x_exit ?_ | refine x_same ?_ | refine x_other (h := ?_) | refine x_bnormal ?_ | refine x_bret ?_))
      obtain ⟨Hb3, hHb3⟩ : ∃ X, X = Ha3.put k (.row ⟨bkC false o1 t1 (.slice z3 (nw.length + 1) q3) n1 m1 l1 s, 61, 0, true⟩) := ⟨_, rfl⟩
      have kb3 : Keep (fun b => b = k) Ha3 Hb3 := by rw [hHb3]; exact Keep.put (F := fun b => b = k) Keep.refl fun _ => rfl
      refine ew_bk (c' := bkC false o1 t1 (.slice z3 (nw.length + 1) q3) n1 m1 l1 s) (h := ?_)
      rw [← hHb3]
      have rb3 : Hb3.get k = some (.row ⟨bkC false o1 t1 (.slice z3 (nw.length + 1) q3) n1 m1 l1 s, 61, 0, true⟩) := by rw [hHb3]; exact rdx
      have hckS3 : c3 k = 9 := p3.ck
      have hpS3 : Bp Hb3 c3 k (six o1 t1 (.slice z3 (nw.length + 1) q3) n1 m1 l1) (six (ps1.map (·.1)) (ps1.map (·.2)) ((nw.map We.sl) ++ [.slice (some ⟨e.blk, 0, none⟩) e.bs.length e.bs.length]) (nw.map We.nv) (nw.map mkV) (nw.map lfV)) := p3.keep kb3 fun b hb => .inr (by have hb' : b = k := hb; rw [hb', hckS3]; omega)
      have hrS3 := hr3.app1 (by decide) hck hp3.cb k3 kb3 hc3
      have nb3 := kb3.1
      have hk0S3 : Keep (fun b => c b ≠ 0) H Hb3 := (hk03.trans k3 fun b hb h => by have h' : c1 b = 3 := h; intro h0; have := (hcol b hb).2 h0; omega).trans kb3 fun b hb he => by
        have he' : b = k := he
        rw [he'] at hb ⊢
        intro h0
        have := (hcol k hb).2 h0
        omega
      have hcolS3 : ∀ b, b < H.next → (c3 b = 0 ↔ c b = 0) := fun b hb => by rw [hc3 b (by omega)]; exact hcol b hb
      clear k3 p3 ap3 ra3 hHb3
      obtain ⟨_, _, hwS3⟩ := rd_at hrS3.w hlt xw
      obtain ⟨_, _, hvS3⟩ := rd_at hrS3.n hlt xn
      obtain ⟨_, _, hmS3⟩ := rd_at hrS3.m hlt xm
      obtain ⟨_, _, hlS3⟩ := rd_at hrS3.l hlt xl
      repeat' (first
    | (show EW _ _ _ _ _; first | refine ew_p (h := ?_) | refine ew_skip (h := ?_) | refine ew_ld (h := ?_) | (refine ew_fresh ?_; intro b hb; refine ew_nw hb (h := ?_); (try simp only [AHeap.push_next, AHeap.put_next] at hb)) | (refine ew_df (ht := ?_) (hf := ?_) <;> intro _) | refine ew_ar (h := ?_) | refine w_nil ?_ | refine w_nilD ?_)
    | (show EC _ _ _ _ _ _ _; first | refine k_seq ?_ | refine k_region ?_ | refine k_draw (h := ?_) | refine k_skip ?_ | refine k_ret ?_ | refine k_exit ?_ | refine k_block ?_ | refine k_true (h := ?_) | refine k_false (h := ?_))
    | (show EX _ (bodyA _ _ _) _ _ _; first | refine x_end0 (hq := ?_))
    | (show EX _ _ _ _ _; first | refine x_normal ?_ | refine x_ret ?_ | refine x_exit ?_ | refine x_same ?_ | refine x_other (h := ?_) | refine x_bnormal ?_ | refine x_bret ?_))
      obtain ⟨v4, Ha4, z4, q4, ap4, e4, k4, n4, c4, hc4, hz4, p4⟩ := hpS3.app1 (P := Try.prog) (a := 4) (e := 29) (v := .slice znv e.bs.length qnv) (by decide) (by decide) T23f rfl (by simp [six]; omega)
      rw [six4, six4] at p4
      rw [show (six (ps1.map (·.1)) (ps1.map (·.2)) ((nw.map We.sl) ++ [.slice (some ⟨e.blk, 0, none⟩) e.bs.length e.bs.length]) (nw.map We.nv) (nw.map mkV) (nw.map lfV) 4).length = nw.length by simp [six]] at e4
      subst e4
      rw [← hb] at ap4
      refine ew_appX (hR := ap4) (hk := by (first | exact Mode.kept_seq rfl | (dsimp only [Mode.kept, Mode.logged, Mode.at]; (repeat' (first | exact (fun _ h => absurd h List.not_mem_nil) | (refine List.forall_mem_cons.2 ⟨?_, ?_⟩) | (refine .inl ?_; exact rfl) | (refine .inl ?_; dsimp only; decide))); done))) (h := ?_)
      have ra4 := k4.row rb3 (by omega) (by show ¬ c3 k = 4; omega)
      repeat' (first
    | (show EW _ _ _ _ _; first | refine ew_p (h := ?_) | refine ew_skip (h := ?_) | refine ew_ld (h := ?_) | (refine ew_fresh ?_; intro b hb; refine ew_nw hb (h := ?_); (try simp only [AHeap.push_next, AHeap.put_next] at hb)) | (refine ew_df (ht := ?_) (hf := ?_) <;> intro _) | refine ew_ar (h := ?_) | refine w_nil ?_ | refine w_nilD ?_)
    | (show EC _ _ _ _ _ _ _; first | refine k_seq ?_ | refine k_region ?_ | refine k_draw (h := ?_) | refine k_skip ?_ | refine k_ret ?_ | refine k_exit ?_ | refine k_block ?_ | refine k_true (h := ?_) | refine k_false (h := ?_))
    | (show EX _ (bodyA _ _ _) _ _ _; first | refine x_end0 (hq := ?_))
    | (show EX _ _ _ _ _; first | refine x_normal ?_ | refine x_ret ?_ | refine x_exit ?_ | refine x_same ?_ | refine x_other (h := ?_) | refine x_bnormal ?_ | refine x_bret ?_))
      obtain ⟨Hb4, hHb4⟩ : ∃ X, X = Ha4.put k (.row ⟨bkC false o1 t1 (.slice z3 (nw.length + 1) q3) (.slice z4 (nw.length + 1) q4) m1 l1 s, 61, 0, true⟩) := ⟨_, rfl⟩
      have kb4 : Keep (fun b => b = k) Ha4 Hb4 := by rw [hHb4]; exact Keep.put (F := fun b => b = k) Keep.refl fun _ => rfl
      refine ew_bk (c' := bkC false o1 t1 (.slice z3 (nw.length + 1) q3) (.slice z4 (nw.length + 1) q4) m1 l1 s) (h := ?_)
      rw [← hHb4]
      have rb4 : Hb4.get k = some (.row ⟨bkC false o1 t1 (.slice z3 (nw.length + 1) q3) (.slice z4 (nw.length + 1) q4) m1 l1 s, 61, 0, true⟩) := by rw [hHb4]; exact rdx
      have hckS4 : c4 k = 9 := p4.ck
      have hpS4 : Bp Hb4 c4 k (six o1 t1 (.slice z3 (nw.length + 1) q3) (.slice z4 (nw.length + 1) q4) m1 l1) (six (ps1.map (·.1)) (ps1.map (·.2)) ((nw.map We.sl) ++ [.slice (some ⟨e.blk, 0, none⟩) e.bs.length e.bs.length]) ((nw.map We.nv) ++ [.slice znv e.bs.length qnv]) (nw.map mkV) (nw.map lfV)) := p4.keep kb4 fun b hb => .inr (by have hb' : b = k := hb; rw [hb', hckS4]; omega)
      have hrS4 := hrS3.app1 (by decide) hckS3 hpS3.cb k4 kb4 hc4
      have nb4 := kb4.1
      have hk0S4 : Keep (fun b => c b ≠ 0) H Hb4 := (hk0S3.trans k4 fun b hb h => by have h' : c3 b = 4 := h; intro h0; have := (hcolS3 b hb).2 h0; omega).trans kb4 fun b hb he => by
        have he' : b = k := he
        rw [he'] at hb ⊢
        intro h0
        have := (hcolS3 k hb).2 h0
        omega
      have hcolS4 : ∀ b, b < H.next → (c4 b = 0 ↔ c b = 0) := fun b hb => by rw [hc4 b (by omega)]; exact hcolS3 b hb
      clear k4 p4 ap4 ra4 hHb4
      obtain ⟨_, _, hwS4⟩ := rd_at hrS4.w hlt xw
      obtain ⟨_, _, hvS4⟩ := rd_at hrS4.n hlt xn
      obtain ⟨_, _, hmS4⟩ := rd_at hrS4.m hlt xm
      obtain ⟨_, _, hlS4⟩ := rd_at hrS4.l hlt xl
      repeat' (first
    | (show EW _ _ _ _ _; first | refine ew_p (h := ?_) | refine ew_skip (h := ?_) | refine ew_ld (h := ?_) | (refine ew_fresh ?_; intro b hb; refine ew_nw hb (h := ?_); (try simp only [AHeap.push_next, AHeap.put_next] at hb)) | (refine ew_df (ht := ?_) (hf := ?_) <;> intro _) | refine ew_ar (h := ?_) | refine w_nil ?_ | refine w_nilD ?_)
    | (show EC _ _ _ _ _ _ _; first | refine k_seq ?_ | refine k_region ?_ | refine k_draw (h := ?_) | refine k_skip ?_ | refine k_ret ?_ | refine k_exit ?_ | refine k_block ?_ | refine k_true (h := ?_) | refine k_false (h := ?_))
    | (show EX _ (bodyA _ _ _) _ _ _; first | refine x_end0 (hq := ?_))
    | (show EX _ _ _ _ _; first | refine x_normal ?_ | refine x_ret ?_ | refine x_exit ?_ | refine x_same ?_ | refine x_other (h := ?_) | refine x_bnormal ?_ | refine x_bret ?_))
      obtain ⟨v5, Ha5, z5, q5, ap5, e5, k5, n5, c5, hc5, hz5, p5⟩ := hpS4.app1 (P := Try.prog) (a := 5) (e := 3) (v := .int .i64 e.mark) (by decide) (by decide) T42e rfl (by simp [six]; omega)
      rw [six5, six5] at p5
      rw [show (six (ps1.map (·.1)) (ps1.map (·.2)) ((nw.map We.sl) ++ [.slice (some ⟨e.blk, 0, none⟩) e.bs.length e.bs.length]) ((nw.map We.nv) ++ [.slice znv e.bs.length qnv]) (nw.map mkV) (nw.map lfV) 5).length = nw.length by simp [six]] at e5
      subst e5
      rw [← hb] at ap5
      refine ew_appX (hR := ap5) (hk := by (first | exact Mode.kept_seq rfl | (dsimp only [Mode.kept, Mode.logged, Mode.at]; (repeat' (first | exact (fun _ h => absurd h List.not_mem_nil) | (refine List.forall_mem_cons.2 ⟨?_, ?_⟩) | (refine .inl ?_; exact rfl) | (refine .inl ?_; dsimp only; decide))); done))) (h := ?_)
      have ra5 := k5.row rb4 (by omega) (by show ¬ c4 k = 5; omega)
      repeat' (first
    | (show EW _ _ _ _ _; first | refine ew_p (h := ?_) | refine ew_skip (h := ?_) | refine ew_ld (h := ?_) | (refine ew_fresh ?_; intro b hb; refine ew_nw hb (h := ?_); (try simp only [AHeap.push_next, AHeap.put_next] at hb)) | (refine ew_df (ht := ?_) (hf := ?_) <;> intro _) | refine ew_ar (h := ?_) | refine w_nil ?_ | refine w_nilD ?_)
    | (show EC _ _ _ _ _ _ _; first | refine k_seq ?_ | refine k_region ?_ | refine k_draw (h := ?_) | refine k_skip ?_ | refine k_ret ?_ | refine k_exit ?_ | refine k_block ?_ | refine k_true (h := ?_) | refine k_false (h := ?_))
    | (show EX _ (bodyA _ _ _) _ _ _; first | refine x_end0 (hq := ?_))
    | (show EX _ _ _ _ _; first | refine x_normal ?_ | refine x_ret ?_ | refine x_exit ?_ | refine x_same ?_ | refine x_other (h := ?_) | refine x_bnormal ?_ | refine x_bret ?_))
      obtain ⟨Hb5, hHb5⟩ : ∃ X, X = Ha5.put k (.row ⟨bkC false o1 t1 (.slice z3 (nw.length + 1) q3) (.slice z4 (nw.length + 1) q4) (.slice z5 (nw.length + 1) q5) l1 s, 61, 0, true⟩) := ⟨_, rfl⟩
      have kb5 : Keep (fun b => b = k) Ha5 Hb5 := by rw [hHb5]; exact Keep.put (F := fun b => b = k) Keep.refl fun _ => rfl
      refine ew_bk (c' := bkC false o1 t1 (.slice z3 (nw.length + 1) q3) (.slice z4 (nw.length + 1) q4) (.slice z5 (nw.length + 1) q5) l1 s) (h := ?_)
      rw [← hHb5]
      have rb5 : Hb5.get k = some (.row ⟨bkC false o1 t1 (.slice z3 (nw.length + 1) q3) (.slice z4 (nw.length + 1) q4) (.slice z5 (nw.length + 1) q5) l1 s, 61, 0, true⟩) := by rw [hHb5]; exact rdx
      have hckS5 : c5 k = 9 := p5.ck
      have hpS5 : Bp Hb5 c5 k (six o1 t1 (.slice z3 (nw.length + 1) q3) (.slice z4 (nw.length + 1) q4) (.slice z5 (nw.length + 1) q5) l1) (six (ps1.map (·.1)) (ps1.map (·.2)) ((nw.map We.sl) ++ [.slice (some ⟨e.blk, 0, none⟩) e.bs.length e.bs.length]) ((nw.map We.nv) ++ [.slice znv e.bs.length qnv]) ((nw.map mkV) ++ [.int .i64 e.mark]) (nw.map lfV)) := p5.keep kb5 fun b hb => .inr (by have hb' : b = k := hb; rw [hb', hckS5]; omega)
      have hrS5 := hrS4.app1 (by decide) hckS4 hpS4.cb k5 kb5 hc5
      have nb5 := kb5.1
      have hk0S5 : Keep (fun b => c b ≠ 0) H Hb5 := (hk0S4.trans k5 fun b hb h => by have h' : c4 b = 5 := h; intro h0; have := (hcolS4 b hb).2 h0; omega).trans kb5 fun b hb he => by
        have he' : b = k := he
        rw [he'] at hb ⊢
        intro h0
        have := (hcolS4 k hb).2 h0
        omega
      have hcolS5 : ∀ b, b < H.next → (c5 b = 0 ↔ c b = 0) := fun b hb => by rw [hc5 b (by omega)]; exact hcolS4 b hb
      clear k5 p5 ap5 ra5 hHb5
      obtain ⟨_, _, hwS5⟩ := rd_at hrS5.w hlt xw
      obtain ⟨_, _, hvS5⟩ := rd_at hrS5.n hlt xn
      obtain ⟨_, _, hmS5⟩ := rd_at hrS5.m hlt xm
      obtain ⟨_, _, hlS5⟩ := rd_at hrS5.l hlt xl
      repeat' (first
    | (show EW _ _ _ _ _; first | refine ew_p (h := ?_) | refine ew_skip (h := ?_) | refine ew_ld (h := ?_) | (refine ew_fresh ?_; intro b hb; refine ew_nw hb (h := ?_); (try simp only [AHeap.push_next, AHeap.put_next] at hb)) | (refine ew_df (ht := ?_) (hf := ?_) <;> intro _) | refine ew_ar (h := ?_) | refine w_nil ?_ | refine w_nilD ?_)
    | (show EC _ _ _ _ _ _ _; first | refine k_seq ?_ | refine k_region ?_ | refine k_draw (h := ?_) | refine k_skip ?_ | refine k_ret ?_ | refine k_exit ?_ | refine k_block ?_ | refine k_true (h := ?_) | refine k_false (h := ?_))
    | (show EX _ (bodyA _ _ _) _ _ _; first | refine x_end0 (hq := ?_))
    | (show EX _ _ _ _ _; first | refine x_normal ?_ | refine x_ret ?_ | refine x_exit ?_ | refine x_same ?_ | refine x_other (h := ?_) | refine x_bnormal ?_ | refine x_bret ?_))
      obtain ⟨v6, Ha6, z6, q6, ap6, e6, k6, n6, c6, hc6, hz6, p6⟩ := hpS5.app1 (P := Try.prog) (a := 6) (e := 3) (v := .int .i64 (e.lf - 1)) (by decide) (by decide) T42f rfl (by simp [six]; omega)
      replace p6 := p6.six6
      rw [show (six (ps1.map (·.1)) (ps1.map (·.2)) ((nw.map We.sl) ++ [.slice (some ⟨e.blk, 0, none⟩) e.bs.length e.bs.length]) ((nw.map We.nv) ++ [.slice znv e.bs.length qnv]) ((nw.map mkV) ++ [.int .i64 e.mark]) (nw.map lfV) 6).length = nw.length by simp [six]] at e6
      subst e6
      rw [← hb] at ap6
      refine ew_appX (hR := ap6) (hk := by (first | exact Mode.kept_seq rfl | (dsimp only [Mode.kept, Mode.logged, Mode.at]; (repeat' (first | exact (fun _ h => absurd h List.not_mem_nil) | (refine List.forall_mem_cons.2 ⟨?_, ?_⟩) | (refine .inl ?_; exact rfl) | (refine .inl ?_; dsimp only; decide))); done))) (h := ?_)
      have ra6 := k6.row rb5 (by omega) (by show ¬ c5 k = 6; omega)
      repeat' (first
    | (show EW _ _ _ _ _; first | refine ew_p (h := ?_) | refine ew_skip (h := ?_) | refine ew_ld (h := ?_) | (refine ew_fresh ?_; intro b hb; refine ew_nw hb (h := ?_); (try simp only [AHeap.push_next, AHeap.put_next] at hb)) | (refine ew_df (ht := ?_) (hf := ?_) <;> intro _) | refine ew_ar (h := ?_) | refine w_nil ?_ | refine w_nilD ?_)
    | (show EC _ _ _ _ _ _ _; first | refine k_seq ?_ | refine k_region ?_ | refine k_draw (h := ?_) | refine k_skip ?_ | refine k_ret ?_ | refine k_exit ?_ | refine k_block ?_ | refine k_true (h := ?_) | refine k_false (h := ?_))
    | (show EX _ (bodyA _ _ _) _ _ _; first | refine x_end0 (hq := ?_))
    | (show EX _ _ _ _ _; first | refine x_normal ?_ | refine x_ret ?_ | refine x_exit ?_ | refine x_same ?_ | refine x_other (h := ?_) | refine x_bnormal ?_ | refine x_bret ?_))
      obtain ⟨Hb6, hHb6⟩ : ∃ X, X = Ha6.put k (.row ⟨bkC false o1 t1 (.slice z3 (nw.length + 1) q3) (.slice z4 (nw.length + 1) q4) (.slice z5 (nw.length + 1) q5) (.slice z6 (nw.length + 1) q6) s, 61, 0, true⟩) := ⟨_, rfl⟩
      have kb6 : Keep (fun b => b = k) Ha6 Hb6 := by rw [hHb6]; exact Keep.put (F := fun b => b = k) Keep.refl fun _ => rfl
      refine ew_bk (c' := bkC false o1 t1 (.slice z3 (nw.length + 1) q3) (.slice z4 (nw.length + 1) q4) (.slice z5 (nw.length + 1) q5) (.slice z6 (nw.length + 1) q6) s) (h := ?_)
      rw [← hHb6]
      have rb6 : Hb6.get k = some (.row ⟨bkC false o1 t1 (.slice z3 (nw.length + 1) q3) (.slice z4 (nw.length + 1) q4) (.slice z5 (nw.length + 1) q5) (.slice z6 (nw.length + 1) q6) s, 61, 0, true⟩) := by rw [hHb6]; exact rdx
      have hckS6 : c6 k = 9 := p6.ck
      have hpS6 : Bp Hb6 c6 k (six o1 t1 (.slice z3 (nw.length + 1) q3) (.slice z4 (nw.length + 1) q4) (.slice z5 (nw.length + 1) q5) (.slice z6 (nw.length + 1) q6)) (six (ps1.map (·.1)) (ps1.map (·.2)) ((nw.map We.sl) ++ [.slice (some ⟨e.blk, 0, none⟩) e.bs.length e.bs.length]) ((nw.map We.nv) ++ [.slice znv e.bs.length qnv]) ((nw.map mkV) ++ [.int .i64 e.mark]) ((nw.map lfV) ++ [.int .i64 (e.lf - 1)])) := p6.keep kb6 fun b hb => .inr (by have hb' : b = k := hb; rw [hb', hckS6]; omega)
      have hrS6 := hrS5.app1 (by decide) hckS5 hpS5.cb k6 kb6 hc6
      have nb6 := kb6.1
      have hk0S6 : Keep (fun b => c b ≠ 0) H Hb6 := (hk0S5.trans k6 fun b hb h => by have h' : c5 b = 6 := h; intro h0; have := (hcolS5 b hb).2 h0; omega).trans kb6 fun b hb he => by
        have he' : b = k := he
        rw [he'] at hb ⊢
        intro h0
        have := (hcolS5 k hb).2 h0
        omega
      have hcolS6 : ∀ b, b < H.next → (c6 b = 0 ↔ c b = 0) := fun b hb => by rw [hc6 b (by omega)]; exact hcolS5 b hb
      clear k6 p6 ap6 ra6 hHb6
      repeat' (first
    | (show EW _ _ _ _ _; first | refine ew_p (h := ?_) | refine ew_skip (h := ?_) | refine ew_ld (h := ?_) | (refine ew_fresh ?_; intro b hb; refine ew_nw hb (h := ?_); (try simp only [AHeap.push_next, AHeap.put_next] at hb)) | (refine ew_df (ht := ?_) (hf := ?_) <;> intro _) | refine ew_ar (h := ?_) | refine w_nil ?_ | refine w_nilD ?_)
    | (show EC _ _ _ _ _ _ _; first | refine k_seq ?_ | refine k_region ?_ | refine k_draw (h := ?_) | refine k_skip ?_ | refine k_ret ?_ | refine k_exit ?_ | refine k_block ?_ | refine k_true (h := ?_) | refine k_false (h := ?_))
    | (show EX _ (bodyA _ _ _) _ _ _; first | refine x_end0 (hq := ?_))
    | (show EX _ _ _ _ _; first | refine x_normal ?_ | refine x_ret ?_ | refine x_exit ?_ | refine x_same ?_ | refine x_other (h := ?_) | refine x_bnormal ?_ | refine x_bret ?_))
      refine x_again (n' - 1) [(6, _), (0, _), (2, _), (3, _), (4, _), (5, _)] ⟨rfl, rfl, rfl, rfl, rfl, rfl, trivial⟩ (by omega) ⟨q + 1, c6, o1, t1, _, _, _, _, ps1, nw ++ [⟨e.blk, e.bs, e.nv, e.mark, e.lf - 1⟩], by omega, rfl, rb6, ?_, ?_, hk0S6, hcolS6, by simp; omega⟩
      · simp only [List.map_append, List.map_cons, List.map_nil]
        rw [← hnv] at hpS6
        exact hpS6
      · refine ⟨?_, hrS6.w, hrS6.n, hrS6.m, hrS6.l⟩
        have hdt := hrS6.dt
        rw [hdrop] at hdt
        have hwe6 := hdt.en e (by simp)
        refine ⟨hdt.pr, fun e' he' => ?_, ?_⟩
        · simp only [List.mem_append, List.mem_cons, List.not_mem_nil, or_false] at he'
          rcases he' with (he' | rfl) | he'
          · exact hdt.en e' (by simp [he'])
          · exact ⟨hwe6.row, hwe6.lt, hwe6.col, hwe6.len, hwe6.nv, hwe6.mk0, hwe6.mk1, by dsimp only; omega, by dsimp only; omega⟩
          · exact hdt.en e' (by simp [he'])
        · have := hdt.nd
          simpa using this
  · repeat' (first
    | (show EW _ _ _ _ _; first | refine ew_p (h := ?_) | refine ew_skip (h := ?_) | refine ew_ld (h := ?_) | (refine ew_fresh ?_; intro b hb; refine ew_nw hb (h := ?_); (try simp only [AHeap.push_next, AHeap.put_next] at hb)) | refine ew_st (h := ?_) | (refine ew_df (ht := ?_) (hf := ?_) <;> intro _) | refine ew_ar (h := ?_) | refine w_nil ?_ | refine w_nilD ?_)
    | (show EC _ _ _ _ _ _ _; first | refine k_seq ?_ | refine k_region ?_ | refine k_draw (h := ?_) | refine k_skip ?_ | refine k_ret ?_ | refine k_exit ?_ | refine k_block ?_ | refine k_true (h := ?_) | refine k_false (h := ?_))
    | (show EX _ (bodyA _ _ _) _ _ _; first | refine x_end0 (hq := ?_))
    | (show EX _ _ _ _ _; first | refine x_normal ?_ | refine x_ret ?_ | refine x_exit ?_ | refine x_same ?_ | refine x_other (h := ?_) | refine x_bnormal ?_ | refine x_bret ?_))
    refine ⟨rfl, c1, _, _, _, _, _, _, ps1, nw, hrow1, hp1, ?_, hk1, hcol, by omega⟩
    have := hr1.dt
    rw [List.drop_eq_nil_of_le (by omega), List.append_nil] at this
    exact this
end

end Go.Ae

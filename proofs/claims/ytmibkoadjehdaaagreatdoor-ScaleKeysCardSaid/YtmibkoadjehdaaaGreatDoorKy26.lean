/- The expressions' lexer: signs and the end. No condition. -/
import Derived.Test.YtmibkoadjehdaaaGreatDoorKy25
set_option linter.unusedVariables false
set_option linter.unusedSimpArgs false
set_option linter.unusedSimpArgs false
set_option linter.unusedVariables false
set_option linter.unnecessarySimpa false
set_option maxRecDepth 100000
set_option maxHeartbeats 400000
namespace Go.Ae
open Go.Proofs
attribute [local irreducible] awC wpSeq wpS nRes aw aE acall ACalls szT isAggT zeroT byT elemSz fieldOff Program.underlying appendA copyA thenA inBlockA bodyA AHeap.push AHeap.put AHeap.cellsAt AHeap.setCells resV loadA intBin EW EC EX Nr Nc Er Cr Agree
theorem ew_cf {P : Program} {N : Nat} {m m' : Mode} {E : Env} {H : AHeap} {d' : Option Nat} {op : Op} {ty : TypeId} {p : String} {af : Array Edge} {g : Option (Nat × Bool)} {f : FuncId} {args : Array Value} {R : Value → Prop} (hm : m.head = some (⟨d', op, ty, p, af, g⟩, m') := by exact rfl) (hw : wantE m.ops E g = some true := by exact rfl) (hd : bltO d' N = true := by exact rfl)
    (hc : Cr P N E ⟨d', op, ty, p, af, g⟩ f args) (hR : ACalls P f args H fun v H' => R v ∧ H' = H) (hk : m.kept H := by first | exact Mode.kept_seq rfl | (dsimp only [Mode.kept, Mode.logged, Mode.at]; (repeat' (first | exact (fun _ h => absurd h List.not_mem_nil) | (refine List.forall_mem_cons.2 ⟨?_, ?_⟩) | (refine .inl ?_; exact rfl) | (refine .inr ?_; exact rfl))); done))
    (h : ∀ v, R v → EW P N m' (putO d' v E) H) : EW P N m E H := ew_call hm hw hd hc hR fun v H' hr => by
  obtain ⟨h1, rfl⟩ := hr
  exact ⟨hk, h v h1⟩
theorem r_strsl1 {P : Program} {N : Nat} {E : Env} {H : AHeap} {d : Nat} {t ty : TypeId} {p : String} {af : Array Edge} {g : Option (Nat × Bool)} {x : Operand} {bs r : List UInt8} {lo : Option Operand} {k : IntKind} {li : Int} {l : Nat} [un : UnT P t .string]
    (hx : evE E x = some (.string (strB bs)) := by exact rfl) (hl : evO E lo = some (some (.int k li)) := by exact rfl) (e1 : li = (l : Int)) (hr : bs.drop l = r) (h3 : l ≤ bs.length) :
    Nr P N E H ⟨some d, .slice t x lo none none, ty, p, af, g⟩ (.string (strB r)) H := by
  subst e1 hr
  have := r_strsl (P := P) (N := N) (t := t) (H := H) (d := d) (ty := ty) (p := p) (af := af) (g := g) (lo := lo) (hi := none) (l := l) (h := bs.length) hx hl rfl (.inr ⟨_, rfl⟩) (.inl ⟨rfl, rfl⟩) h3 (Nat.le_refl _)
  rwa [List.take_of_length_le (by simp)] at this
theorem r_lenB {P : Program} {N : Nat} {E : Env} {H : AHeap} {d : Nat} {ty t : TypeId} {p : String} {af : Array Edge} {g : Option (Nat × Bool)} {c : Call} {x : Operand} {q : List UInt8} [UnT P t .string] (a1 : c.callee = .builtin .len) (a2 : c.args.toList = [x]) (a3 : c.argTypes.toList = [t]) (a4 : evE E x = some (.string (strB q))) :
    Nr P N E H ⟨some d, .call c, ty, p, af, g⟩ (.int .i64 (q.length : Int)) H := by
  have := r_len_str (P := P) (N := N) (H := H) (d := d) (ty := ty) (p := p) (af := af) (g := g) a1 a2 a3 a4
  rwa [strB_size] at this
def SgI (H0 : AHeap) (p q b j : Nat) (n : Nat) (E : Env) (H : AHeap) : Prop :=
  H0 = H ∧ ∃ i : Nat, i ≤ j ∧ n = j - i ∧ E = [(63, .int .i64 i), (62, .agg (strV signsL).toArray), (0, .pointer (some ⟨p, 0, none⟩)), (2, .pointer (some ⟨q, 0, none⟩)), (3, .pointer (some ⟨b, 0, none⟩))]
theorem read_end {H : AHeap} {p : Nat} {s pre bl rest : List UInt8} {k ta : Int} {tx : List UInt8} {nm : Int} {hv : Bool} {op : Int} (hr0 : rest = []) (hs : s = pre ++ (bl ++ (([] : List UInt8) ++ rest))) (hbl : ∀ c ∈ bl, c = 32) (hls : s.length < 1000000) (hp : PRow H p s pre.length k ta tx nm hv op) :
    ACalls Tryz.prog 132 #[.pointer (some ⟨p, 0, none⟩)] H fun v H' => ∃ r', (v = .agg #[.int .i64 0, .int .i64 ((pre.length + bl.length : Nat) : Int), .string (strB []), .int .i64 0] ∧ r' = rowP s (pre.length + bl.length + 0) k ta tx nm hv op) ∧ H' = H.put p (.row r') := by
  obtain ⟨hp, hpn, hp14⟩ := hp
  refine ACalls.forget1 hpn hp rfl ?_
  have hsz := strB_size s
  have hs2 : s = (pre ++ bl) ++ (([] : List UInt8) ++ rest) := by rw [hs]; simp
  have hpl : (pre ++ bl).length = pre.length + bl.length := List.length_append
  have hl0 : s.length = pre.length + bl.length := by rw [hs, hr0]; simp
  refine k_open (args := [.pointer (some ⟨p, 0, none⟩)]) (E0 := [(0, .pointer (some ⟨p, 0, none⟩))]) tbl132 Tryz.func132 rfl follows (by kernel_rfl) Tryz.ntmps132 rfl rfl ?_
  repeat' (first
    | (show EW _ _ _ _ _; first | refine ew_p (h := ?_) | refine ew_bu (h := ?_) | refine ew_skip (h := ?_) | refine ew_ld (h := ?_) | (refine ew_fresh ?_; intro b hb; refine ew_nw hb (h := ?_); (try simp only [AHeap.push_next, AHeap.put_next] at hb)) | refine ew_st (h := ?_) | (refine ew_df (ht := ?_) (hf := ?_) <;> intro _) | refine ew_ar (h := ?_) | refine w_nil ?_ | refine w_nilD ?_)
    | (show EC _ _ _ _ _ _ _; first | refine k_seq ?_ | refine k_region ?_ | refine k_draw (h := ?_) | refine k_skip ?_ | refine k_ret ?_ | refine k_exit ?_ | refine k_block ?_ | refine k_true (h := ?_) | refine k_false (h := ?_))
    | (show EX _ (bodyA _ _ _) _ _ _; first | refine x_end1 (hq := ?_) | refine x_endc (hc := by (first | assumption | (apply cells_row; (focus ((repeat' (first | assumption | (rw [aadd_block]) | (apply gN; (focus (first | exact rfl | omega | (simp only [AHeap.push_next, AHeap.put_next, aadd_block] <;> omega))); (focus exact rfl)) | (apply gO; (focus (first | omega | (simp only [AHeap.push_next, AHeap.put_next, aadd_block, ne_eq] <;> omega)))) | (apply gS; (focus (first | exact rfl | omega | (simp only [AHeap.push_next, AHeap.put_next, aadd_block] <;> omega))); (focus exact rfl)) | (apply gP; (focus (first | omega | (simp only [AHeap.push_next, AHeap.put_next, aadd_block, ne_eq] <;> omega)))) | exact rfl)); done)); (focus exact rfl); (focus exact rfl); (focus (first | exact (rfl : _ = some [_]) | exact (rfl : _ = some [_, _, _, _]) | exact (rfl : _ = some [_, _, _, _, _, _, _, _]) | exact (rfl : _ = some [_, _, _, _, _, _, _, _, _, _, _, _, _, _, _, _])))) | (apply cells_k; (focus assumption); (focus (first | assumption | (simp only [aadd_block] <;> first | assumption | omega))); (focus ((repeat' (first | exact Keep.refl | assumption | (apply Keep.push) | (refine Keep.put ?_ ?_; rotate_left; (focus (intro hlt; first | assumption | exact rfl | exact .inl rfl | exact .inr rfl | omega | (exfalso; simp only [AHeap.push_next, AHeap.put_next, aadd_block] at hlt; omega)))))); done))))) (hv := by exact rfl) (hq := ?_))
    | (show EX _ _ _ _ _; first | refine x_normal ?_ | refine x_ret ?_ | refine x_exit ?_ | refine x_same ?_ | refine x_other (h := ?_) | refine x_bnormal ?_ | refine x_bret ?_))
  obtain ⟨q, rfl⟩ : ∃ q, q = b := ⟨b, rfl⟩
  refine k_loop follows (BkI H p s pre.length bl.length k ta tx nm hv op q) (bl.length - 0) [(0, _), (2, _)] (by kernel_rfl) ⟨rfl, rfl, trivial⟩ ⟨by exact kp, 0, rfl, by omega, by exact rdx, by exact rdx, by simp; omega, by omega, rfl⟩ ?_
  rintro n E H1 ⟨hk, i, rfl, hi, hp1, hb1, hbn, hHb, rfl⟩
  have hn1 := hk.1
  by_cases hlt : i < bl.length
  · have hc : s[pre.length + i]? = some bl[i] := by rw [hs]; exact mid_get hlt
    have h32 : bl[i].toNat = 32 := by rw [hbl _ (List.getElem_mem hlt)]; rfl
    generalize bl[i] = c at hc h32
    have hlt2 := (List.getElem?_eq_some_iff.1 hc).1
    have e1 : ((pre.length + (i + 1) : Nat) : Int) = ((pre.length + i : Nat) : Int) + 1 := by omega
    repeat' (first
    | (show EW _ _ _ _ _; first | refine ew_p (h := ?_) | refine ew_bu (h := ?_) | refine ew_skip (h := ?_) | refine ew_ld (h := ?_) | (refine ew_fresh ?_; intro b hb; refine ew_nw hb (h := ?_); (try simp only [AHeap.push_next, AHeap.put_next] at hb)) | refine ew_st (h := ?_) | (refine ew_df (ht := ?_) (hf := ?_) <;> intro _) | refine ew_ar (h := ?_) | refine ew_p2 (h := ?_) | (refine ew_df2 (ht := ?_) (hf := ?_) <;> intro _) | refine w_nil ?_ | refine w_nilD ?_)
    | (show EC _ _ _ _ _ _ _; first | refine k_seq ?_ | refine k_region ?_ | refine k_draw (h := ?_) | refine k_skip ?_ | refine k_ret ?_ | refine k_exit ?_ | refine k_block ?_ | refine k_true (h := ?_) | refine k_false (h := ?_))
    | (show EX _ (bodyA _ _ _) _ _ _; first | refine x_end1 (hq := ?_) | refine x_endc (hc := by (first | assumption | (apply cells_row; (focus ((repeat' (first | assumption | (rw [aadd_block]) | (apply gN; (focus (first | exact rfl | omega | (simp only [AHeap.push_next, AHeap.put_next, aadd_block] <;> omega))); (focus exact rfl)) | (apply gO; (focus (first | omega | (simp only [AHeap.push_next, AHeap.put_next, aadd_block, ne_eq] <;> omega)))) | (apply gS; (focus (first | exact rfl | omega | (simp only [AHeap.push_next, AHeap.put_next, aadd_block] <;> omega))); (focus exact rfl)) | (apply gP; (focus (first | omega | (simp only [AHeap.push_next, AHeap.put_next, aadd_block, ne_eq] <;> omega)))) | exact rfl)); done)); (focus exact rfl); (focus exact rfl); (focus (first | exact (rfl : _ = some [_]) | exact (rfl : _ = some [_, _, _, _]) | exact (rfl : _ = some [_, _, _, _, _, _, _, _]) | exact (rfl : _ = some [_, _, _, _, _, _, _, _, _, _, _, _, _, _, _, _])))) | (apply cells_k; (focus assumption); (focus (first | assumption | (simp only [aadd_block] <;> first | assumption | omega))); (focus ((repeat' (first | exact Keep.refl | assumption | (apply Keep.push) | (refine Keep.put ?_ ?_; rotate_left; (focus (intro hlt; first | assumption | exact rfl | exact .inl rfl | exact .inr rfl | omega | (exfalso; simp only [AHeap.push_next, AHeap.put_next, aadd_block] at hlt; omega)))))); done))))) (hv := by exact rfl) (hq := ?_))
    | (show EX _ _ _ _ _; first | refine x_normal ?_ | refine x_ret ?_ | refine x_exit ?_ | refine x_same ?_ | refine x_other (h := ?_) | refine x_bnormal ?_ | refine x_bret ?_))
    exact x_again (bl.length - (i + 1)) [(0, _), (2, _)] ⟨rfl, rfl, trivial⟩ (by omega) ⟨hk.trans (by exact kp) fun _ _ h => h, i + 1, rfl, by omega, by unfold rowP; rw [e1]; exact rdx, by exact rdx, by simpa using hbn, hHb, rfl⟩
  · obtain rfl : i = bl.length := by omega
    repeat' (first
    | (show EW _ _ _ _ _; first | refine ew_p (h := ?_) | refine ew_bu (h := ?_) | refine ew_skip (h := ?_) | refine ew_ld (h := ?_) | (refine ew_fresh ?_; intro b hb; refine ew_nw hb (h := ?_); (try simp only [AHeap.push_next, AHeap.put_next] at hb)) | refine ew_st (h := ?_) | (refine ew_df (ht := ?_) (hf := ?_) <;> intro _) | refine ew_ar (h := ?_) | refine ew_p2 (h := ?_) | (refine ew_df2 (ht := ?_) (hf := ?_) <;> intro _) | refine w_nil ?_ | refine w_nilD ?_)
    | (show EC _ _ _ _ _ _ _; first | refine k_seq ?_ | refine k_region ?_ | refine k_draw (h := ?_) | refine k_skip ?_ | refine k_ret ?_ | refine k_exit ?_ | refine k_block ?_ | refine k_true (h := ?_) | refine k_false (h := ?_))
    | (show EX _ (bodyA _ _ _) _ _ _; first | refine x_end1 (hq := ?_) | refine x_endc (hc := by (first | assumption | (apply cells_row; (focus ((repeat' (first | assumption | (rw [aadd_block]) | (apply gN; (focus (first | exact rfl | omega | (simp only [AHeap.push_next, AHeap.put_next, aadd_block] <;> omega))); (focus exact rfl)) | (apply gO; (focus (first | omega | (simp only [AHeap.push_next, AHeap.put_next, aadd_block, ne_eq] <;> omega)))) | (apply gS; (focus (first | exact rfl | omega | (simp only [AHeap.push_next, AHeap.put_next, aadd_block] <;> omega))); (focus exact rfl)) | (apply gP; (focus (first | omega | (simp only [AHeap.push_next, AHeap.put_next, aadd_block, ne_eq] <;> omega)))) | exact rfl)); done)); (focus exact rfl); (focus exact rfl); (focus (first | exact (rfl : _ = some [_]) | exact (rfl : _ = some [_, _, _, _]) | exact (rfl : _ = some [_, _, _, _, _, _, _, _]) | exact (rfl : _ = some [_, _, _, _, _, _, _, _, _, _, _, _, _, _, _, _])))) | (apply cells_k; (focus assumption); (focus (first | assumption | (simp only [aadd_block] <;> first | assumption | omega))); (focus ((repeat' (first | exact Keep.refl | assumption | (apply Keep.push) | (refine Keep.put ?_ ?_; rotate_left; (focus (intro hlt; first | assumption | exact rfl | exact .inl rfl | exact .inr rfl | omega | (exfalso; simp only [AHeap.push_next, AHeap.put_next, aadd_block] at hlt; omega)))))); done))))) (hv := by exact rfl) (hq := ?_))
    | (show EX _ _ _ _ _; first | refine x_normal ?_ | refine x_ret ?_ | refine x_exit ?_ | refine x_same ?_ | refine x_other (h := ?_) | refine x_bnormal ?_ | refine x_bret ?_))
    refine ⟨by simp [flatV, simpleV], ?_, rowP s (pre.length + bl.length + 0) k ta tx nm hv op, ⟨rfl, rfl⟩, ?_, rfl, rfl, SI ..⟩
    · refine Keep.put (hk.trans (by exact kp) fun _ _ h => h) (fun h => ?_)
      exfalso
      have hh : q < H.next := h
      omega
    · rw [Nat.add_zero]
      exact rdx
theorem read_lt {H : AHeap} {p : Nat} {s pre bl rest : List UInt8} {k ta : Int} {tx : List UInt8} {nm : Int} {hv : Bool} {op : Int} (hg3 : H.get 3 = some (.row ⟨strV signsL, 330, 0, false⟩)) (hs : s = pre ++ (bl ++ ([60] ++ (34 :: rest)))) (hbl : ∀ c ∈ bl, c = 32) (hls : s.length < 1000000) (hp : PRow H p s pre.length k ta tx nm hv op) :
    ACalls Tryz.prog 132 #[.pointer (some ⟨p, 0, none⟩)] H fun v H' => ∃ r', (v = .agg #[.int .i64 4, .int .i64 ((pre.length + bl.length : Nat) : Int), .string (strB [60]), .int .i64 0] ∧ r' = rowP s (pre.length + bl.length + 1) k ta tx nm hv op) ∧ H' = H.put p (.row r') := by
  obtain ⟨hp, hpn, hp14⟩ := hp
  refine ACalls.forget1 hpn hp rfl ?_
  have hsz := strB_size s
  have hs2 : s = (pre ++ bl) ++ ([60] ++ (34 :: rest)) := by rw [hs]; simp
  have hpl : (pre ++ bl).length = pre.length + bl.length := List.length_append
  have hno : ∀ (i : Nat) (hi : i < 14) (h16 : i < 16), ¬ ([60] ++ 34 :: rest : List UInt8).take (signsL[i]'h16).length = signsL[i]'h16 := by
    intro i hi h16
    have : i = 0 ∨ i = 1 ∨ i = 2 ∨ i = 3 ∨ i = 4 ∨ i = 5 ∨ i = 6 ∨ i = 7 ∨ i = 8 ∨ i = 9 ∨ i = 10 ∨ i = 11 ∨ i = 12 ∨ i = 13 := by omega
    rcases this with rfl | rfl | rfl | rfl | rfl | rfl | rfl | rfl | rfl | rfl | rfl | rfl | rfl | rfl <;> simp [signsL]
  have hc0 : s[pre.length + bl.length]? = some 60 := by
    rw [hs2, ← hpl]
    exact mid_get (i := 0) (ds := [60]) (by simp)
  obtain ⟨c, hcc⟩ : ∃ c : UInt8, c = 60 := ⟨_, rfl⟩
  rw [← hcc] at hc0
  have hcn : c.toNat = 60 := by rw [hcc]; rfl
  have hlc := (List.getElem?_eq_some_iff.1 hc0).1
  refine k_open (args := [.pointer (some ⟨p, 0, none⟩)]) (E0 := [(0, .pointer (some ⟨p, 0, none⟩))]) tbl132 Tryz.func132 rfl follows (by kernel_rfl) Tryz.ntmps132 rfl rfl ?_
  repeat' (first
    | (show EW _ _ _ _ _; first | refine ew_p (h := ?_) | refine ew_bu (h := ?_) | refine ew_skip (h := ?_) | refine ew_ld (h := ?_) | (refine ew_fresh ?_; intro b hb; refine ew_nw hb (h := ?_); (try simp only [AHeap.push_next, AHeap.put_next] at hb)) | refine ew_st (h := ?_) | (refine ew_df (ht := ?_) (hf := ?_) <;> intro _) | refine ew_ar (h := ?_) | refine w_nil ?_ | refine w_nilD ?_)
    | (show EC _ _ _ _ _ _ _; first | refine k_seq ?_ | refine k_region ?_ | refine k_draw (h := ?_) | refine k_skip ?_ | refine k_ret ?_ | refine k_exit ?_ | refine k_block ?_ | refine k_true (h := ?_) | refine k_false (h := ?_))
    | (show EX _ (bodyA _ _ _) _ _ _; first | refine x_end1 (hq := ?_) | refine x_endc (hc := by (first | assumption | (apply cells_row; (focus ((repeat' (first | assumption | (rw [aadd_block]) | (apply gN; (focus (first | exact rfl | omega | (simp only [AHeap.push_next, AHeap.put_next, aadd_block] <;> omega))); (focus exact rfl)) | (apply gO; (focus (first | omega | (simp only [AHeap.push_next, AHeap.put_next, aadd_block, ne_eq] <;> omega)))) | (apply gS; (focus (first | exact rfl | omega | (simp only [AHeap.push_next, AHeap.put_next, aadd_block] <;> omega))); (focus exact rfl)) | (apply gP; (focus (first | omega | (simp only [AHeap.push_next, AHeap.put_next, aadd_block, ne_eq] <;> omega)))) | exact rfl)); done)); (focus exact rfl); (focus exact rfl); (focus (first | exact (rfl : _ = some [_]) | exact (rfl : _ = some [_, _, _, _]) | exact (rfl : _ = some [_, _, _, _, _, _, _, _]) | exact (rfl : _ = some [_, _, _, _, _, _, _, _, _, _, _, _, _, _, _, _])))) | (apply cells_k; (focus assumption); (focus (first | assumption | (simp only [aadd_block] <;> first | assumption | omega))); (focus ((repeat' (first | exact Keep.refl | assumption | (apply Keep.push) | (refine Keep.put ?_ ?_; rotate_left; (focus (intro hlt; first | assumption | exact rfl | exact .inl rfl | exact .inr rfl | omega | (exfalso; simp only [AHeap.push_next, AHeap.put_next, aadd_block] at hlt; omega)))))); done))))) (hv := by exact rfl) (hq := ?_))
    | (show EX _ _ _ _ _; first | refine x_normal ?_ | refine x_ret ?_ | refine x_exit ?_ | refine x_same ?_ | refine x_other (h := ?_) | refine x_bnormal ?_ | refine x_bret ?_))
  obtain ⟨q, rfl⟩ : ∃ q, q = b := ⟨b, rfl⟩
  refine k_loop follows (BkI H p s pre.length bl.length k ta tx nm hv op q) (bl.length - 0) [(0, _), (2, _)] (by kernel_rfl) ⟨rfl, rfl, trivial⟩ ⟨by exact kp, 0, rfl, by omega, by exact rdx, by exact rdx, by simp; omega, by omega, rfl⟩ ?_
  rintro n E H1 ⟨hk, i, rfl, hi, hp1, hb1, hbn, hHb, rfl⟩
  have hn1 := hk.1
  by_cases hlt : i < bl.length
  · have hc : s[pre.length + i]? = some bl[i] := by rw [hs]; exact mid_get hlt
    have h32 : bl[i].toNat = 32 := by rw [hbl _ (List.getElem_mem hlt)]; rfl
    generalize bl[i] = c at hc h32
    have hlt2 := (List.getElem?_eq_some_iff.1 hc).1
    have e1 : ((pre.length + (i + 1) : Nat) : Int) = ((pre.length + i : Nat) : Int) + 1 := by omega
    repeat' (first
    | (show EW _ _ _ _ _; first | refine ew_p (h := ?_) | refine ew_bu (h := ?_) | refine ew_skip (h := ?_) | refine ew_ld (h := ?_) | (refine ew_fresh ?_; intro b hb; refine ew_nw hb (h := ?_); (try simp only [AHeap.push_next, AHeap.put_next] at hb)) | refine ew_st (h := ?_) | (refine ew_df (ht := ?_) (hf := ?_) <;> intro _) | refine ew_ar (h := ?_) | refine ew_p2 (h := ?_) | (refine ew_df2 (ht := ?_) (hf := ?_) <;> intro _) | refine w_nil ?_ | refine w_nilD ?_)
    | (show EC _ _ _ _ _ _ _; first | refine k_seq ?_ | refine k_region ?_ | refine k_draw (h := ?_) | refine k_skip ?_ | refine k_ret ?_ | refine k_exit ?_ | refine k_block ?_ | refine k_true (h := ?_) | refine k_false (h := ?_))
    | (show EX _ (bodyA _ _ _) _ _ _; first | refine x_end1 (hq := ?_) | refine x_endc (hc := by (first | assumption | (apply cells_row; (focus ((repeat' (first | assumption | (rw [aadd_block]) | (apply gN; (focus (first | exact rfl | omega | (simp only [AHeap.push_next, AHeap.put_next, aadd_block] <;> omega))); (focus exact rfl)) | (apply gO; (focus (first | omega | (simp only [AHeap.push_next, AHeap.put_next, aadd_block, ne_eq] <;> omega)))) | (apply gS; (focus (first | exact rfl | omega | (simp only [AHeap.push_next, AHeap.put_next, aadd_block] <;> omega))); (focus exact rfl)) | (apply gP; (focus (first | omega | (simp only [AHeap.push_next, AHeap.put_next, aadd_block, ne_eq] <;> omega)))) | exact rfl)); done)); (focus exact rfl); (focus exact rfl); (focus (first | exact (rfl : _ = some [_]) | exact (rfl : _ = some [_, _, _, _]) | exact (rfl : _ = some [_, _, _, _, _, _, _, _]) | exact (rfl : _ = some [_, _, _, _, _, _, _, _, _, _, _, _, _, _, _, _])))) | (apply cells_k; (focus assumption); (focus (first | assumption | (simp only [aadd_block] <;> first | assumption | omega))); (focus ((repeat' (first | exact Keep.refl | assumption | (apply Keep.push) | (refine Keep.put ?_ ?_; rotate_left; (focus (intro hlt; first | assumption | exact rfl | exact .inl rfl | exact .inr rfl | omega | (exfalso; simp only [AHeap.push_next, AHeap.put_next, aadd_block] at hlt; omega)))))); done))))) (hv := by exact rfl) (hq := ?_))
    | (show EX _ _ _ _ _; first | refine x_normal ?_ | refine x_ret ?_ | refine x_exit ?_ | refine x_same ?_ | refine x_other (h := ?_) | refine x_bnormal ?_ | refine x_bret ?_))
    exact x_again (bl.length - (i + 1)) [(0, _), (2, _)] ⟨rfl, rfl, trivial⟩ (by omega) ⟨hk.trans (by exact kp) fun _ _ h => h, i + 1, rfl, by omega, by unfold rowP; rw [e1]; exact rdx, by exact rdx, by simpa using hbn, hHb, rfl⟩
  · obtain rfl : i = bl.length := by omega
    have hs1 : H1.get 3 = some (.row ⟨strV signsL, 330, 0, false⟩) := hk.get hg3 (by omega) (by omega)
    have hdrop : s.drop (pre.length + bl.length) = [60] ++ 34 :: rest := by rw [hs2, ← hpl]; simp
    have e2 : ((pre.length + bl.length + 1 : Nat) : Int) = ((pre.length + bl.length : Nat) : Int) + (([60] : List UInt8).length : Int) := by simp
    have e3 : (([60] : List UInt8).length : Int) = 1 := by simp
    clear hcc
    repeat' (first
    | (show EW _ _ _ _ _; first | refine ew_p (h := ?_) | refine ew_bu (h := ?_) | refine ew_skip (h := ?_) | refine ew_ld (h := ?_) | (refine ew_fresh ?_; intro b hb; refine ew_nw hb (h := ?_); (try simp only [AHeap.push_next, AHeap.put_next] at hb)) | refine ew_st (h := ?_) | (refine ew_df (ht := ?_) (hf := ?_) <;> intro _) | refine ew_ar (h := ?_) | refine ew_p2 (h := ?_) | (refine ew_df2 (ht := ?_) (hf := ?_) <;> intro _) | refine w_nil ?_ | refine w_nilD ?_)
    | (show EC _ _ _ _ _ _ _; first | refine k_seq ?_ | refine k_region ?_ | refine k_draw (h := ?_) | refine k_skip ?_ | refine k_ret ?_ | refine k_exit ?_ | refine k_block ?_ | refine k_true (h := ?_) | refine k_false (h := ?_))
    | (show EX _ (bodyA _ _ _) _ _ _; first | refine x_end1 (hq := ?_) | refine x_endc (hc := by (first | assumption | (apply cells_row; (focus ((repeat' (first | assumption | (rw [aadd_block]) | (apply gN; (focus (first | exact rfl | omega | (simp only [AHeap.push_next, AHeap.put_next, aadd_block] <;> omega))); (focus exact rfl)) | (apply gO; (focus (first | omega | (simp only [AHeap.push_next, AHeap.put_next, aadd_block, ne_eq] <;> omega)))) | (apply gS; (focus (first | exact rfl | omega | (simp only [AHeap.push_next, AHeap.put_next, aadd_block] <;> omega))); (focus exact rfl)) | (apply gP; (focus (first | omega | (simp only [AHeap.push_next, AHeap.put_next, aadd_block, ne_eq] <;> omega)))) | exact rfl)); done)); (focus exact rfl); (focus exact rfl); (focus (first | exact (rfl : _ = some [_]) | exact (rfl : _ = some [_, _, _, _]) | exact (rfl : _ = some [_, _, _, _, _, _, _, _]) | exact (rfl : _ = some [_, _, _, _, _, _, _, _, _, _, _, _, _, _, _, _])))) | (apply cells_k; (focus assumption); (focus (first | assumption | (simp only [aadd_block] <;> first | assumption | omega))); (focus ((repeat' (first | exact Keep.refl | assumption | (apply Keep.push) | (refine Keep.put ?_ ?_; rotate_left; (focus (intro hlt; first | assumption | exact rfl | exact .inl rfl | exact .inr rfl | omega | (exfalso; simp only [AHeap.push_next, AHeap.put_next, aadd_block] at hlt; omega)))))); done))))) (hv := by exact rfl) (hq := ?_))
    | (show EX _ _ _ _ _; first | refine x_normal ?_ | refine x_ret ?_ | refine x_exit ?_ | refine x_same ?_ | refine x_other (h := ?_) | refine x_bnormal ?_ | refine x_bret ?_))
    refine k_loop follows (SgI _ p q b 14) (14 - 0) [(63, _), (62, _), (0, _), (2, _), (3, _)] (by kernel_rfl) ⟨rfl, rfl, rfl, rfl, rfl, trivial⟩ ⟨rfl, 0, by omega, rfl, rfl⟩ ?_
    rintro n E _ ⟨rfl, i2, hij, rfl, rfl⟩
    have hi16 : i2 < signsL.length := by show i2 < 16; omega
    by_cases hlt2 : i2 < 14
    · have hne := hno i2 hlt2 (by omega)
      repeat' (first
    | (show EW _ _ _ _ _; first | refine ew_n (hn := r_ix (h := signs_ix (by omega))) (h := ?_) | refine ew_n (hn := r_strsl1 (l := pre.length + bl.length) (e1 := rfl) (hr := hdrop) (h3 := by omega)) (h := ?_) | refine ew_p (h := ?_) | refine ew_bu (h := ?_) | refine ew_skip (h := ?_) | refine ew_ld (h := ?_) | (refine ew_fresh ?_; intro b hb; refine ew_nw hb (h := ?_); (try simp only [AHeap.push_next, AHeap.put_next] at hb)) | refine ew_st (h := ?_) | (refine ew_df (ht := ?_) (hf := ?_) <;> intro _) | refine ew_ar (h := ?_) | (refine ew_cf (hc := cr_call) (hR := hasPre_calls _ _) (h := ?_); rintro _ rfl; rw [decide_eq_false hne]) | refine w_nil ?_ | refine w_nilD ?_)
    | (show EC _ _ _ _ _ _ _; first | refine k_seq ?_ | refine k_region ?_ | refine k_draw (h := ?_) | refine k_skip ?_ | refine k_ret ?_ | refine k_exit ?_ | refine k_block ?_ | refine k_true (h := ?_) | refine k_false (h := ?_))
    | (show EX _ (bodyA _ _ _) _ _ _; first | refine x_end1 (hq := ?_) | refine x_endc (hc := by (first | assumption | (apply cells_row; (focus ((repeat' (first | assumption | (rw [aadd_block]) | (apply gN; (focus (first | exact rfl | omega | (simp only [AHeap.push_next, AHeap.put_next, aadd_block] <;> omega))); (focus exact rfl)) | (apply gO; (focus (first | omega | (simp only [AHeap.push_next, AHeap.put_next, aadd_block, ne_eq] <;> omega)))) | (apply gS; (focus (first | exact rfl | omega | (simp only [AHeap.push_next, AHeap.put_next, aadd_block] <;> omega))); (focus exact rfl)) | (apply gP; (focus (first | omega | (simp only [AHeap.push_next, AHeap.put_next, aadd_block, ne_eq] <;> omega)))) | exact rfl)); done)); (focus exact rfl); (focus exact rfl); (focus (first | exact (rfl : _ = some [_]) | exact (rfl : _ = some [_, _, _, _]) | exact (rfl : _ = some [_, _, _, _, _, _, _, _]) | exact (rfl : _ = some [_, _, _, _, _, _, _, _, _, _, _, _, _, _, _, _])))) | (apply cells_k; (focus assumption); (focus (first | assumption | (simp only [aadd_block] <;> first | assumption | omega))); (focus ((repeat' (first | exact Keep.refl | assumption | (apply Keep.push) | (refine Keep.put ?_ ?_; rotate_left; (focus (intro hlt; first | assumption | exact rfl | exact .inl rfl | exact .inr rfl | omega | (exfalso; simp only [AHeap.push_next, AHeap.put_next, aadd_block] at hlt; omega)))))); done))))) (hv := by exact rfl) (hq := ?_))
    | (show EX _ _ _ _ _; first | refine x_normal ?_ | refine x_ret ?_ | refine x_exit ?_ | refine x_same ?_ | refine x_other (h := ?_) | refine x_bnormal ?_ | refine x_bret ?_))
      exact x_again (14 - (i2 + 1)) [(63, _), (62, _), (0, _), (2, _), (3, _)] ⟨rfl, rfl, rfl, rfl, rfl, trivial⟩ (by omega) ⟨rfl, i2 + 1, by omega, rfl, rfl⟩
    · obtain rfl : i2 = 14 := by omega
      have hix : indexA Tryz.prog 330 (.agg (strV signsL).toArray) (.int .i64 ((14 : Nat) : Int)) = some (.string (strB [60])) := signs_ix (i := 14) (by omega)
      have heq : ([60] ++ 34 :: rest : List UInt8).take ([60] : List UInt8).length = [60] := by simp
      repeat' (first
    | (show EW _ _ _ _ _; first | refine ew_n (hn := r_lenB rfl rfl rfl rfl) (h := ?_) | refine ew_n (hn := r_ix (h := hix)) (h := ?_) | refine ew_n (hn := r_strsl1 (l := pre.length + bl.length) (e1 := rfl) (hr := hdrop) (h3 := by omega)) (h := ?_) | refine ew_p (h := ?_) | refine ew_bu (h := ?_) | refine ew_skip (h := ?_) | refine ew_ld (h := ?_) | (refine ew_fresh ?_; intro b hb; refine ew_nw hb (h := ?_); (try simp only [AHeap.push_next, AHeap.put_next] at hb)) | refine ew_st (h := ?_) | (refine ew_df (ht := ?_) (hf := ?_) <;> intro _) | refine ew_ar (h := ?_) | (refine ew_cf (hc := cr_call) (hR := hasPre_calls _ _) (h := ?_); rintro _ rfl; rw [decide_eq_true heq]) | refine w_nil ?_ | refine w_nilD ?_)
    | (show EC _ _ _ _ _ _ _; first | refine k_seq ?_ | refine k_region ?_ | refine k_draw (h := ?_) | refine k_skip ?_ | refine k_ret ?_ | refine k_exit ?_ | refine k_block ?_ | refine k_true (h := ?_) | refine k_false (h := ?_))
    | (show EX _ (bodyA _ _ _) _ _ _; first | refine x_end1 (hq := ?_) | refine x_endc (hc := by (first | assumption | (apply cells_row; (focus ((repeat' (first | assumption | (rw [aadd_block]) | (apply gN; (focus (first | exact rfl | omega | (simp only [AHeap.push_next, AHeap.put_next, aadd_block] <;> omega))); (focus exact rfl)) | (apply gO; (focus (first | omega | (simp only [AHeap.push_next, AHeap.put_next, aadd_block, ne_eq] <;> omega)))) | (apply gS; (focus (first | exact rfl | omega | (simp only [AHeap.push_next, AHeap.put_next, aadd_block] <;> omega))); (focus exact rfl)) | (apply gP; (focus (first | omega | (simp only [AHeap.push_next, AHeap.put_next, aadd_block, ne_eq] <;> omega)))) | exact rfl)); done)); (focus exact rfl); (focus exact rfl); (focus (first | exact (rfl : _ = some [_]) | exact (rfl : _ = some [_, _, _, _]) | exact (rfl : _ = some [_, _, _, _, _, _, _, _]) | exact (rfl : _ = some [_, _, _, _, _, _, _, _, _, _, _, _, _, _, _, _])))) | (apply cells_k; (focus assumption); (focus (first | assumption | (simp only [aadd_block] <;> first | assumption | omega))); (focus ((repeat' (first | exact Keep.refl | assumption | (apply Keep.push) | (refine Keep.put ?_ ?_; rotate_left; (focus (intro hlt; first | assumption | exact rfl | exact .inl rfl | exact .inr rfl | omega | (exfalso; simp only [AHeap.push_next, AHeap.put_next, aadd_block] at hlt; omega)))))); done))))) (hv := by exact rfl) (hq := ?_))
    | (show EX _ _ _ _ _; first | refine x_normal ?_ | refine x_ret ?_ | refine x_exit ?_ | refine x_same ?_ | refine x_other (h := ?_) | refine x_bnormal ?_ | refine x_bret ?_))
      refine ⟨by simp [flatV, simpleV], ?_, rowP s (pre.length + bl.length + 1) k ta tx nm hv op, ⟨rfl, rfl⟩, ?_, rfl, rfl, SI ..⟩
      · refine Keep.put (hk.trans (by exact kp) fun _ _ h => h) (fun h => ?_)
        exfalso
        have hh : q < H.next := h
        omega
      · unfold rowP
        rw [e2]
        exact rdx
end Go.Ae

/- value.Print of a text: PrOk holds. expr's parse gives up at a text that is too long: by the model's own calculus. expr.Canon of a text that is too long. -/
import Derived.Test.YtmibkoadjehdaaaGreatDoorKy45
import Derived.Test.YtmibkoadjehdaaaGreatDoorKy38
import Derived.Test.YtmibkoadjehdaaaGreatDoorProg
import Derived.KernelRfl
import Derived.Tactics
import Derived.Tactics2
import Derived.Defers
import Derived.Recover
import Derived.Laws.Pointers
import Derived.Laws.NewBlocks
import Derived.Test.YtmibkoadjehdaaaGreatDoorKy39
set_option linter.unusedVariables false
set_option linter.unusedSimpArgs false
set_option linter.unusedSimpArgs false
set_option linter.unusedVariables false
set_option linter.unnecessarySimpa false
set_option maxRecDepth 100000
set_option maxHeartbeats 800000
namespace Go.Ae
open Go.Proofs Go.Proofs.YtmibkoadjehdaaaGreatDoor
theorem glob_next {P : Program} {ρ : Ren} {H : AHeap} {w : World} (hH : RelH P ρ H w) (hg : ∀ p ∈ globs, H.get p.1 = some (.row p.2)) : 14 ≤ H.next := by
  have : globs.map (·.1) = [0, 1, 2, 3, 4, 5, 6, 7, 8, 9, 10, 11, 12, 13] := rfl
  have hm : 13 ∈ globs.map (·.1) := by rw [this]; simp
  obtain ⟨p, hp, e⟩ := List.mem_map.1 hm
  by_cases h : H.next ≤ 13
  · have h1 := hH.wf 13 h
    rw [← e, hg p hp] at h1
    cases h1
  · omega
theorem acalls_pre {f : FuncId} {args : Array Value} {H : AHeap} {Q : Value → AHeap → Prop} (hg : ∀ p ∈ globs, H.get p.1 = some (.row p.2)) (h : 14 ≤ H.next → ACalls Tryz.prog f args H Q) : ACalls Tryz.prog f args H Q :=
  fun ρ w cargs hH hargs => h (glob_next hH hg) ρ w cargs hH hargs
attribute [local irreducible] awC wpSeq wpS nRes aw aE acall ACalls szT isAggT zeroT byT elemSz fieldOff Program.underlying appendA copyA thenA inBlockA bodyA AHeap.push AHeap.put AHeap.cellsAt AHeap.setCells resV loadA intBin EW EC EX Nr Nc Er Cr Agree
def tbl79 : Tbl := []
def tbl121 : Tbl := []
theorem p1_calls {H : AHeap} {q : Nat} {X : Blks} (s : List UInt8) (hs : s.length ≤ 1000000) (hbu : Bu H q X []) (hX : ∀ i, H.next ≤ i → X i) (hg : ∀ p ∈ globs, H.get p.1 = some (.row p.2)) (hn14 : 14 ≤ H.next) (hX14 : ∀ i, BuF q X i → 14 ≤ i) :
    ACalls Tryz.prog 121 #[.pointer (some ⟨q, 0, none⟩), txtV s] H fun v H' => Bu H' q X (valT s) ∧ Keep (BuF q X) H H' := by
  refine k_open (args := [.pointer (some ⟨q, 0, none⟩), txtV s]) (E0 := [(0, .pointer (some ⟨q, 0, none⟩)), (1, txtV s)]) tbl121 Tryz.func121 rfl follows (by kernel_rfl) Tryz.ntmps121 rfl rfl ?_
  repeat' (first
    | (show EW _ _ _ _ _; first | refine ew_p (h := ?_) | refine ew_ld (h := ?_) | (refine ew_fresh ?_; intro b hb; refine ew_nw hb (h := ?_); (try simp only [AHeap.push_next, AHeap.put_next] at hb)) | refine ew_st (h := ?_) | (refine ew_df (ht := ?_) (hf := ?_) <;> intro _) | refine ew_ar (h := ?_) | refine w_nil ?_)
    | (show EC _ _ _ _ _ _ _; first | refine k_seq ?_ | refine k_region ?_ | refine k_skip ?_ | refine k_ret ?_ | refine k_exit ?_ | refine k_block ?_ | refine k_true (h := ?_) | refine k_false (h := ?_))
    | (show EX _ (bodyA _ _ _) _ _ _; first | refine x_end0 (hq := ?_))
    | (show EX _ _ _ _ _; first | refine x_normal ?_ | refine x_ret ?_ | refine x_exit ?_ | refine x_same ?_ | refine x_other (h := ?_) | refine x_bnormal ?_ | refine x_bret ?_))
  have kp : Keep No H (H.push (.row ⟨[.int .i64 2, .int .i64 0, .string (strB s), .slice none 0 0], 82, 0, true⟩)) := Keep.refl.push
  have np : (H.push (.row ⟨[.int .i64 2, .int .i64 0, .string (strB s), .slice none 0 0], 82, 0, true⟩)).next = H.next + 1 := AHeap.push_next ..
  generalize H.push (.row ⟨[.int .i64 2, .int .i64 0, .string (strB s), .slice none 0 0], 82, 0, true⟩) = H1 at kp np ⊢
  refine ew_callS (hc := cr_call) (hR := qt_calls s hs (hbu.keep0 kp) (fun i hi => hX i (by omega)) (by simp) (gk hg hn14 kp) (by omega) hX14) (h := ?_)
  rintro _ H2 ⟨hb2, k2⟩
  repeat' (first
    | (show EW _ _ _ _ _; first | refine ew_p (h := ?_) | refine ew_ld (h := ?_) | (refine ew_fresh ?_; intro b hb; refine ew_nw hb (h := ?_); (try simp only [AHeap.push_next, AHeap.put_next] at hb)) | refine ew_st (h := ?_) | (refine ew_df (ht := ?_) (hf := ?_) <;> intro _) | refine ew_ar (h := ?_) | refine w_nil ?_)
    | (show EC _ _ _ _ _ _ _; first | refine k_seq ?_ | refine k_region ?_ | refine k_skip ?_ | refine k_ret ?_ | refine k_exit ?_ | refine k_block ?_ | refine k_true (h := ?_) | refine k_false (h := ?_))
    | (show EX _ (bodyA _ _ _) _ _ _; first | refine x_end0 (hq := ?_))
    | (show EX _ _ _ _ _; first | refine x_normal ?_ | refine x_ret ?_ | refine x_exit ?_ | refine x_same ?_ | refine x_other (h := ?_) | refine x_bnormal ?_ | refine x_bret ?_))
  exact ⟨hb2, BuF.trans kp.no k2⟩
theorem print_keep {H : AHeap} (s : List UInt8) (hs : s.length ≤ 12) (hg : ∀ p ∈ globs, H.get p.1 = some (.row p.2)) (hn14 : 14 ≤ H.next) :
    ACalls Tryz.prog 79 #[txtV s] H fun v H' => v = .string (strB (valT s)) ∧ flatV v = true ∧ Keep No H H' := by
  have hvl := val_len s
  refine k_open (args := [txtV s]) (E0 := [(0, txtV s)]) tbl79 Tryz.func79 rfl follows (by kernel_rfl) Tryz.ntmps79 rfl rfl ?_
  repeat' (first
    | (show EW _ _ _ _ _; first | refine ew_p (h := ?_) | refine ew_ld (h := ?_) | (refine ew_fresh ?_; intro b hb; refine ew_nw hb (h := ?_); (try simp only [AHeap.push_next, AHeap.put_next] at hb)) | refine w_nil ?_)
    | (show EC _ _ _ _ _ _ _; first | refine k_seq ?_ | refine k_region ?_ | refine k_skip ?_ | refine k_ret ?_ | refine k_exit ?_ | refine k_block ?_ | refine k_true (h := ?_) | refine k_false (h := ?_))
    | (show EX _ (bodyA _ _ _) _ _ _; first | refine x_end1 (hq := ?_))
    | (show EX _ _ _ _ _; first | refine x_normal ?_ | refine x_ret ?_ | refine x_exit ?_ | refine x_same ?_ | refine x_other (h := ?_) | refine x_bnormal ?_ | refine x_bret ?_))
  have hbu := Bu.new (H := H.push (.row ⟨[.int .i64 2, .int .i64 0, .string (strB s), .slice none 0 0], 82, 0, true⟩)) (X := fun i => b < i) (by rw [AHeap.push_next]; exact hb) (fun h => absurd h (Nat.lt_irrefl _))
  have k0 : Keep No H ((H.push (.row ⟨[.int .i64 2, .int .i64 0, .string (strB s), .slice none 0 0], 82, 0, true⟩)).push (.row ⟨[.pointer none, .slice none 0 0], 172, 0, true⟩)) := Keep.refl.push.push
  have n0 : ((H.push (.row ⟨[.int .i64 2, .int .i64 0, .string (strB s), .slice none 0 0], 82, 0, true⟩)).push (.row ⟨[.pointer none, .slice none 0 0], 172, 0, true⟩)).next = H.next + 2 := by rw [AHeap.push_next, AHeap.push_next]
  generalize (H.push (.row ⟨[.int .i64 2, .int .i64 0, .string (strB s), .slice none 0 0], 82, 0, true⟩)).push (.row ⟨[.pointer none, .slice none 0 0], 172, 0, true⟩) = H1 at hbu k0 n0 ⊢
  have hg1 := gk hg hn14 k0
  refine ew_callS (hc := cr_call) (hR := valid_calls (b := s) (by omega) hg1) (h := ?_)
  rintro _ Hz ⟨rfl, he⟩; obtain rfl := he.symm
  refine ew_callS (hc := cr_call) (hR := p1_calls s (by omega) hbu (fun i hi => by show b < i; omega) hg1 (by omega) (fun i h => by rcases h with h | h <;> omega)) (h := ?_)
  rintro _ H2 ⟨hb2, k2⟩
  have n2 := k2.1
  repeat' (first
    | (show EW _ _ _ _ _; first | refine ew_p (h := ?_) | refine ew_ld (h := ?_) | (refine ew_fresh ?_; intro b hb; refine ew_nw hb (h := ?_); (try simp only [AHeap.push_next, AHeap.put_next] at hb)) | refine w_nil ?_)
    | (show EC _ _ _ _ _ _ _; first | refine k_seq ?_ | refine k_region ?_ | refine k_skip ?_ | refine k_ret ?_ | refine k_exit ?_ | refine k_block ?_ | refine k_true (h := ?_) | refine k_false (h := ?_))
    | (show EX _ (bodyA _ _ _) _ _ _; first | refine x_end1 (hq := ?_))
    | (show EX _ _ _ _ _; first | refine x_normal ?_ | refine x_ret ?_ | refine x_exit ?_ | refine x_same ?_ | refine x_other (h := ?_) | refine x_bnormal ?_ | refine x_bret ?_))
  refine ew_callS (hc := cr_call) (hR := st_calls hb2 (by omega)) (h := ?_)
  rintro _ H3 ⟨rfl, k3⟩
  repeat' (first
    | (show EW _ _ _ _ _; first | refine ew_p (h := ?_) | refine ew_ld (h := ?_) | (refine ew_fresh ?_; intro b hb; refine ew_nw hb (h := ?_); (try simp only [AHeap.push_next, AHeap.put_next] at hb)) | refine w_nil ?_)
    | (show EC _ _ _ _ _ _ _; first | refine k_seq ?_ | refine k_region ?_ | refine k_skip ?_ | refine k_ret ?_ | refine k_exit ?_ | refine k_block ?_ | refine k_true (h := ?_) | refine k_false (h := ?_))
    | (show EX _ (bodyA _ _ _) _ _ _; first | refine x_end1 (hq := ?_))
    | (show EX _ _ _ _ _; first | refine x_normal ?_ | refine x_ret ?_ | refine x_exit ?_ | refine x_same ?_ | refine x_other (h := ?_) | refine x_bnormal ?_ | refine x_bret ?_))
  exact ⟨rfl, by simp [flatV, simpleV], (k0.bu k2 (by omega) fun i h => Nat.le_of_lt h).bu (q := b) (k3.weak fun _ _ h => .inr h) (by omega) fun i h => Nat.le_of_lt h⟩
theorem prOk : PrOk valT := fun b hb => ⟨by have := val_len b; omega, val_law b, fun H hg => ACalls.forget (acalls_pre hg fun h => print_keep b hb hg h)⟩
end Go.Ae
set_option linter.unusedVariables false
set_option maxRecDepth 100000
set_option maxHeartbeats 1000000
namespace Go.Ae.Lg
open Go.Proofs
theorem ag3 (w : World) : (isAgg 3).run Tryz.prog w = .ok false w := by kernel_rfl
theorem sz3r (w : World) : (Go.sizeOf 3).run Tryz.prog w = .ok 1 w := by kernel_rfl
theorem ag4 (w : World) : (isAgg 4).run Tryz.prog w = .ok false w := by kernel_rfl
theorem sz4r (w : World) : (Go.sizeOf 4).run Tryz.prog w = .ok 1 w := by kernel_rfl
theorem ag9 (w : World) : (isAgg 9).run Tryz.prog w = .ok false w := by kernel_rfl
theorem sz9r (w : World) : (Go.sizeOf 9).run Tryz.prog w = .ok 1 w := by kernel_rfl
theorem ag20 (w : World) : (isAgg 20).run Tryz.prog w = .ok false w := by kernel_rfl
theorem sz20r (w : World) : (Go.sizeOf 20).run Tryz.prog w = .ok 1 w := by kernel_rfl
theorem ag44 (w : World) : (isAgg 44).run Tryz.prog w = .ok false w := by kernel_rfl
theorem sz44r (w : World) : (Go.sizeOf 44).run Tryz.prog w = .ok 1 w := by kernel_rfl
theorem ag77 (w : World) : (isAgg 77).run Tryz.prog w = .ok false w := by kernel_rfl
theorem sz77r (w : World) : (Go.sizeOf 77).run Tryz.prog w = .ok 1 w := by kernel_rfl
theorem ag134 (w : World) : (isAgg 134).run Tryz.prog w = .ok false w := by kernel_rfl
theorem sz134r (w : World) : (Go.sizeOf 134).run Tryz.prog w = .ok 1 w := by kernel_rfl
theorem ag182 (w : World) : (isAgg 182).run Tryz.prog w = .ok false w := by kernel_rfl
theorem sz182r (w : World) : (Go.sizeOf 182).run Tryz.prog w = .ok 1 w := by kernel_rfl
theorem zv3 (w : World) : (zeroValue 3).run Tryz.prog w = .ok (.int .i64 0) w := by kernel_rfl
theorem zv4 (w : World) : (zeroValue 4).run Tryz.prog w = .ok (.bool false) w := by kernel_rfl
theorem zv44 (w : World) : (zeroValue 44).run Tryz.prog w = .ok (.int .i64 0) w := by kernel_rfl
theorem zv77 (w : World) : (zeroValue 77).run Tryz.prog w = .ok (.nilIface) w := by kernel_rfl
theorem zv134 (w : World) : (zeroValue 134).run Tryz.prog w = .ok (.nilIface) w := by kernel_rfl
theorem zv182 (w : World) : (zeroValue 182).run Tryz.prog w = .ok (.pointer none) w := by kernel_rfl
theorem ag276 (w : World) : (isAgg 276).run Tryz.prog w = .ok true w := by kernel_rfl
theorem eq20 (f : Addr) (w : World) : (binOp .eql 20 (.iface 182 (.pointer (some f))) .nilIface).run Tryz.prog w = .ok (.bool false) w := by kernel_rfl
theorem ta20 (f : Addr) (w : World) : (Instr.typeAssert (.iface 182 (.pointer (some f))) 20 182 true).run Tryz.prog w = .ok (.tuple #[.pointer (some f), .bool true]) w := by kernel_rfl
theorem mk182 (f : Addr) (w : World) : (Instr.makeInterface 182 (.pointer (some f))).run Tryz.prog w = .ok (.iface 182 (.pointer (some f))) w := by kernel_rfl
theorem mk44 (n : Int) (w : World) : (Instr.makeInterface 44 (.int .i64 n)).run Tryz.prog w = .ok (.iface 44 (.int .i64 n)) w := by kernel_rfl
theorem len9 (s : ByteArray) (w : World) : (Builtin.len_ #[9] 3 #[.string s]).run Tryz.prog w = .ok (.int .i64 s.size) w := by kernel_rfl
theorem bld (w : World) : (Instr.build 276 #[(1, .int .i64 0), (2, .iface 44 (.int .i64 30))]).run Tryz.prog w = .ok (.agg #[.int .i64 0, .int .i64 0, .iface 44 (.int .i64 30)]) w := by kernel_rfl
theorem bxf (w : World) : (Instr.box 276 (.agg #[.int .i64 0, .int .i64 0, .iface 44 (.int .i64 30)])).run Tryz.prog w = .ok (.pointer (some ⟨w.heap.size, 0, none⟩)) (w.alloc (.cells #[.int .i64 0, .int .i64 0, .iface 44 (.int .i64 30)] 276)) := by kernel_rfl
theorem st_fact {w : World} {a : Addr} {v x : Value} (hv : v.oneCell' = true) (hc : w.cell? a = some x) (hz : w.frozen? a = false) (m : Go.Mode) : (store a v m).run Tryz.prog w = .ok () (w.setCell a v) := by
  rw [run_store _ _ _ _ _ hv]
  simp [stored, hc, hz]
theorem catch_panicking (p q f : Addr) (older : List PanicEntry) (w : World) {x y : Value} (hp : w.cell? p = some x) (hpz : w.frozen? p = false) (hq : w.cell? q = some y) (hqz : w.frozen? q = false) (hq2 : (w.setCell p .nilIface).cell? q = some y) :
    CallsD Tryz.prog 86 #[.pointer (some p), .pointer (some q)] (.panicking ({ v := .iface 182 (.pointer (some f)), recovered := false } :: older)) w fun e u' w' =>
      e = .returned (.tuple #[]) ∧ u' = .panicking ({ v := .iface 182 (.pointer (some f)), recovered := true } :: older) ∧ w' = (w.setCell p .nilIface).setCell q (.iface 182 (.pointer (some f))) := by
  refine callsD_of_wpS Tryz.func86 rfl fun c₀ cs hu => ?_
  apply wpS_seq
  apply wpS_region
  simp [wpOpsS, go_sem, recoverD, hu, Tryz.ntmps86, Exit.thenS]
  have q3 := ag3; have r3 := sz3r; have u3 := run_underlying (P := Tryz.prog) Tryz.underlying3
  have q4 := ag4; have r4 := sz4r; have u4 := run_underlying (P := Tryz.prog) Tryz.underlying4
  have q9 := ag9; have r9 := sz9r; have u9 := run_underlying (P := Tryz.prog) Tryz.underlying9
  have q20 := ag20; have r20 := sz20r; have u20 := run_underlying (P := Tryz.prog) Tryz.underlying20
  have q44 := ag44; have r44 := sz44r; have u44 := run_underlying (P := Tryz.prog) Tryz.underlying44
  have q77 := ag77; have r77 := sz77r; have u77 := run_underlying (P := Tryz.prog) Tryz.underlying77
  have q134 := ag134; have r134 := sz134r; have u134 := run_underlying (P := Tryz.prog) Tryz.underlying134
  have q182 := ag182; have r182 := sz182r; have u182 := run_underlying (P := Tryz.prog) Tryz.underlying182
  have y3 := zv3
  have y4 := zv4
  have y44 := zv44
  have y77 := zv77
  have y134 := zv134
  have y182 := zv182
  have q276 := ag276; have e1 := eq20; have e2 := ta20; have e3 := mk182; have e4 := mk44; have e5 := len9; have e6 := bld; have e7 := bxf
  have s1 : ∀ m, (store p .nilIface m).run Tryz.prog w = .ok () (w.setCell p .nilIface) := fun m => st_fact rfl hp hpz m
  have s2 : ∀ m, (store q (.iface 182 (.pointer (some f))) m).run Tryz.prog (w.setCell p .nilIface) = .ok () ((w.setCell p .nilIface).setCell q (.iface 182 (.pointer (some f)))) := fun m => st_fact rfl hq2 (by rw [World.frozen?_setCell]; exact hqz) m
  refine wpS_of_wp ?_
  go_wp2
  simp [bodyPostS, results, Tryz.results86]
/-- The three new blocks. -/
def w3 (w : World) (x y : Value) : World := ((w.alloc (.cells #[x] 134)).alloc (.cells #[y] 77)).alloc (.cells #[.int .i64 0, .int .i64 0, .iface 44 (.int .i64 30)] 276)
theorem w3_c0 (w : World) (x y : Value) : (w3 w x y).cell? ⟨w.heap.size, 0, none⟩ = some x := by
  unfold w3
  rw [World.cell?_alloc_past _ _ _ (by simp only [World.size_alloc]; omega), World.cell?_alloc_past _ _ _ (by simp only [World.size_alloc]; omega), World.cell?_alloc_at _ _ _ _ rfl]
  rfl
theorem w3_c1 (w : World) (x y : Value) : (w3 w x y).cell? ⟨w.heap.size + 1, 0, none⟩ = some y := by
  unfold w3
  rw [World.cell?_alloc_past _ _ _ (by simp only [World.size_alloc]; omega), World.cell?_alloc_at _ _ _ _ (by simp only [World.size_alloc])]
  rfl
theorem w3_z0 (w : World) (x y : Value) : (w3 w x y).frozen? ⟨w.heap.size, 0, none⟩ = false := by
  unfold w3
  rw [World.frozen?_alloc_past _ _ _ (by simp only [World.size_alloc]; omega), World.frozen?_alloc_past _ _ _ (by simp only [World.size_alloc]; omega), World.frozen?_alloc_at _ _ _ _ rfl]
theorem w3_z1 (w : World) (x y : Value) : (w3 w x y).frozen? ⟨w.heap.size + 1, 0, none⟩ = false := by
  unfold w3
  rw [World.frozen?_alloc_past _ _ _ (by simp only [World.size_alloc]; omega), World.frozen?_alloc_at _ _ _ _ (by simp only [World.size_alloc])]
theorem w3_s0 (w : World) (x y v : Value) : (w3 w x y).setCell ⟨w.heap.size, 0, none⟩ v = w3 w v y := by
  unfold w3
  rw [World.setCell_alloc_past _ _ _ _ (by simp only [World.size_alloc]; omega), World.setCell_alloc_past _ _ _ _ (by simp only [World.size_alloc]; omega), World.setCell_alloc_at _ _ _ _ _ rfl]
  rfl
theorem w3_s1 (w : World) (x y v : Value) : (w3 w x y).setCell ⟨w.heap.size + 1, 0, none⟩ v = w3 w x v := by
  unfold w3
  rw [World.setCell_alloc_past _ _ _ _ (by simp only [World.size_alloc]; omega), World.setCell_alloc_at _ _ _ _ _ (by simp only [World.size_alloc])]
  rfl
theorem parse_long (s : ByteArray) (w : World) (hs : 100 < s.size) (hs2 : s.size ≤ 1000000) :
    Calls Tryz.prog 44 #[.string s] w fun e w' => e = .returned (.tuple #[.nilIface, .iface 182 (.pointer (some ⟨w.heap.size + 2, 0, none⟩))]) ∧
      w' = w3 w .nilIface (.iface 182 (.pointer (some ⟨w.heap.size + 2, 0, none⟩))) := by
  have hmf : ∀ (fn : Fn) (first cap : Array Value) (w : World), (Instr.makeFunc fn first cap).run Tryz.prog w = .ok (.func fn first cap) w := fun _ _ _ _ => rfl
  have q3 := ag3; have r3 := sz3r; have u3 := run_underlying (P := Tryz.prog) Tryz.underlying3
  have q4 := ag4; have r4 := sz4r; have u4 := run_underlying (P := Tryz.prog) Tryz.underlying4
  have q9 := ag9; have r9 := sz9r; have u9 := run_underlying (P := Tryz.prog) Tryz.underlying9
  have q20 := ag20; have r20 := sz20r; have u20 := run_underlying (P := Tryz.prog) Tryz.underlying20
  have q44 := ag44; have r44 := sz44r; have u44 := run_underlying (P := Tryz.prog) Tryz.underlying44
  have q77 := ag77; have r77 := sz77r; have u77 := run_underlying (P := Tryz.prog) Tryz.underlying77
  have q134 := ag134; have r134 := sz134r; have u134 := run_underlying (P := Tryz.prog) Tryz.underlying134
  have q182 := ag182; have r182 := sz182r; have u182 := run_underlying (P := Tryz.prog) Tryz.underlying182
  have y3 := zv3
  have y4 := zv4
  have y44 := zv44
  have y77 := zv77
  have y134 := zv134
  have y182 := zv182
  have q276 := ag276; have e1 := eq20; have e2 := ta20; have e3 := mk182; have e4 := mk44; have e5 := len9; have e6 := bld; have e7 := bxf
  go_enter_defers Tryz.func44, Tryz.ntmps44
  have e8 : ∀ (a : Addr) (w : World), (Instr.panic (.iface 182 (.pointer (some a)))).run Tryz.prog w = .halt (.panic (.iface 182 (.pointer (some a)))) w := fun _ _ => rfl
  go_wp2
  refine ⟨rfl, ?_⟩
  refine leaves_cons (f := 86) (args := #[.pointer (some ⟨w.heap.size, 0, none⟩), .pointer (some ⟨w.heap.size + 1, 0, none⟩)]) (by simp) (by simp [go_sem]) ?_
  refine (catch_panicking ⟨w.heap.size, 0, none⟩ ⟨w.heap.size + 1, 0, none⟩ ⟨w.heap.size + 2, 0, none⟩ [] (w3 w .nilIface .nilIface) (x := .nilIface) (y := .nilIface) (w3_c0 ..) (w3_z0 ..) (w3_c1 ..) (w3_z1 ..) (by rw [w3_s0, w3_c1])).mono ?_
  rintro e u' w'' ⟨rfl, rfl, rfl⟩
  rw [w3_s0, w3_s1]
  have z0 := w3_c0 w .nilIface (.iface 182 (.pointer (some ⟨w.heap.size + 2, 0, none⟩)))
  have z1 := w3_c1 w .nilIface (.iface 182 (.pointer (some ⟨w.heap.size + 2, 0, none⟩)))
  generalize w3 w .nilIface (.iface 182 (.pointer (some ⟨w.heap.size + 2, 0, none⟩))) = W at z0 z1
  simp [Leaves, settle, results, Tryz.results44, go_sem, z0, z1]
end Go.Ae.Lg
set_option linter.unusedVariables false
set_option linter.unusedSimpArgs false
set_option maxRecDepth 100000
namespace Go.Ae
open Go.Proofs Go.Ae.Lg
theorem alloc_old (w : World) (o : Obj) {b : Nat} (h : b < w.heap.size) : (w.alloc o).heap[b]? = w.heap[b]? := by
  unfold World.alloc
  rw [Array.getElem?_push, if_neg (by omega)]
/-- A block that no name stands for. -/
theorem RelH.grow {P : Program} {ρ : Ren} {H : AHeap} {w : World} (hH : RelH P ρ H w) (o : Obj) : RelH P ρ H (w.alloc o) :=
  have hold : ∀ {b}, b < w.heap.size → (w.alloc o).heap[b]? = w.heap[b]? := fun hb => alloc_old w o hb
  ⟨hH.wf, fun i v s h => ⟨(hH.dom i v s h).1, Nat.lt_of_lt_of_le (hH.dom i v s h).2 (by rw [World.size_alloc]; omega)⟩, hH.apart,
    fun i r hr s h => (hH.row i r hr s h).mono (Ren.le_refl ρ) (hold (hH.dom _ _ _ h).2),
    fun i o' hi ho s h => (hH.obj i o' hi ho s h).mono (Ren.le_refl ρ) (hold (hH.dom _ _ _ h).2), hH.future, hH.glob⟩
theorem ExtN.grow {n0 : Nat} {P : Program} {ρ : Ren} {H : AHeap} {w : World} (hH : RelH P ρ H w) (o : Obj) : ExtN n0 ρ H w ρ H (w.alloc o) :=
  have hold : ∀ {b}, b < w.heap.size → (w.alloc o).heap[b]? = w.heap[b]? := fun hb => alloc_old w o hb
  ⟨Ren.le_refl ρ, by rw [World.size_alloc]; omega, Nat.le_refl _, fun b hb _ => hold hb, fun i v s h => .inl ⟨i, v, s, h, rfl⟩, fun i _ h => ⟨rfl, h⟩,
    fun i r _ h _ => ⟨h, fun v s hs => hold (hH.dom _ _ _ hs).2⟩, rfl, rfl⟩
def faultR : Row := ⟨[.int .i64 0, .int .i64 0, .iface 44 (.int .i64 30)], 276, 0, true⟩
theorem parse_gives {s : List UInt8} (h1 : 100 < s.length) (h2 : s.length ≤ 1000000) (H : AHeap) :
    ACalls Tryz.prog 44 #[.string (strB s)] H fun v H' => v = .tuple #[.nilIface, .iface 182 (.pointer (some ⟨H.next, 0, none⟩))] ∧ H' = H.push (.row faultR) := by
  intro ρ w cargs hH hargs
  obtain ⟨cs⟩ := cargs
  cases hargs with
  | cons hv ht =>
    cases ht
    cases hv
    have hz : (strB s).size = s.length := strB_size s
    refine (parse_long (strB s) w (by omega) (by omega)).mono ?_
    rintro e w' ⟨rfl, rfl⟩
    have hH2 := (hH.grow (.cells #[.nilIface] 134)).grow (.cells #[.iface 182 (.pointer (some ⟨w.heap.size + 2, 0, none⟩))] 77)
    have hE2 : ExtN H.next ρ H w _ _ _ := (ExtN.grow hH (.cells #[.nilIface] 134)).trans (ExtN.grow (hH.grow (.cells #[.nilIface] 134)) (.cells #[.iface 182 (.pointer (some ⟨w.heap.size + 2, 0, none⟩))] 77))
    have hsz : ((w.alloc (.cells #[.nilIface] 134)).alloc (.cells #[.iface 182 (.pointer (some ⟨w.heap.size + 2, 0, none⟩))] 77)).heap.size = w.heap.size + 2 := by simp only [World.size_alloc]
    unfold w3
    generalize (w.alloc (.cells #[.nilIface] 134)).alloc (.cells #[.iface 182 (.pointer (some ⟨w.heap.size + 2, 0, none⟩))] 77) = W at hH2 hE2 hsz ⊢
    have hp := place_new (hH2.push (.row faultR)) (n := H.next) (r := faultR) (by rw [AHeap.push_get, if_pos rfl]) (fun v => hH.noPlace (Nat.le_refl _) v) (by rw [AHeap.push_next]; omega) rfl (esz := 3) (by kernel_rfl)
      (cs := #[.int .i64 0, .int .i64 0, .iface 44 (.int .i64 30)]) (by exact Nat.le_refl 3) (.cons (.int .i64 0) (.cons (.int .i64 0) (.cons (.iface 44 (.int .i64 30)) .nil)))
    refine ⟨_, _, _, _, rfl, ⟨rfl, rfl⟩, ?_, hp.1, hE2.trans ((ExtN.push (.row faultR) _ (Nat.le_refl _)).trans (hp.2 _ (Nat.le_refl _)))⟩
    refine .tuple rfl fun i x y hx hy => ?_
    match i, hx, hy with
    | 0, hx, hy => cases hx; cases hy; exact .nilIface
    | 1, hx, hy =>
      cases hx; cases hy
      refine .iface _ (.ptr ⟨_, Ren.set_same .., Nat.zero_le _, ?_⟩)
      simp only [Seg.at, hsz]
    | i + 2, hx, hy => simp at hx
attribute [local irreducible] awC wpSeq wpS nRes aw aE acall ACalls szT isAggT zeroT byT elemSz fieldOff Program.underlying appendA copyA thenA inBlockA bodyA AHeap.push AHeap.put AHeap.cellsAt AHeap.setCells resV loadA intBin EW EC EX Nr Nc Er Cr Agree
def tbl27 : Tbl := []
theorem longOk : LongOk := by
  intro s h1 h2 H hg hn14
  refine k_open (args := [.string (strB s)]) (E0 := [(0, .string (strB s))]) tbl27 Tryz.func27 rfl follows (by kernel_rfl) Tryz.ntmps27 rfl rfl ?_
  repeat' (first
    | (show EW _ _ _ _ _; first | refine ew_p (h := ?_) | (refine ew_df (ht := ?_) (hf := ?_) <;> intro _) | refine w_nil ?_)
    | (show EC _ _ _ _ _ _ _; first | refine k_seq ?_ | refine k_region ?_ | refine k_skip ?_ | refine k_ret ?_ | refine k_exit ?_ | refine k_block ?_ | refine k_true (h := ?_) | refine k_false (h := ?_))
    | (show EX _ (bodyA _ _ _) _ _ _; first | refine x_end2 (hq := ?_))
    | (show EX _ _ _ _ _; first | refine x_normal ?_ | refine x_ret ?_ | refine x_exit ?_ | refine x_same ?_ | refine x_other (h := ?_) | refine x_bnormal ?_ | refine x_bret ?_))
  refine ew_callS (hc := cr_call) (hR := parse_gives h1 h2 H) (h := ?_)
  rintro _ Hz ⟨rfl, he⟩; obtain rfl := he.symm
  have un77 : UnT Tryz.prog 77 _ := ⟨Tryz.underlying77⟩
  repeat' (first
    | (show EW _ _ _ _ _; first | refine ew_p (h := ?_) | (refine ew_df (ht := ?_) (hf := ?_) <;> intro _) | refine ew_p2 (h := ?_) | (refine ew_df2 (ht := ?_) (hf := ?_) <;> intro _) | refine w_nil ?_)
    | (show EC _ _ _ _ _ _ _; first | refine k_seq ?_ | refine k_region ?_ | refine k_skip ?_ | refine k_ret ?_ | refine k_exit ?_ | refine k_block ?_ | refine k_true (h := ?_) | refine k_false (h := ?_))
    | (show EX _ (bodyA _ _ _) _ _ _; first | refine x_end2 (hq := ?_))
    | (show EX _ _ _ _ _; first | refine x_normal ?_ | refine x_ret ?_ | refine x_exit ?_ | refine x_same ?_ | refine x_other (h := ?_) | refine x_bnormal ?_ | refine x_bret ?_))
  exact ⟨⟨_, _, rfl⟩, Keep.refl.push⟩
end Go.Ae

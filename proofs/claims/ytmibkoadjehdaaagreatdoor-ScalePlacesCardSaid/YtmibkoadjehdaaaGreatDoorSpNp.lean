/- The two deferred functions of the parsers do nothing while nothing panics. No condition. -/
import Derived.Test.YtmibkoadjehdaaaGreatDoorAeNp
import Derived.Test.YtmibkoadjehdaaaGreatDoorAeE
import Derived.Test.YtmibkoadjehdaaaGreatDoorProg
set_option linter.unusedSimpArgs false
set_option linter.unusedVariables false
set_option maxRecDepth 100000
namespace Go.Ae
open Go.Proofs

def tbl222 : Tbl := [(4, [0, 1, 2, 3, 4, 5, 6, 7, 8, 9, 10, 11, 12, 13], [0, 0, 0, 0, 0, 16, 0, 64, 9, 265, 827, 1851, 4095, 8191])]
theorem follows3 : (Tryz.prog).follows .mixedOrders = true := by kernel_rfl
theorem eql20 (x y : Operand) (hx : ∃ t, x = .tmp t) (hy : y = .const .nilIface) : quiet Tryz.prog (do eqGuard .eql 20 x y .nilIface .nilIface; binOp .eql 20 .nilIface .nilIface) = some (.bool true) := by
  obtain ⟨t, rfl⟩ := hx
  subst hy
  kernel_rfl
theorem n_eql20 {a : Act} {H : AHeap} {d : Option Tmp} {yt ty : TypeId} {p : String} {af : Array Edge} {g : Option (Nat × Bool)} {x : Tmp} (hx : a.eval (.tmp x) = .nilIface) :
    nRes Tryz.prog a H ⟨d, .binOp .eql 20 (.tmp x) (.const .nilIface) yt, ty, p, af, g⟩ = some (.bool true, H) := by
  have hq : quiet Tryz.prog (execOp a.eval ⟨d, .binOp .eql 20 (.tmp x) (.const .nilIface) yt, ty, p, af, g⟩) = some (.value (.bool true)) := by
    have := eql20 (.tmp x) (.const .nilIface) ⟨x, rfl⟩ rfl
    simp only [execOp, hx, Act.eval_const]
    rw [quiet_bind, this]
    rfl
  have h2 : quietOp Tryz.prog a.eval ⟨d, .binOp .eql 20 (.tmp x) (.const .nilIface) yt, ty, p, af, g⟩ = some (.bool true) := quietOp_of (by simp [Op.operands, hx, Act.eval_const, simpleV]) hq rfl
  simp [nRes, aP, hx, Act.eval_const, simpleV, h2]
theorem noop86 : NoopD Tryz.prog 86 := by
  refine noop_of Tryz.func86 (by kernel_rfl) rfl rfl (by kernel_rfl) (by kernel_rfl) fun a H hd hn => ?_
  refine q_nil ?_
  refine awC_sound (tbl := []) follows3 _ _ _ _ (by kernel_rfl) ?_
  have h5 : (a.put (some 5) .nilIface).eval (.tmp 5) = .nilIface := by
    rw [Act.eval_put_tmp, if_pos]
    refine ⟨rfl, Nat.lt_of_lt_of_le ?_ hn⟩
    exact Nat.lt_of_lt_of_eq (show 5 < 13 by decide) (show 13 = (Tryz.f86).ntmps from rfl)
  refine c_block (c_seq (c_region (q_n (v := .bool true) (H' := H) rfl rfl (n_eql20 h5) (q_nil ?_))))
  refine c_true ?_ (c_region (q_n (v := _) (H' := H) rfl rfl rfl (q_nil ?_)))
  · show ((a.put (some 5) .nilIface).put (some 7) (.bool true)).eval (.tmp 7) = .bool true
    rw [Act.eval_put_tmp, if_pos]
    refine ⟨rfl, ?_⟩
    rw [Act.size_put]
    refine Nat.lt_of_lt_of_le ?_ hn
    exact Nat.lt_of_lt_of_eq (show 7 < 13 by decide) (show 13 = (Tryz.f86).ntmps from rfl)
  · exact ⟨.inl rfl, hd, rfl⟩
theorem caught_calls (H : AHeap) (u v x : Value) : ACalls Tryz.prog 222 #[.nilIface, u, v, x] H fun _ H' => H' = H := by
  refine acalls_of (tbl := tbl222) Tryz.func222 rfl follows3 (by kernel_rfl) (show 4 ≤ 31 by decide) fun a hn hd ha => ?_
  have h0 := ha 0 .nilIface rfl
  have e1 : (a.put (some 10) .nilIface).eval (.tmp 10) = .nilIface := by
    rw [Act.eval_put_tmp, if_pos]
    exact ⟨rfl, by rw [hn]; decide⟩
  have e2 : ((a.put (some 10) .nilIface).put (some 11) (.bool true)).eval (.tmp 11) = .bool true := by
    rw [Act.eval_put_tmp, if_pos]
    refine ⟨rfl, ?_⟩
    rw [Act.size_put, hn]; decide
  have n1 : nRes Tryz.prog a H ⟨some 10, .move (.tmp 0), 20, "text.go:88", #[], none⟩ = some (.nilIface, H) := by simp [nRes, aP, h0]
  refine c_seq (c_seq (c_seq (c_region (q_n (v := .nilIface) (H' := H) rfl rfl n1 (q_n (v := .bool true) (H' := H) rfl rfl (n_eql20 e1) (q_nil ?_))))))
  refine c_true e2 (c_ret ?_)
  exact ⟨.inr rfl, hd, [], rfl, rfl⟩
theorem noop221 : NoopD Tryz.prog 221 := by
  refine noop_of1 Tryz.func221 (by kernel_rfl) rfl rfl (by kernel_rfl) (by kernel_rfl) fun a H hd hn => ?_
  have e3 : (a.put (some 3) .nilIface).eval (.tmp 3) = .nilIface := by
    rw [Act.eval_put_tmp, if_pos]
    refine ⟨rfl, Nat.lt_of_lt_of_le ?_ hn⟩
    exact Nat.lt_of_lt_of_eq (show 3 < 5 by decide) (show 5 = (Tryz.f221).ntmps from rfl)
  refine q_call (f := 222) (args := #[.nilIface, (a.put (some 3) .nilIface).eval (.tmp 0), (a.put (some 3) .nilIface).eval (.tmp 1), (a.put (some 3) .nilIface).eval (.tmp 2)]) rfl rfl ?_ ?_
  · have hb : (Tryz.f222.name == "runtime.NumGoroutine" || Tryz.f222.body.isNone) = false := by kernel_rfl
    show acall Tryz.prog (a.put (some 3) .nilIface).eval _ = _
    simp [acall, Act.eval_func, Tryz.func222, hb, e3]
  · exact (caught_calls H _ _ _).mono fun v H' h => q_nil ⟨hd, h⟩
end Go.Ae

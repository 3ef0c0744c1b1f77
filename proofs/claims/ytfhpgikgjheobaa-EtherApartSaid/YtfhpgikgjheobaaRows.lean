/-
  No cell of these rows narrows 'for every input' (looked for: loops, veiled, ifaces, maps, wideKeys, modest, calm, conditions, laid).
  DERIVED. THE GIVEN ROWS OF THIS SEAT. 10 by the template 'for every input the law returns true; each argument reads behind the call as it read before'; 0 by the template 'total and deterministic' (their statements: YtfhpgikgjheobaaTotals.lean).
  GIVEN WITH THE SEED: the statements are not yours to turn. If you find one false, say at which input.
  Laid BY PROGRAM, IN A SANDBOX (cutbox-rows.mjs): the forced cells as the released guide's own fill.sh prints them over the translation 46992078e1603e61… (all of the seat's roots in one cut). By AI agents, Wed Nov 11 2026. No macro, syntax, notation, axiom, sorry.
-/
import Derived.Test.YtfhpgikgjheobaaChecked
import GoSem.Claim
import GoSem.ClaimJoined
import GoSem.ClaimMapViews
import Derived.JoinedTies
import Derived.KernelRfl
namespace Go.Proofs.Ytfhpgikgjheobaa
/- THE CELL 'sum', in the pinned program and in every row, IS THE sha256 OF THE DUMP (.gsa) THAT YtfhpgikgjheobaaProg.lean LOADS. Nothing in Lean hashes anything: it is a label: what it is worth is what the hold of that sum in a sandbox is worth. -/
noncomputable def Try.pinned : Pinned := { name := "ytfhpgikgjheobaa", sum := "46992078e1603e6149092bb078075460b256c6e2ab8eff3b5ee014573245b4ac", checked := Try.checked }
namespace Rows
def none {H : Type} : Left H := { results := [], args := [] }

/-- 'eddylaw17.HealNames': WHATEVER THE INPUT: true; the input reads as it did. -/
def healNamesSpec : ChangeSpec := { name := "healNames", fn := fun _ => fun
  | [] => { results := [.lit (.bool true)], args := [] }
  | _ => none }
def healNamesRow : OpenClaim := { program := "ytfhpgikgjheobaa", sum := "46992078e1603e6149092bb078075460b256c6e2ab8eff3b5ee014573245b4ac", func := "eddy/eddylaw17.HealNames", spec := "healNames", apart := false }
def HealNamesSaid : Prop := healNamesRow.holds Try.pinned (OpenSpec.ofChange healNamesSpec)

/-- ITS FALSE NEIGHBOUR: 'it returns false'. Refute it at one input. -/
def healNamesWrong : ChangeSpec := { name := "healNames", fn := fun _ => fun
  | [] => { results := [.lit (.bool false)], args := [] }
  | _ => none }
def HealNamesWrongFalsely : Prop := healNamesRow.holds Try.pinned (OpenSpec.ofChange healNamesWrong)

/-- 'eddylaw19.EngineNames': WHATEVER THE INPUT: true; the input reads as it did. -/
def engineNamesSpec : ChangeSpec := { name := "engineNames", fn := fun _ => fun
  | [] => { results := [.lit (.bool true)], args := [] }
  | _ => none }
def engineNamesRow : OpenClaim := { program := "ytfhpgikgjheobaa", sum := "46992078e1603e6149092bb078075460b256c6e2ab8eff3b5ee014573245b4ac", func := "eddy/eddylaw19.EngineNames", spec := "engineNames", apart := false }
def EngineNamesSaid : Prop := engineNamesRow.holds Try.pinned (OpenSpec.ofChange engineNamesSpec)

/-- ITS FALSE NEIGHBOUR: 'it returns false'. Refute it at one input. -/
def engineNamesWrong : ChangeSpec := { name := "engineNames", fn := fun _ => fun
  | [] => { results := [.lit (.bool false)], args := [] }
  | _ => none }
def EngineNamesWrongFalsely : Prop := engineNamesRow.holds Try.pinned (OpenSpec.ofChange engineNamesWrong)

/-- 'eddylaw20.ScaleNames': WHATEVER THE INPUT: true; the input reads as it did. -/
def scaleNamesSpec : ChangeSpec := { name := "scaleNames", fn := fun _ => fun
  | [] => { results := [.lit (.bool true)], args := [] }
  | _ => none }
def scaleNamesRow : OpenClaim := { program := "ytfhpgikgjheobaa", sum := "46992078e1603e6149092bb078075460b256c6e2ab8eff3b5ee014573245b4ac", func := "eddy/eddylaw20.ScaleNames", spec := "scaleNames", apart := false }
def ScaleNamesSaid : Prop := scaleNamesRow.holds Try.pinned (OpenSpec.ofChange scaleNamesSpec)

/-- ITS FALSE NEIGHBOUR: 'it returns false'. Refute it at one input. -/
def scaleNamesWrong : ChangeSpec := { name := "scaleNames", fn := fun _ => fun
  | [] => { results := [.lit (.bool false)], args := [] }
  | _ => none }
def ScaleNamesWrongFalsely : Prop := scaleNamesRow.holds Try.pinned (OpenSpec.ofChange scaleNamesWrong)

/-- 'eddylaw22.EtherNames': WHATEVER THE INPUT: true; the input reads as it did. -/
def etherNamesSpec : ChangeSpec := { name := "etherNames", fn := fun _ => fun
  | [] => { results := [.lit (.bool true)], args := [] }
  | _ => none }
def etherNamesRow : OpenClaim := { program := "ytfhpgikgjheobaa", sum := "46992078e1603e6149092bb078075460b256c6e2ab8eff3b5ee014573245b4ac", func := "eddy/eddylaw22.EtherNames", spec := "etherNames", apart := false }
def EtherNamesSaid : Prop := etherNamesRow.holds Try.pinned (OpenSpec.ofChange etherNamesSpec)

/-- ITS FALSE NEIGHBOUR: 'it returns false'. Refute it at one input. -/
def etherNamesWrong : ChangeSpec := { name := "etherNames", fn := fun _ => fun
  | [] => { results := [.lit (.bool false)], args := [] }
  | _ => none }
def EtherNamesWrongFalsely : Prop := etherNamesRow.holds Try.pinned (OpenSpec.ofChange etherNamesWrong)

/-- 'eddylaw22.EtherOrder': WHATEVER THE INPUT: true; the input reads as it did. -/
def etherOrderSpec : ChangeSpec := { name := "etherOrder", fn := fun _ => fun
  | [d1, d2] => { results := [.lit (.bool true)], args := [d1, d2] }
  | _ => none }
def etherOrderRow : OpenClaim := { program := "ytfhpgikgjheobaa", sum := "46992078e1603e6149092bb078075460b256c6e2ab8eff3b5ee014573245b4ac", func := "eddy/eddylaw22.EtherOrder", spec := "etherOrder", apart := false }
def EtherOrderSaid : Prop := etherOrderRow.holds Try.pinned (OpenSpec.ofChange etherOrderSpec)

/-- ITS FALSE NEIGHBOUR: 'it returns false'. Refute it at one input. -/
def etherOrderWrong : ChangeSpec := { name := "etherOrder", fn := fun _ => fun
  | [d1, d2] => { results := [.lit (.bool false)], args := [d1, d2] }
  | _ => none }
def EtherOrderWrongFalsely : Prop := etherOrderRow.holds Try.pinned (OpenSpec.ofChange etherOrderWrong)

/-- 'eddylaw22.EtherFull': WHATEVER THE INPUT: true; the input reads as it did. -/
def etherFullSpec : ChangeSpec := { name := "etherFull", fn := fun _ => fun
  | [d1, d2] => { results := [.lit (.bool true)], args := [d1, d2] }
  | _ => none }
def etherFullRow : OpenClaim := { program := "ytfhpgikgjheobaa", sum := "46992078e1603e6149092bb078075460b256c6e2ab8eff3b5ee014573245b4ac", func := "eddy/eddylaw22.EtherFull", spec := "etherFull", apart := false }
def EtherFullSaid : Prop := etherFullRow.holds Try.pinned (OpenSpec.ofChange etherFullSpec)

/-- ITS FALSE NEIGHBOUR: 'it returns false'. Refute it at one input. -/
def etherFullWrong : ChangeSpec := { name := "etherFull", fn := fun _ => fun
  | [d1, d2] => { results := [.lit (.bool false)], args := [d1, d2] }
  | _ => none }
def EtherFullWrongFalsely : Prop := etherFullRow.holds Try.pinned (OpenSpec.ofChange etherFullWrong)

/-- 'eddylaw22.EtherApart': WHATEVER THE INPUT: true; the input reads as it did. -/
def etherApartSpec : ChangeSpec := { name := "etherApart", fn := fun _ => fun
  | [d1, d2] => { results := [.lit (.bool true)], args := [d1, d2] }
  | _ => none }
def etherApartRow : OpenClaim := { program := "ytfhpgikgjheobaa", sum := "46992078e1603e6149092bb078075460b256c6e2ab8eff3b5ee014573245b4ac", func := "eddy/eddylaw22.EtherApart", spec := "etherApart", apart := false }
def EtherApartSaid : Prop := etherApartRow.holds Try.pinned (OpenSpec.ofChange etherApartSpec)

/-- ITS FALSE NEIGHBOUR: 'it returns false'. Refute it at one input. -/
def etherApartWrong : ChangeSpec := { name := "etherApart", fn := fun _ => fun
  | [d1, d2] => { results := [.lit (.bool false)], args := [d1, d2] }
  | _ => none }
def EtherApartWrongFalsely : Prop := etherApartRow.holds Try.pinned (OpenSpec.ofChange etherApartWrong)

/-- 'eddylaw22.EtherHonest': WHATEVER THE INPUT: true; the input reads as it did. -/
def etherHonestSpec : ChangeSpec := { name := "etherHonest", fn := fun _ => fun
  | [d1, d2] => { results := [.lit (.bool true)], args := [d1, d2] }
  | _ => none }
def etherHonestRow : OpenClaim := { program := "ytfhpgikgjheobaa", sum := "46992078e1603e6149092bb078075460b256c6e2ab8eff3b5ee014573245b4ac", func := "eddy/eddylaw22.EtherHonest", spec := "etherHonest", apart := false }
def EtherHonestSaid : Prop := etherHonestRow.holds Try.pinned (OpenSpec.ofChange etherHonestSpec)

/-- ITS FALSE NEIGHBOUR: 'it returns false'. Refute it at one input. -/
def etherHonestWrong : ChangeSpec := { name := "etherHonest", fn := fun _ => fun
  | [d1, d2] => { results := [.lit (.bool false)], args := [d1, d2] }
  | _ => none }
def EtherHonestWrongFalsely : Prop := etherHonestRow.holds Try.pinned (OpenSpec.ofChange etherHonestWrong)

/-- 'eddylaw22.EtherPlays': WHATEVER THE INPUT: true; the input reads as it did. -/
def etherPlaysSpec : ChangeSpec := { name := "etherPlays", fn := fun _ => fun
  | [d1, d2, d3] => { results := [.lit (.bool true)], args := [d1, d2, d3] }
  | _ => none }
def etherPlaysRow : OpenClaim := { program := "ytfhpgikgjheobaa", sum := "46992078e1603e6149092bb078075460b256c6e2ab8eff3b5ee014573245b4ac", func := "eddy/eddylaw22.EtherPlays", spec := "etherPlays", apart := false }
def EtherPlaysSaid : Prop := etherPlaysRow.holds Try.pinned (OpenSpec.ofChange etherPlaysSpec)

/-- ITS FALSE NEIGHBOUR: 'it returns false'. Refute it at one input. -/
def etherPlaysWrong : ChangeSpec := { name := "etherPlays", fn := fun _ => fun
  | [d1, d2, d3] => { results := [.lit (.bool false)], args := [d1, d2, d3] }
  | _ => none }
def EtherPlaysWrongFalsely : Prop := etherPlaysRow.holds Try.pinned (OpenSpec.ofChange etherPlaysWrong)

/-- 'eddylaw22.EtherTurns': WHATEVER THE INPUT: true; the input reads as it did. -/
def etherTurnsSpec : ChangeSpec := { name := "etherTurns", fn := fun _ => fun
  | [d1, d2, d3] => { results := [.lit (.bool true)], args := [d1, d2, d3] }
  | _ => none }
def etherTurnsRow : OpenClaim := { program := "ytfhpgikgjheobaa", sum := "46992078e1603e6149092bb078075460b256c6e2ab8eff3b5ee014573245b4ac", func := "eddy/eddylaw22.EtherTurns", spec := "etherTurns", apart := false }
def EtherTurnsSaid : Prop := etherTurnsRow.holds Try.pinned (OpenSpec.ofChange etherTurnsSpec)

/-- ITS FALSE NEIGHBOUR: 'it returns false'. Refute it at one input. -/
def etherTurnsWrong : ChangeSpec := { name := "etherTurns", fn := fun _ => fun
  | [d1, d2, d3] => { results := [.lit (.bool false)], args := [d1, d2, d3] }
  | _ => none }
def EtherTurnsWrongFalsely : Prop := etherTurnsRow.holds Try.pinned (OpenSpec.ofChange etherTurnsWrong)

/- THE SECOND FORM. 'bulk': how many values and letters a reading holds, each counted each time it is reached (what is shared counts as often as it is met; a slice's spare places count too). A statement '..UptoSaid' is the law's where the arguments, and the package variables that the reading takes, are together of bulk at most 1048576: NARROWER than '..Said'. Prove '..Said' where nothing that the law and all that it calls make is longer than what came in: it says more and counts as full. Else prove '..UptoSaid'. A law counts once. -/
mutual
def uptoBulk {H : Type} : DataW H → Nat
  | .lit (.string bytes) => bytes.length + 1
  | .lit _ => 1
  | .nil => 1
  | .ptr d => uptoBulk d + 1
  | .slice elems spare => uptoBulkAll elems + uptoBulkAll spare + 1
  | .agg parts => uptoBulkAll parts + 1
  | .iface _ d => uptoBulk d + 1
  | .map entries => uptoBulkEntries entries + 1
  | .held _ => 1
def uptoBulkAll {H : Type} : List (DataW H) → Nat
  | [] => 0
  | d :: r => uptoBulk d + uptoBulkAll r
def uptoBulkEntries {H : Type} : List (Lit × DataW H) → Nat
  | [] => 0
  | x :: r => uptoBulkEntry x + uptoBulkEntries r
def uptoBulkEntry {H : Type} : Lit × DataW H → Nat
  | (.string bytes, d) => bytes.length + uptoBulk d + 1
  | (_, d) => uptoBulk d + 1
 end
def uptoSmall : (H : Type) → List (DataW H) → Bool := fun _ ds => decide (uptoBulkAll ds ≤ 1048576)
def OpenSpec.upto (s : _root_.Go.ChangeSpec) : _root_.Go.OpenSpec := { _root_.Go.OpenSpec.ofChange s with cond := some uptoSmall }

/-- 'eddylaw17.HealNames', WHERE WHAT IT READS IS OF BULK AT MOST 1048576: true; the input reads as it did. -/
def healNamesUptoRow : OpenClaim := { program := "ytfhpgikgjheobaa", sum := "46992078e1603e6149092bb078075460b256c6e2ab8eff3b5ee014573245b4ac", func := "eddy/eddylaw17.HealNames", spec := "healNames", apart := false, narrowed := true }
def HealNamesUptoSaid : Prop := healNamesUptoRow.holds Try.pinned (OpenSpec.upto healNamesSpec)

/-- 'eddylaw19.EngineNames', WHERE WHAT IT READS IS OF BULK AT MOST 1048576: true; the input reads as it did. -/
def engineNamesUptoRow : OpenClaim := { program := "ytfhpgikgjheobaa", sum := "46992078e1603e6149092bb078075460b256c6e2ab8eff3b5ee014573245b4ac", func := "eddy/eddylaw19.EngineNames", spec := "engineNames", apart := false, narrowed := true }
def EngineNamesUptoSaid : Prop := engineNamesUptoRow.holds Try.pinned (OpenSpec.upto engineNamesSpec)

/-- 'eddylaw20.ScaleNames', WHERE WHAT IT READS IS OF BULK AT MOST 1048576: true; the input reads as it did. -/
def scaleNamesUptoRow : OpenClaim := { program := "ytfhpgikgjheobaa", sum := "46992078e1603e6149092bb078075460b256c6e2ab8eff3b5ee014573245b4ac", func := "eddy/eddylaw20.ScaleNames", spec := "scaleNames", apart := false, narrowed := true }
def ScaleNamesUptoSaid : Prop := scaleNamesUptoRow.holds Try.pinned (OpenSpec.upto scaleNamesSpec)

/-- 'eddylaw22.EtherNames', WHERE WHAT IT READS IS OF BULK AT MOST 1048576: true; the input reads as it did. -/
def etherNamesUptoRow : OpenClaim := { program := "ytfhpgikgjheobaa", sum := "46992078e1603e6149092bb078075460b256c6e2ab8eff3b5ee014573245b4ac", func := "eddy/eddylaw22.EtherNames", spec := "etherNames", apart := false, narrowed := true }
def EtherNamesUptoSaid : Prop := etherNamesUptoRow.holds Try.pinned (OpenSpec.upto etherNamesSpec)

/-- 'eddylaw22.EtherOrder', WHERE WHAT IT READS IS OF BULK AT MOST 1048576: true; the input reads as it did. -/
def etherOrderUptoRow : OpenClaim := { program := "ytfhpgikgjheobaa", sum := "46992078e1603e6149092bb078075460b256c6e2ab8eff3b5ee014573245b4ac", func := "eddy/eddylaw22.EtherOrder", spec := "etherOrder", apart := false, narrowed := true }
def EtherOrderUptoSaid : Prop := etherOrderUptoRow.holds Try.pinned (OpenSpec.upto etherOrderSpec)

/-- 'eddylaw22.EtherFull', WHERE WHAT IT READS IS OF BULK AT MOST 1048576: true; the input reads as it did. -/
def etherFullUptoRow : OpenClaim := { program := "ytfhpgikgjheobaa", sum := "46992078e1603e6149092bb078075460b256c6e2ab8eff3b5ee014573245b4ac", func := "eddy/eddylaw22.EtherFull", spec := "etherFull", apart := false, narrowed := true }
def EtherFullUptoSaid : Prop := etherFullUptoRow.holds Try.pinned (OpenSpec.upto etherFullSpec)

/-- 'eddylaw22.EtherApart', WHERE WHAT IT READS IS OF BULK AT MOST 1048576: true; the input reads as it did. -/
def etherApartUptoRow : OpenClaim := { program := "ytfhpgikgjheobaa", sum := "46992078e1603e6149092bb078075460b256c6e2ab8eff3b5ee014573245b4ac", func := "eddy/eddylaw22.EtherApart", spec := "etherApart", apart := false, narrowed := true }
def EtherApartUptoSaid : Prop := etherApartUptoRow.holds Try.pinned (OpenSpec.upto etherApartSpec)

/-- 'eddylaw22.EtherHonest', WHERE WHAT IT READS IS OF BULK AT MOST 1048576: true; the input reads as it did. -/
def etherHonestUptoRow : OpenClaim := { program := "ytfhpgikgjheobaa", sum := "46992078e1603e6149092bb078075460b256c6e2ab8eff3b5ee014573245b4ac", func := "eddy/eddylaw22.EtherHonest", spec := "etherHonest", apart := false, narrowed := true }
def EtherHonestUptoSaid : Prop := etherHonestUptoRow.holds Try.pinned (OpenSpec.upto etherHonestSpec)

/-- 'eddylaw22.EtherPlays', WHERE WHAT IT READS IS OF BULK AT MOST 1048576: true; the input reads as it did. -/
def etherPlaysUptoRow : OpenClaim := { program := "ytfhpgikgjheobaa", sum := "46992078e1603e6149092bb078075460b256c6e2ab8eff3b5ee014573245b4ac", func := "eddy/eddylaw22.EtherPlays", spec := "etherPlays", apart := false, narrowed := true }
def EtherPlaysUptoSaid : Prop := etherPlaysUptoRow.holds Try.pinned (OpenSpec.upto etherPlaysSpec)

/-- 'eddylaw22.EtherTurns', WHERE WHAT IT READS IS OF BULK AT MOST 1048576: true; the input reads as it did. -/
def etherTurnsUptoRow : OpenClaim := { program := "ytfhpgikgjheobaa", sum := "46992078e1603e6149092bb078075460b256c6e2ab8eff3b5ee014573245b4ac", func := "eddy/eddylaw22.EtherTurns", spec := "etherTurns", apart := false, narrowed := true }
def EtherTurnsUptoSaid : Prop := etherTurnsUptoRow.holds Try.pinned (OpenSpec.upto etherTurnsSpec)

end Rows
end Go.Proofs.Ytfhpgikgjheobaa

/-
  No cell of these rows narrows 'for every input' (looked for: loops, veiled, ifaces, maps, wideKeys, modest, calm, conditions, laid).
  DERIVED. THE GIVEN ROWS OF THIS SEAT. 3 by the template 'for every input the law returns true; each argument reads behind the call as it read before'; 0 by the template 'total and deterministic' (their statements: YtpbghoddemffhaaTotals.lean).
  GIVEN WITH THE SEED: the statements are not yours to turn. If you find one false, say at which input.
  Laid BY PROGRAM, IN A SANDBOX (cutbox-rows.mjs): the forced cells as the released guide's own fill.sh prints them over the translation 685b71b208b3734d… (all of the seat's roots in one cut). By AI agents, Wed Nov 11 2026. No macro, syntax, notation, axiom, sorry.
-/
import Derived.Test.YtpbghoddemffhaaChecked
import GoSem.Claim
import GoSem.ClaimJoined
import GoSem.ClaimMapViews
import Derived.JoinedTies
import Derived.KernelRfl
namespace Go.Proofs.Ytpbghoddemffhaa
/- THE CELL 'sum', in the pinned program and in every row, IS THE sha256 OF THE DUMP (.gsa) THAT YtpbghoddemffhaaProg.lean LOADS. Nothing in Lean hashes anything: it is a label: what it is worth is what the hold of that sum in a sandbox is worth. -/
noncomputable def Try.pinned : Pinned := { name := "ytpbghoddemffhaa", sum := "685b71b208b3734d8041572e5d6abeb454e997954dde791625d3345638ea75e9", checked := Try.checked }
namespace Rows
def none {H : Type} : Left H := { results := [], args := [] }

/-- 'treadmilllaw4.ClassTable': WHATEVER THE INPUT: true; the input reads as it did. -/
def classTableSpec : ChangeSpec := { name := "classTable", fn := fun _ => fun
  | [d1, d2] => { results := [.lit (.bool true)], args := [d1, d2] }
  | _ => none }
def classTableRow : OpenClaim := { program := "ytpbghoddemffhaa", sum := "685b71b208b3734d8041572e5d6abeb454e997954dde791625d3345638ea75e9", func := "treadmill/treadmilllaw4.ClassTable", spec := "classTable", apart := false }
def ClassTableSaid : Prop := classTableRow.holds Try.pinned (OpenSpec.ofChange classTableSpec)

/-- ITS FALSE NEIGHBOUR: 'it returns false'. Refute it at one input. -/
def classTableWrong : ChangeSpec := { name := "classTable", fn := fun _ => fun
  | [d1, d2] => { results := [.lit (.bool false)], args := [d1, d2] }
  | _ => none }
def ClassTableWrongFalsely : Prop := classTableRow.holds Try.pinned (OpenSpec.ofChange classTableWrong)

/-- 'treadmilllaw4.ClassLeast': WHATEVER THE INPUT: true; the input reads as it did. -/
def classLeastSpec : ChangeSpec := { name := "classLeast", fn := fun _ => fun
  | [d] => { results := [.lit (.bool true)], args := [d] }
  | _ => none }
def classLeastRow : OpenClaim := { program := "ytpbghoddemffhaa", sum := "685b71b208b3734d8041572e5d6abeb454e997954dde791625d3345638ea75e9", func := "treadmill/treadmilllaw4.ClassLeast", spec := "classLeast", apart := false }
def ClassLeastSaid : Prop := classLeastRow.holds Try.pinned (OpenSpec.ofChange classLeastSpec)

/-- ITS FALSE NEIGHBOUR: 'it returns false'. Refute it at one input. -/
def classLeastWrong : ChangeSpec := { name := "classLeast", fn := fun _ => fun
  | [d] => { results := [.lit (.bool false)], args := [d] }
  | _ => none }
def ClassLeastWrongFalsely : Prop := classLeastRow.holds Try.pinned (OpenSpec.ofChange classLeastWrong)

/-- 'treadmilllaw4.ClassRises': WHATEVER THE INPUT: true; the input reads as it did. -/
def classRisesSpec : ChangeSpec := { name := "classRises", fn := fun _ => fun
  | [d1, d2] => { results := [.lit (.bool true)], args := [d1, d2] }
  | _ => none }
def classRisesRow : OpenClaim := { program := "ytpbghoddemffhaa", sum := "685b71b208b3734d8041572e5d6abeb454e997954dde791625d3345638ea75e9", func := "treadmill/treadmilllaw4.ClassRises", spec := "classRises", apart := false }
def ClassRisesSaid : Prop := classRisesRow.holds Try.pinned (OpenSpec.ofChange classRisesSpec)

/-- ITS FALSE NEIGHBOUR: 'it returns false'. Refute it at one input. -/
def classRisesWrong : ChangeSpec := { name := "classRises", fn := fun _ => fun
  | [d1, d2] => { results := [.lit (.bool false)], args := [d1, d2] }
  | _ => none }
def ClassRisesWrongFalsely : Prop := classRisesRow.holds Try.pinned (OpenSpec.ofChange classRisesWrong)

/- THE SECOND FORM. 'bulk': how many values and letters a reading holds, each counted each time it is reached (what is shared counts as often as it is met; a slice's spare places count too). A statement '..UptoSaid' is the law's where the arguments, and the package variables that the reading takes, are together of bulk at most 1048576: NARROWER than '..Said'. Prove '..Said' where nothing that the law and all that it calls make is longer than what came in: it says more and counts as full. Else prove '..UptoSaid'. A law counts once. -/
mutual
def uptoBulk {H : Type} : DataW H → Nat
  | .lit (.string bytes) => bytes.length + 1
  | .lit _ => 1
  | .nil => 1
  | .ptr d => uptoBulk d + 1
  | .slice elems spare => uptoBulkAll elems + uptoBulkAll spare + 1
  | .agg parts => uptoBulkAll parts + 1
  | .iface _ d => uptoBulk d + 1
  | .map entries => uptoBulkEntries entries + 1
  | .held _ => 1
def uptoBulkAll {H : Type} : List (DataW H) → Nat
  | [] => 0
  | d :: r => uptoBulk d + uptoBulkAll r
def uptoBulkEntries {H : Type} : List (Lit × DataW H) → Nat
  | [] => 0
  | x :: r => uptoBulkEntry x + uptoBulkEntries r
def uptoBulkEntry {H : Type} : Lit × DataW H → Nat
  | (.string bytes, d) => bytes.length + uptoBulk d + 1
  | (_, d) => uptoBulk d + 1
 end
def uptoSmall : (H : Type) → List (DataW H) → Bool := fun _ ds => decide (uptoBulkAll ds ≤ 1048576)
def OpenSpec.upto (s : _root_.Go.ChangeSpec) : _root_.Go.OpenSpec := { _root_.Go.OpenSpec.ofChange s with cond := some uptoSmall }

/-- 'treadmilllaw4.ClassTable', WHERE WHAT IT READS IS OF BULK AT MOST 1048576: true; the input reads as it did. -/
def classTableUptoRow : OpenClaim := { program := "ytpbghoddemffhaa", sum := "685b71b208b3734d8041572e5d6abeb454e997954dde791625d3345638ea75e9", func := "treadmill/treadmilllaw4.ClassTable", spec := "classTable", apart := false, narrowed := true }
def ClassTableUptoSaid : Prop := classTableUptoRow.holds Try.pinned (OpenSpec.upto classTableSpec)

/-- 'treadmilllaw4.ClassLeast', WHERE WHAT IT READS IS OF BULK AT MOST 1048576: true; the input reads as it did. -/
def classLeastUptoRow : OpenClaim := { program := "ytpbghoddemffhaa", sum := "685b71b208b3734d8041572e5d6abeb454e997954dde791625d3345638ea75e9", func := "treadmill/treadmilllaw4.ClassLeast", spec := "classLeast", apart := false, narrowed := true }
def ClassLeastUptoSaid : Prop := classLeastUptoRow.holds Try.pinned (OpenSpec.upto classLeastSpec)

/-- 'treadmilllaw4.ClassRises', WHERE WHAT IT READS IS OF BULK AT MOST 1048576: true; the input reads as it did. -/
def classRisesUptoRow : OpenClaim := { program := "ytpbghoddemffhaa", sum := "685b71b208b3734d8041572e5d6abeb454e997954dde791625d3345638ea75e9", func := "treadmill/treadmilllaw4.ClassRises", spec := "classRises", apart := false, narrowed := true }
def ClassRisesUptoSaid : Prop := classRisesUptoRow.holds Try.pinned (OpenSpec.upto classRisesSpec)

end Rows
end Go.Proofs.Ytpbghoddemffhaa

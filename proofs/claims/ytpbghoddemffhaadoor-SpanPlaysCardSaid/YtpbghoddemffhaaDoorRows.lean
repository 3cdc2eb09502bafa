/-
  NARROWER THAN 'FOR EVERY INPUT', by the rows' own cells (each row's printed sentence says how): SpanAddrs: laid · SpanPlays: laid · BitsWalk: laid · BitsFills: laid · BitsNobody: laid · BitsPlays: laid · BitsCopies: laid · SpanCycles: laid · SpanKeeps: laid · SpanFree: laid.
  DERIVED. THE GIVEN ROWS OF THIS SEAT. 10 by the template 'for every input the law returns true; each argument reads behind the call as it read before'; 0 by the template 'total and deterministic' (their statements: YtpbghoddemffhaaDoorTotals.lean).
  GIVEN WITH THE SEED: the statements are not yours to turn. If you find one false, say at which input.
  Laid BY PROGRAM, IN A SANDBOX (cutbox-rows.mjs): the forced cells as the released guide's own fill.sh prints them over the translation 65dfc3bfee6e52a5… (all of the seat's roots in one cut). By AI agents, Wed Nov 11 2026. No macro, syntax, notation, axiom, sorry.
-/
import Derived.Test.YtpbghoddemffhaaDoorChecked
import GoSem.Claim
import GoSem.ClaimJoined
import GoSem.ClaimMapViews
import Derived.JoinedTies
import Derived.KernelRfl
namespace Go.Proofs.YtpbghoddemffhaaDoor
/- THE CELL 'sum', in the pinned program and in every row, IS THE sha256 OF THE DUMP (.gsa) THAT YtpbghoddemffhaaDoorProg.lean LOADS. Nothing in Lean hashes anything: it is a label: what it is worth is what the hold of that sum in a sandbox is worth. -/
noncomputable def Tryd.pinned : Pinned := { name := "ytpbghoddemffhaadoor", sum := "65dfc3bfee6e52a5d07115ddea94a445ae203f36f57bfd5f43828997feb62d32", checked := Tryd.checked }
namespace Rows
def none {H : Type} : Left H := { results := [], args := [] }

/- WHAT THE LISTED PACKAGE-LEVEL VARIABLES READ AS WHEN THE CALL BEGINS. Each datum BY PROGRAM (the guide's laid-datum.mjs) off the statement by which the dump's own 'gosem.cut.vars' lays the variable. In a bare row this is a premise. The card (YtpbghoddemffhaaDoorCards.lean) ties it to the program's text. -/
def laid_math_bits_deBruijn64tab {H : Type} : DataW H := .agg [.lit (.int .u8 0), .lit (.int .u8 1), .lit (.int .u8 56), .lit (.int .u8 2), .lit (.int .u8 57), .lit (.int .u8 49), .lit (.int .u8 28), .lit (.int .u8 3), .lit (.int .u8 61), .lit (.int .u8 58), .lit (.int .u8 42), .lit (.int .u8 50), .lit (.int .u8 38), .lit (.int .u8 29), .lit (.int .u8 17), .lit (.int .u8 4), .lit (.int .u8 62), .lit (.int .u8 47), .lit (.int .u8 59), .lit (.int .u8 36), .lit (.int .u8 45), .lit (.int .u8 43), .lit (.int .u8 51), .lit (.int .u8 22), .lit (.int .u8 53), .lit (.int .u8 39), .lit (.int .u8 33), .lit (.int .u8 30), .lit (.int .u8 24), .lit (.int .u8 18), .lit (.int .u8 12), .lit (.int .u8 5), .lit (.int .u8 63), .lit (.int .u8 55), .lit (.int .u8 48), .lit (.int .u8 27), .lit (.int .u8 60), .lit (.int .u8 41), .lit (.int .u8 37), .lit (.int .u8 16), .lit (.int .u8 46), .lit (.int .u8 35), .lit (.int .u8 44), .lit (.int .u8 21), .lit (.int .u8 52), .lit (.int .u8 32), .lit (.int .u8 23), .lit (.int .u8 11), .lit (.int .u8 54), .lit (.int .u8 26), .lit (.int .u8 40), .lit (.int .u8 15), .lit (.int .u8 34), .lit (.int .u8 20), .lit (.int .u8 31), .lit (.int .u8 10), .lit (.int .u8 25), .lit (.int .u8 14), .lit (.int .u8 19), .lit (.int .u8 9), .lit (.int .u8 13), .lit (.int .u8 8), .lit (.int .u8 7), .lit (.int .u8 6)]

/-- 'treadmilllaw6.SpanAddrs': WHATEVER THE INPUT: true; the input reads as it did. -/
def spanAddrsSpec : ChangeSpec := { name := "spanAddrs", fn := fun _ => fun
  | [d1, d2, d3] => { results := [.lit (.bool true)], args := [d1, d2, d3] }
  | _ => none }
def spanAddrsRow : OpenClaim := { program := "ytpbghoddemffhaadoor", sum := "65dfc3bfee6e52a5d07115ddea94a445ae203f36f57bfd5f43828997feb62d32", func := "treadmill/treadmilllaw6.SpanAddrs", spec := "spanAddrs", unfollowed := true, recurses := true, named := ["math/bits.deBruijn64tab"], apart := false, laid := [("math/bits.deBruijn64tab", laid_math_bits_deBruijn64tab)] }
def SpanAddrsSaid : Prop := spanAddrsRow.holds Tryd.pinned (OpenSpec.ofChange spanAddrsSpec)

/-- ITS FALSE NEIGHBOUR: 'it returns false'. Refute it at one input. -/
def spanAddrsWrong : ChangeSpec := { name := "spanAddrs", fn := fun _ => fun
  | [d1, d2, d3] => { results := [.lit (.bool false)], args := [d1, d2, d3] }
  | _ => none }
def SpanAddrsWrongFalsely : Prop := spanAddrsRow.holds Tryd.pinned (OpenSpec.ofChange spanAddrsWrong)

/-- 'treadmilllaw6.SpanPlays': WHATEVER THE INPUT: true; the input reads as it did. -/
def spanPlaysSpec : ChangeSpec := { name := "spanPlays", fn := fun _ => fun
  | [d1, d2, d3] => { results := [.lit (.bool true)], args := [d1, d2, d3] }
  | _ => none }
def spanPlaysRow : OpenClaim := { program := "ytpbghoddemffhaadoor", sum := "65dfc3bfee6e52a5d07115ddea94a445ae203f36f57bfd5f43828997feb62d32", func := "treadmill/treadmilllaw6.SpanPlays", spec := "spanPlays", unfollowed := true, recurses := true, named := ["math/bits.deBruijn64tab"], apart := false, laid := [("math/bits.deBruijn64tab", laid_math_bits_deBruijn64tab)] }
def SpanPlaysSaid : Prop := spanPlaysRow.holds Tryd.pinned (OpenSpec.ofChange spanPlaysSpec)

/-- ITS FALSE NEIGHBOUR: 'it returns false'. Refute it at one input. -/
def spanPlaysWrong : ChangeSpec := { name := "spanPlays", fn := fun _ => fun
  | [d1, d2, d3] => { results := [.lit (.bool false)], args := [d1, d2, d3] }
  | _ => none }
def SpanPlaysWrongFalsely : Prop := spanPlaysRow.holds Tryd.pinned (OpenSpec.ofChange spanPlaysWrong)

/-- 'treadmilllaw3.BitsWalk': WHATEVER THE INPUT: true; the input reads as it did. -/
def bitsWalkSpec : ChangeSpec := { name := "bitsWalk", fn := fun _ => fun
  | [d1, d2] => { results := [.lit (.bool true)], args := [d1, d2] }
  | _ => none }
def bitsWalkRow : OpenClaim := { program := "ytpbghoddemffhaadoor", sum := "65dfc3bfee6e52a5d07115ddea94a445ae203f36f57bfd5f43828997feb62d32", func := "treadmill/treadmilllaw3.BitsWalk", spec := "bitsWalk", named := ["math/bits.deBruijn64tab"], apart := false, laid := [("math/bits.deBruijn64tab", laid_math_bits_deBruijn64tab)] }
def BitsWalkSaid : Prop := bitsWalkRow.holds Tryd.pinned (OpenSpec.ofChange bitsWalkSpec)

/-- ITS FALSE NEIGHBOUR: 'it returns false'. Refute it at one input. -/
def bitsWalkWrong : ChangeSpec := { name := "bitsWalk", fn := fun _ => fun
  | [d1, d2] => { results := [.lit (.bool false)], args := [d1, d2] }
  | _ => none }
def BitsWalkWrongFalsely : Prop := bitsWalkRow.holds Tryd.pinned (OpenSpec.ofChange bitsWalkWrong)

/-- 'treadmilllaw3.BitsFills': WHATEVER THE INPUT: true; the input reads as it did. -/
def bitsFillsSpec : ChangeSpec := { name := "bitsFills", fn := fun _ => fun
  | [d1, d2] => { results := [.lit (.bool true)], args := [d1, d2] }
  | _ => none }
def bitsFillsRow : OpenClaim := { program := "ytpbghoddemffhaadoor", sum := "65dfc3bfee6e52a5d07115ddea94a445ae203f36f57bfd5f43828997feb62d32", func := "treadmill/treadmilllaw3.BitsFills", spec := "bitsFills", named := ["math/bits.deBruijn64tab"], apart := false, laid := [("math/bits.deBruijn64tab", laid_math_bits_deBruijn64tab)] }
def BitsFillsSaid : Prop := bitsFillsRow.holds Tryd.pinned (OpenSpec.ofChange bitsFillsSpec)

/-- ITS FALSE NEIGHBOUR: 'it returns false'. Refute it at one input. -/
def bitsFillsWrong : ChangeSpec := { name := "bitsFills", fn := fun _ => fun
  | [d1, d2] => { results := [.lit (.bool false)], args := [d1, d2] }
  | _ => none }
def BitsFillsWrongFalsely : Prop := bitsFillsRow.holds Tryd.pinned (OpenSpec.ofChange bitsFillsWrong)

/-- 'treadmilllaw3.BitsNobody': WHATEVER THE INPUT: true; the input reads as it did. -/
def bitsNobodySpec : ChangeSpec := { name := "bitsNobody", fn := fun _ => fun
  | [d1, d2] => { results := [.lit (.bool true)], args := [d1, d2] }
  | _ => none }
def bitsNobodyRow : OpenClaim := { program := "ytpbghoddemffhaadoor", sum := "65dfc3bfee6e52a5d07115ddea94a445ae203f36f57bfd5f43828997feb62d32", func := "treadmill/treadmilllaw3.BitsNobody", spec := "bitsNobody", named := ["math/bits.deBruijn64tab"], apart := false, laid := [("math/bits.deBruijn64tab", laid_math_bits_deBruijn64tab)] }
def BitsNobodySaid : Prop := bitsNobodyRow.holds Tryd.pinned (OpenSpec.ofChange bitsNobodySpec)

/-- ITS FALSE NEIGHBOUR: 'it returns false'. Refute it at one input. -/
def bitsNobodyWrong : ChangeSpec := { name := "bitsNobody", fn := fun _ => fun
  | [d1, d2] => { results := [.lit (.bool false)], args := [d1, d2] }
  | _ => none }
def BitsNobodyWrongFalsely : Prop := bitsNobodyRow.holds Tryd.pinned (OpenSpec.ofChange bitsNobodyWrong)

/-- 'treadmilllaw3.BitsPlays': WHATEVER THE INPUT: true; the input reads as it did. -/
def bitsPlaysSpec : ChangeSpec := { name := "bitsPlays", fn := fun _ => fun
  | [d1, d2, d3] => { results := [.lit (.bool true)], args := [d1, d2, d3] }
  | _ => none }
def bitsPlaysRow : OpenClaim := { program := "ytpbghoddemffhaadoor", sum := "65dfc3bfee6e52a5d07115ddea94a445ae203f36f57bfd5f43828997feb62d32", func := "treadmill/treadmilllaw3.BitsPlays", spec := "bitsPlays", named := ["math/bits.deBruijn64tab"], apart := false, laid := [("math/bits.deBruijn64tab", laid_math_bits_deBruijn64tab)] }
def BitsPlaysSaid : Prop := bitsPlaysRow.holds Tryd.pinned (OpenSpec.ofChange bitsPlaysSpec)

/-- ITS FALSE NEIGHBOUR: 'it returns false'. Refute it at one input. -/
def bitsPlaysWrong : ChangeSpec := { name := "bitsPlays", fn := fun _ => fun
  | [d1, d2, d3] => { results := [.lit (.bool false)], args := [d1, d2, d3] }
  | _ => none }
def BitsPlaysWrongFalsely : Prop := bitsPlaysRow.holds Tryd.pinned (OpenSpec.ofChange bitsPlaysWrong)

/-- 'treadmilllaw3.BitsCopies': WHATEVER THE INPUT: true; the input reads as it did. -/
def bitsCopiesSpec : ChangeSpec := { name := "bitsCopies", fn := fun _ => fun
  | [d1, d2, d3, d4] => { results := [.lit (.bool true)], args := [d1, d2, d3, d4] }
  | _ => none }
def bitsCopiesRow : OpenClaim := { program := "ytpbghoddemffhaadoor", sum := "65dfc3bfee6e52a5d07115ddea94a445ae203f36f57bfd5f43828997feb62d32", func := "treadmill/treadmilllaw3.BitsCopies", spec := "bitsCopies", named := ["math/bits.deBruijn64tab"], apart := false, laid := [("math/bits.deBruijn64tab", laid_math_bits_deBruijn64tab)] }
def BitsCopiesSaid : Prop := bitsCopiesRow.holds Tryd.pinned (OpenSpec.ofChange bitsCopiesSpec)

/-- ITS FALSE NEIGHBOUR: 'it returns false'. Refute it at one input. -/
def bitsCopiesWrong : ChangeSpec := { name := "bitsCopies", fn := fun _ => fun
  | [d1, d2, d3, d4] => { results := [.lit (.bool false)], args := [d1, d2, d3, d4] }
  | _ => none }
def BitsCopiesWrongFalsely : Prop := bitsCopiesRow.holds Tryd.pinned (OpenSpec.ofChange bitsCopiesWrong)

/-- 'treadmilllaw6.SpanCycles': WHATEVER THE INPUT: true; the input reads as it did. -/
def spanCyclesSpec : ChangeSpec := { name := "spanCycles", fn := fun _ => fun
  | [d1, d2, d3] => { results := [.lit (.bool true)], args := [d1, d2, d3] }
  | _ => none }
def spanCyclesRow : OpenClaim := { program := "ytpbghoddemffhaadoor", sum := "65dfc3bfee6e52a5d07115ddea94a445ae203f36f57bfd5f43828997feb62d32", func := "treadmill/treadmilllaw6.SpanCycles", spec := "spanCycles", unfollowed := true, recurses := true, named := ["math/bits.deBruijn64tab"], apart := false, laid := [("math/bits.deBruijn64tab", laid_math_bits_deBruijn64tab)] }
def SpanCyclesSaid : Prop := spanCyclesRow.holds Tryd.pinned (OpenSpec.ofChange spanCyclesSpec)

/-- ITS FALSE NEIGHBOUR: 'it returns false'. Refute it at one input. -/
def spanCyclesWrong : ChangeSpec := { name := "spanCycles", fn := fun _ => fun
  | [d1, d2, d3] => { results := [.lit (.bool false)], args := [d1, d2, d3] }
  | _ => none }
def SpanCyclesWrongFalsely : Prop := spanCyclesRow.holds Tryd.pinned (OpenSpec.ofChange spanCyclesWrong)

/-- 'treadmilllaw6.SpanKeeps': WHATEVER THE INPUT: true; the input reads as it did. -/
def spanKeepsSpec : ChangeSpec := { name := "spanKeeps", fn := fun _ => fun
  | [d1, d2, d3, d4] => { results := [.lit (.bool true)], args := [d1, d2, d3, d4] }
  | _ => none }
def spanKeepsRow : OpenClaim := { program := "ytpbghoddemffhaadoor", sum := "65dfc3bfee6e52a5d07115ddea94a445ae203f36f57bfd5f43828997feb62d32", func := "treadmill/treadmilllaw6.SpanKeeps", spec := "spanKeeps", unfollowed := true, recurses := true, named := ["math/bits.deBruijn64tab"], apart := false, laid := [("math/bits.deBruijn64tab", laid_math_bits_deBruijn64tab)] }
def SpanKeepsSaid : Prop := spanKeepsRow.holds Tryd.pinned (OpenSpec.ofChange spanKeepsSpec)

/-- ITS FALSE NEIGHBOUR: 'it returns false'. Refute it at one input. -/
def spanKeepsWrong : ChangeSpec := { name := "spanKeeps", fn := fun _ => fun
  | [d1, d2, d3, d4] => { results := [.lit (.bool false)], args := [d1, d2, d3, d4] }
  | _ => none }
def SpanKeepsWrongFalsely : Prop := spanKeepsRow.holds Tryd.pinned (OpenSpec.ofChange spanKeepsWrong)

/-- 'treadmilllaw6.SpanFree': WHATEVER THE INPUT: true; the input reads as it did. -/
def spanFreeSpec : ChangeSpec := { name := "spanFree", fn := fun _ => fun
  | [d1, d2] => { results := [.lit (.bool true)], args := [d1, d2] }
  | _ => none }
def spanFreeRow : OpenClaim := { program := "ytpbghoddemffhaadoor", sum := "65dfc3bfee6e52a5d07115ddea94a445ae203f36f57bfd5f43828997feb62d32", func := "treadmill/treadmilllaw6.SpanFree", spec := "spanFree", unfollowed := true, recurses := true, named := ["math/bits.deBruijn64tab"], apart := false, laid := [("math/bits.deBruijn64tab", laid_math_bits_deBruijn64tab)] }
def SpanFreeSaid : Prop := spanFreeRow.holds Tryd.pinned (OpenSpec.ofChange spanFreeSpec)

/-- ITS FALSE NEIGHBOUR: 'it returns false'. Refute it at one input. -/
def spanFreeWrong : ChangeSpec := { name := "spanFree", fn := fun _ => fun
  | [d1, d2] => { results := [.lit (.bool false)], args := [d1, d2] }
  | _ => none }
def SpanFreeWrongFalsely : Prop := spanFreeRow.holds Tryd.pinned (OpenSpec.ofChange spanFreeWrong)

/- THE SECOND FORM. 'bulk': how many values and letters a reading holds, each counted each time it is reached (what is shared counts as often as it is met; a slice's spare places count too). A statement '..UptoSaid' is the law's where the arguments, and the package variables that the reading takes, are together of bulk at most 1048576: NARROWER than '..Said'. Prove '..Said' where nothing that the law and all that it calls make is longer than what came in: it says more and counts as full. Else prove '..UptoSaid'. A law counts once. -/
mutual
def uptoBulk {H : Type} : DataW H → Nat
  | .lit (.string bytes) => bytes.length + 1
  | .lit _ => 1
  | .nil => 1
  | .ptr d => uptoBulk d + 1
  | .slice elems spare => uptoBulkAll elems + uptoBulkAll spare + 1
  | .agg parts => uptoBulkAll parts + 1
  | .iface _ d => uptoBulk d + 1
  | .map entries => uptoBulkEntries entries + 1
  | .held _ => 1
def uptoBulkAll {H : Type} : List (DataW H) → Nat
  | [] => 0
  | d :: r => uptoBulk d + uptoBulkAll r
def uptoBulkEntries {H : Type} : List (Lit × DataW H) → Nat
  | [] => 0
  | x :: r => uptoBulkEntry x + uptoBulkEntries r
def uptoBulkEntry {H : Type} : Lit × DataW H → Nat
  | (.string bytes, d) => bytes.length + uptoBulk d + 1
  | (_, d) => uptoBulk d + 1
 end
def uptoSmall : (H : Type) → List (DataW H) → Bool := fun _ ds => decide (uptoBulkAll ds ≤ 1048576)
def OpenSpec.upto (s : _root_.Go.ChangeSpec) : _root_.Go.OpenSpec := { _root_.Go.OpenSpec.ofChange s with cond := some uptoSmall }

/-- 'treadmilllaw6.SpanAddrs', WHERE WHAT IT READS IS OF BULK AT MOST 1048576: true; the input reads as it did. -/
def spanAddrsUptoRow : OpenClaim := { program := "ytpbghoddemffhaadoor", sum := "65dfc3bfee6e52a5d07115ddea94a445ae203f36f57bfd5f43828997feb62d32", func := "treadmill/treadmilllaw6.SpanAddrs", spec := "spanAddrs", unfollowed := true, recurses := true, named := ["math/bits.deBruijn64tab"], apart := false, laid := [("math/bits.deBruijn64tab", laid_math_bits_deBruijn64tab)], narrowed := true }
def SpanAddrsUptoSaid : Prop := spanAddrsUptoRow.holds Tryd.pinned (OpenSpec.upto spanAddrsSpec)

/-- 'treadmilllaw6.SpanPlays', WHERE WHAT IT READS IS OF BULK AT MOST 1048576: true; the input reads as it did. -/
def spanPlaysUptoRow : OpenClaim := { program := "ytpbghoddemffhaadoor", sum := "65dfc3bfee6e52a5d07115ddea94a445ae203f36f57bfd5f43828997feb62d32", func := "treadmill/treadmilllaw6.SpanPlays", spec := "spanPlays", unfollowed := true, recurses := true, named := ["math/bits.deBruijn64tab"], apart := false, laid := [("math/bits.deBruijn64tab", laid_math_bits_deBruijn64tab)], narrowed := true }
def SpanPlaysUptoSaid : Prop := spanPlaysUptoRow.holds Tryd.pinned (OpenSpec.upto spanPlaysSpec)

/-- 'treadmilllaw3.BitsWalk', WHERE WHAT IT READS IS OF BULK AT MOST 1048576: true; the input reads as it did. -/
def bitsWalkUptoRow : OpenClaim := { program := "ytpbghoddemffhaadoor", sum := "65dfc3bfee6e52a5d07115ddea94a445ae203f36f57bfd5f43828997feb62d32", func := "treadmill/treadmilllaw3.BitsWalk", spec := "bitsWalk", named := ["math/bits.deBruijn64tab"], apart := false, laid := [("math/bits.deBruijn64tab", laid_math_bits_deBruijn64tab)], narrowed := true }
def BitsWalkUptoSaid : Prop := bitsWalkUptoRow.holds Tryd.pinned (OpenSpec.upto bitsWalkSpec)

/-- 'treadmilllaw3.BitsFills', WHERE WHAT IT READS IS OF BULK AT MOST 1048576: true; the input reads as it did. -/
def bitsFillsUptoRow : OpenClaim := { program := "ytpbghoddemffhaadoor", sum := "65dfc3bfee6e52a5d07115ddea94a445ae203f36f57bfd5f43828997feb62d32", func := "treadmill/treadmilllaw3.BitsFills", spec := "bitsFills", named := ["math/bits.deBruijn64tab"], apart := false, laid := [("math/bits.deBruijn64tab", laid_math_bits_deBruijn64tab)], narrowed := true }
def BitsFillsUptoSaid : Prop := bitsFillsUptoRow.holds Tryd.pinned (OpenSpec.upto bitsFillsSpec)

/-- 'treadmilllaw3.BitsNobody', WHERE WHAT IT READS IS OF BULK AT MOST 1048576: true; the input reads as it did. -/
def bitsNobodyUptoRow : OpenClaim := { program := "ytpbghoddemffhaadoor", sum := "65dfc3bfee6e52a5d07115ddea94a445ae203f36f57bfd5f43828997feb62d32", func := "treadmill/treadmilllaw3.BitsNobody", spec := "bitsNobody", named := ["math/bits.deBruijn64tab"], apart := false, laid := [("math/bits.deBruijn64tab", laid_math_bits_deBruijn64tab)], narrowed := true }
def BitsNobodyUptoSaid : Prop := bitsNobodyUptoRow.holds Tryd.pinned (OpenSpec.upto bitsNobodySpec)

/-- 'treadmilllaw3.BitsPlays', WHERE WHAT IT READS IS OF BULK AT MOST 1048576: true; the input reads as it did. -/
def bitsPlaysUptoRow : OpenClaim := { program := "ytpbghoddemffhaadoor", sum := "65dfc3bfee6e52a5d07115ddea94a445ae203f36f57bfd5f43828997feb62d32", func := "treadmill/treadmilllaw3.BitsPlays", spec := "bitsPlays", named := ["math/bits.deBruijn64tab"], apart := false, laid := [("math/bits.deBruijn64tab", laid_math_bits_deBruijn64tab)], narrowed := true }
def BitsPlaysUptoSaid : Prop := bitsPlaysUptoRow.holds Tryd.pinned (OpenSpec.upto bitsPlaysSpec)

/-- 'treadmilllaw3.BitsCopies', WHERE WHAT IT READS IS OF BULK AT MOST 1048576: true; the input reads as it did. -/
def bitsCopiesUptoRow : OpenClaim := { program := "ytpbghoddemffhaadoor", sum := "65dfc3bfee6e52a5d07115ddea94a445ae203f36f57bfd5f43828997feb62d32", func := "treadmill/treadmilllaw3.BitsCopies", spec := "bitsCopies", named := ["math/bits.deBruijn64tab"], apart := false, laid := [("math/bits.deBruijn64tab", laid_math_bits_deBruijn64tab)], narrowed := true }
def BitsCopiesUptoSaid : Prop := bitsCopiesUptoRow.holds Tryd.pinned (OpenSpec.upto bitsCopiesSpec)

/-- 'treadmilllaw6.SpanCycles', WHERE WHAT IT READS IS OF BULK AT MOST 1048576: true; the input reads as it did. -/
def spanCyclesUptoRow : OpenClaim := { program := "ytpbghoddemffhaadoor", sum := "65dfc3bfee6e52a5d07115ddea94a445ae203f36f57bfd5f43828997feb62d32", func := "treadmill/treadmilllaw6.SpanCycles", spec := "spanCycles", unfollowed := true, recurses := true, named := ["math/bits.deBruijn64tab"], apart := false, laid := [("math/bits.deBruijn64tab", laid_math_bits_deBruijn64tab)], narrowed := true }
def SpanCyclesUptoSaid : Prop := spanCyclesUptoRow.holds Tryd.pinned (OpenSpec.upto spanCyclesSpec)

/-- 'treadmilllaw6.SpanKeeps', WHERE WHAT IT READS IS OF BULK AT MOST 1048576: true; the input reads as it did. -/
def spanKeepsUptoRow : OpenClaim := { program := "ytpbghoddemffhaadoor", sum := "65dfc3bfee6e52a5d07115ddea94a445ae203f36f57bfd5f43828997feb62d32", func := "treadmill/treadmilllaw6.SpanKeeps", spec := "spanKeeps", unfollowed := true, recurses := true, named := ["math/bits.deBruijn64tab"], apart := false, laid := [("math/bits.deBruijn64tab", laid_math_bits_deBruijn64tab)], narrowed := true }
def SpanKeepsUptoSaid : Prop := spanKeepsUptoRow.holds Tryd.pinned (OpenSpec.upto spanKeepsSpec)

/-- 'treadmilllaw6.SpanFree', WHERE WHAT IT READS IS OF BULK AT MOST 1048576: true; the input reads as it did. -/
def spanFreeUptoRow : OpenClaim := { program := "ytpbghoddemffhaadoor", sum := "65dfc3bfee6e52a5d07115ddea94a445ae203f36f57bfd5f43828997feb62d32", func := "treadmill/treadmilllaw6.SpanFree", spec := "spanFree", unfollowed := true, recurses := true, named := ["math/bits.deBruijn64tab"], apart := false, laid := [("math/bits.deBruijn64tab", laid_math_bits_deBruijn64tab)], narrowed := true }
def SpanFreeUptoSaid : Prop := spanFreeUptoRow.holds Tryd.pinned (OpenSpec.upto spanFreeSpec)

end Rows
end Go.Proofs.YtpbghoddemffhaaDoor

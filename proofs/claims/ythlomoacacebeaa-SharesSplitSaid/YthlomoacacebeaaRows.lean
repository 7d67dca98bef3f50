/-
  No cell of these rows narrows 'for every input' (looked for: loops, veiled, ifaces, maps, wideKeys, modest, calm, conditions, laid).
  DERIVED. THE GIVEN ROWS OF THIS SEAT. 12 by the template 'for every input the law returns true; each argument reads behind the call as it read before'; 0 by the template 'total and deterministic' (their statements: YthlomoacacebeaaTotals.lean).
  GIVEN WITH THE SEED: the statements are not yours to turn. If you find one false, say at which input.
  Laid BY PROGRAM, IN A SANDBOX (cutbox-rows.mjs): the forced cells as the released guide's own fill.sh prints them over the translation 5dbc14e0b6c8aaba… (all of the seat's roots in one cut). By AI agents, Wed Nov 11 2026. No macro, syntax, notation, axiom, sorry.
-/
import Derived.Test.YthlomoacacebeaaChecked
import GoSem.Claim
import GoSem.ClaimJoined
import GoSem.ClaimMapViews
import Derived.JoinedTies
import Derived.KernelRfl
namespace Go.Proofs.Ythlomoacacebeaa
/- THE CELL 'sum', in the pinned program and in every row, IS THE sha256 OF THE DUMP (.gsa) THAT YthlomoacacebeaaProg.lean LOADS. Nothing in Lean hashes anything: it is a label: what it is worth is what the hold of that sum in a sandbox is worth. -/
noncomputable def Try.pinned : Pinned := { name := "ythlomoacacebeaa", sum := "5dbc14e0b6c8aabac873c679e2c257494faeb1fad3ef7737ba1628966daf6bcb", checked := Try.checked }
namespace Rows
def none {H : Type} : Left H := { results := [], args := [] }

/-- 'airsharelaw1.WideMul': WHATEVER THE INPUT: true; the input reads as it did. -/
def wideMulSpec : ChangeSpec := { name := "wideMul", fn := fun _ => fun
  | [d1, d2, d3] => { results := [.lit (.bool true)], args := [d1, d2, d3] }
  | _ => none }
def wideMulRow : OpenClaim := { program := "ythlomoacacebeaa", sum := "5dbc14e0b6c8aabac873c679e2c257494faeb1fad3ef7737ba1628966daf6bcb", func := "airshare/airsharelaw1.WideMul", spec := "wideMul", apart := false }
def WideMulSaid : Prop := wideMulRow.holds Try.pinned (OpenSpec.ofChange wideMulSpec)

/-- ITS FALSE NEIGHBOUR: 'it returns false'. Refute it at one input. -/
def wideMulWrong : ChangeSpec := { name := "wideMul", fn := fun _ => fun
  | [d1, d2, d3] => { results := [.lit (.bool false)], args := [d1, d2, d3] }
  | _ => none }
def WideMulWrongFalsely : Prop := wideMulRow.holds Try.pinned (OpenSpec.ofChange wideMulWrong)

/-- 'airsharelaw1.WideAdd': WHATEVER THE INPUT: true; the input reads as it did. -/
def wideAddSpec : ChangeSpec := { name := "wideAdd", fn := fun _ => fun
  | [d1, d2, d3] => { results := [.lit (.bool true)], args := [d1, d2, d3] }
  | _ => none }
def wideAddRow : OpenClaim := { program := "ythlomoacacebeaa", sum := "5dbc14e0b6c8aabac873c679e2c257494faeb1fad3ef7737ba1628966daf6bcb", func := "airshare/airsharelaw1.WideAdd", spec := "wideAdd", inPlace := ["math/bits.Add64"], apart := false }
def WideAddSaid : Prop := wideAddRow.holds Try.pinned (OpenSpec.ofChange wideAddSpec)

/-- ITS FALSE NEIGHBOUR: 'it returns false'. Refute it at one input. -/
def wideAddWrong : ChangeSpec := { name := "wideAdd", fn := fun _ => fun
  | [d1, d2, d3] => { results := [.lit (.bool false)], args := [d1, d2, d3] }
  | _ => none }
def WideAddWrongFalsely : Prop := wideAddRow.holds Try.pinned (OpenSpec.ofChange wideAddWrong)

/-- 'airsharelaw1.WideCross': WHATEVER THE INPUT: true; the input reads as it did. -/
def wideCrossSpec : ChangeSpec := { name := "wideCross", fn := fun _ => fun
  | [d1, d2, d3, d4, d5] => { results := [.lit (.bool true)], args := [d1, d2, d3, d4, d5] }
  | _ => none }
def wideCrossRow : OpenClaim := { program := "ythlomoacacebeaa", sum := "5dbc14e0b6c8aabac873c679e2c257494faeb1fad3ef7737ba1628966daf6bcb", func := "airshare/airsharelaw1.WideCross", spec := "wideCross", apart := false }
def WideCrossSaid : Prop := wideCrossRow.holds Try.pinned (OpenSpec.ofChange wideCrossSpec)

/-- ITS FALSE NEIGHBOUR: 'it returns false'. Refute it at one input. -/
def wideCrossWrong : ChangeSpec := { name := "wideCross", fn := fun _ => fun
  | [d1, d2, d3, d4, d5] => { results := [.lit (.bool false)], args := [d1, d2, d3, d4, d5] }
  | _ => none }
def WideCrossWrongFalsely : Prop := wideCrossRow.holds Try.pinned (OpenSpec.ofChange wideCrossWrong)

/-- 'airsharelaw1.WideDiv': WHATEVER THE INPUT: true; the input reads as it did. -/
def wideDivSpec : ChangeSpec := { name := "wideDiv", fn := fun _ => fun
  | [d1, d2, d3, d4] => { results := [.lit (.bool true)], args := [d1, d2, d3, d4] }
  | _ => none }
def wideDivRow : OpenClaim := { program := "ythlomoacacebeaa", sum := "5dbc14e0b6c8aabac873c679e2c257494faeb1fad3ef7737ba1628966daf6bcb", func := "airshare/airsharelaw1.WideDiv", spec := "wideDiv", named := ["math/bits.divideError", "math/bits.overflowError"], apart := false }
def WideDivSaid : Prop := wideDivRow.holds Try.pinned (OpenSpec.ofChange wideDivSpec)

/-- ITS FALSE NEIGHBOUR: 'it returns false'. Refute it at one input. -/
def wideDivWrong : ChangeSpec := { name := "wideDiv", fn := fun _ => fun
  | [d1, d2, d3, d4] => { results := [.lit (.bool false)], args := [d1, d2, d3, d4] }
  | _ => none }
def WideDivWrongFalsely : Prop := wideDivRow.holds Try.pinned (OpenSpec.ofChange wideDivWrong)

/-- 'airsharelaw1.WideInverse': WHATEVER THE INPUT: true; the input reads as it did. -/
def wideInverseSpec : ChangeSpec := { name := "wideInverse", fn := fun _ => fun
  | [d1, d2, d3, d4] => { results := [.lit (.bool true)], args := [d1, d2, d3, d4] }
  | _ => none }
def wideInverseRow : OpenClaim := { program := "ythlomoacacebeaa", sum := "5dbc14e0b6c8aabac873c679e2c257494faeb1fad3ef7737ba1628966daf6bcb", func := "airshare/airsharelaw1.WideInverse", spec := "wideInverse", inPlace := ["math/bits.Add64"], named := ["math/bits.divideError", "math/bits.overflowError"], apart := false }
def WideInverseSaid : Prop := wideInverseRow.holds Try.pinned (OpenSpec.ofChange wideInverseSpec)

/-- ITS FALSE NEIGHBOUR: 'it returns false'. Refute it at one input. -/
def wideInverseWrong : ChangeSpec := { name := "wideInverse", fn := fun _ => fun
  | [d1, d2, d3, d4] => { results := [.lit (.bool false)], args := [d1, d2, d3, d4] }
  | _ => none }
def WideInverseWrongFalsely : Prop := wideInverseRow.holds Try.pinned (OpenSpec.ofChange wideInverseWrong)

/-- 'airsharelaw2.FixedQuotient': WHATEVER THE INPUT: true; the input reads as it did. -/
def fixedQuotientSpec : ChangeSpec := { name := "fixedQuotient", fn := fun _ => fun
  | [d1, d2, d3, d4] => { results := [.lit (.bool true)], args := [d1, d2, d3, d4] }
  | _ => none }
def fixedQuotientRow : OpenClaim := { program := "ythlomoacacebeaa", sum := "5dbc14e0b6c8aabac873c679e2c257494faeb1fad3ef7737ba1628966daf6bcb", func := "airshare/airsharelaw2.FixedQuotient", spec := "fixedQuotient", named := ["math/bits.divideError", "math/bits.overflowError"], apart := false }
def FixedQuotientSaid : Prop := fixedQuotientRow.holds Try.pinned (OpenSpec.ofChange fixedQuotientSpec)

/-- ITS FALSE NEIGHBOUR: 'it returns false'. Refute it at one input. -/
def fixedQuotientWrong : ChangeSpec := { name := "fixedQuotient", fn := fun _ => fun
  | [d1, d2, d3, d4] => { results := [.lit (.bool false)], args := [d1, d2, d3, d4] }
  | _ => none }
def FixedQuotientWrongFalsely : Prop := fixedQuotientRow.holds Try.pinned (OpenSpec.ofChange fixedQuotientWrong)

/-- 'airsharelaw2.FixedMulDiv': WHATEVER THE INPUT: true; the input reads as it did. -/
def fixedMulDivSpec : ChangeSpec := { name := "fixedMulDiv", fn := fun _ => fun
  | [d1, d2, d3, d4, d5] => { results := [.lit (.bool true)], args := [d1, d2, d3, d4, d5] }
  | _ => none }
def fixedMulDivRow : OpenClaim := { program := "ythlomoacacebeaa", sum := "5dbc14e0b6c8aabac873c679e2c257494faeb1fad3ef7737ba1628966daf6bcb", func := "airshare/airsharelaw2.FixedMulDiv", spec := "fixedMulDiv", named := ["math/bits.divideError", "math/bits.overflowError"], apart := false }
def FixedMulDivSaid : Prop := fixedMulDivRow.holds Try.pinned (OpenSpec.ofChange fixedMulDivSpec)

/-- ITS FALSE NEIGHBOUR: 'it returns false'. Refute it at one input. -/
def fixedMulDivWrong : ChangeSpec := { name := "fixedMulDiv", fn := fun _ => fun
  | [d1, d2, d3, d4, d5] => { results := [.lit (.bool false)], args := [d1, d2, d3, d4, d5] }
  | _ => none }
def FixedMulDivWrongFalsely : Prop := fixedMulDivRow.holds Try.pinned (OpenSpec.ofChange fixedMulDivWrong)

/-- 'airsharelaw2.FixedRoundings': WHATEVER THE INPUT: true; the input reads as it did. -/
def fixedRoundingsSpec : ChangeSpec := { name := "fixedRoundings", fn := fun _ => fun
  | [d1, d2, d3] => { results := [.lit (.bool true)], args := [d1, d2, d3] }
  | _ => none }
def fixedRoundingsRow : OpenClaim := { program := "ythlomoacacebeaa", sum := "5dbc14e0b6c8aabac873c679e2c257494faeb1fad3ef7737ba1628966daf6bcb", func := "airshare/airsharelaw2.FixedRoundings", spec := "fixedRoundings", named := ["math/bits.divideError", "math/bits.overflowError"], apart := false }
def FixedRoundingsSaid : Prop := fixedRoundingsRow.holds Try.pinned (OpenSpec.ofChange fixedRoundingsSpec)

/-- ITS FALSE NEIGHBOUR: 'it returns false'. Refute it at one input. -/
def fixedRoundingsWrong : ChangeSpec := { name := "fixedRoundings", fn := fun _ => fun
  | [d1, d2, d3] => { results := [.lit (.bool false)], args := [d1, d2, d3] }
  | _ => none }
def FixedRoundingsWrongFalsely : Prop := fixedRoundingsRow.holds Try.pinned (OpenSpec.ofChange fixedRoundingsWrong)

/-- 'airsharelaw2.FixedSums': WHATEVER THE INPUT: true; the input reads as it did. -/
def fixedSumsSpec : ChangeSpec := { name := "fixedSums", fn := fun _ => fun
  | [d1, d2, d3] => { results := [.lit (.bool true)], args := [d1, d2, d3] }
  | _ => none }
def fixedSumsRow : OpenClaim := { program := "ythlomoacacebeaa", sum := "5dbc14e0b6c8aabac873c679e2c257494faeb1fad3ef7737ba1628966daf6bcb", func := "airshare/airsharelaw2.FixedSums", spec := "fixedSums", named := ["math/bits.divideError", "math/bits.overflowError"], apart := false }
def FixedSumsSaid : Prop := fixedSumsRow.holds Try.pinned (OpenSpec.ofChange fixedSumsSpec)

/-- ITS FALSE NEIGHBOUR: 'it returns false'. Refute it at one input. -/
def fixedSumsWrong : ChangeSpec := { name := "fixedSums", fn := fun _ => fun
  | [d1, d2, d3] => { results := [.lit (.bool false)], args := [d1, d2, d3] }
  | _ => none }
def FixedSumsWrongFalsely : Prop := fixedSumsRow.holds Try.pinned (OpenSpec.ofChange fixedSumsWrong)

/-- 'airsharelaw2.FixedClamp': WHATEVER THE INPUT: true; the input reads as it did. -/
def fixedClampSpec : ChangeSpec := { name := "fixedClamp", fn := fun _ => fun
  | [d1, d2, d3, d4] => { results := [.lit (.bool true)], args := [d1, d2, d3, d4] }
  | _ => none }
def fixedClampRow : OpenClaim := { program := "ythlomoacacebeaa", sum := "5dbc14e0b6c8aabac873c679e2c257494faeb1fad3ef7737ba1628966daf6bcb", func := "airshare/airsharelaw2.FixedClamp", spec := "fixedClamp", named := ["math/bits.divideError", "math/bits.overflowError"], apart := false }
def FixedClampSaid : Prop := fixedClampRow.holds Try.pinned (OpenSpec.ofChange fixedClampSpec)

/-- ITS FALSE NEIGHBOUR: 'it returns false'. Refute it at one input. -/
def fixedClampWrong : ChangeSpec := { name := "fixedClamp", fn := fun _ => fun
  | [d1, d2, d3, d4] => { results := [.lit (.bool false)], args := [d1, d2, d3, d4] }
  | _ => none }
def FixedClampWrongFalsely : Prop := fixedClampRow.holds Try.pinned (OpenSpec.ofChange fixedClampWrong)

/-- 'airsharelaw2.FixedRatio': WHATEVER THE INPUT: true; the input reads as it did. -/
def fixedRatioSpec : ChangeSpec := { name := "fixedRatio", fn := fun _ => fun
  | [d1, d2, d3, d4, d5] => { results := [.lit (.bool true)], args := [d1, d2, d3, d4, d5] }
  | _ => none }
def fixedRatioRow : OpenClaim := { program := "ythlomoacacebeaa", sum := "5dbc14e0b6c8aabac873c679e2c257494faeb1fad3ef7737ba1628966daf6bcb", func := "airshare/airsharelaw2.FixedRatio", spec := "fixedRatio", named := ["math/bits.divideError", "math/bits.overflowError"], apart := false }
def FixedRatioSaid : Prop := fixedRatioRow.holds Try.pinned (OpenSpec.ofChange fixedRatioSpec)

/-- ITS FALSE NEIGHBOUR: 'it returns false'. Refute it at one input. -/
def fixedRatioWrong : ChangeSpec := { name := "fixedRatio", fn := fun _ => fun
  | [d1, d2, d3, d4, d5] => { results := [.lit (.bool false)], args := [d1, d2, d3, d4, d5] }
  | _ => none }
def FixedRatioWrongFalsely : Prop := fixedRatioRow.holds Try.pinned (OpenSpec.ofChange fixedRatioWrong)

/-- 'airsharelaw3.SharesSplit': WHATEVER THE INPUT: true; the input reads as it did. -/
def sharesSplitSpec : ChangeSpec := { name := "sharesSplit", fn := fun _ => fun
  | [d1, d2, d3] => { results := [.lit (.bool true)], args := [d1, d2, d3] }
  | _ => none }
def sharesSplitRow : OpenClaim := { program := "ythlomoacacebeaa", sum := "5dbc14e0b6c8aabac873c679e2c257494faeb1fad3ef7737ba1628966daf6bcb", func := "airshare/airsharelaw3.SharesSplit", spec := "sharesSplit", named := ["math/bits.divideError", "math/bits.overflowError"], apart := false }
def SharesSplitSaid : Prop := sharesSplitRow.holds Try.pinned (OpenSpec.ofChange sharesSplitSpec)

/-- ITS FALSE NEIGHBOUR: 'it returns false'. Refute it at one input. -/
def sharesSplitWrong : ChangeSpec := { name := "sharesSplit", fn := fun _ => fun
  | [d1, d2, d3] => { results := [.lit (.bool false)], args := [d1, d2, d3] }
  | _ => none }
def SharesSplitWrongFalsely : Prop := sharesSplitRow.holds Try.pinned (OpenSpec.ofChange sharesSplitWrong)

/- THE SECOND FORM. 'bulk': how many values and letters a reading holds, each counted each time it is reached (what is shared counts as often as it is met; a slice's spare places count too). A statement '..UptoSaid' is the law's where the arguments, and the package variables that the reading takes, are together of bulk at most 1048576: NARROWER than '..Said'. Prove '..Said' where nothing that the law and all that it calls make is longer than what came in: it says more and counts as full. Else prove '..UptoSaid'. A law counts once. -/
mutual
def uptoBulk {H : Type} : DataW H → Nat
  | .lit (.string bytes) => bytes.length + 1
  | .lit _ => 1
  | .nil => 1
  | .ptr d => uptoBulk d + 1
  | .slice elems spare => uptoBulkAll elems + uptoBulkAll spare + 1
  | .agg parts => uptoBulkAll parts + 1
  | .iface _ d => uptoBulk d + 1
  | .map entries => uptoBulkEntries entries + 1
  | .held _ => 1
def uptoBulkAll {H : Type} : List (DataW H) → Nat
  | [] => 0
  | d :: r => uptoBulk d + uptoBulkAll r
def uptoBulkEntries {H : Type} : List (Lit × DataW H) → Nat
  | [] => 0
  | x :: r => uptoBulkEntry x + uptoBulkEntries r
def uptoBulkEntry {H : Type} : Lit × DataW H → Nat
  | (.string bytes, d) => bytes.length + uptoBulk d + 1
  | (_, d) => uptoBulk d + 1
 end
def uptoSmall : (H : Type) → List (DataW H) → Bool := fun _ ds => decide (uptoBulkAll ds ≤ 1048576)
def OpenSpec.upto (s : _root_.Go.ChangeSpec) : _root_.Go.OpenSpec := { _root_.Go.OpenSpec.ofChange s with cond := some uptoSmall }

/-- 'airsharelaw1.WideMul', WHERE WHAT IT READS IS OF BULK AT MOST 1048576: true; the input reads as it did. -/
def wideMulUptoRow : OpenClaim := { program := "ythlomoacacebeaa", sum := "5dbc14e0b6c8aabac873c679e2c257494faeb1fad3ef7737ba1628966daf6bcb", func := "airshare/airsharelaw1.WideMul", spec := "wideMul", apart := false, narrowed := true }
def WideMulUptoSaid : Prop := wideMulUptoRow.holds Try.pinned (OpenSpec.upto wideMulSpec)

/-- 'airsharelaw1.WideAdd', WHERE WHAT IT READS IS OF BULK AT MOST 1048576: true; the input reads as it did. -/
def wideAddUptoRow : OpenClaim := { program := "ythlomoacacebeaa", sum := "5dbc14e0b6c8aabac873c679e2c257494faeb1fad3ef7737ba1628966daf6bcb", func := "airshare/airsharelaw1.WideAdd", spec := "wideAdd", inPlace := ["math/bits.Add64"], apart := false, narrowed := true }
def WideAddUptoSaid : Prop := wideAddUptoRow.holds Try.pinned (OpenSpec.upto wideAddSpec)

/-- 'airsharelaw1.WideCross', WHERE WHAT IT READS IS OF BULK AT MOST 1048576: true; the input reads as it did. -/
def wideCrossUptoRow : OpenClaim := { program := "ythlomoacacebeaa", sum := "5dbc14e0b6c8aabac873c679e2c257494faeb1fad3ef7737ba1628966daf6bcb", func := "airshare/airsharelaw1.WideCross", spec := "wideCross", apart := false, narrowed := true }
def WideCrossUptoSaid : Prop := wideCrossUptoRow.holds Try.pinned (OpenSpec.upto wideCrossSpec)

/-- 'airsharelaw1.WideDiv', WHERE WHAT IT READS IS OF BULK AT MOST 1048576: true; the input reads as it did. -/
def wideDivUptoRow : OpenClaim := { program := "ythlomoacacebeaa", sum := "5dbc14e0b6c8aabac873c679e2c257494faeb1fad3ef7737ba1628966daf6bcb", func := "airshare/airsharelaw1.WideDiv", spec := "wideDiv", named := ["math/bits.divideError", "math/bits.overflowError"], apart := false, narrowed := true }
def WideDivUptoSaid : Prop := wideDivUptoRow.holds Try.pinned (OpenSpec.upto wideDivSpec)

/-- 'airsharelaw1.WideInverse', WHERE WHAT IT READS IS OF BULK AT MOST 1048576: true; the input reads as it did. -/
def wideInverseUptoRow : OpenClaim := { program := "ythlomoacacebeaa", sum := "5dbc14e0b6c8aabac873c679e2c257494faeb1fad3ef7737ba1628966daf6bcb", func := "airshare/airsharelaw1.WideInverse", spec := "wideInverse", inPlace := ["math/bits.Add64"], named := ["math/bits.divideError", "math/bits.overflowError"], apart := false, narrowed := true }
def WideInverseUptoSaid : Prop := wideInverseUptoRow.holds Try.pinned (OpenSpec.upto wideInverseSpec)

/-- 'airsharelaw2.FixedQuotient', WHERE WHAT IT READS IS OF BULK AT MOST 1048576: true; the input reads as it did. -/
def fixedQuotientUptoRow : OpenClaim := { program := "ythlomoacacebeaa", sum := "5dbc14e0b6c8aabac873c679e2c257494faeb1fad3ef7737ba1628966daf6bcb", func := "airshare/airsharelaw2.FixedQuotient", spec := "fixedQuotient", named := ["math/bits.divideError", "math/bits.overflowError"], apart := false, narrowed := true }
def FixedQuotientUptoSaid : Prop := fixedQuotientUptoRow.holds Try.pinned (OpenSpec.upto fixedQuotientSpec)

/-- 'airsharelaw2.FixedMulDiv', WHERE WHAT IT READS IS OF BULK AT MOST 1048576: true; the input reads as it did. -/
def fixedMulDivUptoRow : OpenClaim := { program := "ythlomoacacebeaa", sum := "5dbc14e0b6c8aabac873c679e2c257494faeb1fad3ef7737ba1628966daf6bcb", func := "airshare/airsharelaw2.FixedMulDiv", spec := "fixedMulDiv", named := ["math/bits.divideError", "math/bits.overflowError"], apart := false, narrowed := true }
def FixedMulDivUptoSaid : Prop := fixedMulDivUptoRow.holds Try.pinned (OpenSpec.upto fixedMulDivSpec)

/-- 'airsharelaw2.FixedRoundings', WHERE WHAT IT READS IS OF BULK AT MOST 1048576: true; the input reads as it did. -/
def fixedRoundingsUptoRow : OpenClaim := { program := "ythlomoacacebeaa", sum := "5dbc14e0b6c8aabac873c679e2c257494faeb1fad3ef7737ba1628966daf6bcb", func := "airshare/airsharelaw2.FixedRoundings", spec := "fixedRoundings", named := ["math/bits.divideError", "math/bits.overflowError"], apart := false, narrowed := true }
def FixedRoundingsUptoSaid : Prop := fixedRoundingsUptoRow.holds Try.pinned (OpenSpec.upto fixedRoundingsSpec)

/-- 'airsharelaw2.FixedSums', WHERE WHAT IT READS IS OF BULK AT MOST 1048576: true; the input reads as it did. -/
def fixedSumsUptoRow : OpenClaim := { program := "ythlomoacacebeaa", sum := "5dbc14e0b6c8aabac873c679e2c257494faeb1fad3ef7737ba1628966daf6bcb", func := "airshare/airsharelaw2.FixedSums", spec := "fixedSums", named := ["math/bits.divideError", "math/bits.overflowError"], apart := false, narrowed := true }
def FixedSumsUptoSaid : Prop := fixedSumsUptoRow.holds Try.pinned (OpenSpec.upto fixedSumsSpec)

/-- 'airsharelaw2.FixedClamp', WHERE WHAT IT READS IS OF BULK AT MOST 1048576: true; the input reads as it did. -/
def fixedClampUptoRow : OpenClaim := { program := "ythlomoacacebeaa", sum := "5dbc14e0b6c8aabac873c679e2c257494faeb1fad3ef7737ba1628966daf6bcb", func := "airshare/airsharelaw2.FixedClamp", spec := "fixedClamp", named := ["math/bits.divideError", "math/bits.overflowError"], apart := false, narrowed := true }
def FixedClampUptoSaid : Prop := fixedClampUptoRow.holds Try.pinned (OpenSpec.upto fixedClampSpec)

/-- 'airsharelaw2.FixedRatio', WHERE WHAT IT READS IS OF BULK AT MOST 1048576: true; the input reads as it did. -/
def fixedRatioUptoRow : OpenClaim := { program := "ythlomoacacebeaa", sum := "5dbc14e0b6c8aabac873c679e2c257494faeb1fad3ef7737ba1628966daf6bcb", func := "airshare/airsharelaw2.FixedRatio", spec := "fixedRatio", named := ["math/bits.divideError", "math/bits.overflowError"], apart := false, narrowed := true }
def FixedRatioUptoSaid : Prop := fixedRatioUptoRow.holds Try.pinned (OpenSpec.upto fixedRatioSpec)

/-- 'airsharelaw3.SharesSplit', WHERE WHAT IT READS IS OF BULK AT MOST 1048576: true; the input reads as it did. -/
def sharesSplitUptoRow : OpenClaim := { program := "ythlomoacacebeaa", sum := "5dbc14e0b6c8aabac873c679e2c257494faeb1fad3ef7737ba1628966daf6bcb", func := "airshare/airsharelaw3.SharesSplit", spec := "sharesSplit", named := ["math/bits.divideError", "math/bits.overflowError"], apart := false, narrowed := true }
def SharesSplitUptoSaid : Prop := sharesSplitUptoRow.holds Try.pinned (OpenSpec.upto sharesSplitSpec)

end Rows
end Go.Proofs.Ythlomoacacebeaa

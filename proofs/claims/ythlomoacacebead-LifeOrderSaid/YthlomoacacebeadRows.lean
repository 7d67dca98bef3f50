/-
  No cell of these rows narrows 'for every input' (looked for: loops, veiled, ifaces, maps, wideKeys, modest, calm, conditions, laid).
  DERIVED. THE GIVEN ROWS OF THIS SEAT. 12 by the template 'for every input the law returns true; each argument reads behind the call as it read before'; 0 by the template 'total and deterministic' (their statements: YthlomoacacebeadTotals.lean).
  GIVEN WITH THE SEED: the statements are not yours to turn. If you find one false, say at which input.
  Laid BY PROGRAM, IN A SANDBOX (cutbox-rows.mjs): the forced cells as the released guide's own fill.sh prints them over the translation 898edc9eb00a58f2… (all of the seat's roots in one cut). By AI agents, Wed Nov 11 2026. No macro, syntax, notation, axiom, sorry.
-/
import Derived.Test.YthlomoacacebeadChecked
import GoSem.Claim
import GoSem.ClaimJoined
import GoSem.ClaimMapViews
import Derived.JoinedTies
import Derived.KernelRfl
namespace Go.Proofs.Ythlomoacacebead
/- THE CELL 'sum', in the pinned program and in every row, IS THE sha256 OF THE DUMP (.gsa) THAT YthlomoacacebeadProg.lean LOADS. Nothing in Lean hashes anything: it is a label: what it is worth is what the hold of that sum in a sandbox is worth. -/
noncomputable def Try.pinned : Pinned := { name := "ythlomoacacebead", sum := "898edc9eb00a58f21a21e9430dc4e853292fb2965518990ac6516197c17ea6fb", checked := Try.checked }
namespace Rows
def none {H : Type} : Left H := { results := [], args := [] }

/-- 'airsharelaw18.LifeOrder': WHATEVER THE INPUT: true; the input reads as it did. -/
def lifeOrderSpec : ChangeSpec := { name := "lifeOrder", fn := fun _ => fun
  | [d] => { results := [.lit (.bool true)], args := [d] }
  | _ => none }
def lifeOrderRow : OpenClaim := { program := "ythlomoacacebead", sum := "898edc9eb00a58f21a21e9430dc4e853292fb2965518990ac6516197c17ea6fb", func := "airshare/airsharelaw18.LifeOrder", spec := "lifeOrder", apart := false }
def LifeOrderSaid : Prop := lifeOrderRow.holds Try.pinned (OpenSpec.ofChange lifeOrderSpec)

/-- ITS FALSE NEIGHBOUR: 'it returns false'. Refute it at one input. -/
def lifeOrderWrong : ChangeSpec := { name := "lifeOrder", fn := fun _ => fun
  | [d] => { results := [.lit (.bool false)], args := [d] }
  | _ => none }
def LifeOrderWrongFalsely : Prop := lifeOrderRow.holds Try.pinned (OpenSpec.ofChange lifeOrderWrong)

/-- 'airsharelaw18.LifeScript': WHATEVER THE INPUT: true; the input reads as it did. -/
def lifeScriptSpec : ChangeSpec := { name := "lifeScript", fn := fun _ => fun
  | [d1, d2, d3] => { results := [.lit (.bool true)], args := [d1, d2, d3] }
  | _ => none }
def lifeScriptRow : OpenClaim := { program := "ythlomoacacebead", sum := "898edc9eb00a58f21a21e9430dc4e853292fb2965518990ac6516197c17ea6fb", func := "airshare/airsharelaw18.LifeScript", spec := "lifeScript", apart := false }
def LifeScriptSaid : Prop := lifeScriptRow.holds Try.pinned (OpenSpec.ofChange lifeScriptSpec)

/-- ITS FALSE NEIGHBOUR: 'it returns false'. Refute it at one input. -/
def lifeScriptWrong : ChangeSpec := { name := "lifeScript", fn := fun _ => fun
  | [d1, d2, d3] => { results := [.lit (.bool false)], args := [d1, d2, d3] }
  | _ => none }
def LifeScriptWrongFalsely : Prop := lifeScriptRow.holds Try.pinned (OpenSpec.ofChange lifeScriptWrong)

/-- 'airsharelaw19.AirtimeBest': WHATEVER THE INPUT: true; the input reads as it did. -/
def airtimeBestSpec : ChangeSpec := { name := "airtimeBest", fn := fun _ => fun
  | [d1, d2, d3] => { results := [.lit (.bool true)], args := [d1, d2, d3] }
  | _ => none }
def airtimeBestRow : OpenClaim := { program := "ythlomoacacebead", sum := "898edc9eb00a58f21a21e9430dc4e853292fb2965518990ac6516197c17ea6fb", func := "airshare/airsharelaw19.AirtimeBest", spec := "airtimeBest", named := ["math/bits.divideError", "math/bits.overflowError"], apart := false }
def AirtimeBestSaid : Prop := airtimeBestRow.holds Try.pinned (OpenSpec.ofChange airtimeBestSpec)

/-- ITS FALSE NEIGHBOUR: 'it returns false'. Refute it at one input. -/
def airtimeBestWrong : ChangeSpec := { name := "airtimeBest", fn := fun _ => fun
  | [d1, d2, d3] => { results := [.lit (.bool false)], args := [d1, d2, d3] }
  | _ => none }
def AirtimeBestWrongFalsely : Prop := airtimeBestRow.holds Try.pinned (OpenSpec.ofChange airtimeBestWrong)

/-- 'airsharelaw19.AirtimeTime': WHATEVER THE INPUT: true; the input reads as it did. -/
def airtimeTimeSpec : ChangeSpec := { name := "airtimeTime", fn := fun _ => fun
  | [d1, d2, d3] => { results := [.lit (.bool true)], args := [d1, d2, d3] }
  | _ => none }
def airtimeTimeRow : OpenClaim := { program := "ythlomoacacebead", sum := "898edc9eb00a58f21a21e9430dc4e853292fb2965518990ac6516197c17ea6fb", func := "airshare/airsharelaw19.AirtimeTime", spec := "airtimeTime", named := ["math/bits.divideError", "math/bits.overflowError"], apart := false }
def AirtimeTimeSaid : Prop := airtimeTimeRow.holds Try.pinned (OpenSpec.ofChange airtimeTimeSpec)

/-- ITS FALSE NEIGHBOUR: 'it returns false'. Refute it at one input. -/
def airtimeTimeWrong : ChangeSpec := { name := "airtimeTime", fn := fun _ => fun
  | [d1, d2, d3] => { results := [.lit (.bool false)], args := [d1, d2, d3] }
  | _ => none }
def AirtimeTimeWrongFalsely : Prop := airtimeTimeRow.holds Try.pinned (OpenSpec.ofChange airtimeTimeWrong)

/-- 'airsharelaw19.AirtimeFit': WHATEVER THE INPUT: true; the input reads as it did. -/
def airtimeFitSpec : ChangeSpec := { name := "airtimeFit", fn := fun _ => fun
  | [d1, d2, d3] => { results := [.lit (.bool true)], args := [d1, d2, d3] }
  | _ => none }
def airtimeFitRow : OpenClaim := { program := "ythlomoacacebead", sum := "898edc9eb00a58f21a21e9430dc4e853292fb2965518990ac6516197c17ea6fb", func := "airshare/airsharelaw19.AirtimeFit", spec := "airtimeFit", named := ["math/bits.divideError", "math/bits.overflowError"], apart := false }
def AirtimeFitSaid : Prop := airtimeFitRow.holds Try.pinned (OpenSpec.ofChange airtimeFitSpec)

/-- ITS FALSE NEIGHBOUR: 'it returns false'. Refute it at one input. -/
def airtimeFitWrong : ChangeSpec := { name := "airtimeFit", fn := fun _ => fun
  | [d1, d2, d3] => { results := [.lit (.bool false)], args := [d1, d2, d3] }
  | _ => none }
def AirtimeFitWrongFalsely : Prop := airtimeFitRow.holds Try.pinned (OpenSpec.ofChange airtimeFitWrong)

/-- 'airsharelaw19.AirtimeInverse': WHATEVER THE INPUT: true; the input reads as it did. -/
def airtimeInverseSpec : ChangeSpec := { name := "airtimeInverse", fn := fun _ => fun
  | [d1, d2, d3] => { results := [.lit (.bool true)], args := [d1, d2, d3] }
  | _ => none }
def airtimeInverseRow : OpenClaim := { program := "ythlomoacacebead", sum := "898edc9eb00a58f21a21e9430dc4e853292fb2965518990ac6516197c17ea6fb", func := "airshare/airsharelaw19.AirtimeInverse", spec := "airtimeInverse", named := ["math/bits.divideError", "math/bits.overflowError"], apart := false }
def AirtimeInverseSaid : Prop := airtimeInverseRow.holds Try.pinned (OpenSpec.ofChange airtimeInverseSpec)

/-- ITS FALSE NEIGHBOUR: 'it returns false'. Refute it at one input. -/
def airtimeInverseWrong : ChangeSpec := { name := "airtimeInverse", fn := fun _ => fun
  | [d1, d2, d3] => { results := [.lit (.bool false)], args := [d1, d2, d3] }
  | _ => none }
def AirtimeInverseWrongFalsely : Prop := airtimeInverseRow.holds Try.pinned (OpenSpec.ofChange airtimeInverseWrong)

/-- 'airsharelaw20.AggregateSize': WHATEVER THE INPUT: true; the input reads as it did. -/
def aggregateSizeSpec : ChangeSpec := { name := "aggregateSize", fn := fun _ => fun
  | [d1, d2, d3] => { results := [.lit (.bool true)], args := [d1, d2, d3] }
  | _ => none }
def aggregateSizeRow : OpenClaim := { program := "ythlomoacacebead", sum := "898edc9eb00a58f21a21e9430dc4e853292fb2965518990ac6516197c17ea6fb", func := "airshare/airsharelaw20.AggregateSize", spec := "aggregateSize", named := ["math/bits.divideError", "math/bits.overflowError"], apart := false }
def AggregateSizeSaid : Prop := aggregateSizeRow.holds Try.pinned (OpenSpec.ofChange aggregateSizeSpec)

/-- ITS FALSE NEIGHBOUR: 'it returns false'. Refute it at one input. -/
def aggregateSizeWrong : ChangeSpec := { name := "aggregateSize", fn := fun _ => fun
  | [d1, d2, d3] => { results := [.lit (.bool false)], args := [d1, d2, d3] }
  | _ => none }
def AggregateSizeWrongFalsely : Prop := aggregateSizeRow.holds Try.pinned (OpenSpec.ofChange aggregateSizeWrong)

/-- 'airsharelaw20.AggregateBuild': WHATEVER THE INPUT: true; the input reads as it did. -/
def aggregateBuildSpec : ChangeSpec := { name := "aggregateBuild", fn := fun _ => fun
  | [d1, d2, d3, d4] => { results := [.lit (.bool true)], args := [d1, d2, d3, d4] }
  | _ => none }
def aggregateBuildRow : OpenClaim := { program := "ythlomoacacebead", sum := "898edc9eb00a58f21a21e9430dc4e853292fb2965518990ac6516197c17ea6fb", func := "airshare/airsharelaw20.AggregateBuild", spec := "aggregateBuild", named := ["math/bits.divideError", "math/bits.overflowError"], apart := false }
def AggregateBuildSaid : Prop := aggregateBuildRow.holds Try.pinned (OpenSpec.ofChange aggregateBuildSpec)

/-- ITS FALSE NEIGHBOUR: 'it returns false'. Refute it at one input. -/
def aggregateBuildWrong : ChangeSpec := { name := "aggregateBuild", fn := fun _ => fun
  | [d1, d2, d3, d4] => { results := [.lit (.bool false)], args := [d1, d2, d3, d4] }
  | _ => none }
def AggregateBuildWrongFalsely : Prop := aggregateBuildRow.holds Try.pinned (OpenSpec.ofChange aggregateBuildWrong)

/-- 'airsharelaw20.AggregatePrefix': WHATEVER THE INPUT: true; the input reads as it did. -/
def aggregatePrefixSpec : ChangeSpec := { name := "aggregatePrefix", fn := fun _ => fun
  | [d] => { results := [.lit (.bool true)], args := [d] }
  | _ => none }
def aggregatePrefixRow : OpenClaim := { program := "ythlomoacacebead", sum := "898edc9eb00a58f21a21e9430dc4e853292fb2965518990ac6516197c17ea6fb", func := "airshare/airsharelaw20.AggregatePrefix", spec := "aggregatePrefix", named := ["math/bits.divideError", "math/bits.overflowError"], apart := false }
def AggregatePrefixSaid : Prop := aggregatePrefixRow.holds Try.pinned (OpenSpec.ofChange aggregatePrefixSpec)

/-- ITS FALSE NEIGHBOUR: 'it returns false'. Refute it at one input. -/
def aggregatePrefixWrong : ChangeSpec := { name := "aggregatePrefix", fn := fun _ => fun
  | [d] => { results := [.lit (.bool false)], args := [d] }
  | _ => none }
def AggregatePrefixWrongFalsely : Prop := aggregatePrefixRow.holds Try.pinned (OpenSpec.ofChange aggregatePrefixWrong)

/-- 'airsharelaw20.AggregateMost': WHATEVER THE INPUT: true; the input reads as it did. -/
def aggregateMostSpec : ChangeSpec := { name := "aggregateMost", fn := fun _ => fun
  | [d1, d2, d3] => { results := [.lit (.bool true)], args := [d1, d2, d3] }
  | _ => none }
def aggregateMostRow : OpenClaim := { program := "ythlomoacacebead", sum := "898edc9eb00a58f21a21e9430dc4e853292fb2965518990ac6516197c17ea6fb", func := "airshare/airsharelaw20.AggregateMost", spec := "aggregateMost", named := ["math/bits.divideError", "math/bits.overflowError"], apart := false }
def AggregateMostSaid : Prop := aggregateMostRow.holds Try.pinned (OpenSpec.ofChange aggregateMostSpec)

/-- ITS FALSE NEIGHBOUR: 'it returns false'. Refute it at one input. -/
def aggregateMostWrong : ChangeSpec := { name := "aggregateMost", fn := fun _ => fun
  | [d1, d2, d3] => { results := [.lit (.bool false)], args := [d1, d2, d3] }
  | _ => none }
def AggregateMostWrongFalsely : Prop := aggregateMostRow.holds Try.pinned (OpenSpec.ofChange aggregateMostWrong)

/-- 'airsharelaw26.BoundKeep': WHATEVER THE INPUT: true; the input reads as it did. -/
def boundKeepSpec : ChangeSpec := { name := "boundKeep", fn := fun _ => fun
  | [d1, d2] => { results := [.lit (.bool true)], args := [d1, d2] }
  | _ => none }
def boundKeepRow : OpenClaim := { program := "ythlomoacacebead", sum := "898edc9eb00a58f21a21e9430dc4e853292fb2965518990ac6516197c17ea6fb", func := "airshare/airsharelaw26.BoundKeep", spec := "boundKeep", apart := false }
def BoundKeepSaid : Prop := boundKeepRow.holds Try.pinned (OpenSpec.ofChange boundKeepSpec)

/-- ITS FALSE NEIGHBOUR: 'it returns false'. Refute it at one input. -/
def boundKeepWrong : ChangeSpec := { name := "boundKeep", fn := fun _ => fun
  | [d1, d2] => { results := [.lit (.bool false)], args := [d1, d2] }
  | _ => none }
def BoundKeepWrongFalsely : Prop := boundKeepRow.holds Try.pinned (OpenSpec.ofChange boundKeepWrong)

/-- 'airsharelaw26.BoundTurn': WHATEVER THE INPUT: true; the input reads as it did. -/
def boundTurnSpec : ChangeSpec := { name := "boundTurn", fn := fun _ => fun
  | [d1, d2, d3] => { results := [.lit (.bool true)], args := [d1, d2, d3] }
  | _ => none }
def boundTurnRow : OpenClaim := { program := "ythlomoacacebead", sum := "898edc9eb00a58f21a21e9430dc4e853292fb2965518990ac6516197c17ea6fb", func := "airshare/airsharelaw26.BoundTurn", spec := "boundTurn", apart := false }
def BoundTurnSaid : Prop := boundTurnRow.holds Try.pinned (OpenSpec.ofChange boundTurnSpec)

/-- ITS FALSE NEIGHBOUR: 'it returns false'. Refute it at one input. -/
def boundTurnWrong : ChangeSpec := { name := "boundTurn", fn := fun _ => fun
  | [d1, d2, d3] => { results := [.lit (.bool false)], args := [d1, d2, d3] }
  | _ => none }
def BoundTurnWrongFalsely : Prop := boundTurnRow.holds Try.pinned (OpenSpec.ofChange boundTurnWrong)

/- THE SECOND FORM. 'bulk': how many values and letters a reading holds, each counted each time it is reached (what is shared counts as often as it is met; a slice's spare places count too). A statement '..UptoSaid' is the law's where the arguments, and the package variables that the reading takes, are together of bulk at most 1048576: NARROWER than '..Said'. Prove '..Said' where nothing that the law and all that it calls make is longer than what came in: it says more and counts as full. Else prove '..UptoSaid'. A law counts once. -/
mutual
def uptoBulk {H : Type} : DataW H → Nat
  | .lit (.string bytes) => bytes.length + 1
  | .lit _ => 1
  | .nil => 1
  | .ptr d => uptoBulk d + 1
  | .slice elems spare => uptoBulkAll elems + uptoBulkAll spare + 1
  | .agg parts => uptoBulkAll parts + 1
  | .iface _ d => uptoBulk d + 1
  | .map entries => uptoBulkEntries entries + 1
  | .held _ => 1
def uptoBulkAll {H : Type} : List (DataW H) → Nat
  | [] => 0
  | d :: r => uptoBulk d + uptoBulkAll r
def uptoBulkEntries {H : Type} : List (Lit × DataW H) → Nat
  | [] => 0
  | x :: r => uptoBulkEntry x + uptoBulkEntries r
def uptoBulkEntry {H : Type} : Lit × DataW H → Nat
  | (.string bytes, d) => bytes.length + uptoBulk d + 1
  | (_, d) => uptoBulk d + 1
 end
def uptoSmall : (H : Type) → List (DataW H) → Bool := fun _ ds => decide (uptoBulkAll ds ≤ 1048576)
def OpenSpec.upto (s : _root_.Go.ChangeSpec) : _root_.Go.OpenSpec := { _root_.Go.OpenSpec.ofChange s with cond := some uptoSmall }

/-- 'airsharelaw18.LifeOrder', WHERE WHAT IT READS IS OF BULK AT MOST 1048576: true; the input reads as it did. -/
def lifeOrderUptoRow : OpenClaim := { program := "ythlomoacacebead", sum := "898edc9eb00a58f21a21e9430dc4e853292fb2965518990ac6516197c17ea6fb", func := "airshare/airsharelaw18.LifeOrder", spec := "lifeOrder", apart := false, narrowed := true }
def LifeOrderUptoSaid : Prop := lifeOrderUptoRow.holds Try.pinned (OpenSpec.upto lifeOrderSpec)

/-- 'airsharelaw18.LifeScript', WHERE WHAT IT READS IS OF BULK AT MOST 1048576: true; the input reads as it did. -/
def lifeScriptUptoRow : OpenClaim := { program := "ythlomoacacebead", sum := "898edc9eb00a58f21a21e9430dc4e853292fb2965518990ac6516197c17ea6fb", func := "airshare/airsharelaw18.LifeScript", spec := "lifeScript", apart := false, narrowed := true }
def LifeScriptUptoSaid : Prop := lifeScriptUptoRow.holds Try.pinned (OpenSpec.upto lifeScriptSpec)

/-- 'airsharelaw19.AirtimeBest', WHERE WHAT IT READS IS OF BULK AT MOST 1048576: true; the input reads as it did. -/
def airtimeBestUptoRow : OpenClaim := { program := "ythlomoacacebead", sum := "898edc9eb00a58f21a21e9430dc4e853292fb2965518990ac6516197c17ea6fb", func := "airshare/airsharelaw19.AirtimeBest", spec := "airtimeBest", named := ["math/bits.divideError", "math/bits.overflowError"], apart := false, narrowed := true }
def AirtimeBestUptoSaid : Prop := airtimeBestUptoRow.holds Try.pinned (OpenSpec.upto airtimeBestSpec)

/-- 'airsharelaw19.AirtimeTime', WHERE WHAT IT READS IS OF BULK AT MOST 1048576: true; the input reads as it did. -/
def airtimeTimeUptoRow : OpenClaim := { program := "ythlomoacacebead", sum := "898edc9eb00a58f21a21e9430dc4e853292fb2965518990ac6516197c17ea6fb", func := "airshare/airsharelaw19.AirtimeTime", spec := "airtimeTime", named := ["math/bits.divideError", "math/bits.overflowError"], apart := false, narrowed := true }
def AirtimeTimeUptoSaid : Prop := airtimeTimeUptoRow.holds Try.pinned (OpenSpec.upto airtimeTimeSpec)

/-- 'airsharelaw19.AirtimeFit', WHERE WHAT IT READS IS OF BULK AT MOST 1048576: true; the input reads as it did. -/
def airtimeFitUptoRow : OpenClaim := { program := "ythlomoacacebead", sum := "898edc9eb00a58f21a21e9430dc4e853292fb2965518990ac6516197c17ea6fb", func := "airshare/airsharelaw19.AirtimeFit", spec := "airtimeFit", named := ["math/bits.divideError", "math/bits.overflowError"], apart := false, narrowed := true }
def AirtimeFitUptoSaid : Prop := airtimeFitUptoRow.holds Try.pinned (OpenSpec.upto airtimeFitSpec)

/-- 'airsharelaw19.AirtimeInverse', WHERE WHAT IT READS IS OF BULK AT MOST 1048576: true; the input reads as it did. -/
def airtimeInverseUptoRow : OpenClaim := { program := "ythlomoacacebead", sum := "898edc9eb00a58f21a21e9430dc4e853292fb2965518990ac6516197c17ea6fb", func := "airshare/airsharelaw19.AirtimeInverse", spec := "airtimeInverse", named := ["math/bits.divideError", "math/bits.overflowError"], apart := false, narrowed := true }
def AirtimeInverseUptoSaid : Prop := airtimeInverseUptoRow.holds Try.pinned (OpenSpec.upto airtimeInverseSpec)

/-- 'airsharelaw20.AggregateSize', WHERE WHAT IT READS IS OF BULK AT MOST 1048576: true; the input reads as it did. -/
def aggregateSizeUptoRow : OpenClaim := { program := "ythlomoacacebead", sum := "898edc9eb00a58f21a21e9430dc4e853292fb2965518990ac6516197c17ea6fb", func := "airshare/airsharelaw20.AggregateSize", spec := "aggregateSize", named := ["math/bits.divideError", "math/bits.overflowError"], apart := false, narrowed := true }
def AggregateSizeUptoSaid : Prop := aggregateSizeUptoRow.holds Try.pinned (OpenSpec.upto aggregateSizeSpec)

/-- 'airsharelaw20.AggregateBuild', WHERE WHAT IT READS IS OF BULK AT MOST 1048576: true; the input reads as it did. -/
def aggregateBuildUptoRow : OpenClaim := { program := "ythlomoacacebead", sum := "898edc9eb00a58f21a21e9430dc4e853292fb2965518990ac6516197c17ea6fb", func := "airshare/airsharelaw20.AggregateBuild", spec := "aggregateBuild", named := ["math/bits.divideError", "math/bits.overflowError"], apart := false, narrowed := true }
def AggregateBuildUptoSaid : Prop := aggregateBuildUptoRow.holds Try.pinned (OpenSpec.upto aggregateBuildSpec)

/-- 'airsharelaw20.AggregatePrefix', WHERE WHAT IT READS IS OF BULK AT MOST 1048576: true; the input reads as it did. -/
def aggregatePrefixUptoRow : OpenClaim := { program := "ythlomoacacebead", sum := "898edc9eb00a58f21a21e9430dc4e853292fb2965518990ac6516197c17ea6fb", func := "airshare/airsharelaw20.AggregatePrefix", spec := "aggregatePrefix", named := ["math/bits.divideError", "math/bits.overflowError"], apart := false, narrowed := true }
def AggregatePrefixUptoSaid : Prop := aggregatePrefixUptoRow.holds Try.pinned (OpenSpec.upto aggregatePrefixSpec)

/-- 'airsharelaw20.AggregateMost', WHERE WHAT IT READS IS OF BULK AT MOST 1048576: true; the input reads as it did. -/
def aggregateMostUptoRow : OpenClaim := { program := "ythlomoacacebead", sum := "898edc9eb00a58f21a21e9430dc4e853292fb2965518990ac6516197c17ea6fb", func := "airshare/airsharelaw20.AggregateMost", spec := "aggregateMost", named := ["math/bits.divideError", "math/bits.overflowError"], apart := false, narrowed := true }
def AggregateMostUptoSaid : Prop := aggregateMostUptoRow.holds Try.pinned (OpenSpec.upto aggregateMostSpec)

/-- 'airsharelaw26.BoundKeep', WHERE WHAT IT READS IS OF BULK AT MOST 1048576: true; the input reads as it did. -/
def boundKeepUptoRow : OpenClaim := { program := "ythlomoacacebead", sum := "898edc9eb00a58f21a21e9430dc4e853292fb2965518990ac6516197c17ea6fb", func := "airshare/airsharelaw26.BoundKeep", spec := "boundKeep", apart := false, narrowed := true }
def BoundKeepUptoSaid : Prop := boundKeepUptoRow.holds Try.pinned (OpenSpec.upto boundKeepSpec)

/-- 'airsharelaw26.BoundTurn', WHERE WHAT IT READS IS OF BULK AT MOST 1048576: true; the input reads as it did. -/
def boundTurnUptoRow : OpenClaim := { program := "ythlomoacacebead", sum := "898edc9eb00a58f21a21e9430dc4e853292fb2965518990ac6516197c17ea6fb", func := "airshare/airsharelaw26.BoundTurn", spec := "boundTurn", apart := false, narrowed := true }
def BoundTurnUptoSaid : Prop := boundTurnUptoRow.holds Try.pinned (OpenSpec.upto boundTurnSpec)

end Rows
end Go.Proofs.Ythlomoacacebead

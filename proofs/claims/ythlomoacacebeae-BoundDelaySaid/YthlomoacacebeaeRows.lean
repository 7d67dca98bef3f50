/-
  No cell of these rows narrows 'for every input' (looked for: loops, veiled, ifaces, maps, wideKeys, modest, calm, conditions, laid).
  DERIVED. THE GIVEN ROWS OF THIS SEAT. 9 by the template 'for every input the law returns true; each argument reads behind the call as it read before'; 0 by the template 'total and deterministic' (their statements: YthlomoacacebeaeTotals.lean).
  GIVEN WITH THE SEED: the statements are not yours to turn. If you find one false, say at which input.
  Laid BY PROGRAM, IN A SANDBOX (cutbox-rows.mjs): the forced cells as the released guide's own fill.sh prints them over the translation b55edd8031a56e0e… (all of the seat's roots in one cut). By AI agents, Wed Nov 11 2026. No macro, syntax, notation, axiom, sorry.
-/
import Derived.Test.YthlomoacacebeaeChecked
import GoSem.Claim
import GoSem.ClaimJoined
import GoSem.ClaimMapViews
import Derived.JoinedTies
import Derived.KernelRfl
namespace Go.Proofs.Ythlomoacacebeae
/- THE CELL 'sum', in the pinned program and in every row, IS THE sha256 OF THE DUMP (.gsa) THAT YthlomoacacebeaeProg.lean LOADS. Nothing in Lean hashes anything: it is a label: what it is worth is what the hold of that sum in a sandbox is worth. -/
noncomputable def Try.pinned : Pinned := { name := "ythlomoacacebeae", sum := "b55edd8031a56e0e0f263e1c1e25011b56ca7ff61bcd489b12da01e2fbc2b0aa", checked := Try.checked }
namespace Rows
def none {H : Type} : Left H := { results := [], args := [] }

/-- 'airsharelaw26.BoundDelay': WHATEVER THE INPUT: true; the input reads as it did. -/
def boundDelaySpec : ChangeSpec := { name := "boundDelay", fn := fun _ => fun
  | [d1, d2, d3, d4, d5] => { results := [.lit (.bool true)], args := [d1, d2, d3, d4, d5] }
  | _ => none }
def boundDelayRow : OpenClaim := { program := "ythlomoacacebeae", sum := "b55edd8031a56e0e0f263e1c1e25011b56ca7ff61bcd489b12da01e2fbc2b0aa", func := "airshare/airsharelaw26.BoundDelay", spec := "boundDelay", apart := false }
def BoundDelaySaid : Prop := boundDelayRow.holds Try.pinned (OpenSpec.ofChange boundDelaySpec)

/-- ITS FALSE NEIGHBOUR: 'it returns false'. Refute it at one input. -/
def boundDelayWrong : ChangeSpec := { name := "boundDelay", fn := fun _ => fun
  | [d1, d2, d3, d4, d5] => { results := [.lit (.bool false)], args := [d1, d2, d3, d4, d5] }
  | _ => none }
def BoundDelayWrongFalsely : Prop := boundDelayRow.holds Try.pinned (OpenSpec.ofChange boundDelayWrong)

/-- 'airsharelaw26.BoundGrows': WHATEVER THE INPUT: true; the input reads as it did. -/
def boundGrowsSpec : ChangeSpec := { name := "boundGrows", fn := fun _ => fun
  | [d] => { results := [.lit (.bool true)], args := [d] }
  | _ => none }
def boundGrowsRow : OpenClaim := { program := "ythlomoacacebeae", sum := "b55edd8031a56e0e0f263e1c1e25011b56ca7ff61bcd489b12da01e2fbc2b0aa", func := "airshare/airsharelaw26.BoundGrows", spec := "boundGrows", apart := false }
def BoundGrowsSaid : Prop := boundGrowsRow.holds Try.pinned (OpenSpec.ofChange boundGrowsSpec)

/-- ITS FALSE NEIGHBOUR: 'it returns false'. Refute it at one input. -/
def boundGrowsWrong : ChangeSpec := { name := "boundGrows", fn := fun _ => fun
  | [d] => { results := [.lit (.bool false)], args := [d] }
  | _ => none }
def BoundGrowsWrongFalsely : Prop := boundGrowsRow.holds Try.pinned (OpenSpec.ofChange boundGrowsWrong)

/-- 'airsharelaw26.BoundShares': WHATEVER THE INPUT: true; the input reads as it did. -/
def boundSharesSpec : ChangeSpec := { name := "boundShares", fn := fun _ => fun
  | [d1, d2, d3, d4, d5, d6, d7, d8] => { results := [.lit (.bool true)], args := [d1, d2, d3, d4, d5, d6, d7, d8] }
  | _ => none }
def boundSharesRow : OpenClaim := { program := "ythlomoacacebeae", sum := "b55edd8031a56e0e0f263e1c1e25011b56ca7ff61bcd489b12da01e2fbc2b0aa", func := "airshare/airsharelaw26.BoundShares", spec := "boundShares", unfollowed := true, recurses := true, apart := false }
def BoundSharesSaid : Prop := boundSharesRow.holds Try.pinned (OpenSpec.ofChange boundSharesSpec)

/-- ITS FALSE NEIGHBOUR: 'it returns false'. Refute it at one input. -/
def boundSharesWrong : ChangeSpec := { name := "boundShares", fn := fun _ => fun
  | [d1, d2, d3, d4, d5, d6, d7, d8] => { results := [.lit (.bool false)], args := [d1, d2, d3, d4, d5, d6, d7, d8] }
  | _ => none }
def BoundSharesWrongFalsely : Prop := boundSharesRow.holds Try.pinned (OpenSpec.ofChange boundSharesWrong)

/-- 'airsharelaw26.BoundLead': WHATEVER THE INPUT: true; the input reads as it did. -/
def boundLeadSpec : ChangeSpec := { name := "boundLead", fn := fun _ => fun
  | [d1, d2, d3, d4, d5] => { results := [.lit (.bool true)], args := [d1, d2, d3, d4, d5] }
  | _ => none }
def boundLeadRow : OpenClaim := { program := "ythlomoacacebeae", sum := "b55edd8031a56e0e0f263e1c1e25011b56ca7ff61bcd489b12da01e2fbc2b0aa", func := "airshare/airsharelaw26.BoundLead", spec := "boundLead", apart := false }
def BoundLeadSaid : Prop := boundLeadRow.holds Try.pinned (OpenSpec.ofChange boundLeadSpec)

/-- ITS FALSE NEIGHBOUR: 'it returns false'. Refute it at one input. -/
def boundLeadWrong : ChangeSpec := { name := "boundLead", fn := fun _ => fun
  | [d1, d2, d3, d4, d5] => { results := [.lit (.bool false)], args := [d1, d2, d3, d4, d5] }
  | _ => none }
def BoundLeadWrongFalsely : Prop := boundLeadRow.holds Try.pinned (OpenSpec.ofChange boundLeadWrong)

/-- 'airsharelaw27.ScriptValid': WHATEVER THE INPUT: true; the input reads as it did. -/
def scriptValidSpec : ChangeSpec := { name := "scriptValid", fn := fun _ => fun
  | [d1, d2, d3] => { results := [.lit (.bool true)], args := [d1, d2, d3] }
  | _ => none }
def scriptValidRow : OpenClaim := { program := "ythlomoacacebeae", sum := "b55edd8031a56e0e0f263e1c1e25011b56ca7ff61bcd489b12da01e2fbc2b0aa", func := "airshare/airsharelaw27.ScriptValid", spec := "scriptValid", apart := false }
def ScriptValidSaid : Prop := scriptValidRow.holds Try.pinned (OpenSpec.ofChange scriptValidSpec)

/-- ITS FALSE NEIGHBOUR: 'it returns false'. Refute it at one input. -/
def scriptValidWrong : ChangeSpec := { name := "scriptValid", fn := fun _ => fun
  | [d1, d2, d3] => { results := [.lit (.bool false)], args := [d1, d2, d3] }
  | _ => none }
def ScriptValidWrongFalsely : Prop := scriptValidRow.holds Try.pinned (OpenSpec.ofChange scriptValidWrong)

/-- 'airsharelaw27.ScriptEncode': WHATEVER THE INPUT: true; the input reads as it did. -/
def scriptEncodeSpec : ChangeSpec := { name := "scriptEncode", fn := fun _ => fun
  | [d1, d2, d3] => { results := [.lit (.bool true)], args := [d1, d2, d3] }
  | _ => none }
def scriptEncodeRow : OpenClaim := { program := "ythlomoacacebeae", sum := "b55edd8031a56e0e0f263e1c1e25011b56ca7ff61bcd489b12da01e2fbc2b0aa", func := "airshare/airsharelaw27.ScriptEncode", spec := "scriptEncode", apart := false }
def ScriptEncodeSaid : Prop := scriptEncodeRow.holds Try.pinned (OpenSpec.ofChange scriptEncodeSpec)

/-- ITS FALSE NEIGHBOUR: 'it returns false'. Refute it at one input. -/
def scriptEncodeWrong : ChangeSpec := { name := "scriptEncode", fn := fun _ => fun
  | [d1, d2, d3] => { results := [.lit (.bool false)], args := [d1, d2, d3] }
  | _ => none }
def ScriptEncodeWrongFalsely : Prop := scriptEncodeRow.holds Try.pinned (OpenSpec.ofChange scriptEncodeWrong)

/-- 'airsharelaw27.ScriptDecode': WHATEVER THE INPUT: true; the input reads as it did. -/
def scriptDecodeSpec : ChangeSpec := { name := "scriptDecode", fn := fun _ => fun
  | [d1, d2] => { results := [.lit (.bool true)], args := [d1, d2] }
  | _ => none }
def scriptDecodeRow : OpenClaim := { program := "ythlomoacacebeae", sum := "b55edd8031a56e0e0f263e1c1e25011b56ca7ff61bcd489b12da01e2fbc2b0aa", func := "airshare/airsharelaw27.ScriptDecode", spec := "scriptDecode", apart := false }
def ScriptDecodeSaid : Prop := scriptDecodeRow.holds Try.pinned (OpenSpec.ofChange scriptDecodeSpec)

/-- ITS FALSE NEIGHBOUR: 'it returns false'. Refute it at one input. -/
def scriptDecodeWrong : ChangeSpec := { name := "scriptDecode", fn := fun _ => fun
  | [d1, d2] => { results := [.lit (.bool false)], args := [d1, d2] }
  | _ => none }
def ScriptDecodeWrongFalsely : Prop := scriptDecodeRow.holds Try.pinned (OpenSpec.ofChange scriptDecodeWrong)

/-- 'airsharelaw27.ScriptRoundTrip': WHATEVER THE INPUT: true; the input reads as it did. -/
def scriptRoundTripSpec : ChangeSpec := { name := "scriptRoundTrip", fn := fun _ => fun
  | [d1, d2] => { results := [.lit (.bool true)], args := [d1, d2] }
  | _ => none }
def scriptRoundTripRow : OpenClaim := { program := "ythlomoacacebeae", sum := "b55edd8031a56e0e0f263e1c1e25011b56ca7ff61bcd489b12da01e2fbc2b0aa", func := "airshare/airsharelaw27.ScriptRoundTrip", spec := "scriptRoundTrip", apart := false }
def ScriptRoundTripSaid : Prop := scriptRoundTripRow.holds Try.pinned (OpenSpec.ofChange scriptRoundTripSpec)

/-- ITS FALSE NEIGHBOUR: 'it returns false'. Refute it at one input. -/
def scriptRoundTripWrong : ChangeSpec := { name := "scriptRoundTrip", fn := fun _ => fun
  | [d1, d2] => { results := [.lit (.bool false)], args := [d1, d2] }
  | _ => none }
def ScriptRoundTripWrongFalsely : Prop := scriptRoundTripRow.holds Try.pinned (OpenSpec.ofChange scriptRoundTripWrong)

/-- 'airsharelaw27.ScriptFull': WHATEVER THE INPUT: true; the input reads as it did. -/
def scriptFullSpec : ChangeSpec := { name := "scriptFull", fn := fun _ => fun
  | [d] => { results := [.lit (.bool true)], args := [d] }
  | _ => none }
def scriptFullRow : OpenClaim := { program := "ythlomoacacebeae", sum := "b55edd8031a56e0e0f263e1c1e25011b56ca7ff61bcd489b12da01e2fbc2b0aa", func := "airshare/airsharelaw27.ScriptFull", spec := "scriptFull", apart := false }
def ScriptFullSaid : Prop := scriptFullRow.holds Try.pinned (OpenSpec.ofChange scriptFullSpec)

/-- ITS FALSE NEIGHBOUR: 'it returns false'. Refute it at one input. -/
def scriptFullWrong : ChangeSpec := { name := "scriptFull", fn := fun _ => fun
  | [d] => { results := [.lit (.bool false)], args := [d] }
  | _ => none }
def ScriptFullWrongFalsely : Prop := scriptFullRow.holds Try.pinned (OpenSpec.ofChange scriptFullWrong)

/- THE SECOND FORM. 'bulk': how many values and letters a reading holds, each counted each time it is reached (what is shared counts as often as it is met; a slice's spare places count too). A statement '..UptoSaid' is the law's where the arguments, and the package variables that the reading takes, are together of bulk at most 1048576: NARROWER than '..Said'. Prove '..Said' where nothing that the law and all that it calls make is longer than what came in: it says more and counts as full. Else prove '..UptoSaid'. A law counts once. -/
mutual
def uptoBulk {H : Type} : DataW H → Nat
  | .lit (.string bytes) => bytes.length + 1
  | .lit _ => 1
  | .nil => 1
  | .ptr d => uptoBulk d + 1
  | .slice elems spare => uptoBulkAll elems + uptoBulkAll spare + 1
  | .agg parts => uptoBulkAll parts + 1
  | .iface _ d => uptoBulk d + 1
  | .map entries => uptoBulkEntries entries + 1
  | .held _ => 1
def uptoBulkAll {H : Type} : List (DataW H) → Nat
  | [] => 0
  | d :: r => uptoBulk d + uptoBulkAll r
def uptoBulkEntries {H : Type} : List (Lit × DataW H) → Nat
  | [] => 0
  | x :: r => uptoBulkEntry x + uptoBulkEntries r
def uptoBulkEntry {H : Type} : Lit × DataW H → Nat
  | (.string bytes, d) => bytes.length + uptoBulk d + 1
  | (_, d) => uptoBulk d + 1
 end
def uptoSmall : (H : Type) → List (DataW H) → Bool := fun _ ds => decide (uptoBulkAll ds ≤ 1048576)
def OpenSpec.upto (s : _root_.Go.ChangeSpec) : _root_.Go.OpenSpec := { _root_.Go.OpenSpec.ofChange s with cond := some uptoSmall }

/-- 'airsharelaw26.BoundDelay', WHERE WHAT IT READS IS OF BULK AT MOST 1048576: true; the input reads as it did. -/
def boundDelayUptoRow : OpenClaim := { program := "ythlomoacacebeae", sum := "b55edd8031a56e0e0f263e1c1e25011b56ca7ff61bcd489b12da01e2fbc2b0aa", func := "airshare/airsharelaw26.BoundDelay", spec := "boundDelay", apart := false, narrowed := true }
def BoundDelayUptoSaid : Prop := boundDelayUptoRow.holds Try.pinned (OpenSpec.upto boundDelaySpec)

/-- 'airsharelaw26.BoundGrows', WHERE WHAT IT READS IS OF BULK AT MOST 1048576: true; the input reads as it did. -/
def boundGrowsUptoRow : OpenClaim := { program := "ythlomoacacebeae", sum := "b55edd8031a56e0e0f263e1c1e25011b56ca7ff61bcd489b12da01e2fbc2b0aa", func := "airshare/airsharelaw26.BoundGrows", spec := "boundGrows", apart := false, narrowed := true }
def BoundGrowsUptoSaid : Prop := boundGrowsUptoRow.holds Try.pinned (OpenSpec.upto boundGrowsSpec)

/-- 'airsharelaw26.BoundShares', WHERE WHAT IT READS IS OF BULK AT MOST 1048576: true; the input reads as it did. -/
def boundSharesUptoRow : OpenClaim := { program := "ythlomoacacebeae", sum := "b55edd8031a56e0e0f263e1c1e25011b56ca7ff61bcd489b12da01e2fbc2b0aa", func := "airshare/airsharelaw26.BoundShares", spec := "boundShares", unfollowed := true, recurses := true, apart := false, narrowed := true }
def BoundSharesUptoSaid : Prop := boundSharesUptoRow.holds Try.pinned (OpenSpec.upto boundSharesSpec)

/-- 'airsharelaw26.BoundLead', WHERE WHAT IT READS IS OF BULK AT MOST 1048576: true; the input reads as it did. -/
def boundLeadUptoRow : OpenClaim := { program := "ythlomoacacebeae", sum := "b55edd8031a56e0e0f263e1c1e25011b56ca7ff61bcd489b12da01e2fbc2b0aa", func := "airshare/airsharelaw26.BoundLead", spec := "boundLead", apart := false, narrowed := true }
def BoundLeadUptoSaid : Prop := boundLeadUptoRow.holds Try.pinned (OpenSpec.upto boundLeadSpec)

/-- 'airsharelaw27.ScriptValid', WHERE WHAT IT READS IS OF BULK AT MOST 1048576: true; the input reads as it did. -/
def scriptValidUptoRow : OpenClaim := { program := "ythlomoacacebeae", sum := "b55edd8031a56e0e0f263e1c1e25011b56ca7ff61bcd489b12da01e2fbc2b0aa", func := "airshare/airsharelaw27.ScriptValid", spec := "scriptValid", apart := false, narrowed := true }
def ScriptValidUptoSaid : Prop := scriptValidUptoRow.holds Try.pinned (OpenSpec.upto scriptValidSpec)

/-- 'airsharelaw27.ScriptEncode', WHERE WHAT IT READS IS OF BULK AT MOST 1048576: true; the input reads as it did. -/
def scriptEncodeUptoRow : OpenClaim := { program := "ythlomoacacebeae", sum := "b55edd8031a56e0e0f263e1c1e25011b56ca7ff61bcd489b12da01e2fbc2b0aa", func := "airshare/airsharelaw27.ScriptEncode", spec := "scriptEncode", apart := false, narrowed := true }
def ScriptEncodeUptoSaid : Prop := scriptEncodeUptoRow.holds Try.pinned (OpenSpec.upto scriptEncodeSpec)

/-- 'airsharelaw27.ScriptDecode', WHERE WHAT IT READS IS OF BULK AT MOST 1048576: true; the input reads as it did. -/
def scriptDecodeUptoRow : OpenClaim := { program := "ythlomoacacebeae", sum := "b55edd8031a56e0e0f263e1c1e25011b56ca7ff61bcd489b12da01e2fbc2b0aa", func := "airshare/airsharelaw27.ScriptDecode", spec := "scriptDecode", apart := false, narrowed := true }
def ScriptDecodeUptoSaid : Prop := scriptDecodeUptoRow.holds Try.pinned (OpenSpec.upto scriptDecodeSpec)

/-- 'airsharelaw27.ScriptRoundTrip', WHERE WHAT IT READS IS OF BULK AT MOST 1048576: true; the input reads as it did. -/
def scriptRoundTripUptoRow : OpenClaim := { program := "ythlomoacacebeae", sum := "b55edd8031a56e0e0f263e1c1e25011b56ca7ff61bcd489b12da01e2fbc2b0aa", func := "airshare/airsharelaw27.ScriptRoundTrip", spec := "scriptRoundTrip", apart := false, narrowed := true }
def ScriptRoundTripUptoSaid : Prop := scriptRoundTripUptoRow.holds Try.pinned (OpenSpec.upto scriptRoundTripSpec)

/-- 'airsharelaw27.ScriptFull', WHERE WHAT IT READS IS OF BULK AT MOST 1048576: true; the input reads as it did. -/
def scriptFullUptoRow : OpenClaim := { program := "ythlomoacacebeae", sum := "b55edd8031a56e0e0f263e1c1e25011b56ca7ff61bcd489b12da01e2fbc2b0aa", func := "airshare/airsharelaw27.ScriptFull", spec := "scriptFull", apart := false, narrowed := true }
def ScriptFullUptoSaid : Prop := scriptFullUptoRow.holds Try.pinned (OpenSpec.upto scriptFullSpec)

end Rows
end Go.Proofs.Ythlomoacacebeae

/-
  No cell of these rows narrows 'for every input' (looked for: loops, veiled, ifaces, maps, wideKeys, modest, calm, conditions, laid).
  DERIVED. THE GIVEN ROWS OF THIS SEAT. 11 by the template 'for every input the law returns true; each argument reads behind the call as it read before'; 0 by the template 'total and deterministic' (their statements: YtdommpfnoiemkaaTotals.lean).
  GIVEN WITH THE SEED: the statements are not yours to turn. If you find one false, say at which input.
  Laid BY PROGRAM, IN A SANDBOX (cutbox-rows.mjs): the forced cells as the released guide's own fill.sh prints them over the translation 0ac021618c7e26e8… (all of the seat's roots in one cut). By AI agents, Wed Nov 11 2026. No macro, syntax, notation, axiom, sorry.
-/
import Derived.Test.YtdommpfnoiemkaaChecked
import GoSem.Claim
import GoSem.ClaimJoined
import GoSem.ClaimMapViews
import Derived.JoinedTies
import Derived.KernelRfl
namespace Go.Proofs.Ytdommpfnoiemkaa
/- THE CELL 'sum', in the pinned program and in every row, IS THE sha256 OF THE DUMP (.gsa) THAT YtdommpfnoiemkaaProg.lean LOADS. Nothing in Lean hashes anything: it is a label: what it is worth is what the hold of that sum in a sandbox is worth. -/
noncomputable def Try.pinned : Pinned := { name := "ytdommpfnoiemkaa", sum := "0ac021618c7e26e8163a9cfcf104adb208bc6f3754ab8f687c756f7c6eeeada7", checked := Try.checked }
namespace Rows
def none {H : Type} : Left H := { results := [], args := [] }

/-- 'airsharelaw8.PacketFormat': WHATEVER THE INPUT: true; the input reads as it did. -/
def packetFormatSpec : ChangeSpec := { name := "packetFormat", fn := fun _ => fun
  | [d1, d2] => { results := [.lit (.bool true)], args := [d1, d2] }
  | _ => none }
def packetFormatRow : OpenClaim := { program := "ytdommpfnoiemkaa", sum := "0ac021618c7e26e8163a9cfcf104adb208bc6f3754ab8f687c756f7c6eeeada7", func := "airshare/airsharelaw8.PacketFormat", spec := "packetFormat", apart := false }
def PacketFormatSaid : Prop := packetFormatRow.holds Try.pinned (OpenSpec.ofChange packetFormatSpec)

/-- ITS FALSE NEIGHBOUR: 'it returns false'. Refute it at one input. -/
def packetFormatWrong : ChangeSpec := { name := "packetFormat", fn := fun _ => fun
  | [d1, d2] => { results := [.lit (.bool false)], args := [d1, d2] }
  | _ => none }
def PacketFormatWrongFalsely : Prop := packetFormatRow.holds Try.pinned (OpenSpec.ofChange packetFormatWrong)

/-- 'airsharelaw8.PacketParse': WHATEVER THE INPUT: true; the input reads as it did. -/
def packetParseSpec : ChangeSpec := { name := "packetParse", fn := fun _ => fun
  | [d1, d2] => { results := [.lit (.bool true)], args := [d1, d2] }
  | _ => none }
def packetParseRow : OpenClaim := { program := "ytdommpfnoiemkaa", sum := "0ac021618c7e26e8163a9cfcf104adb208bc6f3754ab8f687c756f7c6eeeada7", func := "airshare/airsharelaw8.PacketParse", spec := "packetParse", unfollowed := true, recurses := true, apart := false }
def PacketParseSaid : Prop := packetParseRow.holds Try.pinned (OpenSpec.ofChange packetParseSpec)

/-- ITS FALSE NEIGHBOUR: 'it returns false'. Refute it at one input. -/
def packetParseWrong : ChangeSpec := { name := "packetParse", fn := fun _ => fun
  | [d1, d2] => { results := [.lit (.bool false)], args := [d1, d2] }
  | _ => none }
def PacketParseWrongFalsely : Prop := packetParseRow.holds Try.pinned (OpenSpec.ofChange packetParseWrong)

/-- 'airsharelaw8.PacketRoundTrip': WHATEVER THE INPUT: true; the input reads as it did. -/
def packetRoundTripSpec : ChangeSpec := { name := "packetRoundTrip", fn := fun _ => fun
  | [d1, d2] => { results := [.lit (.bool true)], args := [d1, d2] }
  | _ => none }
def packetRoundTripRow : OpenClaim := { program := "ytdommpfnoiemkaa", sum := "0ac021618c7e26e8163a9cfcf104adb208bc6f3754ab8f687c756f7c6eeeada7", func := "airshare/airsharelaw8.PacketRoundTrip", spec := "packetRoundTrip", unfollowed := true, recurses := true, apart := false }
def PacketRoundTripSaid : Prop := packetRoundTripRow.holds Try.pinned (OpenSpec.ofChange packetRoundTripSpec)

/-- ITS FALSE NEIGHBOUR: 'it returns false'. Refute it at one input. -/
def packetRoundTripWrong : ChangeSpec := { name := "packetRoundTrip", fn := fun _ => fun
  | [d1, d2] => { results := [.lit (.bool false)], args := [d1, d2] }
  | _ => none }
def PacketRoundTripWrongFalsely : Prop := packetRoundTripRow.holds Try.pinned (OpenSpec.ofChange packetRoundTripWrong)

/-- 'airsharelaw8.PacketDamage': WHATEVER THE INPUT: true; the input reads as it did. -/
def packetDamageSpec : ChangeSpec := { name := "packetDamage", fn := fun _ => fun
  | [d1, d2, d3] => { results := [.lit (.bool true)], args := [d1, d2, d3] }
  | _ => none }
def packetDamageRow : OpenClaim := { program := "ytdommpfnoiemkaa", sum := "0ac021618c7e26e8163a9cfcf104adb208bc6f3754ab8f687c756f7c6eeeada7", func := "airshare/airsharelaw8.PacketDamage", spec := "packetDamage", unfollowed := true, recurses := true, apart := false }
def PacketDamageSaid : Prop := packetDamageRow.holds Try.pinned (OpenSpec.ofChange packetDamageSpec)

/-- ITS FALSE NEIGHBOUR: 'it returns false'. Refute it at one input. -/
def packetDamageWrong : ChangeSpec := { name := "packetDamage", fn := fun _ => fun
  | [d1, d2, d3] => { results := [.lit (.bool false)], args := [d1, d2, d3] }
  | _ => none }
def PacketDamageWrongFalsely : Prop := packetDamageRow.holds Try.pinned (OpenSpec.ofChange packetDamageWrong)

/-- 'airsharelaw18.LifeConserves': WHATEVER THE INPUT: true; the input reads as it did. -/
def lifeConservesSpec : ChangeSpec := { name := "lifeConserves", fn := fun _ => fun
  | [d] => { results := [.lit (.bool true)], args := [d] }
  | _ => none }
def lifeConservesRow : OpenClaim := { program := "ytdommpfnoiemkaa", sum := "0ac021618c7e26e8163a9cfcf104adb208bc6f3754ab8f687c756f7c6eeeada7", func := "airshare/airsharelaw18.LifeConserves", spec := "lifeConserves", apart := false }
def LifeConservesSaid : Prop := lifeConservesRow.holds Try.pinned (OpenSpec.ofChange lifeConservesSpec)

/-- ITS FALSE NEIGHBOUR: 'it returns false'. Refute it at one input. -/
def lifeConservesWrong : ChangeSpec := { name := "lifeConserves", fn := fun _ => fun
  | [d] => { results := [.lit (.bool false)], args := [d] }
  | _ => none }
def LifeConservesWrongFalsely : Prop := lifeConservesRow.holds Try.pinned (OpenSpec.ofChange lifeConservesWrong)

/-- 'airsharelaw18.LifeScript': WHATEVER THE INPUT: true; the input reads as it did. -/
def lifeScriptSpec : ChangeSpec := { name := "lifeScript", fn := fun _ => fun
  | [d1, d2, d3] => { results := [.lit (.bool true)], args := [d1, d2, d3] }
  | _ => none }
def lifeScriptRow : OpenClaim := { program := "ytdommpfnoiemkaa", sum := "0ac021618c7e26e8163a9cfcf104adb208bc6f3754ab8f687c756f7c6eeeada7", func := "airshare/airsharelaw18.LifeScript", spec := "lifeScript", apart := false }
def LifeScriptSaid : Prop := lifeScriptRow.holds Try.pinned (OpenSpec.ofChange lifeScriptSpec)

/-- ITS FALSE NEIGHBOUR: 'it returns false'. Refute it at one input. -/
def lifeScriptWrong : ChangeSpec := { name := "lifeScript", fn := fun _ => fun
  | [d1, d2, d3] => { results := [.lit (.bool false)], args := [d1, d2, d3] }
  | _ => none }
def LifeScriptWrongFalsely : Prop := lifeScriptRow.holds Try.pinned (OpenSpec.ofChange lifeScriptWrong)

/-- 'airsharelaw27.ScriptValid': WHATEVER THE INPUT: true; the input reads as it did. -/
def scriptValidSpec : ChangeSpec := { name := "scriptValid", fn := fun _ => fun
  | [d1, d2, d3] => { results := [.lit (.bool true)], args := [d1, d2, d3] }
  | _ => none }
def scriptValidRow : OpenClaim := { program := "ytdommpfnoiemkaa", sum := "0ac021618c7e26e8163a9cfcf104adb208bc6f3754ab8f687c756f7c6eeeada7", func := "airshare/airsharelaw27.ScriptValid", spec := "scriptValid", apart := false }
def ScriptValidSaid : Prop := scriptValidRow.holds Try.pinned (OpenSpec.ofChange scriptValidSpec)

/-- ITS FALSE NEIGHBOUR: 'it returns false'. Refute it at one input. -/
def scriptValidWrong : ChangeSpec := { name := "scriptValid", fn := fun _ => fun
  | [d1, d2, d3] => { results := [.lit (.bool false)], args := [d1, d2, d3] }
  | _ => none }
def ScriptValidWrongFalsely : Prop := scriptValidRow.holds Try.pinned (OpenSpec.ofChange scriptValidWrong)

/-- 'airsharelaw27.ScriptEncode': WHATEVER THE INPUT: true; the input reads as it did. -/
def scriptEncodeSpec : ChangeSpec := { name := "scriptEncode", fn := fun _ => fun
  | [d1, d2, d3] => { results := [.lit (.bool true)], args := [d1, d2, d3] }
  | _ => none }
def scriptEncodeRow : OpenClaim := { program := "ytdommpfnoiemkaa", sum := "0ac021618c7e26e8163a9cfcf104adb208bc6f3754ab8f687c756f7c6eeeada7", func := "airshare/airsharelaw27.ScriptEncode", spec := "scriptEncode", apart := false }
def ScriptEncodeSaid : Prop := scriptEncodeRow.holds Try.pinned (OpenSpec.ofChange scriptEncodeSpec)

/-- ITS FALSE NEIGHBOUR: 'it returns false'. Refute it at one input. -/
def scriptEncodeWrong : ChangeSpec := { name := "scriptEncode", fn := fun _ => fun
  | [d1, d2, d3] => { results := [.lit (.bool false)], args := [d1, d2, d3] }
  | _ => none }
def ScriptEncodeWrongFalsely : Prop := scriptEncodeRow.holds Try.pinned (OpenSpec.ofChange scriptEncodeWrong)

/-- 'airsharelaw27.ScriptDecode': WHATEVER THE INPUT: true; the input reads as it did. -/
def scriptDecodeSpec : ChangeSpec := { name := "scriptDecode", fn := fun _ => fun
  | [d1, d2] => { results := [.lit (.bool true)], args := [d1, d2] }
  | _ => none }
def scriptDecodeRow : OpenClaim := { program := "ytdommpfnoiemkaa", sum := "0ac021618c7e26e8163a9cfcf104adb208bc6f3754ab8f687c756f7c6eeeada7", func := "airshare/airsharelaw27.ScriptDecode", spec := "scriptDecode", apart := false }
def ScriptDecodeSaid : Prop := scriptDecodeRow.holds Try.pinned (OpenSpec.ofChange scriptDecodeSpec)

/-- ITS FALSE NEIGHBOUR: 'it returns false'. Refute it at one input. -/
def scriptDecodeWrong : ChangeSpec := { name := "scriptDecode", fn := fun _ => fun
  | [d1, d2] => { results := [.lit (.bool false)], args := [d1, d2] }
  | _ => none }
def ScriptDecodeWrongFalsely : Prop := scriptDecodeRow.holds Try.pinned (OpenSpec.ofChange scriptDecodeWrong)

/-- 'airsharelaw27.ScriptRoundTrip': WHATEVER THE INPUT: true; the input reads as it did. -/
def scriptRoundTripSpec : ChangeSpec := { name := "scriptRoundTrip", fn := fun _ => fun
  | [d1, d2] => { results := [.lit (.bool true)], args := [d1, d2] }
  | _ => none }
def scriptRoundTripRow : OpenClaim := { program := "ytdommpfnoiemkaa", sum := "0ac021618c7e26e8163a9cfcf104adb208bc6f3754ab8f687c756f7c6eeeada7", func := "airshare/airsharelaw27.ScriptRoundTrip", spec := "scriptRoundTrip", apart := false }
def ScriptRoundTripSaid : Prop := scriptRoundTripRow.holds Try.pinned (OpenSpec.ofChange scriptRoundTripSpec)

/-- ITS FALSE NEIGHBOUR: 'it returns false'. Refute it at one input. -/
def scriptRoundTripWrong : ChangeSpec := { name := "scriptRoundTrip", fn := fun _ => fun
  | [d1, d2] => { results := [.lit (.bool false)], args := [d1, d2] }
  | _ => none }
def ScriptRoundTripWrongFalsely : Prop := scriptRoundTripRow.holds Try.pinned (OpenSpec.ofChange scriptRoundTripWrong)

/-- 'airsharelaw27.ScriptFull': WHATEVER THE INPUT: true; the input reads as it did. -/
def scriptFullSpec : ChangeSpec := { name := "scriptFull", fn := fun _ => fun
  | [d] => { results := [.lit (.bool true)], args := [d] }
  | _ => none }
def scriptFullRow : OpenClaim := { program := "ytdommpfnoiemkaa", sum := "0ac021618c7e26e8163a9cfcf104adb208bc6f3754ab8f687c756f7c6eeeada7", func := "airshare/airsharelaw27.ScriptFull", spec := "scriptFull", apart := false }
def ScriptFullSaid : Prop := scriptFullRow.holds Try.pinned (OpenSpec.ofChange scriptFullSpec)

/-- ITS FALSE NEIGHBOUR: 'it returns false'. Refute it at one input. -/
def scriptFullWrong : ChangeSpec := { name := "scriptFull", fn := fun _ => fun
  | [d] => { results := [.lit (.bool false)], args := [d] }
  | _ => none }
def ScriptFullWrongFalsely : Prop := scriptFullRow.holds Try.pinned (OpenSpec.ofChange scriptFullWrong)

/- THE SECOND FORM. 'bulk': how many values and letters a reading holds, each counted each time it is reached (what is shared counts as often as it is met; a slice's spare places count too). A statement '..UptoSaid' is the law's where the arguments, and the package variables that the reading takes, are together of bulk at most 1048576: NARROWER than '..Said'. Prove '..Said' where nothing that the law and all that it calls make is longer than what came in: it says more and counts as full. Else prove '..UptoSaid'. A law counts once. -/
mutual
def uptoBulk {H : Type} : DataW H → Nat
  | .lit (.string bytes) => bytes.length + 1
  | .lit _ => 1
  | .nil => 1
  | .ptr d => uptoBulk d + 1
  | .slice elems spare => uptoBulkAll elems + uptoBulkAll spare + 1
  | .agg parts => uptoBulkAll parts + 1
  | .iface _ d => uptoBulk d + 1
  | .map entries => uptoBulkEntries entries + 1
  | .held _ => 1
def uptoBulkAll {H : Type} : List (DataW H) → Nat
  | [] => 0
  | d :: r => uptoBulk d + uptoBulkAll r
def uptoBulkEntries {H : Type} : List (Lit × DataW H) → Nat
  | [] => 0
  | x :: r => uptoBulkEntry x + uptoBulkEntries r
def uptoBulkEntry {H : Type} : Lit × DataW H → Nat
  | (.string bytes, d) => bytes.length + uptoBulk d + 1
  | (_, d) => uptoBulk d + 1
 end
def uptoSmall : (H : Type) → List (DataW H) → Bool := fun _ ds => decide (uptoBulkAll ds ≤ 1048576)
def OpenSpec.upto (s : _root_.Go.ChangeSpec) : _root_.Go.OpenSpec := { _root_.Go.OpenSpec.ofChange s with cond := some uptoSmall }

/-- 'airsharelaw8.PacketFormat', WHERE WHAT IT READS IS OF BULK AT MOST 1048576: true; the input reads as it did. -/
def packetFormatUptoRow : OpenClaim := { program := "ytdommpfnoiemkaa", sum := "0ac021618c7e26e8163a9cfcf104adb208bc6f3754ab8f687c756f7c6eeeada7", func := "airshare/airsharelaw8.PacketFormat", spec := "packetFormat", apart := false, narrowed := true }
def PacketFormatUptoSaid : Prop := packetFormatUptoRow.holds Try.pinned (OpenSpec.upto packetFormatSpec)

/-- 'airsharelaw8.PacketParse', WHERE WHAT IT READS IS OF BULK AT MOST 1048576: true; the input reads as it did. -/
def packetParseUptoRow : OpenClaim := { program := "ytdommpfnoiemkaa", sum := "0ac021618c7e26e8163a9cfcf104adb208bc6f3754ab8f687c756f7c6eeeada7", func := "airshare/airsharelaw8.PacketParse", spec := "packetParse", unfollowed := true, recurses := true, apart := false, narrowed := true }
def PacketParseUptoSaid : Prop := packetParseUptoRow.holds Try.pinned (OpenSpec.upto packetParseSpec)

/-- 'airsharelaw8.PacketRoundTrip', WHERE WHAT IT READS IS OF BULK AT MOST 1048576: true; the input reads as it did. -/
def packetRoundTripUptoRow : OpenClaim := { program := "ytdommpfnoiemkaa", sum := "0ac021618c7e26e8163a9cfcf104adb208bc6f3754ab8f687c756f7c6eeeada7", func := "airshare/airsharelaw8.PacketRoundTrip", spec := "packetRoundTrip", unfollowed := true, recurses := true, apart := false, narrowed := true }
def PacketRoundTripUptoSaid : Prop := packetRoundTripUptoRow.holds Try.pinned (OpenSpec.upto packetRoundTripSpec)

/-- 'airsharelaw8.PacketDamage', WHERE WHAT IT READS IS OF BULK AT MOST 1048576: true; the input reads as it did. -/
def packetDamageUptoRow : OpenClaim := { program := "ytdommpfnoiemkaa", sum := "0ac021618c7e26e8163a9cfcf104adb208bc6f3754ab8f687c756f7c6eeeada7", func := "airshare/airsharelaw8.PacketDamage", spec := "packetDamage", unfollowed := true, recurses := true, apart := false, narrowed := true }
def PacketDamageUptoSaid : Prop := packetDamageUptoRow.holds Try.pinned (OpenSpec.upto packetDamageSpec)

/-- 'airsharelaw18.LifeConserves', WHERE WHAT IT READS IS OF BULK AT MOST 1048576: true; the input reads as it did. -/
def lifeConservesUptoRow : OpenClaim := { program := "ytdommpfnoiemkaa", sum := "0ac021618c7e26e8163a9cfcf104adb208bc6f3754ab8f687c756f7c6eeeada7", func := "airshare/airsharelaw18.LifeConserves", spec := "lifeConserves", apart := false, narrowed := true }
def LifeConservesUptoSaid : Prop := lifeConservesUptoRow.holds Try.pinned (OpenSpec.upto lifeConservesSpec)

/-- 'airsharelaw18.LifeScript', WHERE WHAT IT READS IS OF BULK AT MOST 1048576: true; the input reads as it did. -/
def lifeScriptUptoRow : OpenClaim := { program := "ytdommpfnoiemkaa", sum := "0ac021618c7e26e8163a9cfcf104adb208bc6f3754ab8f687c756f7c6eeeada7", func := "airshare/airsharelaw18.LifeScript", spec := "lifeScript", apart := false, narrowed := true }
def LifeScriptUptoSaid : Prop := lifeScriptUptoRow.holds Try.pinned (OpenSpec.upto lifeScriptSpec)

/-- 'airsharelaw27.ScriptValid', WHERE WHAT IT READS IS OF BULK AT MOST 1048576: true; the input reads as it did. -/
def scriptValidUptoRow : OpenClaim := { program := "ytdommpfnoiemkaa", sum := "0ac021618c7e26e8163a9cfcf104adb208bc6f3754ab8f687c756f7c6eeeada7", func := "airshare/airsharelaw27.ScriptValid", spec := "scriptValid", apart := false, narrowed := true }
def ScriptValidUptoSaid : Prop := scriptValidUptoRow.holds Try.pinned (OpenSpec.upto scriptValidSpec)

/-- 'airsharelaw27.ScriptEncode', WHERE WHAT IT READS IS OF BULK AT MOST 1048576: true; the input reads as it did. -/
def scriptEncodeUptoRow : OpenClaim := { program := "ytdommpfnoiemkaa", sum := "0ac021618c7e26e8163a9cfcf104adb208bc6f3754ab8f687c756f7c6eeeada7", func := "airshare/airsharelaw27.ScriptEncode", spec := "scriptEncode", apart := false, narrowed := true }
def ScriptEncodeUptoSaid : Prop := scriptEncodeUptoRow.holds Try.pinned (OpenSpec.upto scriptEncodeSpec)

/-- 'airsharelaw27.ScriptDecode', WHERE WHAT IT READS IS OF BULK AT MOST 1048576: true; the input reads as it did. -/
def scriptDecodeUptoRow : OpenClaim := { program := "ytdommpfnoiemkaa", sum := "0ac021618c7e26e8163a9cfcf104adb208bc6f3754ab8f687c756f7c6eeeada7", func := "airshare/airsharelaw27.ScriptDecode", spec := "scriptDecode", apart := false, narrowed := true }
def ScriptDecodeUptoSaid : Prop := scriptDecodeUptoRow.holds Try.pinned (OpenSpec.upto scriptDecodeSpec)

/-- 'airsharelaw27.ScriptRoundTrip', WHERE WHAT IT READS IS OF BULK AT MOST 1048576: true; the input reads as it did. -/
def scriptRoundTripUptoRow : OpenClaim := { program := "ytdommpfnoiemkaa", sum := "0ac021618c7e26e8163a9cfcf104adb208bc6f3754ab8f687c756f7c6eeeada7", func := "airshare/airsharelaw27.ScriptRoundTrip", spec := "scriptRoundTrip", apart := false, narrowed := true }
def ScriptRoundTripUptoSaid : Prop := scriptRoundTripUptoRow.holds Try.pinned (OpenSpec.upto scriptRoundTripSpec)

/-- 'airsharelaw27.ScriptFull', WHERE WHAT IT READS IS OF BULK AT MOST 1048576: true; the input reads as it did. -/
def scriptFullUptoRow : OpenClaim := { program := "ytdommpfnoiemkaa", sum := "0ac021618c7e26e8163a9cfcf104adb208bc6f3754ab8f687c756f7c6eeeada7", func := "airshare/airsharelaw27.ScriptFull", spec := "scriptFull", apart := false, narrowed := true }
def ScriptFullUptoSaid : Prop := scriptFullUptoRow.holds Try.pinned (OpenSpec.upto scriptFullSpec)

end Rows
end Go.Proofs.Ytdommpfnoiemkaa

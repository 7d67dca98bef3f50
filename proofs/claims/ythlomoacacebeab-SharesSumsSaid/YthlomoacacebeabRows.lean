/-
  No cell of these rows narrows 'for every input' (looked for: loops, veiled, ifaces, maps, wideKeys, modest, calm, conditions, laid).
  DERIVED. THE GIVEN ROWS OF THIS SEAT. 12 by the template 'for every input the law returns true; each argument reads behind the call as it read before'; 0 by the template 'total and deterministic' (their statements: YthlomoacacebeabTotals.lean).
  GIVEN WITH THE SEED: the statements are not yours to turn. If you find one false, say at which input.
  Laid BY PROGRAM, IN A SANDBOX (cutbox-rows.mjs): the forced cells as the released guide's own fill.sh prints them over the translation ef4c58cbcffe7386… (all of the seat's roots in one cut). By AI agents, Wed Nov 11 2026. No macro, syntax, notation, axiom, sorry.
-/
import Derived.Test.YthlomoacacebeabChecked
import GoSem.Claim
import GoSem.ClaimJoined
import GoSem.ClaimMapViews
import Derived.JoinedTies
import Derived.KernelRfl
namespace Go.Proofs.Ythlomoacacebeab
/- THE CELL 'sum', in the pinned program and in every row, IS THE sha256 OF THE DUMP (.gsa) THAT YthlomoacacebeabProg.lean LOADS. Nothing in Lean hashes anything: it is a label: what it is worth is what the hold of that sum in a sandbox is worth. -/
noncomputable def Try.pinned : Pinned := { name := "ythlomoacacebeab", sum := "ef4c58cbcffe7386ec77afdbe34fbba00735d692649fc3fcf41068f4cc757e84", checked := Try.checked }
namespace Rows
def none {H : Type} : Left H := { results := [], args := [] }

/-- 'airsharelaw3.SharesApportion': WHATEVER THE INPUT: true; the input reads as it did. -/
def sharesApportionSpec : ChangeSpec := { name := "sharesApportion", fn := fun _ => fun
  | [d1, d2, d3] => { results := [.lit (.bool true)], args := [d1, d2, d3] }
  | _ => none }
def sharesApportionRow : OpenClaim := { program := "ythlomoacacebeab", sum := "ef4c58cbcffe7386ec77afdbe34fbba00735d692649fc3fcf41068f4cc757e84", func := "airshare/airsharelaw3.SharesApportion", spec := "sharesApportion", named := ["math/bits.divideError", "math/bits.overflowError"], apart := false }
def SharesApportionSaid : Prop := sharesApportionRow.holds Try.pinned (OpenSpec.ofChange sharesApportionSpec)

/-- ITS FALSE NEIGHBOUR: 'it returns false'. Refute it at one input. -/
def sharesApportionWrong : ChangeSpec := { name := "sharesApportion", fn := fun _ => fun
  | [d1, d2, d3] => { results := [.lit (.bool false)], args := [d1, d2, d3] }
  | _ => none }
def SharesApportionWrongFalsely : Prop := sharesApportionRow.holds Try.pinned (OpenSpec.ofChange sharesApportionWrong)

/-- 'airsharelaw3.SharesEnvy': WHATEVER THE INPUT: true; the input reads as it did. -/
def sharesEnvySpec : ChangeSpec := { name := "sharesEnvy", fn := fun _ => fun
  | [d] => { results := [.lit (.bool true)], args := [d] }
  | _ => none }
def sharesEnvyRow : OpenClaim := { program := "ythlomoacacebeab", sum := "ef4c58cbcffe7386ec77afdbe34fbba00735d692649fc3fcf41068f4cc757e84", func := "airshare/airsharelaw3.SharesEnvy", spec := "sharesEnvy", named := ["math/bits.divideError", "math/bits.overflowError"], apart := false }
def SharesEnvySaid : Prop := sharesEnvyRow.holds Try.pinned (OpenSpec.ofChange sharesEnvySpec)

/-- ITS FALSE NEIGHBOUR: 'it returns false'. Refute it at one input. -/
def sharesEnvyWrong : ChangeSpec := { name := "sharesEnvy", fn := fun _ => fun
  | [d] => { results := [.lit (.bool false)], args := [d] }
  | _ => none }
def SharesEnvyWrongFalsely : Prop := sharesEnvyRow.holds Try.pinned (OpenSpec.ofChange sharesEnvyWrong)

/-- 'airsharelaw3.SharesFill': WHATEVER THE INPUT: true; the input reads as it did. -/
def sharesFillSpec : ChangeSpec := { name := "sharesFill", fn := fun _ => fun
  | [d1, d2, d3, d4] => { results := [.lit (.bool true)], args := [d1, d2, d3, d4] }
  | _ => none }
def sharesFillRow : OpenClaim := { program := "ythlomoacacebeab", sum := "ef4c58cbcffe7386ec77afdbe34fbba00735d692649fc3fcf41068f4cc757e84", func := "airshare/airsharelaw3.SharesFill", spec := "sharesFill", named := ["math/bits.divideError", "math/bits.overflowError"], apart := false }
def SharesFillSaid : Prop := sharesFillRow.holds Try.pinned (OpenSpec.ofChange sharesFillSpec)

/-- ITS FALSE NEIGHBOUR: 'it returns false'. Refute it at one input. -/
def sharesFillWrong : ChangeSpec := { name := "sharesFill", fn := fun _ => fun
  | [d1, d2, d3, d4] => { results := [.lit (.bool false)], args := [d1, d2, d3, d4] }
  | _ => none }
def SharesFillWrongFalsely : Prop := sharesFillRow.holds Try.pinned (OpenSpec.ofChange sharesFillWrong)

/-- 'airsharelaw3.SharesSums': WHATEVER THE INPUT: true; the input reads as it did. -/
def sharesSumsSpec : ChangeSpec := { name := "sharesSums", fn := fun _ => fun
  | [d1, d2] => { results := [.lit (.bool true)], args := [d1, d2] }
  | _ => none }
def sharesSumsRow : OpenClaim := { program := "ythlomoacacebeab", sum := "ef4c58cbcffe7386ec77afdbe34fbba00735d692649fc3fcf41068f4cc757e84", func := "airshare/airsharelaw3.SharesSums", spec := "sharesSums", named := ["math/bits.divideError", "math/bits.overflowError"], apart := false }
def SharesSumsSaid : Prop := sharesSumsRow.holds Try.pinned (OpenSpec.ofChange sharesSumsSpec)

/-- ITS FALSE NEIGHBOUR: 'it returns false'. Refute it at one input. -/
def sharesSumsWrong : ChangeSpec := { name := "sharesSums", fn := fun _ => fun
  | [d1, d2] => { results := [.lit (.bool false)], args := [d1, d2] }
  | _ => none }
def SharesSumsWrongFalsely : Prop := sharesSumsRow.holds Try.pinned (OpenSpec.ofChange sharesSumsWrong)

/-- 'airsharelaw8.PacketFormat': WHATEVER THE INPUT: true; the input reads as it did. -/
def packetFormatSpec : ChangeSpec := { name := "packetFormat", fn := fun _ => fun
  | [d1, d2] => { results := [.lit (.bool true)], args := [d1, d2] }
  | _ => none }
def packetFormatRow : OpenClaim := { program := "ythlomoacacebeab", sum := "ef4c58cbcffe7386ec77afdbe34fbba00735d692649fc3fcf41068f4cc757e84", func := "airshare/airsharelaw8.PacketFormat", spec := "packetFormat", apart := false }
def PacketFormatSaid : Prop := packetFormatRow.holds Try.pinned (OpenSpec.ofChange packetFormatSpec)

/-- ITS FALSE NEIGHBOUR: 'it returns false'. Refute it at one input. -/
def packetFormatWrong : ChangeSpec := { name := "packetFormat", fn := fun _ => fun
  | [d1, d2] => { results := [.lit (.bool false)], args := [d1, d2] }
  | _ => none }
def PacketFormatWrongFalsely : Prop := packetFormatRow.holds Try.pinned (OpenSpec.ofChange packetFormatWrong)

/-- 'airsharelaw8.PacketParse': WHATEVER THE INPUT: true; the input reads as it did. -/
def packetParseSpec : ChangeSpec := { name := "packetParse", fn := fun _ => fun
  | [d1, d2] => { results := [.lit (.bool true)], args := [d1, d2] }
  | _ => none }
def packetParseRow : OpenClaim := { program := "ythlomoacacebeab", sum := "ef4c58cbcffe7386ec77afdbe34fbba00735d692649fc3fcf41068f4cc757e84", func := "airshare/airsharelaw8.PacketParse", spec := "packetParse", unfollowed := true, recurses := true, apart := false }
def PacketParseSaid : Prop := packetParseRow.holds Try.pinned (OpenSpec.ofChange packetParseSpec)

/-- ITS FALSE NEIGHBOUR: 'it returns false'. Refute it at one input. -/
def packetParseWrong : ChangeSpec := { name := "packetParse", fn := fun _ => fun
  | [d1, d2] => { results := [.lit (.bool false)], args := [d1, d2] }
  | _ => none }
def PacketParseWrongFalsely : Prop := packetParseRow.holds Try.pinned (OpenSpec.ofChange packetParseWrong)

/-- 'airsharelaw8.PacketRoundTrip': WHATEVER THE INPUT: true; the input reads as it did. -/
def packetRoundTripSpec : ChangeSpec := { name := "packetRoundTrip", fn := fun _ => fun
  | [d1, d2] => { results := [.lit (.bool true)], args := [d1, d2] }
  | _ => none }
def packetRoundTripRow : OpenClaim := { program := "ythlomoacacebeab", sum := "ef4c58cbcffe7386ec77afdbe34fbba00735d692649fc3fcf41068f4cc757e84", func := "airshare/airsharelaw8.PacketRoundTrip", spec := "packetRoundTrip", unfollowed := true, recurses := true, apart := false }
def PacketRoundTripSaid : Prop := packetRoundTripRow.holds Try.pinned (OpenSpec.ofChange packetRoundTripSpec)

/-- ITS FALSE NEIGHBOUR: 'it returns false'. Refute it at one input. -/
def packetRoundTripWrong : ChangeSpec := { name := "packetRoundTrip", fn := fun _ => fun
  | [d1, d2] => { results := [.lit (.bool false)], args := [d1, d2] }
  | _ => none }
def PacketRoundTripWrongFalsely : Prop := packetRoundTripRow.holds Try.pinned (OpenSpec.ofChange packetRoundTripWrong)

/-- 'airsharelaw8.PacketDamage': WHATEVER THE INPUT: true; the input reads as it did. -/
def packetDamageSpec : ChangeSpec := { name := "packetDamage", fn := fun _ => fun
  | [d1, d2, d3] => { results := [.lit (.bool true)], args := [d1, d2, d3] }
  | _ => none }
def packetDamageRow : OpenClaim := { program := "ythlomoacacebeab", sum := "ef4c58cbcffe7386ec77afdbe34fbba00735d692649fc3fcf41068f4cc757e84", func := "airshare/airsharelaw8.PacketDamage", spec := "packetDamage", unfollowed := true, recurses := true, apart := false }
def PacketDamageSaid : Prop := packetDamageRow.holds Try.pinned (OpenSpec.ofChange packetDamageSpec)

/-- ITS FALSE NEIGHBOUR: 'it returns false'. Refute it at one input. -/
def packetDamageWrong : ChangeSpec := { name := "packetDamage", fn := fun _ => fun
  | [d1, d2, d3] => { results := [.lit (.bool false)], args := [d1, d2, d3] }
  | _ => none }
def PacketDamageWrongFalsely : Prop := packetDamageRow.holds Try.pinned (OpenSpec.ofChange packetDamageWrong)

/-- 'airsharelaw12.TagsNormalized': WHATEVER THE INPUT: true; the input reads as it did. -/
def tagsNormalizedSpec : ChangeSpec := { name := "tagsNormalized", fn := fun _ => fun
  | [d1, d2, d3] => { results := [.lit (.bool true)], args := [d1, d2, d3] }
  | _ => none }
def tagsNormalizedRow : OpenClaim := { program := "ythlomoacacebeab", sum := "ef4c58cbcffe7386ec77afdbe34fbba00735d692649fc3fcf41068f4cc757e84", func := "airshare/airsharelaw12.TagsNormalized", spec := "tagsNormalized", apart := false }
def TagsNormalizedSaid : Prop := tagsNormalizedRow.holds Try.pinned (OpenSpec.ofChange tagsNormalizedSpec)

/-- ITS FALSE NEIGHBOUR: 'it returns false'. Refute it at one input. -/
def tagsNormalizedWrong : ChangeSpec := { name := "tagsNormalized", fn := fun _ => fun
  | [d1, d2, d3] => { results := [.lit (.bool false)], args := [d1, d2, d3] }
  | _ => none }
def TagsNormalizedWrongFalsely : Prop := tagsNormalizedRow.holds Try.pinned (OpenSpec.ofChange tagsNormalizedWrong)

/-- 'airsharelaw12.TagsCost': WHATEVER THE INPUT: true; the input reads as it did. -/
def tagsCostSpec : ChangeSpec := { name := "tagsCost", fn := fun _ => fun
  | [d1, d2, d3, d4] => { results := [.lit (.bool true)], args := [d1, d2, d3, d4] }
  | _ => none }
def tagsCostRow : OpenClaim := { program := "ythlomoacacebeab", sum := "ef4c58cbcffe7386ec77afdbe34fbba00735d692649fc3fcf41068f4cc757e84", func := "airshare/airsharelaw12.TagsCost", spec := "tagsCost", apart := false }
def TagsCostSaid : Prop := tagsCostRow.holds Try.pinned (OpenSpec.ofChange tagsCostSpec)

/-- ITS FALSE NEIGHBOUR: 'it returns false'. Refute it at one input. -/
def tagsCostWrong : ChangeSpec := { name := "tagsCost", fn := fun _ => fun
  | [d1, d2, d3, d4] => { results := [.lit (.bool false)], args := [d1, d2, d3, d4] }
  | _ => none }
def TagsCostWrongFalsely : Prop := tagsCostRow.holds Try.pinned (OpenSpec.ofChange tagsCostWrong)

/-- 'airsharelaw12.TagsLeast': WHATEVER THE INPUT: true; the input reads as it did. -/
def tagsLeastSpec : ChangeSpec := { name := "tagsLeast", fn := fun _ => fun
  | [d1, d2] => { results := [.lit (.bool true)], args := [d1, d2] }
  | _ => none }
def tagsLeastRow : OpenClaim := { program := "ythlomoacacebeab", sum := "ef4c58cbcffe7386ec77afdbe34fbba00735d692649fc3fcf41068f4cc757e84", func := "airshare/airsharelaw12.TagsLeast", spec := "tagsLeast", apart := false }
def TagsLeastSaid : Prop := tagsLeastRow.holds Try.pinned (OpenSpec.ofChange tagsLeastSpec)

/-- ITS FALSE NEIGHBOUR: 'it returns false'. Refute it at one input. -/
def tagsLeastWrong : ChangeSpec := { name := "tagsLeast", fn := fun _ => fun
  | [d1, d2] => { results := [.lit (.bool false)], args := [d1, d2] }
  | _ => none }
def TagsLeastWrongFalsely : Prop := tagsLeastRow.holds Try.pinned (OpenSpec.ofChange tagsLeastWrong)

/-- 'airsharelaw12.TagsRebase': WHATEVER THE INPUT: true; the input reads as it did. -/
def tagsRebaseSpec : ChangeSpec := { name := "tagsRebase", fn := fun _ => fun
  | [d1, d2, d3] => { results := [.lit (.bool true)], args := [d1, d2, d3] }
  | _ => none }
def tagsRebaseRow : OpenClaim := { program := "ythlomoacacebeab", sum := "ef4c58cbcffe7386ec77afdbe34fbba00735d692649fc3fcf41068f4cc757e84", func := "airshare/airsharelaw12.TagsRebase", spec := "tagsRebase", apart := false }
def TagsRebaseSaid : Prop := tagsRebaseRow.holds Try.pinned (OpenSpec.ofChange tagsRebaseSpec)

/-- ITS FALSE NEIGHBOUR: 'it returns false'. Refute it at one input. -/
def tagsRebaseWrong : ChangeSpec := { name := "tagsRebase", fn := fun _ => fun
  | [d1, d2, d3] => { results := [.lit (.bool false)], args := [d1, d2, d3] }
  | _ => none }
def TagsRebaseWrongFalsely : Prop := tagsRebaseRow.holds Try.pinned (OpenSpec.ofChange tagsRebaseWrong)

/- THE SECOND FORM. 'bulk': how many values and letters a reading holds, each counted each time it is reached (what is shared counts as often as it is met; a slice's spare places count too). A statement '..UptoSaid' is the law's where the arguments, and the package variables that the reading takes, are together of bulk at most 1048576: NARROWER than '..Said'. Prove '..Said' where nothing that the law and all that it calls make is longer than what came in: it says more and counts as full. Else prove '..UptoSaid'. A law counts once. -/
mutual
def uptoBulk {H : Type} : DataW H → Nat
  | .lit (.string bytes) => bytes.length + 1
  | .lit _ => 1
  | .nil => 1
  | .ptr d => uptoBulk d + 1
  | .slice elems spare => uptoBulkAll elems + uptoBulkAll spare + 1
  | .agg parts => uptoBulkAll parts + 1
  | .iface _ d => uptoBulk d + 1
  | .map entries => uptoBulkEntries entries + 1
  | .held _ => 1
def uptoBulkAll {H : Type} : List (DataW H) → Nat
  | [] => 0
  | d :: r => uptoBulk d + uptoBulkAll r
def uptoBulkEntries {H : Type} : List (Lit × DataW H) → Nat
  | [] => 0
  | x :: r => uptoBulkEntry x + uptoBulkEntries r
def uptoBulkEntry {H : Type} : Lit × DataW H → Nat
  | (.string bytes, d) => bytes.length + uptoBulk d + 1
  | (_, d) => uptoBulk d + 1
 end
def uptoSmall : (H : Type) → List (DataW H) → Bool := fun _ ds => decide (uptoBulkAll ds ≤ 1048576)
def OpenSpec.upto (s : _root_.Go.ChangeSpec) : _root_.Go.OpenSpec := { _root_.Go.OpenSpec.ofChange s with cond := some uptoSmall }

/-- 'airsharelaw3.SharesApportion', WHERE WHAT IT READS IS OF BULK AT MOST 1048576: true; the input reads as it did. -/
def sharesApportionUptoRow : OpenClaim := { program := "ythlomoacacebeab", sum := "ef4c58cbcffe7386ec77afdbe34fbba00735d692649fc3fcf41068f4cc757e84", func := "airshare/airsharelaw3.SharesApportion", spec := "sharesApportion", named := ["math/bits.divideError", "math/bits.overflowError"], apart := false, narrowed := true }
def SharesApportionUptoSaid : Prop := sharesApportionUptoRow.holds Try.pinned (OpenSpec.upto sharesApportionSpec)

/-- 'airsharelaw3.SharesEnvy', WHERE WHAT IT READS IS OF BULK AT MOST 1048576: true; the input reads as it did. -/
def sharesEnvyUptoRow : OpenClaim := { program := "ythlomoacacebeab", sum := "ef4c58cbcffe7386ec77afdbe34fbba00735d692649fc3fcf41068f4cc757e84", func := "airshare/airsharelaw3.SharesEnvy", spec := "sharesEnvy", named := ["math/bits.divideError", "math/bits.overflowError"], apart := false, narrowed := true }
def SharesEnvyUptoSaid : Prop := sharesEnvyUptoRow.holds Try.pinned (OpenSpec.upto sharesEnvySpec)

/-- 'airsharelaw3.SharesFill', WHERE WHAT IT READS IS OF BULK AT MOST 1048576: true; the input reads as it did. -/
def sharesFillUptoRow : OpenClaim := { program := "ythlomoacacebeab", sum := "ef4c58cbcffe7386ec77afdbe34fbba00735d692649fc3fcf41068f4cc757e84", func := "airshare/airsharelaw3.SharesFill", spec := "sharesFill", named := ["math/bits.divideError", "math/bits.overflowError"], apart := false, narrowed := true }
def SharesFillUptoSaid : Prop := sharesFillUptoRow.holds Try.pinned (OpenSpec.upto sharesFillSpec)

/-- 'airsharelaw3.SharesSums', WHERE WHAT IT READS IS OF BULK AT MOST 1048576: true; the input reads as it did. -/
def sharesSumsUptoRow : OpenClaim := { program := "ythlomoacacebeab", sum := "ef4c58cbcffe7386ec77afdbe34fbba00735d692649fc3fcf41068f4cc757e84", func := "airshare/airsharelaw3.SharesSums", spec := "sharesSums", named := ["math/bits.divideError", "math/bits.overflowError"], apart := false, narrowed := true }
def SharesSumsUptoSaid : Prop := sharesSumsUptoRow.holds Try.pinned (OpenSpec.upto sharesSumsSpec)

/-- 'airsharelaw8.PacketFormat', WHERE WHAT IT READS IS OF BULK AT MOST 1048576: true; the input reads as it did. -/
def packetFormatUptoRow : OpenClaim := { program := "ythlomoacacebeab", sum := "ef4c58cbcffe7386ec77afdbe34fbba00735d692649fc3fcf41068f4cc757e84", func := "airshare/airsharelaw8.PacketFormat", spec := "packetFormat", apart := false, narrowed := true }
def PacketFormatUptoSaid : Prop := packetFormatUptoRow.holds Try.pinned (OpenSpec.upto packetFormatSpec)

/-- 'airsharelaw8.PacketParse', WHERE WHAT IT READS IS OF BULK AT MOST 1048576: true; the input reads as it did. -/
def packetParseUptoRow : OpenClaim := { program := "ythlomoacacebeab", sum := "ef4c58cbcffe7386ec77afdbe34fbba00735d692649fc3fcf41068f4cc757e84", func := "airshare/airsharelaw8.PacketParse", spec := "packetParse", unfollowed := true, recurses := true, apart := false, narrowed := true }
def PacketParseUptoSaid : Prop := packetParseUptoRow.holds Try.pinned (OpenSpec.upto packetParseSpec)

/-- 'airsharelaw8.PacketRoundTrip', WHERE WHAT IT READS IS OF BULK AT MOST 1048576: true; the input reads as it did. -/
def packetRoundTripUptoRow : OpenClaim := { program := "ythlomoacacebeab", sum := "ef4c58cbcffe7386ec77afdbe34fbba00735d692649fc3fcf41068f4cc757e84", func := "airshare/airsharelaw8.PacketRoundTrip", spec := "packetRoundTrip", unfollowed := true, recurses := true, apart := false, narrowed := true }
def PacketRoundTripUptoSaid : Prop := packetRoundTripUptoRow.holds Try.pinned (OpenSpec.upto packetRoundTripSpec)

/-- 'airsharelaw8.PacketDamage', WHERE WHAT IT READS IS OF BULK AT MOST 1048576: true; the input reads as it did. -/
def packetDamageUptoRow : OpenClaim := { program := "ythlomoacacebeab", sum := "ef4c58cbcffe7386ec77afdbe34fbba00735d692649fc3fcf41068f4cc757e84", func := "airshare/airsharelaw8.PacketDamage", spec := "packetDamage", unfollowed := true, recurses := true, apart := false, narrowed := true }
def PacketDamageUptoSaid : Prop := packetDamageUptoRow.holds Try.pinned (OpenSpec.upto packetDamageSpec)

/-- 'airsharelaw12.TagsNormalized', WHERE WHAT IT READS IS OF BULK AT MOST 1048576: true; the input reads as it did. -/
def tagsNormalizedUptoRow : OpenClaim := { program := "ythlomoacacebeab", sum := "ef4c58cbcffe7386ec77afdbe34fbba00735d692649fc3fcf41068f4cc757e84", func := "airshare/airsharelaw12.TagsNormalized", spec := "tagsNormalized", apart := false, narrowed := true }
def TagsNormalizedUptoSaid : Prop := tagsNormalizedUptoRow.holds Try.pinned (OpenSpec.upto tagsNormalizedSpec)

/-- 'airsharelaw12.TagsCost', WHERE WHAT IT READS IS OF BULK AT MOST 1048576: true; the input reads as it did. -/
def tagsCostUptoRow : OpenClaim := { program := "ythlomoacacebeab", sum := "ef4c58cbcffe7386ec77afdbe34fbba00735d692649fc3fcf41068f4cc757e84", func := "airshare/airsharelaw12.TagsCost", spec := "tagsCost", apart := false, narrowed := true }
def TagsCostUptoSaid : Prop := tagsCostUptoRow.holds Try.pinned (OpenSpec.upto tagsCostSpec)

/-- 'airsharelaw12.TagsLeast', WHERE WHAT IT READS IS OF BULK AT MOST 1048576: true; the input reads as it did. -/
def tagsLeastUptoRow : OpenClaim := { program := "ythlomoacacebeab", sum := "ef4c58cbcffe7386ec77afdbe34fbba00735d692649fc3fcf41068f4cc757e84", func := "airshare/airsharelaw12.TagsLeast", spec := "tagsLeast", apart := false, narrowed := true }
def TagsLeastUptoSaid : Prop := tagsLeastUptoRow.holds Try.pinned (OpenSpec.upto tagsLeastSpec)

/-- 'airsharelaw12.TagsRebase', WHERE WHAT IT READS IS OF BULK AT MOST 1048576: true; the input reads as it did. -/
def tagsRebaseUptoRow : OpenClaim := { program := "ythlomoacacebeab", sum := "ef4c58cbcffe7386ec77afdbe34fbba00735d692649fc3fcf41068f4cc757e84", func := "airshare/airsharelaw12.TagsRebase", spec := "tagsRebase", apart := false, narrowed := true }
def TagsRebaseUptoSaid : Prop := tagsRebaseUptoRow.holds Try.pinned (OpenSpec.upto tagsRebaseSpec)

end Rows
end Go.Proofs.Ythlomoacacebeab

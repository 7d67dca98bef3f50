/- Lemmas for the card. -/
import Derived.Test.YtfkepgkmobgleaaGreatDoorRows
import Derived.WalkKit
import Derived.ProofKit
import Derived.OpenShut
import Derived.ChangeOld
import Derived.Below
import Derived.Deep.DeepHandedRow
import Derived.Lib.LaidTab
import Derived.LaidLaws
namespace Go.Proofs.YtfkepgkmobgleaaGreatDoor
open Go Go.ChangeShapes Go.WideShapes Go.ChangeAt Go.RowKit
set_option linter.unusedVariables false
def bytesOf(l:List UInt8):ByteArray:=⟨l.toArray⟩
def rangeS:List UInt8:=[118,97,108,117,101,32,111,117,116,32,111,102,32,114,97,110,103,101]
def syntaxS:List UInt8:=[105,110,118,97,108,105,100,32,115,121,110,116,97,120]
def litOf:DataW Unit->Value
 | .lit (.int k z)=> .int k z
 |_=> .bool false
def litsOf1:DataW Unit->List Value
 | .agg l=>l.map litOf
 |d=>[litOf d]
def litsOf:DataW Unit->List Value
 | .agg l=>l.flatMap litsOf1
 |d=>[litOf d]
def lay(cs:List Value):Obj->Obj
 | .cells _ t fr=> .cells cs.toArray t fr
 |o=>o
noncomputable def laidWorld(os:Os):World:=
 let w0:=World.holding Tryz.prog os ⟨#[.cells #[.string (bytesOf rangeS)] 531,.cells #[.string (bytesOf syntaxS)] 531],#[],[]⟩
 {w0 with heap:=((((((w0.heap.modify 8 (lay (litsOf Rows.laid_math_bits_deBruijn32tab))).modify 9 (lay (litsOf Rows.laid_math_bits_deBruijn64tab))).modify 2 (lay (litsOf Rows.laid_internal_strconv_uint64pow10))).modify 5 (lay (litsOf Rows.laid_unicode_utf8_acceptRanges))).modify 4
  (lay (litsOf Rows.laid_unicode_utf8_first))).modify 7 (lay [.iface 529 (.pointer (some ⟨15,0,none⟩))])).modify 6 (lay [.iface 529 (.pointer (some ⟨16,0,none⟩))])}
set_option maxRecDepth 100000 in
theorem laid_met(os:Os)(args:Array Value):laidMetH Tryz.prog Rows.topAggregatesRow.laid ((laidWorld os).forCall (fun _ _=>0) ⟨#[],args,[]⟩).memory:=
 laidMet_of_run' 8 (by kernel_rfl) (by kernel_rfl)
end Go.Proofs.YtfkepgkmobgleaaGreatDoor

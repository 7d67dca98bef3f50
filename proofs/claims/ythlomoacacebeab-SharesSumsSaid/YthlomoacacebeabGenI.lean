/- Contracts of the choices' signed numbers. No statement of the seat is proved here. -/
import Derived.Test.YthlomoacacebeabGen
namespace Go.Proofs.Ythlomoacacebeab
open Go.Sx
set_option linter.unusedSimpArgs false
set_option linter.unusedVariables false
def sml : List Int := [0, 1, -1, 2, 3, 7, -7, 10, 2147483648, -2147483648, 2147483649, 4611686018427387904, -4611686018427387904, 9223372036854775807, -9223372036854775808, -9223372036854775807, 4294967295, 3458764513820540928, 720720]
/-- The next signed number of 64 bits. -/
def inx (ls : List Int) (at' : Int) : Int := IntKind.i64.wrap (sml.getD (nxt ls at' 19).toNat 0 + IntKind.i64.wrap (nxt ls (at' + 1) 3 * nxt ls (at' + 1 + 1) 2))
theorem inx_fits (ls : List Int) (at' : Int) : -9223372036854775808 ≤ inx ls at' ∧ inx ls at' ≤ 9223372036854775807 := by
  unfold inx
  rw [IntKind.wrap_i64]
  omega
theorem sml_get (i : Int) (h0 : 0 ≤ i) (h1 : i < 19) : (sml.map fun z => [SV.int .i64 z])[i.toNat]? = some [SV.int .i64 (sml.getD i.toNat 0)] := by
  have key : ∀ j : Nat, j < 19 → (sml.map fun z => [SV.int .i64 z])[j]? = some [SV.int .i64 (sml.getD j 0)] := fun j hj => by
    have : j < sml.length := hj
    rw [List.getElem?_map, List.getElem?_eq_getElem this]
    simp [List.getD, List.getElem?_eq_getElem this]
  exact key i.toNat (by omega)
end Go.Proofs.Ythlomoacacebeab

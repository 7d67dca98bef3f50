/- Contracts of the choices' signed numbers. No statement of the seat is proved here. -/
import Derived.Test.YthlomoacacebeaaGen
namespace Go.Proofs.Ythlomoacacebeaa
open Go.Sx
set_option linter.unusedSimpArgs false
set_option linter.unusedVariables false
def sml : List Int := [0, 1, -1, 2, 3, 7, -7, 10, 2147483648, -2147483648, 2147483649, 4611686018427387904, -4611686018427387904, 9223372036854775807, -9223372036854775808, -9223372036854775807, 4294967295, 3458764513820540928, 720720]
/-- The next signed number of 64 bits. -/
def inx (ls : List Int) (at' : Int) : Int := IntKind.i64.wrap (sml.getD (nxt ls at' 19).toNat 0 + IntKind.i64.wrap (nxt ls (at' + 1) 3 * nxt ls (at' + 1 + 1) 2))
theorem inx_fits (ls : List Int) (at' : Int) : -9223372036854775808 ≤ inx ls at' ∧ inx ls at' ≤ 9223372036854775807 := by
  unfold inx
  rw [IntKind.wrap_i64]
  omega
theorem sml_get (i : Int) (h0 : 0 ≤ i) (h1 : i < 19) : (sml.map fun z => [SV.int .i64 z])[i.toNat]? = some [SV.int .i64 (sml.getD i.toNat 0)] := by
  have key : ∀ j : Nat, j < 19 → (sml.map fun z => [SV.int .i64 z])[j]? = some [SV.int .i64 (sml.getD j 0)] := fun j hj => by
    have : j < sml.length := hj
    rw [List.getElem?_map, List.getElem?_eq_getElem this]
    simp [List.getD, List.getElem?_eq_getElem this]
  exact key i.toNat (by omega)
theorem int64_s (ls : List Int) (at' : Int) (h0 : 0 ≤ at') (h1 : at' < 9223372036854775800) :
    OSpec Try.prog 29 [.ptr 0 0] [chs ls at'] fun s ho => s = .int .i64 (inx ls at') ∧ ho = [chs ls (at' + 1 + 1 + 1)] := by
  refine .of_code tab_ok Try.func29 (by rfl) rfl trivial ?_
  have n0 := nxt_lo ls at' 19
  have n1 := nxt_hi ls at' 19 (by omega)
  conv => whnf
  refine DrawG.of mixed tab_ok ?_
  conv => whnf
  refine (next_s _ _ _ (by first | omega | assumption | decide | simp) (by first | omega | assumption | decide | simp) (by first | omega | assumption | decide | simp)).calld [0] (by decide) rfl (And.intro rfl trivial) (And.intro rfl trivial) ?_
  conv => whnf
  refine ⟨by simp; omega, ?_⟩
  conv => whnf
  refine ⟨_, sml_get _ n0 n1, ?_⟩
  conv => whnf
  refine (next_s _ _ _ (by first | omega | assumption | decide | simp) (by first | omega | assumption | decide | simp) (by first | omega | assumption | decide | simp)).calld [0] (by decide) rfl (And.intro rfl trivial) (And.intro rfl trivial) ?_
  conv => whnf
  refine (next_s _ _ _ (by first | omega | assumption | decide | simp) (by first | omega | assumption | decide | simp) (by first | omega | assumption | decide | simp)).calld [0] (by decide) rfl (And.intro rfl trivial) (And.intro rfl trivial) ?_
  conv => whnf
  refine ⟨by kernel_rfl, ?_⟩
  conv => whnf
  refine ⟨by rfl, ?_⟩
  conv => whnf
end Go.Proofs.Ythlomoacacebeaa

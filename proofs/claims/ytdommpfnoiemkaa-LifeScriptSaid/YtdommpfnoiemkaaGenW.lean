/- Contracts of the choices' weights and lengths. No statement of the seat is proved here. -/
import Derived.Test.YtdommpfnoiemkaaGen
namespace Go.Proofs.Ytdommpfnoiemkaa
open Go.Sx
set_option linter.unusedSimpArgs false
set_option linter.unusedVariables false
theorem lit_get {l : List Int} {k : IntKind} {i : Int} (h0 : 0 ≤ i) (h1 : i < l.length) : (l.map fun z => [SV.int k z])[i.toNat]? = some [SV.int k (l.getD i.toNat 0)] := by
  have : i.toNat < l.length := by omega
  rw [List.getElem?_map, List.getElem?_eq_getElem this]
  simp [List.getD, List.getElem?_eq_getElem this]
def wts : List Int := [1, 2, 1, 3, 4, 16, 7, 1, 5]
def wex (ls : List Int) (at' : Int) : Int := wts.getD (nxt ls at' 9).toNat 0
theorem wex_rng (ls : List Int) (at' : Int) : 1 ≤ wex ls at' ∧ wex ls at' ≤ 16 := by
  have h0 := nxt_lo ls at' 9
  have h1 := nxt_hi ls at' 9 (by omega)
  have key : ∀ j : Nat, j < 9 → 1 ≤ wts.getD j 0 ∧ wts.getD j 0 ≤ 16 := by decide
  exact key _ (by omega)
theorem weight_s (ls : List Int) (at' : Int) (h0 : 0 ≤ at') (h1 : at' < 9223372036854775800) :
    OSpec Try.prog 105 [.ptr 0 0] [chs ls at'] fun s ho => s = .int .i64 (wex ls at') ∧ ho = [chs ls (at' + 1)] := by
  refine .of_code tab_ok Try.func105 (by rfl) rfl trivial ?_
  have n0 := nxt_lo ls at' 9
  have n1 := nxt_hi ls at' 9 (by omega)
  conv => whnf
  refine (next_s _ _ _ (by first | omega | assumption | decide | simp) (by first | omega | assumption | decide | simp) (by first | omega | assumption | decide | simp)).call [0] (by decide) (And.intro rfl trivial) (And.intro rfl trivial) ?_
  rintro _ _ ⟨rfl, rfl⟩
  conv => whnf
  refine ⟨by simp; omega, ?_⟩
  conv => whnf
  refine ⟨_, lit_get (l := wts) n0 n1, ?_⟩
  conv => whnf
  refine ⟨by rfl, ?_⟩
  conv => whnf
def lns : List Int := [100, 1, 60, 1500, 4096, 100, 700]
def lex (ls : List Int) (at' : Int) : Int := lns.getD (nxt ls at' 7).toNat 0
theorem lex_rng (ls : List Int) (at' : Int) : 1 ≤ lex ls at' ∧ lex ls at' ≤ 4096 := by
  have h0 := nxt_lo ls at' 7
  have h1 := nxt_hi ls at' 7 (by omega)
  have key : ∀ j : Nat, j < 7 → 1 ≤ lns.getD j 0 ∧ lns.getD j 0 ≤ 4096 := by decide
  exact key _ (by omega)
theorem length_s (ls : List Int) (at' : Int) (h0 : 0 ≤ at') (h1 : at' < 9223372036854775800) :
    OSpec Try.prog 58 [.ptr 0 0] [chs ls at'] fun s ho => s = .int .i64 (lex ls at') ∧ ho = [chs ls (at' + 1)] := by
  refine .of_code tab_ok Try.func58 (by rfl) rfl trivial ?_
  have n0 := nxt_lo ls at' 7
  have n1 := nxt_hi ls at' 7 (by omega)
  conv => whnf
  refine (next_s _ _ _ (by first | omega | assumption | decide | simp) (by first | omega | assumption | decide | simp) (by first | omega | assumption | decide | simp)).call [0] (by decide) (And.intro rfl trivial) (And.intro rfl trivial) ?_
  rintro _ _ ⟨rfl, rfl⟩
  conv => whnf
  refine ⟨by simp; omega, ?_⟩
  conv => whnf
  refine ⟨_, lit_get (l := lns) n0 n1, ?_⟩
  conv => whnf
  refine ⟨by rfl, ?_⟩
  conv => whnf
end Go.Proofs.Ytdommpfnoiemkaa

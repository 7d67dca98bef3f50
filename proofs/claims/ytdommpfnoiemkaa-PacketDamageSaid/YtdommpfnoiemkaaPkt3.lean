/- Chapter 8: drawn lengths and names. -/
import Derived.Test.YtdommpfnoiemkaaPkt2
namespace Go.Proofs.Ytdommpfnoiemkaa
open Go.Sx
set_option linter.unusedSimpArgs false
set_option linter.unusedVariables false
def glL : List Int := [100, 1, 60, 1500, 4096, 100, 700]
theorem gl_get {l : List Int} {i : Int} (h0 : 0 ≤ i) (h1 : i < l.length) : (nums l)[i.toNat]? = some [SV.int .i64 (l.getD i.toNat 0)] := by
  have : i.toNat < l.length := by omega
  simp [nums, List.getD, List.getElem?_eq_getElem this]
theorem glen_s (ls : List Int) (a : Int) (h0 : 0 ≤ a) (h1 : a < 9223372036854775800) :
    OSpec Try.prog 58 [.ptr 0 0] [chs ls a] fun s ho => s = .int .i64 (glL.getD (nxt ls a 7).toNat 0) ∧ ho = [chs ls (a + 1)] := by
  refine .of_code tab_ok Try.func58 (by rfl) rfl trivial ?_
  have n0 := nxt_lo ls a 7
  have n1 := nxt_hi ls a 7 (by omega)
  conv => whnf
  refine (next_s _ _ _ (by first | omega | assumption | decide | simp) (by first | omega | assumption | decide | simp) (by first | omega | assumption | decide | simp)).call [0] (by decide) (And.intro rfl trivial) (And.intro rfl trivial) ?_
  rintro _ _ ⟨rfl, rfl⟩
  conv => whnf
  refine ⟨by simp; omega, ?_⟩
  conv => whnf
  refine ⟨_, gl_get (l := glL) n0 n1, ?_⟩
  conv => whnf
  refine ⟨by rfl, ?_⟩
  conv => whnf
def ggL : List (List UInt8) := [[97], [97, 110, 110], [65, 110, 110], [98, 45, 49], [195, 132, 98], [206, 177, 120], [97, 46, 98, 95, 99], [122, 57]]
theorem gg_get {l : List (List UInt8)} {i : Int} (h0 : 0 ≤ i) (h1 : i < l.length) : (l.map fun s => [SV.str s])[i.toNat]? = some [SV.str (l.getD i.toNat [])] := by
  have : i.toNat < l.length := by omega
  simp [List.getD, List.getElem?_eq_getElem this]
theorem ggood_s (ls : List Int) (a : Int) (h0 : 0 ≤ a) (h1 : a < 9223372036854775800) :
    OSpec Try.prog 57 [.ptr 0 0] [chs ls a] fun s ho => s = .str (ggL.getD (nxt ls a 8).toNat []) ∧ ho = [chs ls (a + 1)] := by
  refine .of_code tab_ok Try.func57 (by rfl) rfl trivial ?_
  have n0 := nxt_lo ls a 8
  have n1 := nxt_hi ls a 8 (by omega)
  conv => whnf
  refine (next_s _ _ _ (by first | omega | assumption | decide | simp) (by first | omega | assumption | decide | simp) (by first | omega | assumption | decide | simp)).call [0] (by decide) (And.intro rfl trivial) (And.intro rfl trivial) ?_
  rintro _ _ ⟨rfl, rfl⟩
  conv => whnf
  refine ⟨by simp; omega, ?_⟩
  conv => whnf
  refine ⟨_, gg_get (l := ggL) n0 n1, ?_⟩
  conv => whnf
  refine ⟨by rfl, ?_⟩
  conv => whnf
end Go.Proofs.Ytdommpfnoiemkaa

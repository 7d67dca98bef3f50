/- Chapter 18: the program is there. -/
import Derived.Test.YtdommpfnoiemkaaGen
namespace Go.Proofs.Ytdommpfnoiemkaa
open Go.Sx
set_option linter.unusedSimpArgs false
set_option linter.unusedVariables false
theorem sd1 (r : List SV) : 0 ≤ IntKind.i64.wrap (1 - 1) ∧ IntKind.i64.wrap (1 - 1) < (([r] : List (List SV)).length : Int) := by
  rw [show IntKind.i64.wrap (1 - 1) = 0 from by decide]; simp
theorem awake18_s : PSpec Try.prog 31 [] (· = .bool true) := by
  refine .of_code' tab_ok Try.func31 (by rfl) rfl trivial ?_
  conv => whnf
  refine CallG.of_code tab_ok Try.func25 (by rfl) rfl ?_
  conv => whnf
  refine CallG.of_code tab_ok Try.func66 (by rfl) rfl ?_
  conv => whnf
  refine CallG.of_code tab_ok Try.func74 (by rfl) rfl ?_
  conv => whnf
  refine both_t rfl ?_
  conv => whnf
  refine both_f rfl ?_
  conv => whnf
  refine both_f rfl ?_
  conv => whnf
  refine both_f rfl ?_
  conv => whnf
  refine both_f rfl ?_
  conv => whnf
  refine ⟨by simp, ?_⟩
  conv => whnf
  refine DrawG.of mixed tab_ok ?_
  conv => whnf
  refine ⟨by omega, ?_⟩
  conv => whnf
  refine ⟨0, rfl, ?_⟩
  conv => whnf
  refine ⟨by omega, ?_⟩
  conv => whnf
  refine ⟨0, rfl, ?_⟩
  conv => whnf
  refine ⟨by kernel_rfl, ?_⟩
  conv => whnf
  refine both_t rfl ?_
  conv => whnf
  refine both_t rfl ?_
  conv => whnf
  refine CallG.of_code tab_ok Try.func68 (by rfl) rfl ?_
  conv => whnf
  refine CallG.of_code tab_ok Try.func76 (by rfl) rfl ?_
  conv => whnf
  refine both_f rfl ?_
  conv => whnf
  refine both_f rfl ?_
  conv => whnf
  refine ⟨by decide, ?_⟩
  conv => whnf
  refine ⟨_, rfl, ?_⟩
  conv => whnf
  refine both_f rfl ?_
  conv => whnf
  refine ⟨_, rfl, ?_⟩
  conv => whnf
  refine both_t rfl ?_
  conv => whnf
  refine CallG.of_code tab_ok Try.func70 (by rfl) rfl ?_
  conv => whnf
  refine CallG.of_code tab_ok Try.func76 (by rfl) rfl ?_
  conv => whnf
  refine both_f rfl ?_
  conv => whnf
  refine both_f rfl ?_
  conv => whnf
  refine ⟨by decide, ?_⟩
  conv => whnf
  refine ⟨_, rfl, ?_⟩
  conv => whnf
  refine both_f rfl ?_
  conv => whnf
  refine DrawG.of mixed tab_ok ?_
  conv => whnf
  refine ⟨_, rfl, ?_⟩
  conv => whnf
  refine ⟨by omega, ?_⟩
  conv => whnf
  refine ⟨0, rfl, ?_⟩
  conv => whnf
  refine ⟨by kernel_rfl, ?_⟩
  conv => whnf
  refine both_f rfl ?_
  conv => whnf
  refine ⟨_, rfl, ?_⟩
  conv => whnf
  refine ⟨by simp, ?_⟩
  conv => whnf
  refine DrawG.of mixed tab_ok ?_
  conv => whnf
  refine ⟨_, rfl, ?_⟩
  conv => whnf
  refine ⟨by kernel_rfl, ?_⟩
  conv => whnf
  refine both_t rfl ?_
  conv => whnf
  refine CallG.of_code tab_ok Try.func72 (by rfl) rfl ?_
  conv => whnf
  refine CallG.of_code tab_ok Try.func76 (by rfl) rfl ?_
  conv => whnf
  refine both_f rfl ?_
  conv => whnf
  refine both_f rfl ?_
  conv => whnf
  refine ⟨by decide, ?_⟩
  conv => whnf
  refine both_f rfl ?_
  conv => whnf
  refine both_f rfl ?_
  conv => whnf
  refine ⟨_, rfl, ?_⟩
  conv => whnf
  refine both_t rfl ?_
  conv => whnf
  refine ⟨_, rfl, ?_⟩
  conv => whnf
  refine both_t rfl ?_
  conv => whnf
  rfl
end Go.Proofs.Ytdommpfnoiemkaa

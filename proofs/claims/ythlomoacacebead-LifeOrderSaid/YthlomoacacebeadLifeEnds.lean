/- Chapter 18: what has ended stays so. -/
import Derived.Test.YthlomoacacebeadGen
namespace Go.Proofs.Ythlomoacacebead
open Go.Sx
set_option linter.unusedSimpArgs false
set_option linter.unusedVariables false
def lfT (o : SV) (acc del drp byt : Int) (c6 : Int) : Blk := .fix 95 [.sl 2, .int .i64 0, .int .i64 acc, .int .i64 del, .int .i64 drp, .int .i64 byt, .int .i64 c6, o, .int .i64 0, .int .i64 0, .int .i64 0, .int .i64 0, .int .i64 0, .int .i64 0, .nils, .int .i64 0, .int .i64 0, .int .i64 0, .int .i64 0, .int .i64 0, .int .i64 0, .nils, .int .i64 0, .int .i64 0, .int .i64 0, .int .i64 0, .int .i64 0, .int .i64 0, .nils, .int .i64 0, .int .i64 0, .int .i64 0, .int .i64 0, .int .i64 0, .int .i64 0, .nils, .int .i64 0, .int .i64 0, .int .i64 0, .int .i64 0, .int .i64 0, .int .i64 0, .nils, .int .i64 0, .int .i64 0, .int .i64 0, .int .i64 0, .int .i64 0, .int .i64 0, .nils, .int .i64 0, .int .i64 0, .int .i64 0, .int .i64 0, .int .i64 0, .int .i64 0, .nils, .int .i64 0, .int .i64 0, .int .i64 0, .int .i64 0, .int .i64 0, .int .i64 0, .nils, .int .i64 0, .int .i64 0, .int .i64 0, .int .i64 0, .int .i64 0, .int .i64 0, .nils, .int .i64 0, .int .i64 0, .int .i64 0, .int .i64 0, .int .i64 0, .int .i64 0, .nils, .int .i64 0, .int .i64 0, .int .i64 0, .int .i64 0, .int .i64 0, .int .i64 0, .nils, .int .i64 0, .int .i64 0, .int .i64 0, .int .i64 0, .int .i64 0, .int .i64 0, .nils, .int .i64 0, .int .i64 0, .int .i64 0, .int .i64 0, .int .i64 0, .int .i64 0, .nils, .int .i64 0, .int .i64 0, .int .i64 0, .int .i64 0, .int .i64 0, .int .i64 0, .nils, .int .i64 0, .int .i64 0, .int .i64 0, .int .i64 0, .int .i64 0, .int .i64 0, .nils, .int .i64 0, .int .i64 0, .int .i64 0, .int .i64 0, .int .i64 0, .int .i64 0, .nils, .int .i64 0, .int .i64 0, .int .i64 0, .int .i64 0, .int .i64 0, .int .i64 0, .nils, .int .i64 0, .int .i64 0, .int .i64 0, .int .i64 0, .int .i64 0, .int .i64 0, .nils, .int .i64 0, .int .i64 0, .int .i64 0, .int .i64 0, .int .i64 0, .int .i64 0, .nils, .int .i64 0, .int .i64 0, .int .i64 0, .int .i64 0, .int .i64 0, .int .i64 0, .nils, .int .i64 0, .int .i64 0, .int .i64 0, .int .i64 0, .int .i64 0, .int .i64 0, .nils, .int .i64 0, .int .i64 0, .int .i64 0, .int .i64 0, .int .i64 0, .int .i64 0, .nils, .int .i64 0, .int .i64 0, .int .i64 0, .int .i64 0, .int .i64 0, .int .i64 0, .nils, .int .i64 0, .int .i64 0, .int .i64 0, .int .i64 0, .int .i64 0, .int .i64 0, .nils, .int .i64 0, .int .i64 0, .int .i64 0, .int .i64 0, .int .i64 0, .int .i64 0, .nils, .int .i64 0, .int .i64 0, .int .i64 0, .int .i64 0, .int .i64 0, .int .i64 0, .nils, .int .i64 0, .int .i64 0, .int .i64 0, .int .i64 0, .int .i64 0, .int .i64 0, .nils, .int .i64 0, .int .i64 0, .int .i64 0, .int .i64 0, .int .i64 0, .int .i64 0, .nils, .int .i64 0, .int .i64 0, .int .i64 0, .int .i64 0, .int .i64 0, .int .i64 0, .nils, .int .i64 0, .int .i64 0, .int .i64 0, .int .i64 0, .int .i64 0, .int .i64 0, .nils, .int .i64 0, .int .i64 0, .int .i64 0, .int .i64 0, .int .i64 0, .int .i64 0, .nils]
def lfP (len st why : Int) : Blk := .row 98 4 [[.int .i64 0, .int .i64 len, .int .i64 st, .int .i64 why]]
theorem sd1 (r : List SV) : 0 ≤ IntKind.i64.wrap (1 - 1) ∧ IntKind.i64.wrap (1 - 1) < (([r] : List (List SV)).length : Int) := by
  rw [show IntKind.i64.wrap (1 - 1) = 0 from by decide]; simp
theorem awake18_s : PSpec Try.prog 26 [] (· = .bool true) := by
  refine .of_code' tab_ok Try.func26 (by rfl) rfl trivial ?_
  conv => whnf
  refine CallG.of_code tab_ok Try.func16 (by rfl) rfl ?_
  conv => whnf
  refine CallG.of_code tab_ok Try.func18 (by rfl) rfl ?_
  conv => whnf
  refine CallG.of_code tab_ok Try.func61 (by rfl) rfl ?_
  conv => whnf
  refine both_t rfl ?_
  conv => whnf
  refine both_f rfl ?_
  conv => whnf
  refine both_f rfl ?_
  conv => whnf
  refine both_f rfl ?_
  conv => whnf
  refine both_f rfl ?_
  conv => whnf
  refine ⟨by simp, ?_⟩
  conv => whnf
  refine DrawG.of mixed tab_ok ?_
  conv => whnf
  refine ⟨by omega, ?_⟩
  conv => whnf
  refine ⟨0, rfl, ?_⟩
  conv => whnf
  refine ⟨by omega, ?_⟩
  conv => whnf
  refine ⟨0, rfl, ?_⟩
  conv => whnf
  refine ⟨by kernel_rfl, ?_⟩
  conv => whnf
  refine both_t rfl ?_
  conv => whnf
  refine both_t rfl ?_
  conv => whnf
  refine CallG.of_code tab_ok Try.func19 (by rfl) rfl ?_
  conv => whnf
  refine CallG.of_code tab_ok Try.func62 (by rfl) rfl ?_
  conv => whnf
  refine both_f rfl ?_
  conv => whnf
  refine both_f rfl ?_
  conv => whnf
  refine ⟨by decide, ?_⟩
  conv => whnf
  refine ⟨_, rfl, ?_⟩
  conv => whnf
  refine both_f rfl ?_
  conv => whnf
  refine ⟨_, rfl, ?_⟩
  conv => whnf
  refine both_t rfl ?_
  conv => whnf
  refine CallG.of_code tab_ok Try.func21 (by rfl) rfl ?_
  conv => whnf
  refine CallG.of_code tab_ok Try.func62 (by rfl) rfl ?_
  conv => whnf
  refine both_f rfl ?_
  conv => whnf
  refine both_f rfl ?_
  conv => whnf
  refine ⟨by decide, ?_⟩
  conv => whnf
  refine ⟨_, rfl, ?_⟩
  conv => whnf
  refine both_f rfl ?_
  conv => whnf
  refine DrawG.of mixed tab_ok ?_
  conv => whnf
  refine ⟨_, rfl, ?_⟩
  conv => whnf
  refine ⟨by omega, ?_⟩
  conv => whnf
  refine ⟨0, rfl, ?_⟩
  conv => whnf
  refine ⟨by kernel_rfl, ?_⟩
  conv => whnf
  refine both_f rfl ?_
  conv => whnf
  refine ⟨_, rfl, ?_⟩
  conv => whnf
  refine ⟨by simp, ?_⟩
  conv => whnf
  refine DrawG.of mixed tab_ok ?_
  conv => whnf
  refine ⟨_, rfl, ?_⟩
  conv => whnf
  refine ⟨by kernel_rfl, ?_⟩
  conv => whnf
  refine both_t rfl ?_
  conv => whnf
  refine CallG.of_code tab_ok Try.func20 (by rfl) rfl ?_
  conv => whnf
  refine CallG.of_code tab_ok Try.func62 (by rfl) rfl ?_
  conv => whnf
  refine both_f rfl ?_
  conv => whnf
  refine both_f rfl ?_
  conv => whnf
  refine ⟨by decide, ?_⟩
  conv => whnf
  refine both_f rfl ?_
  conv => whnf
  refine both_f rfl ?_
  conv => whnf
  refine ⟨_, rfl, ?_⟩
  conv => whnf
  refine both_t rfl ?_
  conv => whnf
  refine ⟨_, rfl, ?_⟩
  conv => whnf
  refine both_t rfl ?_
  conv => whnf
  rfl
end Go.Proofs.Ythlomoacacebead

/- What the statements of chapter 12 compute. No statement of the seat is proved here. -/
import Derived.Test.YthlomoacacebeabTagList
import Derived.Test.YthlomoacacebeabRefTags
import Derived.Test.YthlomoacacebeabRefRebase
namespace Go.Proofs.Ythlomoacacebeab
open Go.Sx
set_option linter.unusedSimpArgs false
set_option linter.unusedVariables false
theorem awake12_s : PSpec Try.prog 36 [] (· = .bool true) := by
  refine .of_code' tab_ok Try.func36 (by rfl) rfl trivial ?_
  conv => whnf
  refine (cost_s _ _).call ?_
  rintro _ rfl
  conv => whnf
  refine both_t rfl ?_
  conv => whnf
  rfl
theorem normal12_s (b w : Int) : PSpec Try.prog 35 [.int .i64 b, .int .i64 w] (· = .bool true) := by
  refine .of_code' tab_ok Try.func35 (by rfl) rfl trivial ?_
  conv => whnf
  refine (normalized_s _ _).call ?_
  rintro _ rfl
  conv => whnf
  refine (rnormalized_s _ _).call ?_
  rintro _ rfl
  conv => whnf
  refine both_t (by simp) ?_
  conv => whnf
  simp
theorem costs12_s (s l w : Int) (h0 : -9223372036854775808 ≤ s) (h1 : s ≤ 9223372036854775807) : PSpec Try.prog 37 [.int .i64 s, .int .i64 l, .int .i64 w] (· = .bool true) := by
  refine .of_code' tab_ok Try.func37 (by rfl) rfl trivial ?_
  conv => whnf
  refine (cost_s _ _).call ?_
  rintro _ rfl
  conv => whnf
  refine (rcost_s _ _).call ?_
  rintro _ rfl
  conv => whnf
  refine (finish_s _ _ _ (by first | omega | assumption | decide | simp) (by first | omega | assumption | decide | simp)).call ?_
  rintro _ rfl
  conv => whnf
  refine (rfinish_s _ _ _ (by first | omega | assumption | decide | simp) (by first | omega | assumption | decide | simp)).call ?_
  rintro _ rfl
  conv => whnf
  refine both_t (by simp) ?_
  conv => whnf
  refine both_t (by simp) ?_
  conv => whnf
  refine both_t (by simp) ?_
  conv => whnf
  simp
theorem rebL_len (ts : List Tg) (by' : Int) : (rebL ts by').length ≤ ts.length := by unfold rebL; split <;> simp
theorem rebases12_s (ts : List Tg) (by' : Int) (hl : ts.length ≤ 1000) (h0 : -9223372036854775808 ≤ by') (h1 : by' ≤ 9223372036854775807) : PSpec Try.prog 43 [.rs 3 (ts.map tagE), .int .i64 by'] (· = .bool true) := by
  refine .of_code' tab_ok Try.func43 (by rfl) rfl trivial ?_
  have hr := rebL_len ts by'
  conv => whnf
  refine (rebase_s _ _ (by first | omega | assumption | decide | simp) (by first | omega | assumption | decide | simp) (by first | omega | assumption | decide | simp)).call ?_
  rintro _ rfl
  conv => whnf
  refine (rrebase_s _ _ (by first | omega | assumption | decide | simp) (by first | omega | assumption | decide | simp) (by first | omega | assumption | decide | simp)).call ?_
  rintro _ rfl
  conv => whnf
  refine both_t (by simp) ?_
  conv => whnf
  refine (eqTag_s _ (by first | omega | assumption | decide | simp)).call ?_
  rintro _ rfl
  conv => whnf
end Go.Proofs.Ythlomoacacebeab

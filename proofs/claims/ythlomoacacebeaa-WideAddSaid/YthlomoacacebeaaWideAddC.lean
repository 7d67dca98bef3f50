/- What WideAdd computes. No statement of the seat is proved here. -/
import Derived.Test.YthlomoacacebeaaWide
namespace Go.Proofs.Ythlomoacacebeaa
open Go.Sx
theorem wideAdd_s (h l y : Int) (h0 : 0 ≤ h) (h1 : h < 18446744073709551616) (l0 : 0 ≤ l) (l1 : l < 18446744073709551616) (y0 : 0 ≤ y) (y1 : y < 18446744073709551616) :
    PSpec Try.prog 4 [.int .u64 h, .int .u64 l, .int .u64 y] TrueS := by
  refine .of_code' tab_ok Try.func4 (by rfl) rfl trivial ?_
  conv => whnf
  refine (wadd_s h l y h0 l0 l1 y0 y1).call ?_
  rintro _ rfl
  conv => whnf
  refine (radd_s h l y h0 h1 l0 l1 y0 y1).call ?_
  rintro _ rfl
  conv => whnf
  refine (wadd_s _ l y (by decide) l0 l1 y0 y1).call ?_
  rintro _ rfl
  conv => whnf
  refine (radd_s _ l y (by decide) (by decide) l0 l1 y0 y1).call ?_
  rintro _ rfl
  conv => whnf
  repeat (refine both_t (by simp) ?_; conv => whnf)
  refine awake_s.call ?_
  rintro _ rfl
  conv => whnf
end Go.Proofs.Ythlomoacacebeaa

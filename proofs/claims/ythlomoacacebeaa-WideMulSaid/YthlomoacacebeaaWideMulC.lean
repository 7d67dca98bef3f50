/- What WideMul computes. No statement of the seat is proved here. -/
import Derived.Test.YthlomoacacebeaaWide
namespace Go.Proofs.Ythlomoacacebeaa
open Go.Sx
theorem wideMul_s (ls : List Int) (a b : Int) (a0 : 0 ≤ a) (a1 : a < 18446744073709551616) (b0 : 0 ≤ b) (b1 : b < 18446744073709551616) :
    PSpec Try.prog 3 [.rs 1 (nums ls), .int .u64 a, .int .u64 b] TrueS := by
  refine .of_code' tab_ok Try.func3 (by rfl) rfl trivial ?_
  conv => whnf
  refine CallG.of_code tab_ok Try.func15 (by rfl) rfl ?_
  conv => whnf
  refine LoopG.inv tab_ok 47 (fun i : { i : Nat // i ≤ 4 } => [(0, .rs 1 (nums ls)), (1, .int .u64 a), (2, .int .u64 b), (6, .ff), (7, .ptr 0 0), (8, .int .i64 (i.1 : Int))])
    (fun i => [chs ls (2 * (i.1 : Int))]) (fun i => 4 - i.1) ⟨0, by decide⟩ (.of [some 0] (by decide) ?_) ?_
  · conv => whnf
    repeat (refine ⟨rfl, ?_⟩; conv => whnf)
    trivial
  · rintro ⟨i, hi⟩
    conv => whnf
    refine ⟨fun hb => ?_, fun hb => ?_⟩
    · have hb : (i : Int) < 4 := by simpa using hb
      conv => whnf
      have g0 := unx_fits ls (2 * (i : Int))
      have g1 := unx_fits ls (2 * (i : Int) + 1)
      refine (uint64_s ls (2 * (i : Int)) (by omega) (by omega)).call [0] (by simp) trivial (And.intro rfl trivial) ?_
      rintro _ _ ⟨rfl, rfl⟩
      conv => whnf
      refine (uint64_s ls (2 * (i : Int) + 1) (by omega) (by omega)).call [0] (by simp) trivial (And.intro rfl trivial) ?_
      rintro _ _ ⟨rfl, rfl⟩
      conv => whnf
      generalize unx ls (2 * (i : Int)) = x at *
      generalize unx ls (2 * (i : Int) + 1) = y at *
      refine (wmul_s x y g0.1 g0.2 g1.1 g1.2).call ?_
      rintro _ rfl
      conv => whnf
      refine (rmul_s x y g0.1 g0.2 g1.1 g1.2).call ?_
      rintro _ rfl
      conv => whnf
      refine both_f (by simp) ?_
      conv => whnf
      refine (wmul_s x a g0.1 g0.2 a0 a1).call ?_
      rintro _ rfl
      conv => whnf
      refine (rmul_s x a g0.1 g0.2 a0 a1).call ?_
      rintro _ rfl
      conv => whnf
      repeat (refine both_f (by simp) ?_; conv => whnf)
      refine ⟨⟨i + 1, by omega⟩, by show 4 - (i + 1) < 4 - i; omega, .of [some 0] (by decide) ?_⟩
      conv => whnf
      refine ⟨rfl, ?_⟩
      conv => whnf
      refine ⟨rfl, ?_⟩
      conv => whnf
      refine ⟨rfl, ?_⟩
      conv => whnf
      refine ⟨(w64 ((i : Int) + 1) (by omega) (by omega)).trans (show (i : Int) + 1 = ((i + 1 : Nat) : Int) by omega), ?_⟩
      conv => whnf
      refine ⟨rfl, ?_⟩
      conv => whnf
      refine ⟨by show 2 * (i : Int) + 1 + 1 = 2 * ((i + 1 : Nat) : Int); omega, ?_⟩
      conv => whnf
      trivial
    · have hb : ¬ (i : Int) < 4 := by simpa using hb
      conv => whnf
      refine .same ?_
      conv => whnf
      refine (wmul_s a b a0 a1 b0 b1).call ?_
      rintro _ rfl
      conv => whnf
      refine (rmul_s a b a0 a1 b0 b1).call ?_
      rintro _ rfl
      conv => whnf
      repeat (refine both_t (by simp) ?_; conv => whnf)
      refine awake_s.call ?_
      rintro _ rfl
      conv => whnf
end Go.Proofs.Ythlomoacacebeaa

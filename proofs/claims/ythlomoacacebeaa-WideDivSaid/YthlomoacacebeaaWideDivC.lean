/- What WideDiv computes. No statement of the seat is proved here. -/
import Derived.Test.YthlomoacacebeaaWideDiv
namespace Go.Proofs.Ythlomoacacebeaa
open Go.Sx
set_option linter.unusedSimpArgs false
set_option linter.unusedVariables false
theorem divides_s (h l d : Int) (h0 : 0 ≤ h) (l0 : 0 ≤ l) (l1 : l < 18446744073709551616) (d0 : 0 ≤ d) (d1 : d < 18446744073709551616) :
    PSpec Try.prog 26 [.agg [.int .u64 h, .int .u64 l], .int .u64 d] (· = .bool true) := by
  refine .of_code' tab_ok Try.func26 (by rfl) rfl trivial ?_
  conv => whnf
  refine (wdiv_s _ _ _ (by first | omega | assumption | decide | simp) (by first | omega | assumption | decide | simp) (by first | omega | assumption | decide | simp) (by first | omega | assumption | decide | simp) (by first | omega | assumption | decide | simp)).call ?_
  rintro _ rfl
  conv => whnf
  refine (rdiv_s _ _ _ (by first | omega | assumption | decide | simp) (by first | omega | assumption | decide | simp) (by first | omega | assumption | decide | simp) (by first | omega | assumption | decide | simp) (by first | omega | assumption | decide | simp)).call ?_
  rintro _ rfl
  conv => whnf
  refine both_t (by simp) ?_
  conv => whnf
  refine both_t (by simp) ?_
  conv => whnf
  simp
theorem wideDiv_s (ls : List Int) (hi lo d : Int) (h0 : 0 ≤ hi) (h1 : hi < 18446744073709551616) (l0 : 0 ≤ lo) (l1 : lo < 18446744073709551616) (d0 : 0 ≤ d) (d1 : d < 18446744073709551616) :
    PSpec Try.prog 6 [.rs 1 (nums ls), .int .u64 hi, .int .u64 lo, .int .u64 d] TrueS := by
  refine .of_code' tab_ok Try.func6 (by rfl) rfl trivial ?_
  conv => whnf
  refine CallG.of_code tab_ok Try.func15 (by rfl) rfl ?_
  conv => whnf
  refine LoopG.inv tab_ok 43 (fun i : { i : Nat // i ≤ 4 } => [(0, .rs 1 (nums ls)), (1, .int .u64 hi), (2, .int .u64 lo), (3, .int .u64 d), (8, .ff), (9, .ptr 0 0), (10, .int .i64 (i.1 : Int))])
    (fun i => [chs ls (4 * (i.1 : Int))]) (fun i => 4 - i.1) ⟨0, by decide⟩ (.of [some 0] (by decide) ?_) ?_
  · conv => whnf
    refine ⟨by rfl, ?_⟩
    conv => whnf
    refine ⟨by rfl, ?_⟩
    conv => whnf
    refine ⟨by rfl, ?_⟩
    conv => whnf
    refine ⟨by rfl, ?_⟩
    conv => whnf
    refine ⟨by rfl, ?_⟩
    conv => whnf
    refine ⟨by rfl, ?_⟩
    conv => whnf
    refine ⟨by rfl, ?_⟩
    conv => whnf
    exact trivial
  · intro i
    have hi := i.2
    conv => whnf
    refine ⟨fun hb => ?_, fun hb => ?_⟩
    · have hb : (i.1 : Int) < 4 := by simpa using hb
      conv => whnf
      refine (uint64_s _ _ (by first | omega | exact (unx_fits _ _).1 | exact (unx_fits _ _).2 | assumption | decide | simp) (by first | omega | exact (unx_fits _ _).1 | exact (unx_fits _ _).2 | assumption | decide | simp)).call [0] (by decide) trivial (And.intro rfl trivial) ?_
      rintro _ _ ⟨rfl, rfl⟩
      conv => whnf
      refine (uint64_s _ _ (by first | omega | exact (unx_fits _ _).1 | exact (unx_fits _ _).2 | assumption | decide | simp) (by first | omega | exact (unx_fits _ _).1 | exact (unx_fits _ _).2 | assumption | decide | simp)).call [0] (by decide) trivial (And.intro rfl trivial) ?_
      rintro _ _ ⟨rfl, rfl⟩
      conv => whnf
      refine (uint64_s _ _ (by first | omega | exact (unx_fits _ _).1 | exact (unx_fits _ _).2 | assumption | decide | simp) (by first | omega | exact (unx_fits _ _).1 | exact (unx_fits _ _).2 | assumption | decide | simp)).call [0] (by decide) trivial (And.intro rfl trivial) ?_
      rintro _ _ ⟨rfl, rfl⟩
      conv => whnf
      refine (divides_s _ _ _ (by first | omega | exact (unx_fits _ _).1 | exact (unx_fits _ _).2 | assumption | decide | simp) (by first | omega | exact (unx_fits _ _).1 | exact (unx_fits _ _).2 | assumption | decide | simp) (by first | omega | exact (unx_fits _ _).1 | exact (unx_fits _ _).2 | assumption | decide | simp) (by first | omega | exact (unx_fits _ _).1 | exact (unx_fits _ _).2 | assumption | decide | simp) (by first | omega | exact (unx_fits _ _).1 | exact (unx_fits _ _).2 | assumption | decide | simp)).call ?_
      rintro _ rfl
      conv => whnf
      refine both_f rfl ?_
      conv => whnf
      refine (uint64_s _ _ (by first | omega | exact (unx_fits _ _).1 | exact (unx_fits _ _).2 | assumption | decide | simp) (by first | omega | exact (unx_fits _ _).1 | exact (unx_fits _ _).2 | assumption | decide | simp)).call [0] (by decide) trivial (And.intro rfl trivial) ?_
      rintro _ _ ⟨rfl, rfl⟩
      conv => whnf
      refine (divides_s _ _ _ (by first | omega | exact (unx_fits _ _).1 | exact (unx_fits _ _).2 | assumption | decide | simp) (by first | omega | exact (unx_fits _ _).1 | exact (unx_fits _ _).2 | assumption | decide | simp) (by first | omega | exact (unx_fits _ _).1 | exact (unx_fits _ _).2 | assumption | decide | simp) (by first | omega | exact (unx_fits _ _).1 | exact (unx_fits _ _).2 | assumption | decide | simp) (by first | omega | exact (unx_fits _ _).1 | exact (unx_fits _ _).2 | assumption | decide | simp)).call ?_
      rintro _ rfl
      conv => whnf
      refine both_f rfl ?_
      conv => whnf
      refine ⟨⟨i.1 + 1, by omega⟩, by show 4 - (i.1 + 1) < 4 - i.1; omega, .of [some 0] (by decide) ?_⟩
      conv => whnf
      refine ⟨by rfl, ?_⟩
      conv => whnf
      refine ⟨by rfl, ?_⟩
      conv => whnf
      refine ⟨by rfl, ?_⟩
      conv => whnf
      refine ⟨by rfl, ?_⟩
      conv => whnf
      refine ⟨by exact (w64 _ (by omega) (by omega)).trans (by simp), ?_⟩
      conv => whnf
      refine ⟨by rfl, ?_⟩
      conv => whnf
      refine ⟨by rfl, ?_⟩
      conv => whnf
      exact trivial
    · conv => whnf
      refine .same ?_
      conv => whnf
      refine (divides_s _ _ _ (by first | omega | assumption | decide | simp) (by first | omega | assumption | decide | simp) (by first | omega | assumption | decide | simp) (by first | omega | assumption | decide | simp) (by first | omega | assumption | decide | simp)).call ?_
      rintro _ rfl
      conv => whnf
      refine both_t rfl ?_
      conv => whnf
      refine (awake_s).call ?_
      rintro _ rfl
      conv => whnf
end Go.Proofs.Ythlomoacacebeaa

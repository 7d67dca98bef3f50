/- What WideCross computes. No statement of the seat is proved here. -/
import Derived.Test.YthlomoacacebeaaWideCmp
namespace Go.Proofs.Ythlomoacacebeaa
open Go.Sx
theorem cmp2_self (x : Int) : cmp2 x x = 0 := by simp [cmp2]
theorem wideCross_s (ls : List Int) (a b c d : Int) (a0 : 0 ≤ a) (a1 : a < 18446744073709551616) (b0 : 0 ≤ b) (b1 : b < 18446744073709551616) (c0 : 0 ≤ c) (c1 : c < 18446744073709551616) (d0 : 0 ≤ d) (d1 : d < 18446744073709551616) :
    PSpec Try.prog 5 [.rs 1 (nums ls), .int .u64 a, .int .u64 b, .int .u64 c, .int .u64 d] TrueS := by
  refine .of_code' tab_ok Try.func5 (by rfl) rfl trivial ?_
  conv => whnf
  refine CallG.of_code tab_ok Try.func15 (by rfl) rfl ?_
  conv => whnf
  refine LoopG.inv tab_ok 87 (fun i : { i : Nat // i ≤ 4 } => [(0, .rs 1 (nums ls)), (1, .int .u64 a), (2, .int .u64 b), (3, .int .u64 c), (4, .int .u64 d), (10, .ff), (11, .ptr 0 0), (12, .int .i64 (i.1 : Int))])
    (fun i => [chs ls (4 * (i.1 : Int))]) (fun i => 4 - i.1) ⟨0, by decide⟩ (.of [some 0] (by decide) ?_) ?_
  · conv => whnf
    repeat (refine ⟨rfl, ?_⟩; conv => whnf)
    trivial
  · rintro ⟨i, hi⟩
    conv => whnf
    refine ⟨fun hb => ?_, fun hb => ?_⟩
    · have hb : (i : Int) < 4 := by simpa using hb
      conv => whnf
      have g0 := unx_fits ls (4 * (i : Int))
      have g1 := unx_fits ls (4 * (i : Int) + 1)
      have g2 := unx_fits ls (4 * (i : Int) + 1 + 1)
      have g3 := unx_fits ls (4 * (i : Int) + 1 + 1 + 1)
      refine (uint64_s ls (4 * (i : Int)) (by omega) (by omega)).call [0] (by simp) trivial (And.intro rfl trivial) ?_
      rintro _ _ ⟨rfl, rfl⟩
      conv => whnf
      refine (uint64_s ls (4 * (i : Int) + 1) (by omega) (by omega)).call [0] (by simp) trivial (And.intro rfl trivial) ?_
      rintro _ _ ⟨rfl, rfl⟩
      conv => whnf
      refine (uint64_s ls (4 * (i : Int) + 1 + 1) (by omega) (by omega)).call [0] (by simp) trivial (And.intro rfl trivial) ?_
      rintro _ _ ⟨rfl, rfl⟩
      conv => whnf
      refine (uint64_s ls (4 * (i : Int) + 1 + 1 + 1) (by omega) (by omega)).call [0] (by simp) trivial (And.intro rfl trivial) ?_
      rintro _ _ ⟨rfl, rfl⟩
      conv => whnf
      generalize unx ls (4 * (i : Int)) = w at *
      generalize unx ls (4 * (i : Int) + 1) = x at *
      generalize unx ls (4 * (i : Int) + 1 + 1) = y at *
      generalize unx ls (4 * (i : Int) + 1 + 1 + 1) = z at *
      refine (wcross_s w x y z g0 g1 g2 g3).call ?_
      rintro _ rfl
      conv => whnf
      refine (rcross_s w x y z g0 g1 g2 g3).call ?_
      rintro _ rfl
      conv => whnf
      refine both_f (by simp) ?_
      conv => whnf
      refine (wcross_s w x x w g0 g1 g1 g0).call ?_
      rintro _ rfl
      conv => whnf
      refine both_f (by simp [Int.mul_comm x w, cmp2_self]) ?_
      conv => whnf
      refine ⟨⟨i + 1, by omega⟩, by show 4 - (i + 1) < 4 - i; omega, .of [some 0] (by decide) ?_⟩
      conv => whnf
      iterate 5 (refine ⟨rfl, ?_⟩; conv => whnf)
      refine ⟨(w64 ((i : Int) + 1) (by omega) (by omega)).trans (show (i : Int) + 1 = ((i + 1 : Nat) : Int) by omega), ?_⟩
      conv => whnf
      refine ⟨rfl, ?_⟩
      conv => whnf
      refine ⟨by show 4 * (i : Int) + 1 + 1 + 1 + 1 = 4 * ((i + 1 : Nat) : Int); omega, ?_⟩
      conv => whnf
      trivial
    · have hb : ¬ (i : Int) < 4 := by simpa using hb
      conv => whnf
      refine .same ?_
      conv => whnf
      refine DrawG.of mixed tab_ok ?_
      conv => whnf
      refine (wless_s a b c d).calld ?_
      conv => whnf
      refine (rless_s a b c d).calld ?_
      conv => whnf
      refine both_t (by simp) ?_
      conv => whnf
      refine (wless_s a b a b).calld ?_
      conv => whnf
      refine both_t (by simp [lessB]) ?_
      conv => whnf
      refine (wcross_s a b c d ⟨a0, a1⟩ ⟨b0, b1⟩ ⟨c0, c1⟩ ⟨d0, d1⟩).calld ?_
      conv => whnf
      refine (rcross_s a b c d ⟨a0, a1⟩ ⟨b0, b1⟩ ⟨c0, c1⟩ ⟨d0, d1⟩).calld ?_
      conv => whnf
      refine both_t (by simp) ?_
      conv => whnf
      refine awake_s.calld ?_
      conv => whnf
      refine ⟨by kernel_rfl, ?_⟩
      conv => whnf
end Go.Proofs.Ythlomoacacebeaa

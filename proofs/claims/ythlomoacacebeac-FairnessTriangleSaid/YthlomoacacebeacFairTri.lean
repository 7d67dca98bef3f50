/- The statement FairnessTriangle as a contract. -/
import Derived.Test.YthlomoacacebeacFair14
namespace Go.Proofs.Ythlomoacacebeac
open Go.Sx
set_option linter.unusedSimpArgs false
set_option linter.unusedVariables false
theorem absI_rng (d : Int) : 0 ≤ absI d := by unfold absI; split <;> omega
theorem gpe_ok (w b m x c n : Int) (h : gpe w b m x c n = 0) : gpo w b m x c n = true := by
  cases hg : gpo w b m x c n <;> simp_all [gpe]
theorem gpo_and (w b m x c n : Int) : gpo w b m x c n = true ↔ smpOk w b m = true ∧ smpOk x c n = true := by simp [gpo]
theorem tri_all (w b m x c n y d o : Int) (h1 : gpe w b m x c n = 0) (h2 : gpe x c n y d o = 0) (h3 : gpe w b m y d o = 0) :
    gpe x c n w b m = 0 ∧ gpv x c n w b m = gpv w b m x c n ∧ gpv w b m y d o ≤ gpv w b m x c n + gpv x c n y d o ∧ 0 ≤ gpv w b m x c n ∧ IntKind.i64.wrap (gpv w b m x c n + gpv x c n y d o) = gpv w b m x c n + gpv x c n y d o := by
  have g1 := gpe_ok _ _ _ _ _ _ h1
  have g2 := gpe_ok _ _ _ _ _ _ h2
  have g3 := gpe_ok _ _ _ _ _ _ h3
  have g4 : gpo x c n w b m = true := by rw [gpo_and] at *; exact ⟨g1.2, g1.1⟩
  have r1 := nov_rng b w
  have r2 := nov_rng c x
  have r3 := nov_rng d y
  simp only [gpe, gpv, g1, g2, g3, g4, if_true, absI]
  have q : (if 0 ≤ nov b w - nov c x then nov b w - nov c x else -(nov b w - nov c x)) + (if 0 ≤ nov c x - nov d y then nov c x - nov d y else -(nov c x - nov d y)) ≤ 4000000000000000000 := by
    (repeat' split) <;> omega
  have q0 : 0 ≤ (if 0 ≤ nov b w - nov c x then nov b w - nov c x else -(nov b w - nov c x)) + (if 0 ≤ nov c x - nov d y then nov c x - nov d y else -(nov c x - nov d y)) := by
    (repeat' split) <;> omega
  refine ⟨by simp, ?_, ?_, ?_, w64 _ (by omega) (by omega)⟩
  · (repeat' split) <;> omega
  · (repeat' split) <;> omega
  · (repeat' split) <;> omega
theorem fairnessTriangle_s (ls : List Int) : PSpec Try.prog 5 [.rs 1 (nums ls)] TrueS := by
  refine .of_code' tab_ok Try.func5 (by rfl) rfl trivial ?_
  conv => whnf
  refine CallG.of_code tab_ok Try.func15 (by rfl) rfl ?_
  conv => whnf
  refine (sample_s ls 0 (by omega) (by omega)).call [0] (by decide) trivial (And.intro rfl trivial) ?_
  rintro _ _ ⟨w, b, m, a1, rfl, rfl, p1, q1⟩
  conv => whnf
  refine (sample_s ls a1 (by omega) (by omega)).call [0] (by decide) trivial (And.intro rfl trivial) ?_
  rintro _ _ ⟨x, c, n, a2, rfl, rfl, p2, q2⟩
  conv => whnf
  refine (sample_s ls a2 (by omega) (by omega)).call [0] (by decide) trivial (And.intro rfl trivial) ?_
  rintro _ _ ⟨y, d, o, a3, rfl, rfl, p3, q3⟩
  conv => whnf
  refine (gap_s w b m x c n).call ?_
  rintro _ rfl
  conv => whnf
  refine (gap_s x c n y d o).call ?_
  rintro _ rfl
  conv => whnf
  refine (gap_s w b m y d o).call ?_
  rintro _ rfl
  conv => whnf
  refine (gap_s x c n w b m).call ?_
  rintro _ rfl
  by_cases hall : gpe w b m x c n = 0 ∧ gpe x c n y d o = 0 ∧ gpe w b m y d o = 0
  · obtain ⟨t1, t2, t3, t4, t5⟩ := tri_all w b m x c n y d o hall.1 hall.2.1 hall.2.2
    obtain ⟨s1, s2, s3⟩ := hall
    conv => whnf
    refine both_f (by simp; omega) ?_
    conv => whnf
    refine both_f (by simp; omega) ?_
    conv => whnf
    refine both_f (by simp; omega) ?_
    conv => whnf
    refine both_t (by simp; omega) ?_
    conv => whnf
    refine both_t (by simp; omega) ?_
    conv => whnf
    refine both_t (by simp; omega) ?_
    conv => whnf
    refine both_t (by simp; omega) ?_
    conv => whnf
    refine (awake14_s).call ?_
    rintro _ rfl
    conv => whnf
  · conv => whnf
    refine ⟨fun hh0 => ?_, fun hh0 => ?_⟩
    · simp only [decide_eq_true_eq, decide_eq_false_iff_not] at hh0
      conv => whnf
      refine (awake14_s).call ?_
      rintro _ rfl
      conv => whnf
    · simp only [decide_eq_true_eq, decide_eq_false_iff_not] at hh0
      conv => whnf
      refine ⟨fun hh11 => ?_, fun hh11 => ?_⟩
      · simp only [decide_eq_true_eq, decide_eq_false_iff_not] at hh11
        conv => whnf
        refine (awake14_s).call ?_
        rintro _ rfl
        conv => whnf
      · simp only [decide_eq_true_eq, decide_eq_false_iff_not] at hh11
        conv => whnf
        refine both_t (by simp; omega) ?_
        conv => whnf
        refine (awake14_s).call ?_
        rintro _ rfl
        conv => whnf
end Go.Proofs.Ythlomoacacebeac

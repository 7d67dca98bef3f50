/- What WideInverse computes. No statement of the seat is proved here. -/
import Derived.Test.YthlomoacacebeaaWideDiv
namespace Go.Proofs.Ythlomoacacebeaa
open Go.Sx
set_option linter.unusedSimpArgs false
set_option linter.unusedVariables false
theorem wideInverse_s (a b hi lo : Int) (a0 : 0 ≤ a) (a1 : a < 18446744073709551616) (b0 : 0 ≤ b) (b1 : b < 18446744073709551616) (h0 : 0 ≤ hi) (h1 : hi < 18446744073709551616) (l0 : 0 ≤ lo) (l1 : lo < 18446744073709551616) :
    PSpec Try.prog 7 [.int .u64 a, .int .u64 b, .int .u64 hi, .int .u64 lo] TrueS := by
  refine .of_code' tab_ok Try.func7 (by rfl) rfl trivial ?_
  have hab := Int.mul_nonneg a0 b0
  have hab1 : a * b / 18446744073709551616 < 18446744073709551616 := Int.ediv_lt_of_lt_mul (by decide) (by have := Int.mul_le_mul_of_nonneg_right (Int.le_of_lt a1) b0; omega)
  by_cases hb : b = 0
  · subst hb
    have g1 : dve hi 0 = 3 := rfl
    conv => whnf
    refine (wmul_s _ _ (by first | omega | assumption | decide | simp) (by first | omega | assumption | decide | simp) (by first | omega | assumption | decide | simp) (by first | omega | assumption | decide | simp)).call ?_
    rintro _ rfl
    conv => whnf
    refine (wdiv_s _ _ _ (by first | omega | assumption | decide | simp) (by first | omega | assumption | decide | simp) (by first | omega | assumption | decide | simp) (by first | omega | assumption | decide | simp) (by first | omega | assumption | decide | simp)).call ?_
    rintro _ rfl
    conv => whnf
    refine both_f rfl ?_
    conv => whnf
    refine (wdiv_s _ _ _ (by first | omega | assumption | decide | simp) (by first | omega | assumption | decide | simp) (by first | omega | assumption | decide | simp) (by first | omega | assumption | decide | simp) (by first | omega | assumption | decide | simp)).call ?_
    rintro _ rfl
    conv => whnf
    refine both_t rfl ?_
    conv => whnf
    refine (awake_s).call ?_
    rintro _ rfl
    conv => whnf
    refine both_t rfl ?_
    conv => whnf
    refine both_t rfl ?_
    conv => whnf
  · have e0 : a * b / 18446744073709551616 * 18446744073709551616 + a * b % 18446744073709551616 = a * b := by omega
    have hlt : a * b / 18446744073709551616 < b := Int.ediv_lt_of_lt_mul (by decide) (by rw [Int.mul_comm]; exact Int.mul_lt_mul_of_pos_left a1 (by omega))
    have f1 : dvq (a * b / 18446744073709551616) (a * b % 18446744073709551616) b = a := by
      rw [dvq, if_neg hb, if_neg (by omega), e0, Int.mul_ediv_cancel _ hb]
    have f2 : dvr (a * b / 18446744073709551616) (a * b % 18446744073709551616) b = 0 := by
      rw [dvr, if_neg hb, if_neg (by omega), e0, Int.mul_emod_left]
    have f3 : dve (a * b / 18446744073709551616) b = 0 := by rw [dve, if_neg hb, if_neg (by omega)]
    by_cases hh : b ≤ hi
    · have g1 : dve hi b = 2 := by rw [dve, if_neg hb, if_pos hh]
      have g2 : decide (b ≤ hi) = true := by simpa using hh
      conv => whnf
      refine (wmul_s _ _ (by first | omega | assumption | decide | simp) (by first | omega | assumption | decide | simp) (by first | omega | assumption | decide | simp) (by first | omega | assumption | decide | simp)).call ?_
      rintro _ rfl
      conv => whnf
      refine (wdiv_s _ _ _ (by first | omega | assumption | decide | simp) (by first | omega | assumption | decide | simp) (by first | omega | assumption | decide | simp) (by first | omega | assumption | decide | simp) (by first | omega | assumption | decide | simp)).call ?_
      rintro _ rfl
      conv => whnf
      refine both_t (by simp; omega) ?_
      conv => whnf
      refine both_f (by simp; omega) ?_
      conv => whnf
      refine both_f (by simp; omega) ?_
      conv => whnf
      refine both_f (by simp; omega) ?_
      conv => whnf
      refine (wdiv_s _ _ _ (by first | omega | assumption | decide | simp) (by first | omega | assumption | decide | simp) (by first | omega | assumption | decide | simp) (by first | omega | assumption | decide | simp) (by first | omega | assumption | decide | simp)).call ?_
      rintro _ rfl
      conv => whnf
      refine both_t (by simp; omega) ?_
      conv => whnf
      refine (awake_s).call ?_
      rintro _ rfl
      conv => whnf
      refine both_t rfl ?_
      conv => whnf
      refine both_f (by simp; omega) ?_
      conv => whnf
      (simp; omega)
    · have g1 : dve hi b = 0 := by rw [dve, if_neg hb, if_neg hh]
      have q1 := Int.emod_add_mul_ediv (hi * 18446744073709551616 + lo) b
      have q2 := Int.emod_nonneg (hi * 18446744073709551616 + lo) hb
      have q3 := Int.emod_lt_of_pos (hi * 18446744073709551616 + lo) (show 0 < b by omega)
      have q4 : 0 ≤ (hi * 18446744073709551616 + lo) / b := Int.ediv_nonneg (by omega) (by omega)
      have q5 : (hi * 18446744073709551616 + lo) / b < 18446744073709551616 := Int.ediv_lt_of_lt_mul (by omega) (by omega)
      have e1 : dvq hi lo b = (hi * 18446744073709551616 + lo) / b := by rw [dvq, if_neg hb, if_neg hh]
      have e2 : dvr hi lo b = (hi * 18446744073709551616 + lo) % b := by rw [dvr, if_neg hb, if_neg hh]
      rw [← e1] at q1 q4 q5
      rw [← e2] at q1 q2 q3
      rw [Int.mul_comm b] at q1
      have qb := Int.mul_nonneg q4 b0
      have s1 : addHi (dvq hi lo b * b / 18446744073709551616) (dvq hi lo b * b % 18446744073709551616) (dvr hi lo b) = hi := by unfold addHi; omega
      have s2 : addLo (dvq hi lo b * b % 18446744073709551616) (dvr hi lo b) = lo := by unfold addLo; omega
      have s3 : addOv (dvq hi lo b * b / 18446744073709551616) (dvq hi lo b * b % 18446744073709551616) (dvr hi lo b) = false := by unfold addOv; simp only [decide_eq_false_iff_not]; omega
      have q3' : decide (dvr hi lo b < b) = true := by simpa using q3
      conv => whnf
      refine (wmul_s _ _ (by first | omega | assumption | decide | simp) (by first | omega | assumption | decide | simp) (by first | omega | assumption | decide | simp) (by first | omega | assumption | decide | simp)).call ?_
      rintro _ rfl
      conv => whnf
      refine (wdiv_s _ _ _ (by first | omega | assumption | decide | simp) (by first | omega | assumption | decide | simp) (by first | omega | assumption | decide | simp) (by first | omega | assumption | decide | simp) (by first | omega | assumption | decide | simp)).call ?_
      rintro _ rfl
      conv => whnf
      refine both_t (by simp; omega) ?_
      conv => whnf
      refine both_f (by simp; omega) ?_
      conv => whnf
      refine both_f (by simp; omega) ?_
      conv => whnf
      refine both_f (by simp; omega) ?_
      conv => whnf
      refine (wdiv_s _ _ _ (by first | omega | assumption | decide | simp) (by first | omega | assumption | decide | simp) (by first | omega | assumption | decide | simp) (by first | omega | assumption | decide | simp) (by first | omega | assumption | decide | simp)).call ?_
      rintro _ rfl
      conv => whnf
      refine both_f (by simp; omega) ?_
      conv => whnf
      refine (wmul_s _ _ (by first | omega | assumption | decide | simp) (by first | omega | assumption | decide | simp) (by first | omega | assumption | decide | simp) (by first | omega | assumption | decide | simp)).call ?_
      rintro _ rfl
      conv => whnf
      refine (wadd_s _ _ _ (by first | omega | assumption | decide | simp) (by first | omega | assumption | decide | simp) (by first | omega | assumption | decide | simp) (by first | omega | assumption | decide | simp) (by first | omega | assumption | decide | simp)).call ?_
      rintro _ rfl
      conv => whnf
      refine both_t (by simp; omega) ?_
      conv => whnf
      refine both_t (by simp; omega) ?_
      conv => whnf
      refine both_t (by simp; omega) ?_
      conv => whnf
      refine (awake_s).call ?_
      rintro _ rfl
      conv => whnf
end Go.Proofs.Ythlomoacacebeaa

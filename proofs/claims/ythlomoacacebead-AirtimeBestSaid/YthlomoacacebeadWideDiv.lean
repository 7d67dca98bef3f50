/- Contracts of the division of 128 bits, of the program's and the reference's. No statement of the seat is proved here. -/
import Derived.Test.YthlomoacacebeadDiv64
import Derived.Test.YthlomoacacebeadWide
namespace Go.Proofs.Ythlomoacacebead
open Go.Sx
set_option linter.unusedSimpArgs false
set_option linter.unusedVariables false
def dvq (h l d : Int) : Int := if d = 0 then 0 else if d ≤ h then 0 else (h * 18446744073709551616 + l) / d
def dvr (h l d : Int) : Int := if d = 0 then 0 else if d ≤ h then 0 else (h * 18446744073709551616 + l) % d
def dve (h d : Int) : Int := if d = 0 then 3 else if d ≤ h then 2 else 0
theorem wdiv_s (h l d : Int) (h0 : 0 ≤ h) (l0 : 0 ≤ l) (l1 : l < 18446744073709551616) (d0 : 0 ≤ d) (d1 : d < 18446744073709551616) :
    PSpec Try.prog 95 [.agg [.int .u64 h, .int .u64 l], .int .u64 d] (· = .tup [.int .u64 (dvq h l d), .int .u64 (dvr h l d), .int .i64 (dve h d)]) := by
  refine .of_code' tab_ok Try.func95 (by rfl) rfl trivial ?_
  conv => whnf
  refine ⟨fun hh0 => ?_, fun hh0 => ?_⟩
  · simp only [decide_eq_true_eq, decide_eq_false_iff_not] at hh0
    conv => whnf
    simp [dvq, dvr, dve, *]
  · simp only [decide_eq_true_eq, decide_eq_false_iff_not] at hh0
    conv => whnf
    refine ⟨fun hh1 => ?_, fun hh1 => ?_⟩
    · simp only [decide_eq_true_eq, decide_eq_false_iff_not] at hh1
      conv => whnf
      simp [dvq, dvr, dve, *]
    · simp only [decide_eq_true_eq, decide_eq_false_iff_not] at hh1
      conv => whnf
      refine (div64_s _ _ _ (by first | assumption | omega | decide | simp) (by first | assumption | omega | decide | simp) (by first | assumption | omega | decide | simp) (by first | assumption | omega | decide | simp) (by first | assumption | omega | decide | simp)).call ?_
      rintro _ rfl
      conv => whnf
      simp [dvq, dvr, dve, *]
theorem dstep {X Y d b : Int} (hd : 0 < d) (hb0 : 0 ≤ b) (hb1 : b < 2) (h : Y = 2 * X + b) : (2 * (X % d) + b < d → Y % d = 2 * (X % d) + b ∧ Y / d = 2 * (X / d)) ∧ (d ≤ 2 * (X % d) + b → Y % d = 2 * (X % d) + b - d ∧ Y / d = 2 * (X / d) + 1) := by
  have h1 := Int.emod_add_mul_ediv X d
  have h2 := Int.emod_nonneg X (show d ≠ 0 by omega)
  have h3 := Int.emod_lt_of_pos X hd
  generalize X % d = r at *
  generalize X / d = q at *
  refine ⟨fun hlt => ?_, fun hge => ?_⟩
  · have e : Y = (2 * r + b) + d * (2 * q) := by rw [Int.mul_left_comm]; omega
    rw [e, Int.add_mul_ediv_left _ _ (show d ≠ 0 by omega), Int.add_mul_emod_self_left, Int.emod_eq_of_lt (by omega) hlt, Int.ediv_eq_zero_of_lt (by omega) hlt]
    exact ⟨rfl, by omega⟩
  · have e : Y = (2 * r + b - d) + d * (2 * q + 1) := by rw [Int.mul_add, Int.mul_left_comm]; omega
    rw [e, Int.add_mul_ediv_left _ _ (show d ≠ 0 by omega), Int.add_mul_emod_self_left, Int.emod_eq_of_lt (by omega) (by omega), Int.ediv_eq_zero_of_lt (by omega) (by omega)]
    exact ⟨rfl, by omega⟩
end Go.Proofs.Ythlomoacacebead

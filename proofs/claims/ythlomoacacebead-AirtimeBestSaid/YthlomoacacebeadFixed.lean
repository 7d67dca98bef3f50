/- Contracts of package fixed and of its reference. No statement of the seat is proved here. -/
import Derived.Test.YthlomoacacebeadWideDiv
import Derived.Test.YthlomoacacebeadWideCmp
import Derived.Test.YthlomoacacebeadAux
namespace Go.Proofs.Ythlomoacacebead
open Go.Sx
set_option linter.unusedSimpArgs false
set_option linter.unusedVariables false
def ab (a : Int) : Int := if a < 0 then -a else a
theorem ab_fits {a : Int} (h : -9223372036854775808 ≤ a ∧ a ≤ 9223372036854775807) : 0 ≤ ab a ∧ ab a < 18446744073709551616 ∧ ab a ≤ 9223372036854775808 := by unfold ab; split <;> omega
theorem size_s (a : Int) (h : -9223372036854775808 ≤ a ∧ a ≤ 9223372036854775807) : PSpec Try.prog 94 [.int .i64 a] (· = .int .u64 (ab a)) := by
  refine .of_code' tab_ok Try.func94 (by rfl) rfl trivial ?_
  conv => whnf
  refine ⟨fun hh0 => ?_, fun hh0 => ?_⟩
  · simp only [decide_eq_true_eq, decide_eq_false_iff_not] at hh0
    conv => whnf
    (simp only [ab, *, if_true, IntKind.wrap_u64]; congr 1; omega)
  · simp only [decide_eq_true_eq, decide_eq_false_iff_not] at hh0
    conv => whnf
    (simp only [ab, *, if_false, IntKind.wrap_u64]; congr 1; omega)
/-- The number with an absolute value and a sign. -/
def sgv (n : Int) (neg : Bool) : Int := if neg then (if n ≤ 9223372036854775808 then -n else 0) else if n ≤ 9223372036854775807 then n else 0
def sge (n : Int) (neg : Bool) : Int := if neg then (if n ≤ 9223372036854775808 then 0 else 2) else if n ≤ 9223372036854775807 then 0 else 2
theorem neg_conv (n : Int) (h0 : 0 ≤ n) (h1 : n ≤ 9223372036854775808) : IntKind.i64.wrap (IntKind.u64.wrap (0 - n)) = -n := by rw [IntKind.wrap_i64, IntKind.wrap_u64]; omega
theorem signed_s (n : Int) (neg : Bool) (h0 : 0 ≤ n) (h1 : n < 18446744073709551616) : PSpec Try.prog 98 [.int .u64 n, .bool neg] (· = .tup [.int .i64 (sgv n neg), .int .i64 (sge n neg)]) := by
  refine .of_code' tab_ok Try.func98 (by rfl) rfl trivial ?_
  have e1 : n ≤ 9223372036854775808 → IntKind.i64.wrap (IntKind.u64.wrap (0 - n)) = -n := neg_conv n h0
  have e2 : n ≤ 9223372036854775807 → IntKind.i64.wrap n = n := fun h => w64 n (by omega) h
  conv => whnf
  refine ⟨fun hh0 => ?_, fun hh0 => ?_⟩
  · skip
    conv => whnf
    refine ⟨fun hh1 => ?_, fun hh1 => ?_⟩
    · simp only [decide_eq_true_eq, decide_eq_false_iff_not] at hh1
      conv => whnf
      simp_all [sgv, sge]
    · simp only [decide_eq_true_eq, decide_eq_false_iff_not] at hh1
      conv => whnf
      refine both_f (by simp; omega) ?_
      conv => whnf
      (simp_all [sgv, sge]; omega)
  · skip
    conv => whnf
    refine both_t (by simp; omega) ?_
    conv => whnf
    refine ⟨fun hh2 => ?_, fun hh2 => ?_⟩
    · simp only [decide_eq_true_eq, decide_eq_false_iff_not] at hh2
      conv => whnf
      simp_all [sgv, sge]
    · simp only [decide_eq_true_eq, decide_eq_false_iff_not] at hh2
      conv => whnf
      (simp_all [sgv, sge]; omega)
end Go.Proofs.Ythlomoacacebead

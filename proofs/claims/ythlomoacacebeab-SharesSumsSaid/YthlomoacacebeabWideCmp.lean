/- Contracts of the comparisons of package wide. No statement of the seat is proved here. -/
import Derived.Test.YthlomoacacebeabWide
namespace Go.Proofs.Ythlomoacacebeab
open Go.Sx
def cmp2 (x y : Int) : Int := if x < y then -1 else if y < x then 1 else 0
def lessB (a b c d : Int) : Bool := decide (a < c) || (decide (a = c) && decide (b < d))
theorem lessB_iff (a b c d : Int) : lessB a b c d = true ↔ a < c ∨ (a = c ∧ b < d) := by simp [lessB]
theorem wide_lt (u v : Int) : lessB (u / 18446744073709551616) (u % 18446744073709551616) (v / 18446744073709551616) (v % 18446744073709551616) = decide (u < v) := by
  rw [Bool.eq_iff_iff, lessB_iff, decide_eq_true_eq]
  omega
theorem wide_cmp (u v : Int) : (if cmp2 (u / 18446744073709551616) (v / 18446744073709551616) = 0 then cmp2 (u % 18446744073709551616) (v % 18446744073709551616) else cmp2 (u / 18446744073709551616) (v / 18446744073709551616)) = cmp2 u v := by
  unfold cmp2
  by_cases h1 : u < v
  · rw [if_pos h1]
    by_cases h2 : u / 18446744073709551616 < v / 18446744073709551616
    · simp [h2]
    · have e : v / 18446744073709551616 = u / 18446744073709551616 := by omega
      have h3 : u % 18446744073709551616 < v % 18446744073709551616 := by omega
      simp [e, h3]
  · rw [if_neg h1]
    by_cases h2 : v < u
    · rw [if_pos h2]
      by_cases h3 : v / 18446744073709551616 < u / 18446744073709551616
      · have : ¬ u / 18446744073709551616 < v / 18446744073709551616 := by omega
        simp [h3, this]
      · have e : v / 18446744073709551616 = u / 18446744073709551616 := by omega
        have h4 : v % 18446744073709551616 < u % 18446744073709551616 := by omega
        have h5 : ¬ u % 18446744073709551616 < v % 18446744073709551616 := by omega
        simp [e, h4, h5]
    · have : u = v := by omega
      subst this
      simp
theorem rless_s (a b c d : Int) : PSpec Try.prog 84 [.agg [.int .u64 a, .int .u64 b], .agg [.int .u64 c, .int .u64 d]] (· = .bool (lessB a b c d)) := by
  refine .of_code' tab_ok Try.func84 (by rfl) rfl trivial ?_
  conv => whnf
  refine ⟨fun h => ?_, fun h => ?_⟩
  · conv => whnf
    simp only [decide_eq_true_eq] at h
    simp [lessB, h]
  · conv => whnf
    simp only [decide_eq_false_iff_not] at h
    refine ⟨fun h' => ?_, fun h' => ?_⟩
    · conv => whnf
      simp only [decide_eq_true_eq] at h'
      simp [lessB, h']
    · conv => whnf
      simp only [decide_eq_false_iff_not] at h'
      simp [lessB, h, h']
theorem rcross_s (a b c d : Int) (ha : 0 ≤ a ∧ a < 18446744073709551616) (hb : 0 ≤ b ∧ b < 18446744073709551616) (hc : 0 ≤ c ∧ c < 18446744073709551616) (hd : 0 ≤ d ∧ d < 18446744073709551616) :
    PSpec Try.prog 71 [.int .u64 a, .int .u64 b, .int .u64 c, .int .u64 d] (· = .int .i64 (cmp2 (a * b) (c * d))) := by
  refine .of_code' tab_ok Try.func71 (by rfl) rfl trivial ?_
  conv => whnf
  refine (rmul_s a b ha.1 ha.2 hb.1 hb.2).call ?_
  rintro _ rfl
  conv => whnf
  refine (rmul_s c d hc.1 hc.2 hd.1 hd.2).call ?_
  rintro _ rfl
  conv => whnf
  refine (rless_s _ _ _ _).call ?_
  rintro _ rfl
  conv => whnf
  rw [wide_lt]
  refine ⟨fun h => ?_, fun h => ?_⟩
  · conv => whnf
    have h : a * b < c * d := by simpa using h
    simp [cmp2, h]
  · conv => whnf
    have h : ¬ a * b < c * d := by simpa using h
    refine (rless_s _ _ _ _).call ?_
    rintro _ rfl
    conv => whnf
    rw [wide_lt]
    refine ⟨fun h' => ?_, fun h' => ?_⟩
    · conv => whnf
      have h' : c * d < a * b := by simpa using h'
      simp [cmp2, h, h']
    · conv => whnf
      have h' : ¬ c * d < a * b := by simpa using h'
      simp [cmp2, h, h']
end Go.Proofs.Ythlomoacacebeab

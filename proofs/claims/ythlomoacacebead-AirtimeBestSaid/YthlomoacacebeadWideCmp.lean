/- Contracts of the comparisons of package wide. No statement of the seat is proved here. -/
import Derived.Test.YthlomoacacebeadWide
namespace Go.Proofs.Ythlomoacacebead
open Go.Sx
def cmp2 (x y : Int) : Int := if x < y then -1 else if y < x then 1 else 0
def lessB (a b c d : Int) : Bool := decide (a < c) || (decide (a = c) && decide (b < d))
theorem lessB_iff (a b c d : Int) : lessB a b c d = true ↔ a < c ∨ (a = c ∧ b < d) := by simp [lessB]
theorem wide_lt (u v : Int) : lessB (u / 18446744073709551616) (u % 18446744073709551616) (v / 18446744073709551616) (v % 18446744073709551616) = decide (u < v) := by
  rw [Bool.eq_iff_iff, lessB_iff, decide_eq_true_eq]
  omega
theorem wide_cmp (u v : Int) : (if cmp2 (u / 18446744073709551616) (v / 18446744073709551616) = 0 then cmp2 (u % 18446744073709551616) (v % 18446744073709551616) else cmp2 (u / 18446744073709551616) (v / 18446744073709551616)) = cmp2 u v := by
  unfold cmp2
  by_cases h1 : u < v
  · rw [if_pos h1]
    by_cases h2 : u / 18446744073709551616 < v / 18446744073709551616
    · simp [h2]
    · have e : v / 18446744073709551616 = u / 18446744073709551616 := by omega
      have h3 : u % 18446744073709551616 < v % 18446744073709551616 := by omega
      simp [e, h3]
  · rw [if_neg h1]
    by_cases h2 : v < u
    · rw [if_pos h2]
      by_cases h3 : v / 18446744073709551616 < u / 18446744073709551616
      · have : ¬ u / 18446744073709551616 < v / 18446744073709551616 := by omega
        simp [h3, this]
      · have e : v / 18446744073709551616 = u / 18446744073709551616 := by omega
        have h4 : v % 18446744073709551616 < u % 18446744073709551616 := by omega
        have h5 : ¬ u % 18446744073709551616 < v % 18446744073709551616 := by omega
        simp [e, h4, h5]
    · have : u = v := by omega
      subst this
      simp
end Go.Proofs.Ythlomoacacebead

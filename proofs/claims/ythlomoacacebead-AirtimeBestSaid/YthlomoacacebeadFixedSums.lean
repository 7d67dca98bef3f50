/- Contracts of package fixed's sums and of its reference. No statement of the seat is proved here. -/
import Derived.Test.YthlomoacacebeadFixed
namespace Go.Proofs.Ythlomoacacebead
open Go.Sx
set_option linter.unusedSimpArgs false
set_option linter.unusedVariables false
theorem ab_mul (a b : Int) : ab a * ab b = if a * b < 0 then -(a * b) else a * b := by
  unfold ab
  rcases Int.lt_or_le a 0 with h1 | h1 <;> rcases Int.lt_or_le b 0 with h2 | h2
  · have := Int.mul_pos_of_neg_of_neg h1 h2
    rw [if_pos h1, if_pos h2, if_neg (by omega), Int.neg_mul_neg]
  · rw [if_pos h1, if_neg (by omega), Int.neg_mul]
    have := Int.mul_nonpos_of_nonpos_of_nonneg (Int.le_of_lt h1) h2
    split <;> omega
  · rw [if_neg (by omega), if_pos h2, Int.mul_neg]
    have := Int.mul_nonpos_of_nonneg_of_nonpos h1 (Int.le_of_lt h2)
    split <;> omega
  · have := Int.mul_nonneg h1 h2
    rw [if_neg (by omega), if_neg (by omega), if_neg (by omega)]
theorem mul_sign {a b : Int} : (a * b < 0 → (a < 0 ∧ 0 < b) ∨ (0 < a ∧ b < 0)) ∧ (0 < a * b → (a < 0 ∧ b < 0) ∨ (0 < a ∧ 0 < b)) := by
  refine ⟨fun h => ?_, fun h => ?_⟩
  · rcases Int.lt_trichotomy a 0 with h1 | h1 | h1
    · rcases Int.lt_or_le 0 b with h2 | h2
      · exact .inl ⟨h1, h2⟩
      · have := Int.mul_nonneg_of_nonpos_of_nonpos (Int.le_of_lt h1) h2; omega
    · subst h1; simp at h
    · rcases Int.lt_or_le b 0 with h2 | h2
      · exact .inr ⟨h1, h2⟩
      · have := Int.mul_nonneg (Int.le_of_lt h1) h2; omega
  · rcases Int.lt_trichotomy a 0 with h1 | h1 | h1
    · rcases Int.lt_or_le b 0 with h2 | h2
      · exact .inl ⟨h1, h2⟩
      · have := Int.mul_nonpos_of_nonpos_of_nonneg (Int.le_of_lt h1) h2; omega
    · subst h1; simp at h
    · rcases Int.lt_or_le 0 b with h2 | h2
      · exact .inr ⟨h1, h2⟩
      · have := Int.mul_nonpos_of_nonneg_of_nonpos (Int.le_of_lt h1) h2; omega
theorem sg_mul {a b p : Int} (neg : Bool) (hp : p = ab a * ab b) (hn : p ≠ 0 → neg = (!(decide (a < 0) == decide (b < 0)))) (hlt : p < 18446744073709551616) : sgv p neg = fv (a * b) ∧ sge p neg = fe (a * b) := by
  rw [ab_mul] at hp
  obtain ⟨s1, s2⟩ := @mul_sign a b
  by_cases h0 : a * b = 0
  · have : p = 0 := by rw [hp, h0]; rfl
    subst this
    rw [h0]
    cases neg <;> decide
  · have hn := hn (by split at hp <;> omega)
    by_cases h : a * b < 0
    · rw [if_pos h] at hp
      have : neg = true := by rw [hn]; rcases s1 h with h | h <;> simp <;> omega
      subst this
      simp only [sgv, sge, fv, fe, if_true]
      constructor <;> (split <;> split <;> omega)
    · rw [if_neg h] at hp
      have : neg = false := by rw [hn]; rcases s2 (by omega) with h | h <;> simp <;> omega
      subst this
      simp only [sgv, sge, fv, fe, Bool.false_eq_true, if_false]
      constructor <;> (split <;> split <;> omega)
end Go.Proofs.Ythlomoacacebead

/- Contracts of package fixed's sums and of its reference. No statement of the seat is proved here. -/
import Derived.Test.YthlomoacacebeaaFixed
namespace Go.Proofs.Ythlomoacacebeaa
open Go.Sx
set_option linter.unusedSimpArgs false
set_option linter.unusedVariables false
theorem fadd_s (a b : Int) (ha : -9223372036854775808 ≤ a ∧ a ≤ 9223372036854775807) (hb : -9223372036854775808 ≤ b ∧ b ≤ 9223372036854775807) : PSpec Try.prog 54 [.int .i64 a, .int .i64 b] (· = .tup [.int .i64 (fv (a + b)), .int .i64 (fe (a + b))]) := by
  refine .of_code' tab_ok Try.func54 (by rfl) rfl trivial ?_
  conv => whnf
  refine ⟨fun hh0 => ?_, fun hh0 => ?_⟩
  · simp only [decide_eq_true_eq, decide_eq_false_iff_not, Bool.not_eq_true, Bool.not_eq_false, Bool.not_eq_true', Bool.not_eq_false', Bool.and_eq_true, Bool.and_eq_false_iff, Int.not_lt, Int.not_le, Decidable.not_not, beq_iff_eq, Bool.not_eq_eq_eq_not, Bool.not_true, Bool.not_false, beq_eq_false_iff_ne, ne_eq, decide_eq_decide] at hh0
    conv => whnf
    (simp only [IntKind.wrap_i64] at *; refine tup_ii ?_ ?_ <;> (simp only [fv, fe]; split <;> omega))
  · simp only [decide_eq_true_eq, decide_eq_false_iff_not, Bool.not_eq_true, Bool.not_eq_false, Bool.not_eq_true', Bool.not_eq_false', Bool.and_eq_true, Bool.and_eq_false_iff, Int.not_lt, Int.not_le, Decidable.not_not, beq_iff_eq, Bool.not_eq_eq_eq_not, Bool.not_true, Bool.not_false, beq_eq_false_iff_ne, ne_eq, decide_eq_decide] at hh0
    conv => whnf
    (simp only [IntKind.wrap_i64] at *; refine tup_ii ?_ ?_ <;> (simp only [fv, fe]; split <;> omega))
theorem radd64_s (a b : Int) (ha : -9223372036854775808 ≤ a ∧ a ≤ 9223372036854775807) (hb : -9223372036854775808 ≤ b ∧ b ≤ 9223372036854775807) : PSpec Try.prog 55 [.int .i64 a, .int .i64 b] (· = .tup [.int .i64 (fv (a + b)), .int .i64 (fe (a + b))]) := by
  refine .of_code' tab_ok Try.func55 (by rfl) rfl trivial ?_
  conv => whnf
  refine ⟨fun hh0 => ?_, fun hh0 => ?_⟩
  · simp only [decide_eq_true_eq, decide_eq_false_iff_not] at hh0
    conv => whnf
    refine ⟨fun hh1 => ?_, fun hh1 => ?_⟩
    · simp only [decide_eq_true_eq, decide_eq_false_iff_not] at hh1
      conv => whnf
      refine ⟨fun hh2 => ?_, fun hh2 => ?_⟩
      · simp only [decide_eq_true_eq, decide_eq_false_iff_not] at hh2
        conv => whnf
        (simp only [IntKind.wrap_i64] at *; refine tup_ii ?_ ?_ <;> (simp only [fv, fe]; split <;> omega))
      · simp only [decide_eq_true_eq, decide_eq_false_iff_not] at hh2
        conv => whnf
        refine both_f (by simp; omega) ?_
        conv => whnf
        (simp only [IntKind.wrap_i64] at *; refine tup_ii ?_ ?_ <;> (simp only [fv, fe]; split <;> omega))
    · simp only [decide_eq_true_eq, decide_eq_false_iff_not] at hh1
      conv => whnf
      refine both_f (by simp; omega) ?_
      conv => whnf
      (simp only [IntKind.wrap_i64] at *; refine tup_ii ?_ ?_ <;> (simp only [fv, fe]; split <;> omega))
  · simp only [decide_eq_true_eq, decide_eq_false_iff_not] at hh0
    conv => whnf
    refine both_t (by simp; omega) ?_
    conv => whnf
    refine ⟨fun hh3 => ?_, fun hh3 => ?_⟩
    · simp only [decide_eq_true_eq, decide_eq_false_iff_not] at hh3
      conv => whnf
      refine ⟨fun hh4 => ?_, fun hh4 => ?_⟩
      · simp only [decide_eq_true_eq, decide_eq_false_iff_not] at hh4
        conv => whnf
        (simp only [IntKind.wrap_i64] at *; refine tup_ii ?_ ?_ <;> (simp only [fv, fe]; split <;> omega))
      · simp only [decide_eq_true_eq, decide_eq_false_iff_not] at hh4
        conv => whnf
        (simp only [IntKind.wrap_i64] at *; refine tup_ii ?_ ?_ <;> (simp only [fv, fe]; split <;> omega))
    · simp only [decide_eq_true_eq, decide_eq_false_iff_not] at hh3
      conv => whnf
      (simp only [IntKind.wrap_i64] at *; refine tup_ii ?_ ?_ <;> (simp only [fv, fe]; split <;> omega))
theorem fsub_s (a b : Int) (ha : -9223372036854775808 ≤ a ∧ a ≤ 9223372036854775807) (hb : -9223372036854775808 ≤ b ∧ b ≤ 9223372036854775807) : PSpec Try.prog 56 [.int .i64 a, .int .i64 b] (· = .tup [.int .i64 (fv (a - b)), .int .i64 (fe (a - b))]) := by
  refine .of_code' tab_ok Try.func56 (by rfl) rfl trivial ?_
  conv => whnf
  refine ⟨fun hh0 => ?_, fun hh0 => ?_⟩
  · simp only [decide_eq_true_eq, decide_eq_false_iff_not, Bool.not_eq_true, Bool.not_eq_false, Bool.not_eq_true', Bool.not_eq_false', Bool.and_eq_true, Bool.and_eq_false_iff, Int.not_lt, Int.not_le, Decidable.not_not, beq_iff_eq, Bool.not_eq_eq_eq_not, Bool.not_true, Bool.not_false, beq_eq_false_iff_ne, ne_eq, decide_eq_decide] at hh0
    conv => whnf
    (simp only [IntKind.wrap_i64] at *; refine tup_ii ?_ ?_ <;> (simp only [fv, fe]; split <;> omega))
  · simp only [decide_eq_true_eq, decide_eq_false_iff_not, Bool.not_eq_true, Bool.not_eq_false, Bool.not_eq_true', Bool.not_eq_false', Bool.and_eq_true, Bool.and_eq_false_iff, Int.not_lt, Int.not_le, Decidable.not_not, beq_iff_eq, Bool.not_eq_eq_eq_not, Bool.not_true, Bool.not_false, beq_eq_false_iff_ne, ne_eq, decide_eq_decide] at hh0
    conv => whnf
    (simp only [IntKind.wrap_i64] at *; refine tup_ii ?_ ?_ <;> (simp only [fv, fe]; split <;> omega))
theorem rsub64_s (a b : Int) (ha : -9223372036854775808 ≤ a ∧ a ≤ 9223372036854775807) (hb : -9223372036854775808 ≤ b ∧ b ≤ 9223372036854775807) : PSpec Try.prog 57 [.int .i64 a, .int .i64 b] (· = .tup [.int .i64 (fv (a - b)), .int .i64 (fe (a - b))]) := by
  refine .of_code' tab_ok Try.func57 (by rfl) rfl trivial ?_
  conv => whnf
  refine ⟨fun hh0 => ?_, fun hh0 => ?_⟩
  · simp only [decide_eq_true_eq, decide_eq_false_iff_not] at hh0
    conv => whnf
    refine ⟨fun hh1 => ?_, fun hh1 => ?_⟩
    · simp only [decide_eq_true_eq, decide_eq_false_iff_not] at hh1
      conv => whnf
      refine ⟨fun hh2 => ?_, fun hh2 => ?_⟩
      · simp only [decide_eq_true_eq, decide_eq_false_iff_not] at hh2
        conv => whnf
        (simp only [IntKind.wrap_i64] at *; refine tup_ii ?_ ?_ <;> (simp only [fv, fe]; split <;> omega))
      · simp only [decide_eq_true_eq, decide_eq_false_iff_not] at hh2
        conv => whnf
        refine both_f (by simp; omega) ?_
        conv => whnf
        (simp only [IntKind.wrap_i64] at *; refine tup_ii ?_ ?_ <;> (simp only [fv, fe]; split <;> omega))
    · simp only [decide_eq_true_eq, decide_eq_false_iff_not] at hh1
      conv => whnf
      refine both_f (by simp; omega) ?_
      conv => whnf
      (simp only [IntKind.wrap_i64] at *; refine tup_ii ?_ ?_ <;> (simp only [fv, fe]; split <;> omega))
  · simp only [decide_eq_true_eq, decide_eq_false_iff_not] at hh0
    conv => whnf
    refine both_t (by simp; omega) ?_
    conv => whnf
    refine ⟨fun hh3 => ?_, fun hh3 => ?_⟩
    · simp only [decide_eq_true_eq, decide_eq_false_iff_not] at hh3
      conv => whnf
      refine ⟨fun hh4 => ?_, fun hh4 => ?_⟩
      · simp only [decide_eq_true_eq, decide_eq_false_iff_not] at hh4
        conv => whnf
        (simp only [IntKind.wrap_i64] at *; refine tup_ii ?_ ?_ <;> (simp only [fv, fe]; split <;> omega))
      · simp only [decide_eq_true_eq, decide_eq_false_iff_not] at hh4
        conv => whnf
        (simp only [IntKind.wrap_i64] at *; refine tup_ii ?_ ?_ <;> (simp only [fv, fe]; split <;> omega))
    · simp only [decide_eq_true_eq, decide_eq_false_iff_not] at hh3
      conv => whnf
      (simp only [IntKind.wrap_i64] at *; refine tup_ii ?_ ?_ <;> (simp only [fv, fe]; split <;> omega))
theorem ab_mul (a b : Int) : ab a * ab b = if a * b < 0 then -(a * b) else a * b := by
  unfold ab
  rcases Int.lt_or_le a 0 with h1 | h1 <;> rcases Int.lt_or_le b 0 with h2 | h2
  · have := Int.mul_pos_of_neg_of_neg h1 h2
    rw [if_pos h1, if_pos h2, if_neg (by omega), Int.neg_mul_neg]
  · rw [if_pos h1, if_neg (by omega), Int.neg_mul]
    have := Int.mul_nonpos_of_nonpos_of_nonneg (Int.le_of_lt h1) h2
    split <;> omega
  · rw [if_neg (by omega), if_pos h2, Int.mul_neg]
    have := Int.mul_nonpos_of_nonneg_of_nonpos h1 (Int.le_of_lt h2)
    split <;> omega
  · have := Int.mul_nonneg h1 h2
    rw [if_neg (by omega), if_neg (by omega), if_neg (by omega)]
theorem mul_sign {a b : Int} : (a * b < 0 → (a < 0 ∧ 0 < b) ∨ (0 < a ∧ b < 0)) ∧ (0 < a * b → (a < 0 ∧ b < 0) ∨ (0 < a ∧ 0 < b)) := by
  refine ⟨fun h => ?_, fun h => ?_⟩
  · rcases Int.lt_trichotomy a 0 with h1 | h1 | h1
    · rcases Int.lt_or_le 0 b with h2 | h2
      · exact .inl ⟨h1, h2⟩
      · have := Int.mul_nonneg_of_nonpos_of_nonpos (Int.le_of_lt h1) h2; omega
    · subst h1; simp at h
    · rcases Int.lt_or_le b 0 with h2 | h2
      · exact .inr ⟨h1, h2⟩
      · have := Int.mul_nonneg (Int.le_of_lt h1) h2; omega
  · rcases Int.lt_trichotomy a 0 with h1 | h1 | h1
    · rcases Int.lt_or_le b 0 with h2 | h2
      · exact .inl ⟨h1, h2⟩
      · have := Int.mul_nonpos_of_nonpos_of_nonneg (Int.le_of_lt h1) h2; omega
    · subst h1; simp at h
    · rcases Int.lt_or_le 0 b with h2 | h2
      · exact .inr ⟨h1, h2⟩
      · have := Int.mul_nonpos_of_nonneg_of_nonpos (Int.le_of_lt h1) h2; omega
theorem sg_mul {a b p : Int} (neg : Bool) (hp : p = ab a * ab b) (hn : p ≠ 0 → neg = (!(decide (a < 0) == decide (b < 0)))) (hlt : p < 18446744073709551616) : sgv p neg = fv (a * b) ∧ sge p neg = fe (a * b) := by
  rw [ab_mul] at hp
  obtain ⟨s1, s2⟩ := @mul_sign a b
  by_cases h0 : a * b = 0
  · have : p = 0 := by rw [hp, h0]; rfl
    subst this
    rw [h0]
    cases neg <;> decide
  · have hn := hn (by split at hp <;> omega)
    by_cases h : a * b < 0
    · rw [if_pos h] at hp
      have : neg = true := by rw [hn]; rcases s1 h with h | h <;> simp <;> omega
      subst this
      simp only [sgv, sge, fv, fe, if_true]
      constructor <;> (split <;> split <;> omega)
    · rw [if_neg h] at hp
      have : neg = false := by rw [hn]; rcases s2 (by omega) with h | h <;> simp <;> omega
      subst this
      simp only [sgv, sge, fv, fe, Bool.false_eq_true, if_false]
      constructor <;> (split <;> split <;> omega)
theorem fmul_s (a b : Int) (ha : -9223372036854775808 ≤ a ∧ a ≤ 9223372036854775807) (hb : -9223372036854775808 ≤ b ∧ b ≤ 9223372036854775807) : PSpec Try.prog 58 [.int .i64 a, .int .i64 b] (· = .tup [.int .i64 (fv (a * b)), .int .i64 (fe (a * b))]) := by
  refine .of_code' tab_ok Try.func58 (by rfl) rfl trivial ?_
  obtain ⟨p0, p1, p2⟩ := ab_fits ha
  obtain ⟨q0, q1, q2⟩ := ab_fits hb
  have m0 := Int.mul_nonneg p0 q0
  have m1 := ab_mul a b
  have k1 : ab a * ab b / 18446744073709551616 > 0 → fv (a * b) = 0 ∧ fe (a * b) = 2 := by
    intro h; unfold fv fe; split at m1 <;> (constructor <;> (split <;> omega))
  have k2 : ¬ ab a * ab b / 18446744073709551616 > 0 → sgv (ab a * ab b % 18446744073709551616) (!(decide (a < 0) == decide (b < 0))) = fv (a * b) ∧ sge (ab a * ab b % 18446744073709551616) (!(decide (a < 0) == decide (b < 0))) = fe (a * b) := by
    intro h
    have e : ab a * ab b % 18446744073709551616 = ab a * ab b := by omega
    rw [e]
    exact sg_mul _ rfl (fun _ => rfl) (by omega)
  conv => whnf
  refine (size_s _ (by first | omega | assumption | decide | simp)).call ?_
  rintro _ rfl
  conv => whnf
  refine (size_s _ (by first | omega | assumption | decide | simp)).call ?_
  rintro _ rfl
  conv => whnf
  refine (wmul_s _ _ (by first | omega | assumption | decide | simp) (by first | omega | assumption | decide | simp) (by first | omega | assumption | decide | simp) (by first | omega | assumption | decide | simp)).call ?_
  rintro _ rfl
  conv => whnf
  refine ⟨fun hh30 => ?_, fun hh30 => ?_⟩
  · simp only [decide_eq_true_eq, decide_eq_false_iff_not] at hh30
    conv => whnf
    (rw [(k1 (by omega)).1, (k1 (by omega)).2])
  · simp only [decide_eq_true_eq, decide_eq_false_iff_not] at hh30
    conv => whnf
    refine (signed_s _ _ (by first | omega | assumption | decide | simp) (by first | omega | assumption | decide | simp)).call ?_
    rintro _ rfl
    conv => whnf
    (rw [(k2 (by omega)).1, (k2 (by omega)).2])
theorem rmul64_s (a b : Int) (ha : -9223372036854775808 ≤ a ∧ a ≤ 9223372036854775807) (hb : -9223372036854775808 ≤ b ∧ b ≤ 9223372036854775807) : PSpec Try.prog 59 [.int .i64 a, .int .i64 b] (· = .tup [.int .i64 (fv (a * b)), .int .i64 (fe (a * b))]) := by
  refine .of_code' tab_ok Try.func59 (by rfl) rfl trivial ?_
  obtain ⟨p0, p1, p2⟩ := ab_fits ha
  obtain ⟨q0, q1, q2⟩ := ab_fits hb
  have m0 := Int.mul_nonneg p0 q0
  have m1 := ab_mul a b
  have k1 : ab a * ab b / 18446744073709551616 > 0 → fv (a * b) = 0 ∧ fe (a * b) = 2 := by
    intro h; unfold fv fe; split at m1 <;> (constructor <;> (split <;> omega))
  have k2 : ¬ ab a * ab b / 18446744073709551616 > 0 → ∀ neg, (ab a * ab b % 18446744073709551616 ≠ 0 → neg = (!(decide (a < 0) == decide (b < 0)))) → sgv (ab a * ab b % 18446744073709551616) neg = fv (a * b) ∧ sge (ab a * ab b % 18446744073709551616) neg = fe (a * b) := by
    intro h neg hn
    have e : ab a * ab b % 18446744073709551616 = ab a * ab b := by omega
    rw [e] at hn ⊢
    exact sg_mul _ rfl hn (by omega)
  conv => whnf
  refine (abs_s _ (by first | omega | assumption | decide | simp)).call ?_
  rintro _ rfl
  conv => whnf
  refine (abs_s _ (by first | omega | assumption | decide | simp)).call ?_
  rintro _ rfl
  conv => whnf
  refine (rmul_s _ _ (by first | omega | assumption | decide | simp) (by first | omega | assumption | decide | simp) (by first | omega | assumption | decide | simp) (by first | omega | assumption | decide | simp)).call ?_
  rintro _ rfl
  conv => whnf
  refine ⟨fun hh30 => ?_, fun hh30 => ?_⟩
  · simp only [decide_eq_true_eq, decide_eq_false_iff_not] at hh30
    conv => whnf
    (rw [(k1 (by omega)).1, (k1 (by omega)).2])
  · simp only [decide_eq_true_eq, decide_eq_false_iff_not] at hh30
    conv => whnf
    refine ⟨fun hh31 => ?_, fun hh31 => ?_⟩
    · simp only [decide_eq_true_eq, decide_eq_false_iff_not, Bool.not_eq_true, Bool.not_eq_false, Bool.not_eq_true', Bool.not_eq_false', Bool.and_eq_true, Bool.and_eq_false_iff, Int.not_lt, Int.not_le, Decidable.not_not, beq_iff_eq, Bool.not_eq_eq_eq_not, Bool.not_true, Bool.not_false, beq_eq_false_iff_ne, ne_eq, decide_eq_decide] at hh31
      conv => whnf
      refine (rsigned_s _ _ (by first | omega | assumption | decide | simp) (by first | omega | assumption | decide | simp)).call ?_
      rintro _ rfl
      conv => whnf
      (have k3 := k2 (by omega) (decide (0 < ab a * ab b % 18446744073709551616)) (fun hm => by have h0 : 0 < ab a * ab b % 18446744073709551616 := (by omega); simp only [h0, decide_true]; symm; simp; omega); rw [k3.1, k3.2])
    · simp only [decide_eq_true_eq, decide_eq_false_iff_not, Bool.not_eq_true, Bool.not_eq_false, Bool.not_eq_true', Bool.not_eq_false', Bool.and_eq_true, Bool.and_eq_false_iff, Int.not_lt, Int.not_le, Decidable.not_not, beq_iff_eq, Bool.not_eq_eq_eq_not, Bool.not_true, Bool.not_false, beq_eq_false_iff_ne, ne_eq, decide_eq_decide] at hh31
      conv => whnf
      refine PSpec.call (PSpec.argB (rsigned_s _ _ (by first | omega | assumption | decide | simp) (by first | omega | assumption | decide | simp))) ?_
      rintro _ rfl
      conv => whnf
      (have k3 := k2 (by omega) false (fun hm => by simp; omega); rw [k3.1, k3.2])
end Go.Proofs.Ythlomoacacebeaa

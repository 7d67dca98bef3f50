/- Contracts of package airtime and of its reference. No statement of the seat is proved here. -/
import Derived.Test.YthlomoacacebeadGenW
import Derived.Test.YthlomoacacebeadMulDiv
namespace Go.Proofs.Ythlomoacacebead
open Go.Sx
set_option linter.unusedSimpArgs false
set_option linter.unusedVariables false
abbrev rtE (k o : Int) : SV := .agg [.int .i64 k, .int .i64 o]
def rtOk (k o : Int) : Bool := decide (1 ≤ k) && decide (k ≤ 10000000) && decide (0 ≤ o) && decide (o ≤ 100000)
theorem rtOk_iff (k o : Int) : rtOk k o = true ↔ (1 ≤ k ∧ k ≤ 10000000) ∧ 0 ≤ o ∧ o ≤ 100000 := by simp [rtOk]; omega
theorem rtOk_not (k o : Int) : rtOk k o = false ↔ ¬ ((1 ≤ k ∧ k ≤ 10000000) ∧ 0 ≤ o ∧ o ≤ 100000) := by rw [← rtOk_iff]; simp
theorem avalid_s (k o : Int) : PSpec Try.prog 76 [rtE k o] (· = .bool (rtOk k o)) := by
  refine .of_code' tab_ok Try.func76 (by rfl) rfl trivial ?_
  conv => whnf
  refine ⟨fun hh0 => ?_, fun hh0 => ?_⟩
  · simp only [decide_eq_true_eq, decide_eq_false_iff_not] at hh0
    conv => whnf
    refine ⟨fun hh1 => ?_, fun hh1 => ?_⟩
    · simp only [decide_eq_true_eq, decide_eq_false_iff_not] at hh1
      conv => whnf
      refine ⟨fun hh2 => ?_, fun hh2 => ?_⟩
      · simp only [decide_eq_true_eq, decide_eq_false_iff_not] at hh2
        conv => whnf
        simp [rtOk, *]
      · simp only [decide_eq_true_eq, decide_eq_false_iff_not] at hh2
        conv => whnf
        simp [rtOk, *]
    · simp only [decide_eq_true_eq, decide_eq_false_iff_not] at hh1
      conv => whnf
      simp [rtOk, *]
  · simp only [decide_eq_true_eq, decide_eq_false_iff_not] at hh0
    conv => whnf
    simp [rtOk, *]
theorem rvalid_s (k o : Int) : PSpec Try.prog 77 [rtE k o] (· = .bool (rtOk k o)) := by
  refine .of_code' tab_ok Try.func77 (by rfl) rfl trivial ?_
  conv => whnf
  refine ⟨fun hh0 => ?_, fun hh0 => ?_⟩
  · simp only [decide_eq_true_eq, decide_eq_false_iff_not] at hh0
    conv => whnf
    refine ⟨fun hh1 => ?_, fun hh1 => ?_⟩
    · simp only [decide_eq_true_eq, decide_eq_false_iff_not] at hh1
      conv => whnf
      refine ⟨fun hh2 => ?_, fun hh2 => ?_⟩
      · simp only [decide_eq_true_eq, decide_eq_false_iff_not] at hh2
        conv => whnf
        simp [rtOk, *]
      · simp only [decide_eq_true_eq, decide_eq_false_iff_not] at hh2
        conv => whnf
        simp [rtOk, *]
    · simp only [decide_eq_true_eq, decide_eq_false_iff_not] at hh1
      conv => whnf
      simp [rtOk, *]
  · simp only [decide_eq_true_eq, decide_eq_false_iff_not] at hh0
    conv => whnf
    simp [rtOk, *]
/-! ### MulDiv of numbers that are not negative -/
theorem ceil_q {x k : Int} (hk : 0 < k) : x / k + (if 0 < x % k then 1 else 0) = (x + k - 1) / k := by
  have e := Int.mul_ediv_add_emod x k
  have m0 := Int.emod_nonneg x (b := k) (by omega)
  have m1 := Int.emod_lt_of_pos x hk
  split
  · symm; rw [show x + k - 1 = (x % k - 1) + k * (x / k + 1) by rw [Int.mul_add]; omega, Int.add_mul_ediv_left _ _ (by omega), Int.ediv_eq_zero_of_lt (by omega) (by omega)]; omega
  · symm; rw [show x + k - 1 = (k - 1) + k * (x / k) by omega, Int.add_mul_ediv_left _ _ (by omega), Int.ediv_eq_zero_of_lt (by omega) (by omega)]; omega
theorem md_lo {a b c : Int} (ha : 0 ≤ a) (hb : 0 ≤ b) (hc : 0 < c) (hq : a * b / c < 4611686018427387904) :
    mdv a b c 0 = a * b / c ∧ mde a b c 0 = 0 ∧ mdv a b c 1 = (a * b + c - 1) / c ∧ mde a b c 1 = 0 := by
  have e1 : ab a = a := by unfold ab; rw [if_neg (by omega)]
  have e2 : ab b = b := by unfold ab; rw [if_neg (by omega)]
  have e3 : ab c = c := by unfold ab; rw [if_neg (by omega)]
  have es : sg3 a b c = false := by unfold sg3; rw [decide_eq_false (by omega), decide_eq_false (by omega), decide_eq_false (by omega)]; rfl
  have p0 : 0 ≤ a * b := Int.mul_nonneg ha hb
  have q0 : 0 ≤ a * b / c := Int.ediv_nonneg p0 (by omega)
  have hlt : a * b < 4611686018427387904 * c := (Int.ediv_lt_iff_lt_mul hc).1 hq
  have hn : ¬ c ≤ a * b / 18446744073709551616 := by omega
  have k0 : mdq a b c 0 = a * b / c := by unfold mdq awy; rw [e1, e2, e3, es]; simp
  have k1 : mdq a b c 1 = (a * b + c - 1) / c := by rw [← ceil_q hc]; unfold mdq awy; rw [e1, e2, e3, es]; simp
  have hr : (a * b + c - 1) / c ≤ a * b / c + 1 := by rw [← ceil_q hc]; split <;> omega
  have hr0 : 0 ≤ (a * b + c - 1) / c := Int.ediv_nonneg (by omega) (by omega)
  refine ⟨?_, ?_, ?_, ?_⟩
  · unfold mdv; rw [e1, e2, e3, k0, es, if_neg (by omega), if_neg (by omega), if_neg hn, if_neg (by omega)]; unfold sgv; simp; omega
  · unfold mde; rw [e1, e2, e3, k0, es, if_neg (by omega), if_neg (by omega), if_neg hn, if_neg (by omega)]; unfold sge; simp; omega
  · unfold mdv; rw [e1, e2, e3, k1, es, if_neg (by omega), if_neg (by omega), if_neg hn, if_neg (by omega)]; unfold sgv; simp; omega
  · unfold mde; rw [e1, e2, e3, k1, es, if_neg (by omega), if_neg (by omega), if_neg hn, if_neg (by omega)]; unfold sge; simp; omega
theorem md_hi0 {a b c : Int} (ha : 0 ≤ a) (hb : 0 ≤ b) (hc : 0 < c) (hq : 4611686018427387904 ≤ a * b / c) : mde a b c 0 ≠ 0 ∨ 4611686018427387904 ≤ mdv a b c 0 := by
  have e1 : ab a = a := by unfold ab; rw [if_neg (by omega)]
  have e2 : ab b = b := by unfold ab; rw [if_neg (by omega)]
  have e3 : ab c = c := by unfold ab; rw [if_neg (by omega)]
  have es : sg3 a b c = false := by unfold sg3; rw [decide_eq_false (by omega), decide_eq_false (by omega), decide_eq_false (by omega)]; rfl
  have k0 : mdq a b c 0 = a * b / c := by unfold mdq awy; rw [e1, e2, e3, es]; simp
  by_cases h1 : c ≤ a * b / 18446744073709551616
  · left; unfold mde; rw [e1, e2, e3, if_neg (by omega), if_neg (by omega), if_pos h1]; decide
  · by_cases h2 : a * b / c = 18446744073709551616
    · left; unfold mde; rw [e1, e2, e3, k0, if_neg (by omega), if_neg (by omega), if_neg h1, if_pos h2]; decide
    · by_cases h3 : a * b / c ≤ 9223372036854775807
      · right; unfold mdv; rw [e1, e2, e3, k0, es, if_neg (by omega), if_neg (by omega), if_neg h1, if_neg h2]; unfold sgv; rw [if_neg (by decide), if_pos h3]; exact hq
      · left; unfold mde; rw [e1, e2, e3, k0, es, if_neg (by omega), if_neg (by omega), if_neg h1, if_neg h2]; unfold sge; rw [if_neg (by decide), if_neg h3]; decide
/-! ### Time -/
def tmO (k o b : Int) : Bool := rtOk k o && decide (0 ≤ b) && decide (b ≤ 262144)
theorem tmO_iff (k o b : Int) : tmO k o b = true ↔ ((1 ≤ k ∧ k ≤ 10000000) ∧ 0 ≤ o ∧ o ≤ 100000) ∧ 0 ≤ b ∧ b ≤ 262144 := by simp [tmO, rtOk_iff]; omega
def tmq (k o b : Int) : Int := o + (8000 * b + k - 1) / k
def tmv (k o b : Int) : Int := if tmO k o b = true then tmq k o b else 0
def tme (k o b : Int) : Int := if tmO k o b = true then 0 else 1
theorem tm_yes {k o b : Int} (h : tmO k o b = true) : tmv k o b = tmq k o b ∧ tme k o b = 0 := by simp [tmv, tme, h]
theorem tm_no {k o b : Int} (h : tmO k o b = false) : tmv k o b = 0 ∧ tme k o b = 1 := by simp [tmv, tme, h]
theorem tmq_rng {k o b : Int} (h : tmO k o b = true) : o ≤ tmq k o b ∧ tmq k o b ≤ 2097352000 ∧ 0 ≤ (8000 * b + k - 1) / k ∧ (8000 * b + k - 1) / k ≤ 2097152000 ∧ 8000 * b / k ≤ 2097152000 := by
  obtain ⟨⟨⟨h1, h2⟩, h3, h4⟩, h5, h6⟩ := (tmO_iff k o b).1 h
  have a0 : 0 ≤ (8000 * b + k - 1) / k := Int.ediv_nonneg (by omega) (by omega)
  have a1 : (8000 * b + k - 1) / k ≤ 8000 * b := by
    have : (8000 * b + k - 1) / k < 8000 * b + 1 := (Int.ediv_lt_iff_lt_mul (by omega)).2 (by
      have : 8000 * b * 1 ≤ 8000 * b * k := Int.mul_le_mul_of_nonneg_left h1 (by omega)
      rw [Int.add_mul]; omega)
    omega
  have a2 : 8000 * b / k ≤ 8000 * b := Int.ediv_le_self _ (by omega)
  unfold tmq; omega
theorem time_s (k o b : Int) : PSpec Try.prog 42 [rtE k o, .int .i64 b] (· = .tup [.int .i64 (tmv k o b), .int .i64 (tme k o b)]) := by
  refine .of_code' tab_ok Try.func42 (by rfl) rfl trivial ?_
  by_cases h : tmO k o b = true
  · obtain ⟨t1, t2⟩ := tm_yes h
    obtain ⟨g1, g2, g3, g4, g5⟩ := tmq_rng h
    obtain ⟨h1, h2, h3⟩ := (tmO_iff k o b).1 h
    have hv := (rtOk_iff k o).2 h1
    obtain ⟨m1, m2, m3, m4⟩ := md_lo (a := 8000) (b := b) (c := k) (by omega) (by omega) (by omega) (by omega)
    have e : IntKind.i64.wrap (mdv 8000 b k 1 + o) = tmq k o b := by rw [m3, w64 _ (by omega) (by omega)]; unfold tmq; omega
    conv => whnf
    refine (avalid_s _ _).call ?_
    rintro _ rfl
    conv => whnf
    refine both_f (by simp; omega) ?_
    conv => whnf
    refine both_f (by simp; omega) ?_
    conv => whnf
    refine both_f (by simp; omega) ?_
    conv => whnf
    refine (muldiv_s _ _ _ _ (by first | omega | assumption | decide | simp) (by first | omega | assumption | decide | simp) (by first | omega | assumption | decide | simp)).call ?_
    rintro _ rfl
    conv => whnf
    exact tup_ii (e.trans t1.symm) t2.symm
  · have h : tmO k o b = false := by simpa using h
    obtain ⟨t1, t2⟩ := tm_no h
    have hn : rtOk k o = true → 0 ≤ b → b ≤ 262144 → False := fun p q r => by simp [tmO, p, q, r] at h
    conv => whnf
    refine (avalid_s _ _).call ?_
    rintro _ rfl
    conv => whnf
    refine ⟨fun hh10 => ?_, fun hh10 => ?_⟩
    · simp only [decide_eq_true_eq, decide_eq_false_iff_not, Bool.not_eq_true, Bool.not_eq_false, Bool.not_eq_true', Bool.not_eq_false', Bool.and_eq_true, Bool.and_eq_false_iff, Int.not_lt, Int.not_le, Decidable.not_not, beq_iff_eq, Bool.not_eq_eq_eq_not, Bool.not_true, Bool.not_false, beq_eq_false_iff_ne, ne_eq, decide_eq_decide] at hh10
      conv => whnf
      exact tup_ii t1.symm t2.symm
    · simp only [decide_eq_true_eq, decide_eq_false_iff_not, Bool.not_eq_true, Bool.not_eq_false, Bool.not_eq_true', Bool.not_eq_false', Bool.and_eq_true, Bool.and_eq_false_iff, Int.not_lt, Int.not_le, Decidable.not_not, beq_iff_eq, Bool.not_eq_eq_eq_not, Bool.not_true, Bool.not_false, beq_eq_false_iff_ne, ne_eq, decide_eq_decide] at hh10
      conv => whnf
      refine ⟨fun hh11 => ?_, fun hh11 => ?_⟩
      · simp only [decide_eq_true_eq, decide_eq_false_iff_not] at hh11
        conv => whnf
        exact tup_ii t1.symm t2.symm
      · simp only [decide_eq_true_eq, decide_eq_false_iff_not] at hh11
        conv => whnf
        refine ⟨fun hh12 => ?_, fun hh12 => ?_⟩
        · simp only [decide_eq_true_eq, decide_eq_false_iff_not] at hh12
          conv => whnf
          exact tup_ii t1.symm t2.symm
        · simp only [decide_eq_true_eq, decide_eq_false_iff_not] at hh12
          conv => whnf
          exact (hn (by first | assumption | simp_all) (by omega) (by omega)).elim
theorem rtime_s (k o b : Int) : PSpec Try.prog 73 [rtE k o, .int .i64 b] (· = .tup [.int .i64 (tmv k o b), .int .i64 (tme k o b)]) := by
  refine .of_code' tab_ok Try.func73 (by rfl) rfl trivial ?_
  by_cases h : tmO k o b = true
  · obtain ⟨t1, t2⟩ := tm_yes h
    obtain ⟨g1, g2, g3, g4, g5⟩ := tmq_rng h
    obtain ⟨h1, h2, h3⟩ := (tmO_iff k o b).1 h
    have hv := (rtOk_iff k o).2 h1
    have ed : Int.tdiv (8000 * b + k - 1) k = (8000 * b + k - 1) / k := Int.tdiv_eq_ediv_of_nonneg (by omega)
    have e : IntKind.i64.wrap (o + IntKind.i64.wrap (Int.tdiv (IntKind.i64.wrap (IntKind.i64.wrap (IntKind.i64.wrap (8000 * b) + k) - 1)) k)) = tmq k o b := by
      rw [w64 (8000 * b) (by omega) (by omega), w64 (8000 * b + k) (by omega) (by omega), w64 (8000 * b + k - 1) (by omega) (by omega), ed, w64 (_ / _) (by omega) (by omega), w64 _ (by omega) (by omega)]; rfl
    conv => whnf
    refine (rvalid_s _ _).call ?_
    rintro _ rfl
    conv => whnf
    refine both_f (by simp; omega) ?_
    conv => whnf
    refine both_f (by simp; omega) ?_
    conv => whnf
    refine both_f (by simp; omega) ?_
    conv => whnf
    refine DrawG.of mixed tab_ok ?_
    conv => whnf
    refine ⟨by omega, ?_⟩
    conv => whnf
    refine ⟨by kernel_rfl, ?_⟩
    conv => whnf
    exact tup_ii (e.trans t1.symm) t2.symm
  · have h : tmO k o b = false := by simpa using h
    obtain ⟨t1, t2⟩ := tm_no h
    have hn : rtOk k o = true → 0 ≤ b → b ≤ 262144 → False := fun p q r => by simp [tmO, p, q, r] at h
    conv => whnf
    refine (rvalid_s _ _).call ?_
    rintro _ rfl
    conv => whnf
    refine ⟨fun hh10 => ?_, fun hh10 => ?_⟩
    · simp only [decide_eq_true_eq, decide_eq_false_iff_not, Bool.not_eq_true, Bool.not_eq_false, Bool.not_eq_true', Bool.not_eq_false', Bool.and_eq_true, Bool.and_eq_false_iff, Int.not_lt, Int.not_le, Decidable.not_not, beq_iff_eq, Bool.not_eq_eq_eq_not, Bool.not_true, Bool.not_false, beq_eq_false_iff_ne, ne_eq, decide_eq_decide] at hh10
      conv => whnf
      exact tup_ii t1.symm t2.symm
    · simp only [decide_eq_true_eq, decide_eq_false_iff_not, Bool.not_eq_true, Bool.not_eq_false, Bool.not_eq_true', Bool.not_eq_false', Bool.and_eq_true, Bool.and_eq_false_iff, Int.not_lt, Int.not_le, Decidable.not_not, beq_iff_eq, Bool.not_eq_eq_eq_not, Bool.not_true, Bool.not_false, beq_eq_false_iff_ne, ne_eq, decide_eq_decide] at hh10
      conv => whnf
      refine ⟨fun hh11 => ?_, fun hh11 => ?_⟩
      · simp only [decide_eq_true_eq, decide_eq_false_iff_not] at hh11
        conv => whnf
        exact tup_ii t1.symm t2.symm
      · simp only [decide_eq_true_eq, decide_eq_false_iff_not] at hh11
        conv => whnf
        refine ⟨fun hh12 => ?_, fun hh12 => ?_⟩
        · simp only [decide_eq_true_eq, decide_eq_false_iff_not] at hh12
          conv => whnf
          exact tup_ii t1.symm t2.symm
        · simp only [decide_eq_true_eq, decide_eq_false_iff_not] at hh12
          conv => whnf
          exact (hn (by first | assumption | simp_all) (by omega) (by omega)).elim
/-! ### Efficiency -/
def efv (k o b : Int) : Int := if tme k o b ≠ 0 ∨ tmv k o b = 0 then 0 else 1000000 * (tmv k o b - o) / tmv k o b
theorem effi_s (k o b : Int) : PSpec Try.prog 74 [rtE k o, .int .i64 b] (· = .tup [.int .i64 (efv k o b), .int .i64 (tme k o b)]) := by
  refine .of_code' tab_ok Try.func74 (by rfl) rfl trivial ?_
  by_cases h : tmO k o b = true
  · obtain ⟨t1, t2⟩ := tm_yes h
    obtain ⟨g1, g2, g3, g4, g5⟩ := tmq_rng h
    obtain ⟨⟨h0, h1, h1'⟩, h2, h3⟩ := (tmO_iff k o b).1 h
    by_cases hz : tmv k o b = 0
    · have e : efv k o b = 0 := by simp [efv, hz]
      conv => whnf
      refine (time_s _ _ _).call ?_
      rintro _ rfl
      conv => whnf
      refine both_f (by simp; omega) ?_
      conv => whnf
      refine both_t (by simp; omega) ?_
      conv => whnf
      exact tup_ii e.symm rfl
    · have e : efv k o b = 1000000 * (tmv k o b - o) / tmv k o b := by unfold efv; rw [if_neg (by omega)]
      have eq : 1000000 * (tmv k o b - o) / tmv k o b ≤ 1000000 := by
        have : 1000000 * (tmv k o b - o) / tmv k o b < 1000001 := (Int.ediv_lt_iff_lt_mul (by omega)).2 (by omega)
        omega
      have ew : IntKind.i64.wrap (tmv k o b - o) = tmv k o b - o := w64 _ (by omega) (by omega)
      obtain ⟨m1, m2, m3, m4⟩ := md_lo (a := 1000000) (b := tmv k o b - o) (c := tmv k o b) (by omega) (by omega) (by omega) (by omega)
      conv => whnf
      refine (time_s _ _ _).call ?_
      rintro _ rfl
      conv => whnf
      refine both_f (by simp; omega) ?_
      conv => whnf
      refine both_f (by simp; omega) ?_
      conv => whnf
      refine (muldiv_s _ _ _ _ (by first | omega | (rw [ew]; omega) | assumption | decide | simp) (by first | omega | (rw [ew]; omega) | assumption | decide | simp) (by first | omega | (rw [ew]; omega) | assumption | decide | simp)).call ?_
      rintro _ rfl
      conv => whnf
      exact tup_ii (by rw [ew, m1, e]) (by rw [ew, m2, t2])
  · have h : tmO k o b = false := by simpa using h
    obtain ⟨t1, t2⟩ := tm_no h
    have e : efv k o b = 0 := by simp [efv, t2]
    conv => whnf
    refine (time_s _ _ _).call ?_
    rintro _ rfl
    conv => whnf
    refine both_t (by simp; omega) ?_
    conv => whnf
    exact tup_ii e.symm rfl
theorem reffi_s (k o b : Int) : PSpec Try.prog 75 [rtE k o, .int .i64 b] (· = .tup [.int .i64 (efv k o b), .int .i64 (tme k o b)]) := by
  refine .of_code' tab_ok Try.func75 (by rfl) rfl trivial ?_
  by_cases h : tmO k o b = true
  · obtain ⟨t1, t2⟩ := tm_yes h
    obtain ⟨g1, g2, g3, g4, g5⟩ := tmq_rng h
    obtain ⟨⟨h0, h1, h1'⟩, h2, h3⟩ := (tmO_iff k o b).1 h
    by_cases hz : tmv k o b = 0
    · have e : efv k o b = 0 := by simp [efv, hz]
      conv => whnf
      refine (rtime_s _ _ _).call ?_
      rintro _ rfl
      conv => whnf
      refine both_f (by simp; omega) ?_
      conv => whnf
      refine both_t (by simp; omega) ?_
      conv => whnf
      exact tup_ii e.symm rfl
    · have e : efv k o b = 1000000 * (tmv k o b - o) / tmv k o b := by unfold efv; rw [if_neg (by omega)]
      have eq : 1000000 * (tmv k o b - o) / tmv k o b ≤ 1000000 := by
        have : 1000000 * (tmv k o b - o) / tmv k o b < 1000001 := (Int.ediv_lt_iff_lt_mul (by omega)).2 (by omega)
        omega
      have eq0 : 0 ≤ 1000000 * (tmv k o b - o) / tmv k o b := Int.ediv_nonneg (by omega) (by omega)
      have ew : IntKind.i64.wrap (Int.tdiv (IntKind.i64.wrap (1000000 * IntKind.i64.wrap (tmv k o b - o))) (tmv k o b)) = efv k o b := by
        rw [w64 (tmv k o b - o) (by omega) (by omega), w64 (1000000 * _) (by omega) (by omega), Int.tdiv_eq_ediv_of_nonneg (by omega), w64 _ (by omega) (by omega), e]
      conv => whnf
      refine (rtime_s _ _ _).call ?_
      rintro _ rfl
      conv => whnf
      refine both_f (by simp; omega) ?_
      conv => whnf
      refine both_f (by simp; omega) ?_
      conv => whnf
      refine ⟨by omega, ?_⟩
      conv => whnf
      exact tup_ii ew t2.symm
  · have h : tmO k o b = false := by simpa using h
    obtain ⟨t1, t2⟩ := tm_no h
    have e : efv k o b = 0 := by simp [efv, t2]
    conv => whnf
    refine (rtime_s _ _ _).call ?_
    rintro _ rfl
    conv => whnf
    refine both_t (by simp; omega) ?_
    conv => whnf
    exact tup_ii e.symm rfl
theorem times_s (k o b : Int) : PSpec Try.prog 38 [rtE k o, .int .i64 b] (· = .bool true) := by
  refine .of_code' tab_ok Try.func38 (by rfl) rfl trivial ?_
  conv => whnf
  refine (time_s _ _ _).call ?_
  rintro _ rfl
  conv => whnf
  refine (rtime_s _ _ _).call ?_
  rintro _ rfl
  conv => whnf
  refine (effi_s _ _ _).call ?_
  rintro _ rfl
  conv => whnf
  refine (reffi_s _ _ _).call ?_
  rintro _ rfl
  conv => whnf
  refine DrawG.of mixed tab_ok ?_
  conv => whnf
  refine (avalid_s _ _).calld ?_
  conv => whnf
  refine (rvalid_s _ _).calld ?_
  conv => whnf
  refine both_t (by simp) ?_
  conv => whnf
  refine both_t (by simp) ?_
  conv => whnf
  refine both_t (by simp) ?_
  conv => whnf
  refine both_t (by simp) ?_
  conv => whnf
  refine ⟨by kernel_rfl, ?_⟩
  conv => whnf
  simp
/-! ### Fit -/
def ftq (k o t : Int) : Int := if 262144 < (t - o) * k / 8000 then 262144 else (t - o) * k / 8000
def ftv (k o t : Int) : Int := if rtOk k o = true ∧ o ≤ t then ftq k o t else 0
def fte (k o t : Int) : Int := if rtOk k o = true then (if o ≤ t then 0 else 2) else 1
theorem ft_inv {k o : Int} (h : rtOk k o = true) {t : Int} (ht : o ≤ t) {m : Int} (h0 : 0 ≤ m) (h1 : m ≤ 262144) : tmq k o m ≤ t ↔ m ≤ ftq k o t := by
  obtain ⟨⟨k0, k1⟩, o0, o1⟩ := (rtOk_iff k o).1 h
  have a : tmq k o m ≤ t ↔ 8000 * m ≤ (t - o) * k := by
    unfold tmq
    constructor
    · intro hle
      have := (Int.ediv_lt_iff_lt_mul (a := 8000 * m + k - 1) (b := t - o + 1) (c := k) (by omega)).1 (by omega)
      rw [Int.add_mul] at this; omega
    · intro hle
      have := (Int.ediv_lt_iff_lt_mul (a := 8000 * m + k - 1) (b := t - o + 1) (c := k) (by omega)).2 (by rw [Int.add_mul]; omega)
      omega
  rw [a]
  unfold ftq
  generalize (t - o) * k = x
  split <;> omega
theorem ftq_rng {k o : Int} (h : rtOk k o = true) {t : Int} (ht : o ≤ t) : 0 ≤ ftq k o t ∧ ftq k o t ≤ 262144 := by
  obtain ⟨⟨k0, k1⟩, o0, o1⟩ := (rtOk_iff k o).1 h
  have : 0 ≤ (t - o) * k := Int.mul_nonneg (by omega) (by omega)
  unfold ftq; split <;> omega
theorem fit_s (k o t : Int) (ht : -9223372036854775808 ≤ t ∧ t ≤ 9223372036854775807) : PSpec Try.prog 41 [rtE k o, .int .i64 t] (· = .tup [.int .i64 (ftv k o t), .int .i64 (fte k o t)]) := by
  refine .of_code' tab_ok Try.func41 (by rfl) rfl trivial ?_
  by_cases h : rtOk k o = true
  · obtain ⟨⟨k0, k1⟩, o0, o1⟩ := (rtOk_iff k o).1 h
    by_cases ho : o ≤ t
    · have e1 : ftv k o t = ftq k o t := by simp [ftv, h, ho]
      have e2 : fte k o t = 0 := by simp [fte, h, ho]
      have ew : IntKind.i64.wrap (t - o) = t - o := w64 _ (by omega) (by omega)
      have p0 : 0 ≤ (t - o) * k := Int.mul_nonneg (by omega) (by omega)
      by_cases hs : (t - o) * k / 8000 < 4611686018427387904
      · obtain ⟨m1, m2, m3, m4⟩ := md_lo (a := t - o) (b := k) (c := 8000) (by omega) (by omega) (by omega) hs
        have f1 : 262144 < mdv (IntKind.i64.wrap (t - o)) k 8000 0 → 262144 = ftv k o t := fun hc => by rw [ew, m1] at hc; rw [e1, ftq, if_pos hc]
        have f2 : ¬ 262144 < mdv (IntKind.i64.wrap (t - o)) k 8000 0 → mdv (IntKind.i64.wrap (t - o)) k 8000 0 = ftv k o t := fun hc => by rw [ew, m1] at hc ⊢; rw [e1, ftq, if_neg hc]
        conv => whnf
        refine (avalid_s _ _).call ?_
        rintro _ rfl
        conv => whnf
        refine both_f (by simp; omega) ?_
        conv => whnf
        refine both_f (by simp; omega) ?_
        conv => whnf
        refine (muldiv_s _ _ _ _ (by first | omega | (rw [ew]; omega) | assumption | decide | simp) (by first | omega | (rw [ew]; omega) | assumption | decide | simp) (by first | omega | (rw [ew]; omega) | assumption | decide | simp)).call ?_
        rintro _ rfl
        conv => whnf
        refine both_f (by simp [*]) ?_
        conv => whnf
        refine ⟨fun hh20 => ?_, fun hh20 => ?_⟩
        · simp only [decide_eq_true_eq, decide_eq_false_iff_not] at hh20
          conv => whnf
          exact tup_ii (f1 (by omega)) e2.symm
        · simp only [decide_eq_true_eq, decide_eq_false_iff_not] at hh20
          conv => whnf
          exact tup_ii (f2 (by omega)) e2.symm
      · have hb : 262144 = ftv k o t := by rw [e1, ftq, if_pos (by omega)]
        have mm := md_hi0 (a := t - o) (b := k) (c := 8000) (by omega) (by omega) (by omega) (by omega)
        rw [← ew] at mm
        conv => whnf
        refine (avalid_s _ _).call ?_
        rintro _ rfl
        conv => whnf
        refine both_f (by simp; omega) ?_
        conv => whnf
        refine both_f (by simp; omega) ?_
        conv => whnf
        refine (muldiv_s _ _ _ _ (by first | omega | (rw [ew]; omega) | assumption | decide | simp) (by first | omega | (rw [ew]; omega) | assumption | decide | simp) (by first | omega | (rw [ew]; omega) | assumption | decide | simp)).call ?_
        rintro _ rfl
        conv => whnf
        refine ⟨fun hh20 => ?_, fun hh20 => ?_⟩
        · simp only [decide_eq_true_eq, decide_eq_false_iff_not] at hh20
          conv => whnf
          exact tup_ii hb e2.symm
        · simp only [decide_eq_true_eq, decide_eq_false_iff_not] at hh20
          conv => whnf
          refine both_t (by simp; omega) ?_
          conv => whnf
          exact tup_ii hb e2.symm
    · have e1 : ftv k o t = 0 := by simp [ftv, ho]
      have e2 : fte k o t = 2 := by simp [fte, h, ho]
      conv => whnf
      refine (avalid_s _ _).call ?_
      rintro _ rfl
      conv => whnf
      refine both_f (by simp; omega) ?_
      conv => whnf
      refine both_t (by simp; omega) ?_
      conv => whnf
      exact tup_ii e1.symm e2.symm
  · have h : rtOk k o = false := by simpa using h
    have e1 : ftv k o t = 0 := by simp [ftv, h]
    have e2 : fte k o t = 1 := by simp [fte, h]
    conv => whnf
    refine (avalid_s _ _).call ?_
    rintro _ rfl
    conv => whnf
    refine both_t (by simp; omega) ?_
    conv => whnf
    exact tup_ii e1.symm e2.symm
theorem rfit_s (k o t : Int) (ht : -9223372036854775808 ≤ t ∧ t ≤ 9223372036854775807) : PSpec Try.prog 78 [rtE k o, .int .i64 t] (· = .tup [.int .i64 (ftv k o t), .int .i64 (fte k o t)]) := by
  refine .of_code' tab_ok Try.func78 (by rfl) rfl trivial ?_
  by_cases h : rtOk k o = true
  · obtain ⟨⟨k0, k1⟩, o0, o1⟩ := (rtOk_iff k o).1 h
    by_cases ho : o ≤ t
    · have e1 : ftv k o t = ftq k o t := by simp [ftv, h, ho]
      have e2 : fte k o t = 0 := by simp [fte, h, ho]
      have fr := ftq_rng h ho
      conv => whnf
      refine (rvalid_s _ _).call ?_
      rintro _ rfl
      conv => whnf
      refine both_f (by simp [h]) ?_
      conv => whnf
      refine both_f (by simp; omega) ?_
      conv => whnf
      refine LoopG.inv tab_ok 38 (fun x : { x : Int × Int // 0 ≤ x.1 ∧ x.1 < x.2 ∧ x.2 ≤ 262145 ∧ x.1 ≤ ftq k o t ∧ ftq k o t < x.2 } => [(1, .int .i64 t), (2, .ptr 0 0), (4, .int .i64 0), (5, .int .i64 0), (6, .int .i64 x.1.1), (7, .int .i64 x.1.2)])
        (fun _ => [.fix 52 [.int .i64 k, .int .i64 o]]) (fun x => (x.1.2 - x.1.1).toNat) ⟨(0, 262145), by decide, by decide, by decide, fr.1, by show ftq k o t < 262145; omega⟩ (.of [some 0] (by decide) ?_) ?_
      · conv => whnf
        refine ⟨by rfl, ?_⟩
        conv => whnf
        refine ⟨by rfl, ?_⟩
        conv => whnf
        refine ⟨by rfl, ?_⟩
        conv => whnf
        refine ⟨by rfl, ?_⟩
        conv => whnf
        refine ⟨by rfl, ?_⟩
        conv => whnf
        refine ⟨by rfl, ?_⟩
        conv => whnf
        refine ⟨by rfl, ?_⟩
        conv => whnf
        exact trivial
      · intro x
        obtain ⟨x0, x1, x2, x3, x4⟩ := x.2
        conv => whnf
        have w1 : IntKind.i64.wrap (x.1.2 - x.1.1) = x.1.2 - x.1.1 := w64 _ (by omega) (by omega)
        refine ⟨fun hb => ?_, fun hb => ?_⟩
        · have hb : 1 < x.1.2 - x.1.1 := by rw [w1] at hb; simpa using hb
          have w2 : IntKind.i64.wrap (x.1.1 + x.1.2) = x.1.1 + x.1.2 := w64 _ (by omega) (by omega)
          have w3 : IntKind.i64.wrap (Int.tdiv (IntKind.i64.wrap (x.1.1 + x.1.2)) 2) = (x.1.1 + x.1.2) / 2 := by rw [w2, Int.tdiv_eq_ediv_of_nonneg (by omega), w64 _ (by omega) (by omega)]
          have hm : tmv k o ((x.1.1 + x.1.2) / 2) = tmq k o ((x.1.1 + x.1.2) / 2) := (tm_yes ((tmO_iff _ _ _).2 ⟨(rtOk_iff k o).1 h, by omega, by omega⟩)).1
          have hi := ft_inv h ho (m := (x.1.1 + x.1.2) / 2) (by omega) (by omega)
          conv => whnf
          refine ⟨by omega, ?_⟩
          conv => whnf
          refine (rtime_s _ _ _).call ?_
          rintro _ rfl
          conv => whnf
          refine ⟨fun hh10 => ?_, fun hh10 => ?_⟩
          · simp only [decide_eq_true_eq, decide_eq_false_iff_not] at hh10
            conv => whnf
            refine ⟨⟨((x.1.1 + x.1.2) / 2, x.1.2), by show 0 ≤ (x.1.1 + x.1.2) / 2; omega, by show (x.1.1 + x.1.2) / 2 < x.1.2; omega, x2, by show (x.1.1 + x.1.2) / 2 ≤ _; (rw [w3, hm, hi] at *; omega), x4⟩, by show (x.1.2 - (x.1.1 + x.1.2) / 2).toNat < (x.1.2 - x.1.1).toNat; omega, .of [some 0] (by decide) ?_⟩
            conv => whnf
            refine ⟨by rfl, ?_⟩
            conv => whnf
            refine ⟨by rfl, ?_⟩
            conv => whnf
            refine ⟨by rfl, ?_⟩
            conv => whnf
            refine ⟨by omega, ?_⟩
            conv => whnf
            refine ⟨by rfl, ?_⟩
            conv => whnf
            refine ⟨by rfl, ?_⟩
            conv => whnf
            refine ⟨by rfl, ?_⟩
            conv => whnf
            exact trivial
          · simp only [decide_eq_true_eq, decide_eq_false_iff_not] at hh10
            conv => whnf
            refine ⟨⟨(x.1.1, (x.1.1 + x.1.2) / 2), x0, by show x.1.1 < (x.1.1 + x.1.2) / 2; omega, by show (x.1.1 + x.1.2) / 2 ≤ 262145; omega, x3, by show _ < (x.1.1 + x.1.2) / 2; (rw [w3, hm, hi] at *; omega)⟩, by show ((x.1.1 + x.1.2) / 2 - x.1.1).toNat < (x.1.2 - x.1.1).toNat; omega, .of [some 0] (by decide) ?_⟩
            conv => whnf
            refine ⟨by rfl, ?_⟩
            conv => whnf
            refine ⟨by rfl, ?_⟩
            conv => whnf
            refine ⟨by rfl, ?_⟩
            conv => whnf
            refine ⟨by rfl, ?_⟩
            conv => whnf
            refine ⟨by omega, ?_⟩
            conv => whnf
            refine ⟨by rfl, ?_⟩
            conv => whnf
            refine ⟨by rfl, ?_⟩
            conv => whnf
            exact trivial
        · have hb : ¬ 1 < x.1.2 - x.1.1 := by rw [w1] at hb; simpa using hb
          conv => whnf
          refine .same ?_
          conv => whnf
          exact tup_ii (by rw [e1]; omega) e2.symm
    · have e1 : ftv k o t = 0 := by simp [ftv, ho]
      have e2 : fte k o t = 2 := by simp [fte, h, ho]
      conv => whnf
      refine (rvalid_s _ _).call ?_
      rintro _ rfl
      conv => whnf
      refine both_f (by simp; omega) ?_
      conv => whnf
      refine both_t (by simp; omega) ?_
      conv => whnf
      exact tup_ii e1.symm e2.symm
  · have h : rtOk k o = false := by simpa using h
    have e1 : ftv k o t = 0 := by simp [ftv, h]
    have e2 : fte k o t = 1 := by simp [fte, h]
    conv => whnf
    refine (rvalid_s _ _).call ?_
    rintro _ rfl
    conv => whnf
    refine both_t (by simp; omega) ?_
    conv => whnf
    exact tup_ii e1.symm e2.symm
theorem fits_s (k o t : Int) (ht : -9223372036854775808 ≤ t ∧ t ≤ 9223372036854775807) : PSpec Try.prog 39 [rtE k o, .int .i64 t] (· = .bool true) := by
  refine .of_code' tab_ok Try.func39 (by rfl) rfl trivial ?_
  conv => whnf
  refine (fit_s _ _ _ (by first | omega | assumption | decide | simp)).call ?_
  rintro _ rfl
  conv => whnf
  refine (rfit_s _ _ _ (by first | omega | assumption | decide | simp)).call ?_
  rintro _ rfl
  conv => whnf
  refine both_t (by simp) ?_
  conv => whnf
  simp
end Go.Proofs.Ythlomoacacebead

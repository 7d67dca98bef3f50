/- Contracts of the products that are divided, of the program's and the reference's. No statement of the seat is proved here. -/
import Derived.Test.YthlomoacacebeadFixedSums
namespace Go.Proofs.Ythlomoacacebead
open Go.Sx
set_option linter.unusedSimpArgs false
set_option linter.unusedVariables false
/-- Is the quotient negative? -/
def sg3 (a b c : Int) : Bool := !((!(decide (a < 0) == decide (b < 0))) == decide (c < 0))
/-- Is a quotient with a rest rounded away from zero? -/
def awy (rest d round : Int) (neg : Bool) : Bool := if round = 0 then neg else if round = 1 then !neg else decide (d - rest ≤ rest)
/-- The quotient's absolute value, rounded. -/
def mdq (a b c r : Int) : Int := ab a * ab b / ab c + (if 0 < ab a * ab b % ab c ∧ awy (ab a * ab b % ab c) (ab c) r (sg3 a b c) = true then 1 else 0)
def mdv (a b c r : Int) : Int := if r < 0 ∨ 2 < r then 0 else if c = 0 then 0 else if ab c ≤ ab a * ab b / 18446744073709551616 then 0 else if mdq a b c r = 18446744073709551616 then 0 else sgv (mdq a b c r) (sg3 a b c)
def mde (a b c r : Int) : Int := if r < 0 ∨ 2 < r then 1 else if c = 0 then 3 else if ab c ≤ ab a * ab b / 18446744073709551616 then 2 else if mdq a b c r = 18446744073709551616 then 2 else sge (mdq a b c r) (sg3 a b c)
theorem away_s (rest d r : Int) (neg : Bool) (h0 : 0 ≤ rest) (h1 : rest < d) (h2 : d < 18446744073709551616) : PSpec Try.prog 97 [.int .u64 rest, .int .u64 d, .int .i64 r, .bool neg] (· = .bool (awy rest d r neg)) := by
  refine .of_code' tab_ok Try.func97 (by rfl) rfl trivial ?_
  have e : IntKind.u64.wrap (d - rest) = d - rest := by rw [IntKind.wrap_u64]; omega
  conv => whnf
  refine ⟨fun hh0 => ?_, fun hh0 => ?_⟩
  · simp only [decide_eq_true_eq, decide_eq_false_iff_not] at hh0
    conv => whnf
    simp [awy, *]
  · simp only [decide_eq_true_eq, decide_eq_false_iff_not] at hh0
    conv => whnf
    refine ⟨fun hh1 => ?_, fun hh1 => ?_⟩
    · simp only [decide_eq_true_eq, decide_eq_false_iff_not] at hh1
      conv => whnf
      simp [awy, *]
    · simp only [decide_eq_true_eq, decide_eq_false_iff_not] at hh1
      conv => whnf
      simp [awy, *]
theorem sgv_zero (n1 n2 : Bool) : sgv 0 n1 = sgv 0 n2 ∧ sge 0 n1 = sge 0 n2 := by cases n1 <;> cases n2 <;> decide
section
variable {a b c r : Int} (ha : -9223372036854775808 ≤ a ∧ a ≤ 9223372036854775807) (hb : -9223372036854775808 ≤ b ∧ b ≤ 9223372036854775807) (hc : -9223372036854775808 ≤ c ∧ c ≤ 9223372036854775807)
include ha hb hc
theorem md_facts (h0 : c ≠ 0) (h1 : ¬ ab c ≤ ab a * ab b / 18446744073709551616) :
    dvq (ab a * ab b / 18446744073709551616) (ab a * ab b % 18446744073709551616) (ab c) = ab a * ab b / ab c ∧ dvr (ab a * ab b / 18446744073709551616) (ab a * ab b % 18446744073709551616) (ab c) = ab a * ab b % ab c ∧
    dve (ab a * ab b / 18446744073709551616) (ab c) = 0 ∧ 0 ≤ ab a * ab b / ab c ∧ ab a * ab b / ab c < 18446744073709551616 ∧ 0 ≤ ab a * ab b % ab c ∧ ab a * ab b % ab c < ab c := by
  obtain ⟨p0, p1, p2⟩ := ab_fits ha
  obtain ⟨q0, q1, q2⟩ := ab_fits hb
  have m0 := Int.mul_nonneg p0 q0
  have hcz : ab c ≠ 0 := by unfold ab; split <;> omega
  have hcp : 0 < ab c := by have := (ab_fits hc).1; omega
  have e0 : ab a * ab b / 18446744073709551616 * 18446744073709551616 + ab a * ab b % 18446744073709551616 = ab a * ab b := by omega
  refine ⟨by rw [dvq, if_neg hcz, if_neg h1, e0], by rw [dvr, if_neg hcz, if_neg h1, e0], by rw [dve, if_neg hcz, if_neg h1], Int.ediv_nonneg m0 (by omega), Int.ediv_lt_of_lt_mul hcp (by omega), Int.emod_nonneg _ hcz, Int.emod_lt_of_pos _ hcp⟩
theorem md_main (h0 : c ≠ 0) (h1 : ¬ ab c ≤ ab a * ab b / 18446744073709551616) :
    (¬ r < 0 → ¬ 2 < r → 0 < ab a * ab b % ab c → awy (ab a * ab b % ab c) (ab c) r (!((!(decide (a < 0) == decide (b < 0))) == decide (c < 0))) = true →
      mdv a b c r = (if ab a * ab b / ab c + 1 = 18446744073709551616 then 0 else sgv (ab a * ab b / ab c + 1) (!((!(decide (a < 0) == decide (b < 0))) == decide (c < 0)))) ∧
      mde a b c r = (if ab a * ab b / ab c + 1 = 18446744073709551616 then 2 else sge (ab a * ab b / ab c + 1) (!((!(decide (a < 0) == decide (b < 0))) == decide (c < 0))))) ∧
    (¬ r < 0 → ¬ 2 < r → ¬ (0 < ab a * ab b % ab c ∧ awy (ab a * ab b % ab c) (ab c) r (!((!(decide (a < 0) == decide (b < 0))) == decide (c < 0))) = true) →
      mdv a b c r = sgv (ab a * ab b / ab c) (!((!(decide (a < 0) == decide (b < 0))) == decide (c < 0))) ∧
      mde a b c r = sge (ab a * ab b / ab c) (!((!(decide (a < 0) == decide (b < 0))) == decide (c < 0)))) := by
  have hs : sg3 a b c = (!((!(decide (a < 0) == decide (b < 0))) == decide (c < 0))) := rfl
  rw [← hs]
  obtain ⟨_, _, _, g0, g1, _, _⟩ := md_facts ha hb hc h0 h1
  refine ⟨fun r0 r1 h2 h3 => ?_, fun r0 r1 h2 => ?_⟩
  · have e : mdq a b c r = ab a * ab b / ab c + 1 := by unfold mdq; rw [if_pos ⟨h2, h3⟩]
    unfold mdv mde
    have hr : ¬ (r < 0 ∨ 2 < r) := by omega
    rw [e]
    simp only [if_neg hr, if_neg h0, if_neg h1]
    exact ⟨trivial, trivial⟩
  · have e : mdq a b c r = ab a * ab b / ab c := by unfold mdq; rw [if_neg h2]; omega
    unfold mdv mde
    have hr : ¬ (r < 0 ∨ 2 < r) := by omega
    have hq : ¬ ab a * ab b / ab c = 18446744073709551616 := by omega
    rw [e]
    simp only [if_neg hr, if_neg h0, if_neg h1, if_neg hq]
    exact ⟨trivial, trivial⟩
omit hc in
theorem md_hi : 0 ≤ ab a * ab b / 18446744073709551616 ∧ ab a * ab b / 18446744073709551616 < 18446744073709551616 ∧ 0 ≤ ab a * ab b % 18446744073709551616 ∧ ab a * ab b % 18446744073709551616 < 18446744073709551616 := by
  obtain ⟨p0, p1, p2⟩ := ab_fits ha
  obtain ⟨q0, q1, q2⟩ := ab_fits hb
  have m0 := Int.mul_nonneg p0 q0
  have m1 := Int.mul_le_mul_of_nonneg_right p2 q0
  omega
end
theorem muldiv_s (a b c r : Int) (ha : -9223372036854775808 ≤ a ∧ a ≤ 9223372036854775807) (hb : -9223372036854775808 ≤ b ∧ b ≤ 9223372036854775807) (hc : -9223372036854775808 ≤ c ∧ c ≤ 9223372036854775807) :
    PSpec Try.prog 79 [.int .i64 a, .int .i64 b, .int .i64 c, .int .i64 r] (· = .tup [.int .i64 (mdv a b c r), .int .i64 (mde a b c r)]) := by
  refine .of_code' tab_ok Try.func79 (by rfl) rfl trivial ?_
  obtain ⟨p0, p1, p2⟩ := ab_fits ha
  obtain ⟨q0, q1, q2⟩ := ab_fits hb
  obtain ⟨c0, c1, c2⟩ := ab_fits hc
  obtain ⟨k1, k2, k3, k4⟩ := md_hi ha hb
  by_cases hcz : c = 0
  · have hd : ab c = 0 := by rw [hcz]; rfl
    have f3 : dve (ab a * ab b / 18446744073709551616) (ab c) = 3 := by rw [hd]; rfl
    conv => whnf
    refine ⟨fun hh0 => ?_, fun hh0 => ?_⟩
    · simp only [decide_eq_true_eq, decide_eq_false_iff_not] at hh0
      conv => whnf
      simp [mdv, mde, *]
    · simp only [decide_eq_true_eq, decide_eq_false_iff_not] at hh0
      conv => whnf
      refine ⟨fun hh1 => ?_, fun hh1 => ?_⟩
      · simp only [decide_eq_true_eq, decide_eq_false_iff_not] at hh1
        conv => whnf
        simp [mdv, mde, *]
      · simp only [decide_eq_true_eq, decide_eq_false_iff_not] at hh1
        conv => whnf
        refine (size_s _ (by first | omega | assumption | decide | simp)).call ?_
        rintro _ rfl
        conv => whnf
        refine (size_s _ (by first | omega | assumption | decide | simp)).call ?_
        rintro _ rfl
        conv => whnf
        refine (size_s _ (by first | omega | assumption | decide | simp)).call ?_
        rintro _ rfl
        conv => whnf
        refine (wmul_s _ _ (by first | omega | assumption | decide | simp) (by first | omega | assumption | decide | simp) (by first | omega | assumption | decide | simp) (by first | omega | assumption | decide | simp)).call ?_
        rintro _ rfl
        conv => whnf
        refine (wdiv_s _ _ _ (by first | omega | assumption | decide | simp) (by first | omega | assumption | decide | simp) (by first | omega | assumption | decide | simp) (by first | omega | assumption | decide | simp) (by first | omega | assumption | decide | simp)).call ?_
        rintro _ rfl
        conv => whnf
        refine both_t (by simp; omega) ?_
        conv => whnf
        (rw [f3]; refine tup_ii ?_ ?_ <;> (simp only [mdv, mde, if_pos hcz]; split <;> omega))
  · by_cases hov : ab c ≤ ab a * ab b / 18446744073709551616
    · have f3 : dve (ab a * ab b / 18446744073709551616) (ab c) = 2 := by rw [dve, if_neg (by unfold ab; split <;> omega), if_pos hov]
      conv => whnf
      refine ⟨fun hh0 => ?_, fun hh0 => ?_⟩
      · simp only [decide_eq_true_eq, decide_eq_false_iff_not] at hh0
        conv => whnf
        simp [mdv, mde, *]
      · simp only [decide_eq_true_eq, decide_eq_false_iff_not] at hh0
        conv => whnf
        refine ⟨fun hh1 => ?_, fun hh1 => ?_⟩
        · simp only [decide_eq_true_eq, decide_eq_false_iff_not] at hh1
          conv => whnf
          simp [mdv, mde, *]
        · simp only [decide_eq_true_eq, decide_eq_false_iff_not] at hh1
          conv => whnf
          refine (size_s _ (by first | omega | assumption | decide | simp)).call ?_
          rintro _ rfl
          conv => whnf
          refine (size_s _ (by first | omega | assumption | decide | simp)).call ?_
          rintro _ rfl
          conv => whnf
          refine (size_s _ (by first | omega | assumption | decide | simp)).call ?_
          rintro _ rfl
          conv => whnf
          refine (wmul_s _ _ (by first | omega | assumption | decide | simp) (by first | omega | assumption | decide | simp) (by first | omega | assumption | decide | simp) (by first | omega | assumption | decide | simp)).call ?_
          rintro _ rfl
          conv => whnf
          refine (wdiv_s _ _ _ (by first | omega | assumption | decide | simp) (by first | omega | assumption | decide | simp) (by first | omega | assumption | decide | simp) (by first | omega | assumption | decide | simp) (by first | omega | assumption | decide | simp)).call ?_
          rintro _ rfl
          conv => whnf
          refine both_t (by simp; omega) ?_
          conv => whnf
          simp [mdv, mde, *]
    · obtain ⟨f1, f2, f3, g0, g1, g2, g3⟩ := md_facts ha hb hc hcz hov
      obtain ⟨mu, mn⟩ := md_main (r := r) ha hb hc hcz hov
      rw [← f1] at g0 g1
      rw [← f2] at g2 g3
      rw [← f1, ← f2] at mu mn
      conv => whnf
      refine ⟨fun hh0 => ?_, fun hh0 => ?_⟩
      · simp only [decide_eq_true_eq, decide_eq_false_iff_not] at hh0
        conv => whnf
        simp [mdv, mde, *]
      · simp only [decide_eq_true_eq, decide_eq_false_iff_not] at hh0
        conv => whnf
        refine ⟨fun hh1 => ?_, fun hh1 => ?_⟩
        · simp only [decide_eq_true_eq, decide_eq_false_iff_not] at hh1
          conv => whnf
          simp [mdv, mde, *]
        · simp only [decide_eq_true_eq, decide_eq_false_iff_not] at hh1
          conv => whnf
          refine (size_s _ (by first | omega | (rw [IntKind.wrap_u64]; omega) | assumption | decide | simp)).call ?_
          rintro _ rfl
          conv => whnf
          refine (size_s _ (by first | omega | (rw [IntKind.wrap_u64]; omega) | assumption | decide | simp)).call ?_
          rintro _ rfl
          conv => whnf
          refine (size_s _ (by first | omega | (rw [IntKind.wrap_u64]; omega) | assumption | decide | simp)).call ?_
          rintro _ rfl
          conv => whnf
          refine (wmul_s _ _ (by first | omega | (rw [IntKind.wrap_u64]; omega) | assumption | decide | simp) (by first | omega | (rw [IntKind.wrap_u64]; omega) | assumption | decide | simp) (by first | omega | (rw [IntKind.wrap_u64]; omega) | assumption | decide | simp) (by first | omega | (rw [IntKind.wrap_u64]; omega) | assumption | decide | simp)).call ?_
          rintro _ rfl
          conv => whnf
          refine (wdiv_s _ _ _ (by first | omega | (rw [IntKind.wrap_u64]; omega) | assumption | decide | simp) (by first | omega | (rw [IntKind.wrap_u64]; omega) | assumption | decide | simp) (by first | omega | (rw [IntKind.wrap_u64]; omega) | assumption | decide | simp) (by first | omega | (rw [IntKind.wrap_u64]; omega) | assumption | decide | simp) (by first | omega | (rw [IntKind.wrap_u64]; omega) | assumption | decide | simp)).call ?_
          rintro _ rfl
          conv => whnf
          refine both_f (by simp; omega) ?_
          conv => whnf
          refine ⟨fun hh52 => ?_, fun hh52 => ?_⟩
          · simp only [decide_eq_true_eq, decide_eq_false_iff_not] at hh52
            conv => whnf
            refine (away_s _ _ _ _ (by first | omega | (rw [IntKind.wrap_u64]; omega) | assumption | decide | simp) (by first | omega | (rw [IntKind.wrap_u64]; omega) | assumption | decide | simp) (by first | omega | (rw [IntKind.wrap_u64]; omega) | assumption | decide | simp)).call ?_
            rintro _ rfl
            conv => whnf
            refine ⟨fun hh63 => ?_, fun hh63 => ?_⟩
            · skip
              conv => whnf
              refine ⟨fun hh64 => ?_, fun hh64 => ?_⟩
              · simp only [decide_eq_true_eq, decide_eq_false_iff_not] at hh64
                conv => whnf
                (have m5 := mu (by omega) (by omega) (by omega) (by assumption); rw [IntKind.wrap_u64] at *; rw [m5.1, m5.2, if_pos (by omega), if_pos (by omega)])
              · simp only [decide_eq_true_eq, decide_eq_false_iff_not] at hh64
                conv => whnf
                refine (signed_s _ _ (by first | omega | (rw [IntKind.wrap_u64]; omega) | assumption | decide | simp) (by first | omega | (rw [IntKind.wrap_u64]; omega) | assumption | decide | simp)).call ?_
                rintro _ rfl
                conv => whnf
                (have m5 := mu (by omega) (by omega) (by omega) (by assumption); rw [IntKind.wrap_u64] at *; rw [m5.1, m5.2, if_neg (by omega), if_neg (by omega), Int.emod_eq_of_lt (by omega) (by omega)])
            · skip
              conv => whnf
              refine (signed_s _ _ (by first | omega | (rw [IntKind.wrap_u64]; omega) | assumption | decide | simp) (by first | omega | (rw [IntKind.wrap_u64]; omega) | assumption | decide | simp)).call ?_
              rintro _ rfl
              conv => whnf
              (have m5 := mn (by omega) (by omega) (fun h => by simp_all); rw [m5.1, m5.2])
          · simp only [decide_eq_true_eq, decide_eq_false_iff_not] at hh52
            conv => whnf
            refine (signed_s _ _ (by first | omega | (rw [IntKind.wrap_u64]; omega) | assumption | decide | simp) (by first | omega | (rw [IntKind.wrap_u64]; omega) | assumption | decide | simp)).call ?_
            rintro _ rfl
            conv => whnf
            (have m5 := mn (by omega) (by omega) (by omega); rw [m5.1, m5.2])
end Go.Proofs.Ythlomoacacebead

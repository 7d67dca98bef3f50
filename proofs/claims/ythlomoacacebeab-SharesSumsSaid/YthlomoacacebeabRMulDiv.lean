/- Contracts of the products that are divided, of the reference's. No statement of the seat is proved here. -/
import Derived.Test.YthlomoacacebeabMulDiv
namespace Go.Proofs.Ythlomoacacebeab
open Go.Sx
set_option linter.unusedSimpArgs false
set_option linter.unusedVariables false
theorem sgv_pos (n : Int) (h : 0 ≤ n) : sgv n (decide (0 < n)) = sgv n true ∧ sge n (decide (0 < n)) = sge n true := by
  by_cases h0 : 0 < n
  · rw [decide_eq_true h0]; exact ⟨rfl, rfl⟩
  · have : n = 0 := by omega
    subst this
    decide
theorem md_ref {a b c r : Int} (ha : -9223372036854775808 ≤ a ∧ a ≤ 9223372036854775807) (hb : -9223372036854775808 ≤ b ∧ b ≤ 9223372036854775807) (hc : -9223372036854775808 ≤ c ∧ c ≤ 9223372036854775807)
    (h0 : c ≠ 0) (h1 : ¬ ab c ≤ ab a * ab b / 18446744073709551616) (sg : Bool) (hsg : sg3 a b c = sg) (r0 : ¬ r < 0) (r1 : ¬ 2 < r) :
    (0 < ab a * ab b % ab c → awy (ab a * ab b % ab c) (ab c) r sg = true → ab a * ab b / ab c + 1 = 18446744073709551616 → mdv a b c r = 0 ∧ mde a b c r = 2) ∧
    (0 < ab a * ab b % ab c → awy (ab a * ab b % ab c) (ab c) r sg = true → ab a * ab b / ab c + 1 < 18446744073709551616 → mdv a b c r = sgv (ab a * ab b / ab c + 1) sg ∧ mde a b c r = sge (ab a * ab b / ab c + 1) sg) ∧
    (¬ (0 < ab a * ab b % ab c ∧ awy (ab a * ab b % ab c) (ab c) r sg = true) → mdv a b c r = sgv (ab a * ab b / ab c) sg ∧ mde a b c r = sge (ab a * ab b / ab c) sg) := by
  have hs : (!((!(decide (a < 0) == decide (b < 0))) == decide (c < 0))) = sg := hsg
  obtain ⟨mu, mn⟩ := md_main (r := r) ha hb hc h0 h1
  rw [hs] at mu mn
  refine ⟨fun h2 h3 h4 => ?_, fun h2 h3 h4 => ?_, fun h2 => mn r0 r1 h2⟩
  · have := mu r0 r1 h2 h3
    rw [if_pos h4, if_pos h4] at this
    exact this
  · have := mu r0 r1 h2 h3
    rw [if_neg (by omega), if_neg (by omega)] at this
    exact this
theorem rmuldiv_s (a b c r : Int) (ha : -9223372036854775808 ≤ a ∧ a ≤ 9223372036854775807) (hb : -9223372036854775808 ≤ b ∧ b ≤ 9223372036854775807) (hc : -9223372036854775808 ≤ c ∧ c ≤ 9223372036854775807) :
    PSpec Try.prog 85 [.int .i64 a, .int .i64 b, .int .i64 c, .int .i64 r] (· = .tup [.int .i64 (mdv a b c r), .int .i64 (mde a b c r)]) := by
  refine .of_code' tab_ok Try.func85 (by rfl) rfl trivial ?_
  obtain ⟨p0, p1, p2⟩ := ab_fits ha
  obtain ⟨q0, q1, q2⟩ := ab_fits hb
  obtain ⟨c0, c1, c2⟩ := ab_fits hc
  obtain ⟨k1, k2, k3, k4⟩ := md_hi ha hb
  by_cases hcz : c = 0
  · conv => whnf
    refine ⟨fun hh0 => ?_, fun hh0 => ?_⟩
    · simp only [decide_eq_true_eq, decide_eq_false_iff_not] at hh0
      conv => whnf
      simp [mdv, mde, *]
    · simp only [decide_eq_true_eq, decide_eq_false_iff_not] at hh0
      conv => whnf
      refine ⟨fun hh1 => ?_, fun hh1 => ?_⟩
      · simp only [decide_eq_true_eq, decide_eq_false_iff_not] at hh1
        conv => whnf
        simp [mdv, mde, *]
      · simp only [decide_eq_true_eq, decide_eq_false_iff_not] at hh1
        conv => whnf
        refine both_t (by simp; omega) ?_
        conv => whnf
        simp [mdv, mde, *]
  · by_cases hov : ab c ≤ ab a * ab b / 18446744073709551616
    · have f3 : dve (ab a * ab b / 18446744073709551616) (ab c) = 2 := by rw [dve, if_neg (by unfold ab; split <;> omega), if_pos hov]
      conv => whnf
      refine ⟨fun hh0 => ?_, fun hh0 => ?_⟩
      · simp only [decide_eq_true_eq, decide_eq_false_iff_not] at hh0
        conv => whnf
        simp [mdv, mde, *]
      · simp only [decide_eq_true_eq, decide_eq_false_iff_not] at hh0
        conv => whnf
        refine ⟨fun hh1 => ?_, fun hh1 => ?_⟩
        · simp only [decide_eq_true_eq, decide_eq_false_iff_not] at hh1
          conv => whnf
          simp [mdv, mde, *]
        · simp only [decide_eq_true_eq, decide_eq_false_iff_not] at hh1
          conv => whnf
          refine both_f (by simp; omega) ?_
          conv => whnf
          refine (abs_s _ (by first | omega | assumption | decide | simp)).call ?_
          rintro _ rfl
          conv => whnf
          refine (abs_s _ (by first | omega | assumption | decide | simp)).call ?_
          rintro _ rfl
          conv => whnf
          refine (abs_s _ (by first | omega | assumption | decide | simp)).call ?_
          rintro _ rfl
          conv => whnf
          refine (rmul_s _ _ (by first | omega | assumption | decide | simp) (by first | omega | assumption | decide | simp) (by first | omega | assumption | decide | simp) (by first | omega | assumption | decide | simp)).call ?_
          rintro _ rfl
          conv => whnf
          refine (rdiv_s _ _ _ (by first | omega | assumption | decide | simp) (by first | omega | assumption | decide | simp) (by first | omega | assumption | decide | simp) (by first | omega | assumption | decide | simp) (by first | omega | assumption | decide | simp)).call ?_
          rintro _ rfl
          conv => whnf
          refine both_t (by simp; omega) ?_
          conv => whnf
          simp [mdv, mde, *]
    · obtain ⟨f1, f2, f3, g0, g1, g2, g3⟩ := md_facts ha hb hc hcz hov
      by_cases hr : r < 0 ∨ 2 < r
      · rcases hr with hr | hr
        · conv => whnf
          refine both_t (by simp; omega) ?_
          conv => whnf
          simp [mdv, mde, *]
        · conv => whnf
          refine both_f (by simp; omega) ?_
          conv => whnf
          refine both_t (by simp; omega) ?_
          conv => whnf
          simp [mdv, mde, *]
      · have hr3 : r = 0 ∨ r = 1 ∨ r = 2 := by omega
        cases hsg : sg3 a b c
        all_goals
          have hsg' : (!((!(decide (a < 0) == decide (b < 0))) == decide (c < 0))) = _ := hsg
        · rcases hr3 with rfl | rfl | rfl
          all_goals rw [← f1] at g0 g1
          all_goals rw [← f2] at g2 g3
          all_goals have w1 : dvq (ab a * ab b / 18446744073709551616) (ab a * ab b % 18446744073709551616) (ab c) + 1 < 18446744073709551616 → IntKind.u64.wrap (dvq (ab a * ab b / 18446744073709551616) (ab a * ab b % 18446744073709551616) (ab c) + 1) = dvq (ab a * ab b / 18446744073709551616) (ab a * ab b % 18446744073709551616) (ab c) + 1 := fun h => by rw [IntKind.wrap_u64]; omega
          all_goals have e5 : IntKind.u64.wrap (ab c - dvr (ab a * ab b / 18446744073709551616) (ab a * ab b % 18446744073709551616) (ab c)) = ab c - dvr (ab a * ab b / 18446744073709551616) (ab a * ab b % 18446744073709551616) (ab c) := by rw [IntKind.wrap_u64]; omega
          · obtain ⟨x1, x2, x3⟩ := md_ref (r := 0) ha hb hc hcz hov false hsg (by decide) (by decide)
            rw [← f1, ← f2] at x1 x2 x3
            simp [awy] at x1 x2 x3
            conv => whnf
            refine both_f rfl ?_
            conv => whnf
            refine both_f rfl ?_
            conv => whnf
            refine both_f (by simp; omega) ?_
            conv => whnf
            refine (abs_s _ (by first | omega | (rw [IntKind.wrap_u64]; omega) | assumption | decide | simp)).call ?_
            rintro _ rfl
            conv => whnf
            refine (abs_s _ (by first | omega | (rw [IntKind.wrap_u64]; omega) | assumption | decide | simp)).call ?_
            rintro _ rfl
            conv => whnf
            refine (abs_s _ (by first | omega | (rw [IntKind.wrap_u64]; omega) | assumption | decide | simp)).call ?_
            rintro _ rfl
            conv => whnf
            refine (rmul_s _ _ (by first | omega | (rw [IntKind.wrap_u64]; omega) | assumption | decide | simp) (by first | omega | (rw [IntKind.wrap_u64]; omega) | assumption | decide | simp) (by first | omega | (rw [IntKind.wrap_u64]; omega) | assumption | decide | simp) (by first | omega | (rw [IntKind.wrap_u64]; omega) | assumption | decide | simp)).call ?_
            rintro _ rfl
            conv => whnf
            refine (rdiv_s _ _ _ (by first | omega | (rw [IntKind.wrap_u64]; omega) | assumption | decide | simp) (by first | omega | (rw [IntKind.wrap_u64]; omega) | assumption | decide | simp) (by first | omega | (rw [IntKind.wrap_u64]; omega) | assumption | decide | simp) (by first | omega | (rw [IntKind.wrap_u64]; omega) | assumption | decide | simp) (by first | omega | (rw [IntKind.wrap_u64]; omega) | assumption | decide | simp)).call ?_
            rintro _ rfl
            conv => whnf
            refine both_f (by simp; omega) ?_
            conv => whnf
            refine ⟨fun hh50 => ?_, fun hh50 => ?_⟩
            · simp only [decide_eq_true_eq, decide_eq_false_iff_not] at hh50
              conv => whnf
              refine both_f (by simp [*]) ?_
              conv => whnf
              refine PSpec.call (PSpec.argB (rsigned_s _ _ (by first | omega | (rw [IntKind.wrap_u64]; omega) | assumption | decide | simp) (by first | omega | (rw [IntKind.wrap_u64]; omega) | assumption | decide | simp))) ?_
              rintro _ rfl
              conv => whnf
              (have m := x3; rw [m.1, m.2])
            · simp only [decide_eq_true_eq, decide_eq_false_iff_not] at hh50
              conv => whnf
              refine both_f rfl ?_
              conv => whnf
              refine both_f rfl ?_
              conv => whnf
              refine both_f (by simp [*]) ?_
              conv => whnf
              refine both_f (by simp [*]) ?_
              conv => whnf
              refine PSpec.call (PSpec.argB (rsigned_s _ _ (by first | omega | (rw [IntKind.wrap_u64]; omega) | assumption | decide | simp) (by first | omega | (rw [IntKind.wrap_u64]; omega) | assumption | decide | simp))) ?_
              rintro _ rfl
              conv => whnf
              (have m := x3; rw [m.1, m.2])
          · obtain ⟨x1, x2, x3⟩ := md_ref (r := 1) ha hb hc hcz hov false hsg (by decide) (by decide)
            rw [← f1, ← f2] at x1 x2 x3
            simp [awy] at x1 x2 x3
            conv => whnf
            refine both_f rfl ?_
            conv => whnf
            refine both_f rfl ?_
            conv => whnf
            refine both_f (by simp; omega) ?_
            conv => whnf
            refine (abs_s _ (by first | omega | (rw [IntKind.wrap_u64]; omega) | assumption | decide | simp)).call ?_
            rintro _ rfl
            conv => whnf
            refine (abs_s _ (by first | omega | (rw [IntKind.wrap_u64]; omega) | assumption | decide | simp)).call ?_
            rintro _ rfl
            conv => whnf
            refine (abs_s _ (by first | omega | (rw [IntKind.wrap_u64]; omega) | assumption | decide | simp)).call ?_
            rintro _ rfl
            conv => whnf
            refine (rmul_s _ _ (by first | omega | (rw [IntKind.wrap_u64]; omega) | assumption | decide | simp) (by first | omega | (rw [IntKind.wrap_u64]; omega) | assumption | decide | simp) (by first | omega | (rw [IntKind.wrap_u64]; omega) | assumption | decide | simp) (by first | omega | (rw [IntKind.wrap_u64]; omega) | assumption | decide | simp)).call ?_
            rintro _ rfl
            conv => whnf
            refine (rdiv_s _ _ _ (by first | omega | (rw [IntKind.wrap_u64]; omega) | assumption | decide | simp) (by first | omega | (rw [IntKind.wrap_u64]; omega) | assumption | decide | simp) (by first | omega | (rw [IntKind.wrap_u64]; omega) | assumption | decide | simp) (by first | omega | (rw [IntKind.wrap_u64]; omega) | assumption | decide | simp) (by first | omega | (rw [IntKind.wrap_u64]; omega) | assumption | decide | simp)).call ?_
            rintro _ rfl
            conv => whnf
            refine both_f (by simp; omega) ?_
            conv => whnf
            refine ⟨fun hh50 => ?_, fun hh50 => ?_⟩
            · simp only [decide_eq_true_eq, decide_eq_false_iff_not] at hh50
              conv => whnf
              refine both_f (by simp [*]) ?_
              conv => whnf
              refine PSpec.call (PSpec.argB (rsigned_s _ _ (by first | omega | (rw [IntKind.wrap_u64]; omega) | assumption | decide | simp) (by first | omega | (rw [IntKind.wrap_u64]; omega) | assumption | decide | simp))) ?_
              rintro _ rfl
              conv => whnf
              (have m := x3 (by omega); rw [m.1, m.2])
            · simp only [decide_eq_true_eq, decide_eq_false_iff_not] at hh50
              conv => whnf
              refine both_f rfl ?_
              conv => whnf
              refine both_t rfl ?_
              conv => whnf
              refine both_t (by simp [*]) ?_
              conv => whnf
              refine ⟨fun hh61 => ?_, fun hh61 => ?_⟩
              · simp only [decide_eq_true_eq, decide_eq_false_iff_not] at hh61
                conv => whnf
                (have m := x1 (by omega) (by omega); rw [m.1, m.2])
              · simp only [decide_eq_true_eq, decide_eq_false_iff_not] at hh61
                conv => whnf
                refine both_f (by simp [*]) ?_
                conv => whnf
                refine PSpec.call (PSpec.argB (rsigned_s _ _ (by first | omega | (rw [IntKind.wrap_u64]; omega) | assumption | decide | simp) (by first | omega | (rw [IntKind.wrap_u64]; omega) | assumption | decide | simp))) ?_
                rintro _ rfl
                conv => whnf
                (rw [w1 (by omega)]; have m := x2 (by omega) (by omega); rw [m.1, m.2])
          · obtain ⟨x1, x2, x3⟩ := md_ref (r := 2) ha hb hc hcz hov false hsg (by decide) (by decide)
            rw [← f1, ← f2] at x1 x2 x3
            simp [awy] at x1 x2 x3
            conv => whnf
            refine both_f rfl ?_
            conv => whnf
            refine both_f rfl ?_
            conv => whnf
            refine both_f (by simp; omega) ?_
            conv => whnf
            refine (abs_s _ (by first | omega | (rw [IntKind.wrap_u64]; omega) | assumption | decide | simp)).call ?_
            rintro _ rfl
            conv => whnf
            refine (abs_s _ (by first | omega | (rw [IntKind.wrap_u64]; omega) | assumption | decide | simp)).call ?_
            rintro _ rfl
            conv => whnf
            refine (abs_s _ (by first | omega | (rw [IntKind.wrap_u64]; omega) | assumption | decide | simp)).call ?_
            rintro _ rfl
            conv => whnf
            refine (rmul_s _ _ (by first | omega | (rw [IntKind.wrap_u64]; omega) | assumption | decide | simp) (by first | omega | (rw [IntKind.wrap_u64]; omega) | assumption | decide | simp) (by first | omega | (rw [IntKind.wrap_u64]; omega) | assumption | decide | simp) (by first | omega | (rw [IntKind.wrap_u64]; omega) | assumption | decide | simp)).call ?_
            rintro _ rfl
            conv => whnf
            refine (rdiv_s _ _ _ (by first | omega | (rw [IntKind.wrap_u64]; omega) | assumption | decide | simp) (by first | omega | (rw [IntKind.wrap_u64]; omega) | assumption | decide | simp) (by first | omega | (rw [IntKind.wrap_u64]; omega) | assumption | decide | simp) (by first | omega | (rw [IntKind.wrap_u64]; omega) | assumption | decide | simp) (by first | omega | (rw [IntKind.wrap_u64]; omega) | assumption | decide | simp)).call ?_
            rintro _ rfl
            conv => whnf
            refine both_f (by simp; omega) ?_
            conv => whnf
            refine ⟨fun hh50 => ?_, fun hh50 => ?_⟩
            · simp only [decide_eq_true_eq, decide_eq_false_iff_not] at hh50
              conv => whnf
              refine both_f (by simp [*]) ?_
              conv => whnf
              refine PSpec.call (PSpec.argB (rsigned_s _ _ (by first | omega | (rw [IntKind.wrap_u64]; omega) | assumption | decide | simp) (by first | omega | (rw [IntKind.wrap_u64]; omega) | assumption | decide | simp))) ?_
              rintro _ rfl
              conv => whnf
              (have m := x3 (by omega); rw [m.1, m.2])
            · simp only [decide_eq_true_eq, decide_eq_false_iff_not] at hh50
              conv => whnf
              refine both_t rfl ?_
              conv => whnf
              refine ⟨fun hh61 => ?_, fun hh61 => ?_⟩
              · simp only [decide_eq_true_eq, decide_eq_false_iff_not] at hh61
                conv => whnf
                refine ⟨fun hh62 => ?_, fun hh62 => ?_⟩
                · simp only [decide_eq_true_eq, decide_eq_false_iff_not] at hh62
                  conv => whnf
                  (have m := x1 (by omega) (by omega) (by omega); rw [m.1, m.2])
                · simp only [decide_eq_true_eq, decide_eq_false_iff_not] at hh62
                  conv => whnf
                  refine both_f (by simp [*]) ?_
                  conv => whnf
                  refine PSpec.call (PSpec.argB (rsigned_s _ _ (by first | omega | (rw [IntKind.wrap_u64]; omega) | assumption | decide | simp) (by first | omega | (rw [IntKind.wrap_u64]; omega) | assumption | decide | simp))) ?_
                  rintro _ rfl
                  conv => whnf
                  (rw [w1 (by omega)]; have m := x2 (by omega) (by omega) (by omega); rw [m.1, m.2])
              · simp only [decide_eq_true_eq, decide_eq_false_iff_not] at hh61
                conv => whnf
                refine both_f (by simp [*]) ?_
                conv => whnf
                refine PSpec.call (PSpec.argB (rsigned_s _ _ (by first | omega | (rw [IntKind.wrap_u64]; omega) | assumption | decide | simp) (by first | omega | (rw [IntKind.wrap_u64]; omega) | assumption | decide | simp))) ?_
                rintro _ rfl
                conv => whnf
                (have m := x3 (by omega); rw [m.1, m.2])
        · rcases hr3 with rfl | rfl | rfl
          all_goals rw [← f1] at g0 g1
          all_goals rw [← f2] at g2 g3
          all_goals have w1 : dvq (ab a * ab b / 18446744073709551616) (ab a * ab b % 18446744073709551616) (ab c) + 1 < 18446744073709551616 → IntKind.u64.wrap (dvq (ab a * ab b / 18446744073709551616) (ab a * ab b % 18446744073709551616) (ab c) + 1) = dvq (ab a * ab b / 18446744073709551616) (ab a * ab b % 18446744073709551616) (ab c) + 1 := fun h => by rw [IntKind.wrap_u64]; omega
          all_goals have e5 : IntKind.u64.wrap (ab c - dvr (ab a * ab b / 18446744073709551616) (ab a * ab b % 18446744073709551616) (ab c)) = ab c - dvr (ab a * ab b / 18446744073709551616) (ab a * ab b % 18446744073709551616) (ab c) := by rw [IntKind.wrap_u64]; omega
          · obtain ⟨x1, x2, x3⟩ := md_ref (r := 0) ha hb hc hcz hov true hsg (by decide) (by decide)
            rw [← f1, ← f2] at x1 x2 x3
            simp [awy] at x1 x2 x3
            conv => whnf
            refine both_f rfl ?_
            conv => whnf
            refine both_f rfl ?_
            conv => whnf
            refine both_f (by simp; omega) ?_
            conv => whnf
            refine (abs_s _ (by first | omega | (rw [IntKind.wrap_u64]; omega) | assumption | decide | simp)).call ?_
            rintro _ rfl
            conv => whnf
            refine (abs_s _ (by first | omega | (rw [IntKind.wrap_u64]; omega) | assumption | decide | simp)).call ?_
            rintro _ rfl
            conv => whnf
            refine (abs_s _ (by first | omega | (rw [IntKind.wrap_u64]; omega) | assumption | decide | simp)).call ?_
            rintro _ rfl
            conv => whnf
            refine (rmul_s _ _ (by first | omega | (rw [IntKind.wrap_u64]; omega) | assumption | decide | simp) (by first | omega | (rw [IntKind.wrap_u64]; omega) | assumption | decide | simp) (by first | omega | (rw [IntKind.wrap_u64]; omega) | assumption | decide | simp) (by first | omega | (rw [IntKind.wrap_u64]; omega) | assumption | decide | simp)).call ?_
            rintro _ rfl
            conv => whnf
            refine (rdiv_s _ _ _ (by first | omega | (rw [IntKind.wrap_u64]; omega) | assumption | decide | simp) (by first | omega | (rw [IntKind.wrap_u64]; omega) | assumption | decide | simp) (by first | omega | (rw [IntKind.wrap_u64]; omega) | assumption | decide | simp) (by first | omega | (rw [IntKind.wrap_u64]; omega) | assumption | decide | simp) (by first | omega | (rw [IntKind.wrap_u64]; omega) | assumption | decide | simp)).call ?_
            rintro _ rfl
            conv => whnf
            refine both_f (by simp; omega) ?_
            conv => whnf
            refine ⟨fun hh50 => ?_, fun hh50 => ?_⟩
            · simp only [decide_eq_true_eq, decide_eq_false_iff_not] at hh50
              conv => whnf
              refine both_t (by simp [*]) ?_
              conv => whnf
              refine (rsigned_s _ _ (by first | omega | (rw [IntKind.wrap_u64]; omega) | assumption | decide | simp) (by first | omega | (rw [IntKind.wrap_u64]; omega) | assumption | decide | simp)).call ?_
              rintro _ rfl
              conv => whnf
              (rw [(sgv_pos _ (by omega)).1, (sgv_pos _ (by omega)).2]; have m := x3 (by omega); rw [m.1, m.2])
            · simp only [decide_eq_true_eq, decide_eq_false_iff_not] at hh50
              conv => whnf
              refine both_f rfl ?_
              conv => whnf
              refine both_f rfl ?_
              conv => whnf
              refine both_t (by simp [*]) ?_
              conv => whnf
              refine ⟨fun hh61 => ?_, fun hh61 => ?_⟩
              · simp only [decide_eq_true_eq, decide_eq_false_iff_not] at hh61
                conv => whnf
                (have m := x1 (by omega) (by omega); rw [m.1, m.2])
              · simp only [decide_eq_true_eq, decide_eq_false_iff_not] at hh61
                conv => whnf
                refine both_t (by simp [*]) ?_
                conv => whnf
                refine (rsigned_s _ _ (by first | omega | (rw [IntKind.wrap_u64]; omega) | assumption | decide | simp) (by first | omega | (rw [IntKind.wrap_u64]; omega) | assumption | decide | simp)).call ?_
                rintro _ rfl
                conv => whnf
                (rw [w1 (by omega), (sgv_pos _ (by omega)).1, (sgv_pos _ (by omega)).2]; have m := x2 (by omega) (by omega); rw [m.1, m.2])
          · obtain ⟨x1, x2, x3⟩ := md_ref (r := 1) ha hb hc hcz hov true hsg (by decide) (by decide)
            rw [← f1, ← f2] at x1 x2 x3
            simp [awy] at x1 x2 x3
            conv => whnf
            refine both_f rfl ?_
            conv => whnf
            refine both_f rfl ?_
            conv => whnf
            refine both_f (by simp; omega) ?_
            conv => whnf
            refine (abs_s _ (by first | omega | (rw [IntKind.wrap_u64]; omega) | assumption | decide | simp)).call ?_
            rintro _ rfl
            conv => whnf
            refine (abs_s _ (by first | omega | (rw [IntKind.wrap_u64]; omega) | assumption | decide | simp)).call ?_
            rintro _ rfl
            conv => whnf
            refine (abs_s _ (by first | omega | (rw [IntKind.wrap_u64]; omega) | assumption | decide | simp)).call ?_
            rintro _ rfl
            conv => whnf
            refine (rmul_s _ _ (by first | omega | (rw [IntKind.wrap_u64]; omega) | assumption | decide | simp) (by first | omega | (rw [IntKind.wrap_u64]; omega) | assumption | decide | simp) (by first | omega | (rw [IntKind.wrap_u64]; omega) | assumption | decide | simp) (by first | omega | (rw [IntKind.wrap_u64]; omega) | assumption | decide | simp)).call ?_
            rintro _ rfl
            conv => whnf
            refine (rdiv_s _ _ _ (by first | omega | (rw [IntKind.wrap_u64]; omega) | assumption | decide | simp) (by first | omega | (rw [IntKind.wrap_u64]; omega) | assumption | decide | simp) (by first | omega | (rw [IntKind.wrap_u64]; omega) | assumption | decide | simp) (by first | omega | (rw [IntKind.wrap_u64]; omega) | assumption | decide | simp) (by first | omega | (rw [IntKind.wrap_u64]; omega) | assumption | decide | simp)).call ?_
            rintro _ rfl
            conv => whnf
            refine both_f (by simp; omega) ?_
            conv => whnf
            refine ⟨fun hh50 => ?_, fun hh50 => ?_⟩
            · simp only [decide_eq_true_eq, decide_eq_false_iff_not] at hh50
              conv => whnf
              refine both_t (by simp [*]) ?_
              conv => whnf
              refine (rsigned_s _ _ (by first | omega | (rw [IntKind.wrap_u64]; omega) | assumption | decide | simp) (by first | omega | (rw [IntKind.wrap_u64]; omega) | assumption | decide | simp)).call ?_
              rintro _ rfl
              conv => whnf
              (rw [(sgv_pos _ (by omega)).1, (sgv_pos _ (by omega)).2]; have m := x3; rw [m.1, m.2])
            · simp only [decide_eq_true_eq, decide_eq_false_iff_not] at hh50
              conv => whnf
              refine both_f rfl ?_
              conv => whnf
              refine both_t rfl ?_
              conv => whnf
              refine both_f (by simp [*]) ?_
              conv => whnf
              refine both_t (by simp [*]) ?_
              conv => whnf
              refine (rsigned_s _ _ (by first | omega | (rw [IntKind.wrap_u64]; omega) | assumption | decide | simp) (by first | omega | (rw [IntKind.wrap_u64]; omega) | assumption | decide | simp)).call ?_
              rintro _ rfl
              conv => whnf
              (rw [(sgv_pos _ (by omega)).1, (sgv_pos _ (by omega)).2]; have m := x3; rw [m.1, m.2])
          · obtain ⟨x1, x2, x3⟩ := md_ref (r := 2) ha hb hc hcz hov true hsg (by decide) (by decide)
            rw [← f1, ← f2] at x1 x2 x3
            simp [awy] at x1 x2 x3
            conv => whnf
            refine both_f rfl ?_
            conv => whnf
            refine both_f rfl ?_
            conv => whnf
            refine both_f (by simp; omega) ?_
            conv => whnf
            refine (abs_s _ (by first | omega | (rw [IntKind.wrap_u64]; omega) | assumption | decide | simp)).call ?_
            rintro _ rfl
            conv => whnf
            refine (abs_s _ (by first | omega | (rw [IntKind.wrap_u64]; omega) | assumption | decide | simp)).call ?_
            rintro _ rfl
            conv => whnf
            refine (abs_s _ (by first | omega | (rw [IntKind.wrap_u64]; omega) | assumption | decide | simp)).call ?_
            rintro _ rfl
            conv => whnf
            refine (rmul_s _ _ (by first | omega | (rw [IntKind.wrap_u64]; omega) | assumption | decide | simp) (by first | omega | (rw [IntKind.wrap_u64]; omega) | assumption | decide | simp) (by first | omega | (rw [IntKind.wrap_u64]; omega) | assumption | decide | simp) (by first | omega | (rw [IntKind.wrap_u64]; omega) | assumption | decide | simp)).call ?_
            rintro _ rfl
            conv => whnf
            refine (rdiv_s _ _ _ (by first | omega | (rw [IntKind.wrap_u64]; omega) | assumption | decide | simp) (by first | omega | (rw [IntKind.wrap_u64]; omega) | assumption | decide | simp) (by first | omega | (rw [IntKind.wrap_u64]; omega) | assumption | decide | simp) (by first | omega | (rw [IntKind.wrap_u64]; omega) | assumption | decide | simp) (by first | omega | (rw [IntKind.wrap_u64]; omega) | assumption | decide | simp)).call ?_
            rintro _ rfl
            conv => whnf
            refine both_f (by simp; omega) ?_
            conv => whnf
            refine ⟨fun hh50 => ?_, fun hh50 => ?_⟩
            · simp only [decide_eq_true_eq, decide_eq_false_iff_not] at hh50
              conv => whnf
              refine both_t (by simp [*]) ?_
              conv => whnf
              refine (rsigned_s _ _ (by first | omega | (rw [IntKind.wrap_u64]; omega) | assumption | decide | simp) (by first | omega | (rw [IntKind.wrap_u64]; omega) | assumption | decide | simp)).call ?_
              rintro _ rfl
              conv => whnf
              (rw [(sgv_pos _ (by omega)).1, (sgv_pos _ (by omega)).2]; have m := x3 (by omega); rw [m.1, m.2])
            · simp only [decide_eq_true_eq, decide_eq_false_iff_not] at hh50
              conv => whnf
              refine both_t rfl ?_
              conv => whnf
              refine ⟨fun hh61 => ?_, fun hh61 => ?_⟩
              · simp only [decide_eq_true_eq, decide_eq_false_iff_not] at hh61
                conv => whnf
                refine ⟨fun hh62 => ?_, fun hh62 => ?_⟩
                · simp only [decide_eq_true_eq, decide_eq_false_iff_not] at hh62
                  conv => whnf
                  (have m := x1 (by omega) (by omega) (by omega); rw [m.1, m.2])
                · simp only [decide_eq_true_eq, decide_eq_false_iff_not] at hh62
                  conv => whnf
                  refine both_t (by simp [*]) ?_
                  conv => whnf
                  refine (rsigned_s _ _ (by first | omega | (rw [IntKind.wrap_u64]; omega) | assumption | decide | simp) (by first | omega | (rw [IntKind.wrap_u64]; omega) | assumption | decide | simp)).call ?_
                  rintro _ rfl
                  conv => whnf
                  (rw [w1 (by omega), (sgv_pos _ (by omega)).1, (sgv_pos _ (by omega)).2]; have m := x2 (by omega) (by omega) (by omega); rw [m.1, m.2])
              · simp only [decide_eq_true_eq, decide_eq_false_iff_not] at hh61
                conv => whnf
                refine both_t (by simp [*]) ?_
                conv => whnf
                refine (rsigned_s _ _ (by first | omega | (rw [IntKind.wrap_u64]; omega) | assumption | decide | simp) (by first | omega | (rw [IntKind.wrap_u64]; omega) | assumption | decide | simp)).call ?_
                rintro _ rfl
                conv => whnf
                (rw [(sgv_pos _ (by omega)).1, (sgv_pos _ (by omega)).2]; have m := x3 (by omega); rw [m.1, m.2])
end Go.Proofs.Ythlomoacacebeab

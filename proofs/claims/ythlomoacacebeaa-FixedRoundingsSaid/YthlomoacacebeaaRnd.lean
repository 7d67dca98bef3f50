/- The statement FixedRoundings as a contract. -/
import Derived.Test.YthlomoacacebeaaLaws2
namespace Go.Proofs.Ythlomoacacebeaa
open Go.Sx
set_option linter.unusedSimpArgs false
set_option linter.unusedVariables false
theorem md_ok {a b c r : Int} (h0 : 0 ≤ r) (h2 : r ≤ 2) (h : mde a b c r = 0) : mdv a b c r = if sg3 a b c = true then -(mdq a b c r) else mdq a b c r := by
  unfold mde at h
  unfold mdv
  rw [if_neg (by omega)] at h ⊢
  by_cases hc : c = 0
  · rw [if_pos hc] at h; omega
  rw [if_neg hc] at h ⊢
  by_cases h1 : ab c ≤ ab a * ab b / 18446744073709551616
  · rw [if_pos h1] at h; omega
  rw [if_neg h1] at h ⊢
  by_cases h3 : mdq a b c r = 18446744073709551616
  · rw [if_pos h3] at h; omega
  rw [if_neg h3] at h ⊢
  generalize mdq a b c r = n at *
  cases hs : sg3 a b c
  · rw [hs] at h
    simp only [sge, sgv] at *
    simp only [Bool.false_eq_true, if_false] at *
    split at h
    · rename_i hh; rw [if_pos hh]
    · omega
  · rw [hs] at h
    simp only [sge, sgv, if_true] at *
    split at h
    · rename_i hh; rw [if_pos hh]
    · omega
theorem sg3_same (a b : Int) : sg3 a b b = decide (a < 0) := by
  unfold sg3
  cases decide (a < 0) <;> cases decide (b < 0) <;> rfl
theorem md_same {a b r : Int} (ha : -9223372036854775808 ≤ a ∧ a ≤ 9223372036854775807) (hb : -9223372036854775808 ≤ b ∧ b ≤ 9223372036854775807) (hb0 : b ≠ 0) (h0 : 0 ≤ r) (h2 : r ≤ 2) : mdv a b b r = a ∧ mde a b b r = 0 := by
  have p : 0 < ab b := by unfold ab; split <;> omega
  have q0 : 0 ≤ ab a := by unfold ab; split <;> omega
  have q1 : ab a ≤ 9223372036854775808 := by unfold ab; split <;> omega
  have e1 : ab a * ab b / ab b = ab a := Int.mul_ediv_cancel _ (by omega)
  have e2 : ab a * ab b % ab b = 0 := Int.mul_emod_left _ _
  have eq : mdq a b b r = ab a := by unfold mdq; rw [e1, e2, if_neg (by simp)]; omega
  have hlt : ¬ ab b ≤ ab a * ab b / 18446744073709551616 := by
    intro hle
    have h3 : ab a * ab b ≤ 9223372036854775808 * ab b := Int.mul_le_mul_of_nonneg_right q1 (by omega)
    omega
  unfold mdv mde
  rw [eq, if_neg (by omega), if_neg hb0, if_neg hlt, if_neg (by omega), if_neg (by omega), if_neg hb0, if_neg hlt, if_neg (by omega), sg3_same]
  by_cases hn : a < 0
  · have e : ab a = -a := by unfold ab; rw [if_pos hn]
    simp only [sgv, sge, hn, decide_true, if_true, e]
    rw [if_pos (by omega), if_pos (by omega)]
    omega
  · have e : ab a = a := by unfold ab; rw [if_neg hn]
    simp only [sgv, sge, hn, decide_false, Bool.false_eq_true, if_false, e]
    rw [if_pos (by omega), if_pos (by omega)]
    exact ⟨rfl, rfl⟩
theorem mdq_le (a b c r : Int) : mdq a b c r = ab a * ab b / ab c ∨ mdq a b c r = ab a * ab b / ab c + 1 := by unfold mdq; split <;> omega
theorem mdq0 (a b c : Int) : mdq a b c 0 = ab a * ab b / ab c + (if 0 < ab a * ab b % ab c ∧ sg3 a b c = true then 1 else 0) := by simp [mdq, awy]
theorem mdq1 (a b c : Int) : mdq a b c 1 = ab a * ab b / ab c + (if 0 < ab a * ab b % ab c ∧ sg3 a b c = false then 1 else 0) := by simp [mdq, awy]
theorem mdq2 (a b c : Int) : mdq a b c 2 = ab a * ab b / ab c + (if 0 < ab a * ab b % ab c ∧ ab c - ab a * ab b % ab c ≤ ab a * ab b % ab c then 1 else 0) := by simp [mdq, awy]
theorem md_three {a b c : Int} (e0 : mde a b c 0 = 0) (e1 : mde a b c 1 = 0) (e2 : mde a b c 2 = 0) :
    mdv a b c 0 ≤ mdv a b c 1 ∧ IntKind.u64.wrap (IntKind.u64.wrap (mdv a b c 1) - IntKind.u64.wrap (mdv a b c 0)) ≤ 1 ∧ (mdv a b c 2 = mdv a b c 0 ∨ mdv a b c 2 = mdv a b c 1) := by
  have key : mdv a b c 0 ≤ mdv a b c 1 ∧ mdv a b c 1 - mdv a b c 0 ≤ 1 ∧ (mdv a b c 2 = mdv a b c 0 ∨ mdv a b c 2 = mdv a b c 1) := by
    rw [md_ok (by omega) (by omega) e0, md_ok (by omega) (by omega) e1, md_ok (by omega) (by omega) e2, mdq0, mdq1, mdq2]
    generalize ab a * ab b / ab c = K
    generalize ab a * ab b % ab c = R
    generalize ab c = C
    cases sg3 a b c
    · simp only [Bool.false_eq_true, and_false, if_false, and_true]
      (repeat' split) <;> omega
    · simp only [if_true, and_true, Bool.true_eq_false, and_false, if_false]
      (repeat' split) <;> omega
  refine ⟨key.1, ?_, key.2.2⟩
  rw [IntKind.wrap_u64, IntKind.wrap_u64, IntKind.wrap_u64]
  omega
theorem fixedRoundings_s (ls : List Int) (a b : Int) (ha : -9223372036854775808 ≤ a ∧ a ≤ 9223372036854775807) (hb : -9223372036854775808 ≤ b ∧ b ≤ 9223372036854775807) :
    PSpec Try.prog 10 [.rs 1 (nums ls), .int .i64 a, .int .i64 b] TrueS := by
  refine .of_code' tab_ok Try.func10 (by rfl) rfl trivial ?_
  have n0 := nxt_lo ls 0 3
  have n1 := nxt_hi ls 0 3 (by omega)
  have hs := fun h : b ≠ 0 => md_same (r := nxt ls 0 3) ha hb h n0 (by omega)
  conv => whnf
  refine CallG.of_code tab_ok Try.func15 (by rfl) rfl ?_
  conv => whnf
  by_cases hz : b = 0
  · subst hz
    conv => whnf
    refine (next_s _ _ _ (by first | omega | exact inx_fits _ _ | assumption | decide | simp) (by first | omega | exact inx_fits _ _ | assumption | decide | simp) (by first | omega | exact inx_fits _ _ | assumption | decide | simp)).call [0] (by decide) (And.intro rfl trivial) (And.intro rfl trivial) ?_
    rintro _ _ ⟨rfl, rfl⟩
    conv => whnf
    refine (muldiv_s _ _ _ _ (by first | omega | exact inx_fits _ _ | assumption | decide | simp) (by first | omega | exact inx_fits _ _ | assumption | decide | simp) (by first | omega | exact inx_fits _ _ | assumption | decide | simp)).call ?_
    rintro _ rfl
    conv => whnf
    refine both_f rfl ?_
    conv => whnf
    refine (int64_s _ _ (by first | omega | exact inx_fits _ _ | assumption | decide | simp) (by first | omega | exact inx_fits _ _ | assumption | decide | simp)).call [0] (by decide) trivial (And.intro rfl trivial) ?_
    rintro _ _ ⟨rfl, rfl⟩
    conv => whnf
    refine (int64_s _ _ (by first | omega | exact inx_fits _ _ | assumption | decide | simp) (by first | omega | exact inx_fits _ _ | assumption | decide | simp)).call [0] (by decide) trivial (And.intro rfl trivial) ?_
    rintro _ _ ⟨rfl, rfl⟩
    conv => whnf
    refine (muldiv_s _ _ _ _ (by first | omega | exact inx_fits _ _ | assumption | decide | simp) (by first | omega | exact inx_fits _ _ | assumption | decide | simp) (by first | omega | exact inx_fits _ _ | assumption | decide | simp)).call ?_
    rintro _ rfl
    conv => whnf
    refine (muldiv_s _ _ _ _ (by first | omega | exact inx_fits _ _ | assumption | decide | simp) (by first | omega | exact inx_fits _ _ | assumption | decide | simp) (by first | omega | exact inx_fits _ _ | assumption | decide | simp)).call ?_
    rintro _ rfl
    conv => whnf
    refine (muldiv_s _ _ _ _ (by first | omega | exact inx_fits _ _ | assumption | decide | simp) (by first | omega | exact inx_fits _ _ | assumption | decide | simp) (by first | omega | exact inx_fits _ _ | assumption | decide | simp)).call ?_
    rintro _ rfl
    conv => whnf
    refine ⟨fun hh70 => ?_, fun hh70 => ?_⟩
    · simp only [decide_eq_true_eq, decide_eq_false_iff_not] at hh70
      conv => whnf
      refine (awake2_s).call ?_
      rintro _ rfl
      conv => whnf
    · simp only [decide_eq_true_eq, decide_eq_false_iff_not] at hh70
      conv => whnf
      refine ⟨fun hh81 => ?_, fun hh81 => ?_⟩
      · simp only [decide_eq_true_eq, decide_eq_false_iff_not] at hh81
        conv => whnf
        refine (awake2_s).call ?_
        rintro _ rfl
        conv => whnf
      · simp only [decide_eq_true_eq, decide_eq_false_iff_not] at hh81
        conv => whnf
        refine ⟨fun hh92 => ?_, fun hh92 => ?_⟩
        · simp only [decide_eq_true_eq, decide_eq_false_iff_not] at hh92
          conv => whnf
          refine (awake2_s).call ?_
          rintro _ rfl
          conv => whnf
        · simp only [decide_eq_true_eq, decide_eq_false_iff_not] at hh92
          conv => whnf
          refine ⟨fun hh103 => ?_, fun hh103 => ?_⟩
          · simp only [decide_eq_true_eq, decide_eq_false_iff_not] at hh103
            conv => whnf
            refine ⟨fun hh104 => ?_, fun hh104 => ?_⟩
            · simp only [decide_eq_true_eq, decide_eq_false_iff_not] at hh104
              conv => whnf
              refine ⟨fun hh105 => ?_, fun hh105 => ?_⟩
              · simp only [decide_eq_true_eq, decide_eq_false_iff_not] at hh105
                conv => whnf
                refine (awake2_s).call ?_
                rintro _ rfl
                conv => whnf
              · simp only [decide_eq_true_eq, decide_eq_false_iff_not] at hh105
                conv => whnf
                refine ⟨fun hh116 => ?_, fun hh116 => ?_⟩
                · simp only [decide_eq_true_eq, decide_eq_false_iff_not] at hh116
                  conv => whnf
                  refine (awake2_s).call ?_
                  rintro _ rfl
                  conv => whnf
                · simp only [decide_eq_true_eq, decide_eq_false_iff_not] at hh116
                  conv => whnf
                  (exfalso; have hh := md_three (Decidable.not_not.1 (by assumption)) (Decidable.not_not.1 (by assumption)) (Decidable.not_not.1 (by assumption)); omega)
            · simp only [decide_eq_true_eq, decide_eq_false_iff_not] at hh104
              conv => whnf
              (exfalso; have hh := md_three (Decidable.not_not.1 (by assumption)) (Decidable.not_not.1 (by assumption)) (Decidable.not_not.1 (by assumption)); omega)
          · simp only [decide_eq_true_eq, decide_eq_false_iff_not] at hh103
            conv => whnf
            (exfalso; have hh := md_three (Decidable.not_not.1 (by assumption)) (Decidable.not_not.1 (by assumption)) (Decidable.not_not.1 (by assumption)); omega)
  · obtain ⟨s1, s2⟩ := hs hz
    conv => whnf
    refine (next_s _ _ _ (by first | omega | exact inx_fits _ _ | assumption | decide | simp) (by first | omega | exact inx_fits _ _ | assumption | decide | simp) (by first | omega | exact inx_fits _ _ | assumption | decide | simp)).call [0] (by decide) (And.intro rfl trivial) (And.intro rfl trivial) ?_
    rintro _ _ ⟨rfl, rfl⟩
    conv => whnf
    refine (muldiv_s _ _ _ _ (by first | omega | exact inx_fits _ _ | assumption | decide | simp) (by first | omega | exact inx_fits _ _ | assumption | decide | simp) (by first | omega | exact inx_fits _ _ | assumption | decide | simp)).call ?_
    rintro _ rfl
    conv => whnf
    refine both_t (by simp; omega) ?_
    conv => whnf
    refine both_f (by simp; omega) ?_
    conv => whnf
    refine both_f (by simp; omega) ?_
    conv => whnf
    refine (int64_s _ _ (by first | omega | exact inx_fits _ _ | assumption | decide | simp) (by first | omega | exact inx_fits _ _ | assumption | decide | simp)).call [0] (by decide) trivial (And.intro rfl trivial) ?_
    rintro _ _ ⟨rfl, rfl⟩
    conv => whnf
    refine (int64_s _ _ (by first | omega | exact inx_fits _ _ | assumption | decide | simp) (by first | omega | exact inx_fits _ _ | assumption | decide | simp)).call [0] (by decide) trivial (And.intro rfl trivial) ?_
    rintro _ _ ⟨rfl, rfl⟩
    conv => whnf
    refine (muldiv_s _ _ _ _ (by first | omega | exact inx_fits _ _ | assumption | decide | simp) (by first | omega | exact inx_fits _ _ | assumption | decide | simp) (by first | omega | exact inx_fits _ _ | assumption | decide | simp)).call ?_
    rintro _ rfl
    conv => whnf
    refine (muldiv_s _ _ _ _ (by first | omega | exact inx_fits _ _ | assumption | decide | simp) (by first | omega | exact inx_fits _ _ | assumption | decide | simp) (by first | omega | exact inx_fits _ _ | assumption | decide | simp)).call ?_
    rintro _ rfl
    conv => whnf
    refine (muldiv_s _ _ _ _ (by first | omega | exact inx_fits _ _ | assumption | decide | simp) (by first | omega | exact inx_fits _ _ | assumption | decide | simp) (by first | omega | exact inx_fits _ _ | assumption | decide | simp)).call ?_
    rintro _ rfl
    conv => whnf
    refine ⟨fun hh70 => ?_, fun hh70 => ?_⟩
    · simp only [decide_eq_true_eq, decide_eq_false_iff_not] at hh70
      conv => whnf
      refine (awake2_s).call ?_
      rintro _ rfl
      conv => whnf
    · simp only [decide_eq_true_eq, decide_eq_false_iff_not] at hh70
      conv => whnf
      refine ⟨fun hh81 => ?_, fun hh81 => ?_⟩
      · simp only [decide_eq_true_eq, decide_eq_false_iff_not] at hh81
        conv => whnf
        refine (awake2_s).call ?_
        rintro _ rfl
        conv => whnf
      · simp only [decide_eq_true_eq, decide_eq_false_iff_not] at hh81
        conv => whnf
        refine ⟨fun hh92 => ?_, fun hh92 => ?_⟩
        · simp only [decide_eq_true_eq, decide_eq_false_iff_not] at hh92
          conv => whnf
          refine (awake2_s).call ?_
          rintro _ rfl
          conv => whnf
        · simp only [decide_eq_true_eq, decide_eq_false_iff_not] at hh92
          conv => whnf
          refine ⟨fun hh103 => ?_, fun hh103 => ?_⟩
          · simp only [decide_eq_true_eq, decide_eq_false_iff_not] at hh103
            conv => whnf
            refine ⟨fun hh104 => ?_, fun hh104 => ?_⟩
            · simp only [decide_eq_true_eq, decide_eq_false_iff_not] at hh104
              conv => whnf
              refine ⟨fun hh105 => ?_, fun hh105 => ?_⟩
              · simp only [decide_eq_true_eq, decide_eq_false_iff_not] at hh105
                conv => whnf
                refine (awake2_s).call ?_
                rintro _ rfl
                conv => whnf
              · simp only [decide_eq_true_eq, decide_eq_false_iff_not] at hh105
                conv => whnf
                refine ⟨fun hh116 => ?_, fun hh116 => ?_⟩
                · simp only [decide_eq_true_eq, decide_eq_false_iff_not] at hh116
                  conv => whnf
                  refine (awake2_s).call ?_
                  rintro _ rfl
                  conv => whnf
                · simp only [decide_eq_true_eq, decide_eq_false_iff_not] at hh116
                  conv => whnf
                  (exfalso; have hh := md_three (Decidable.not_not.1 (by assumption)) (Decidable.not_not.1 (by assumption)) (Decidable.not_not.1 (by assumption)); omega)
            · simp only [decide_eq_true_eq, decide_eq_false_iff_not] at hh104
              conv => whnf
              (exfalso; have hh := md_three (Decidable.not_not.1 (by assumption)) (Decidable.not_not.1 (by assumption)) (Decidable.not_not.1 (by assumption)); omega)
          · simp only [decide_eq_true_eq, decide_eq_false_iff_not] at hh103
            conv => whnf
            (exfalso; have hh := md_three (Decidable.not_not.1 (by assumption)) (Decidable.not_not.1 (by assumption)) (Decidable.not_not.1 (by assumption)); omega)
end Go.Proofs.Ythlomoacacebeaa

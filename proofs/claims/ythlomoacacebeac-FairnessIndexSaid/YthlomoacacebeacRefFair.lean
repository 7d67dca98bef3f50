/- Contracts of the reference of chapter 14; the exact sample. No statement of the seat is proved here. -/
import Derived.Test.YthlomoacacebeacFair14
namespace Go.Proofs.Ythlomoacacebeac
open Go.Sx
set_option linter.unusedSimpArgs false
set_option linter.unusedVariables false
theorem goodWeightF_s (w : Int) : PSpec Try.prog 89 [.int .i64 w] (· = .bool (wty w)) := by
  refine .of_code' tab_ok Try.func89 (by rfl) rfl trivial ?_
  conv => whnf
  refine ⟨fun hh0 => ?_, fun hh0 => ?_⟩
  · simp only [decide_eq_true_eq, decide_eq_false_iff_not] at hh0
    conv => whnf
    simp [wty, *]
  · simp only [decide_eq_true_eq, decide_eq_false_iff_not] at hh0
    conv => whnf
    simp [wty, *]
theorem rsvalid_s (w b m : Int) : PSpec Try.prog 70 [smpE w b m] (· = .bool (smpOk w b m)) := by
  refine .of_code' tab_ok Try.func70 (by rfl) rfl trivial ?_
  conv => whnf
  refine (goodWeightF_s _).call ?_
  rintro _ rfl
  conv => whnf
  refine ⟨fun hh10 => ?_, fun hh10 => ?_⟩
  · skip
    conv => whnf
    refine ⟨fun hh11 => ?_, fun hh11 => ?_⟩
    · simp only [decide_eq_true_eq, decide_eq_false_iff_not] at hh11
      conv => whnf
      refine ⟨fun hh12 => ?_, fun hh12 => ?_⟩
      · simp only [decide_eq_true_eq, decide_eq_false_iff_not] at hh12
        conv => whnf
        refine ⟨fun hh13 => ?_, fun hh13 => ?_⟩
        · simp only [decide_eq_true_eq, decide_eq_false_iff_not] at hh13
          conv => whnf
          simp [smpOk, *]
        · simp only [decide_eq_true_eq, decide_eq_false_iff_not] at hh13
          conv => whnf
          simp [smpOk, *]
      · simp only [decide_eq_true_eq, decide_eq_false_iff_not] at hh12
        conv => whnf
        simp [smpOk, *]
    · simp only [decide_eq_true_eq, decide_eq_false_iff_not] at hh11
      conv => whnf
      simp [smpOk, *]
  · skip
    conv => whnf
    simp [smpOk, *]
theorem nov_ok {b w : Int} (hw : 1 ≤ w ∧ w ≤ 16) (h0 : 0 ≤ b) (h1 : b ≤ 2147483648) : IntKind.i64.wrap (b * IntKind.i64.wrap (Int.tdiv 720720 w)) = nov b w := by
  have hr := nov_rng b w
  obtain ⟨u0, u1, u2⟩ := unit_rng hw
  have e : nov b w = b * unit w := by unfold nov; rw [if_pos ⟨by omega, by omega, (wty_iff w).2 hw⟩]
  rw [e] at hr
  rw [u0, w64 (unit w) (by omega) (by omega), w64 _ (by omega) (by omega), e]
theorem service_s (w b m : Int) (hs : smpOk w b m = true) : PSpec Try.prog 88 [smpE w b m] (· = .int .i64 (nov b w)) := by
  refine .of_code' tab_ok Try.func88 (by rfl) rfl trivial ?_
  obtain ⟨hw, hb, hm⟩ := (smpOk_iff w b m).1 hs
  have e := nov_ok hw hb.1 hb.2
  conv => whnf
  refine DrawG.of mixed tab_ok ?_
  conv => whnf
  refine ⟨by omega, ?_⟩
  conv => whnf
  refine ⟨by kernel_rfl, ?_⟩
  conv => whnf
  exact int_e e
theorem rgap_s (w b m x c n : Int) : PSpec Try.prog 66 [smpE w b m, smpE x c n] (· = .tup [.int .i64 (gpv w b m x c n), .int .i64 (gpe w b m x c n)]) := by
  refine .of_code' tab_ok Try.func66 (by rfl) rfl trivial ?_
  have r1 := nov_rng b w
  have r2 := nov_rng c x
  have e1 : IntKind.i64.wrap (nov b w - nov c x) = nov b w - nov c x := w64 _ (by omega) (by omega)
  have e2 : IntKind.i64.wrap (nov c x - nov b w) = nov c x - nov b w := w64 _ (by omega) (by omega)
  have f0 : gpo w b m x c n = false → gpv w b m x c n = 0 ∧ gpe w b m x c n = 1 := fun h => by simp [gpv, gpe, h]
  have f1 : gpo w b m x c n = true → gpv w b m x c n = absI (nov b w - nov c x) ∧ gpe w b m x c n = 0 := fun h => by simp [gpv, gpe, h]
  conv => whnf
  refine (rsvalid_s _ _ _).call ?_
  rintro _ rfl
  conv => whnf
  refine ⟨fun hh10 => ?_, fun hh10 => ?_⟩
  · simp only [decide_eq_true_eq, decide_eq_false_iff_not, Bool.not_eq_true, Bool.not_eq_false, Bool.not_eq_true', Bool.not_eq_false', Bool.and_eq_true, Bool.and_eq_false_iff, Int.not_lt, Int.not_le, Decidable.not_not, beq_iff_eq, Bool.not_eq_eq_eq_not, Bool.not_true, Bool.not_false, beq_eq_false_iff_ne, ne_eq, decide_eq_decide] at hh10
    conv => whnf
    exact tup_ii (f0 (by simp [gpo, *])).1.symm (f0 (by simp [gpo, *])).2.symm
  · simp only [decide_eq_true_eq, decide_eq_false_iff_not, Bool.not_eq_true, Bool.not_eq_false, Bool.not_eq_true', Bool.not_eq_false', Bool.and_eq_true, Bool.and_eq_false_iff, Int.not_lt, Int.not_le, Decidable.not_not, beq_iff_eq, Bool.not_eq_eq_eq_not, Bool.not_true, Bool.not_false, beq_eq_false_iff_ne, ne_eq, decide_eq_decide] at hh10
    conv => whnf
    refine (rsvalid_s _ _ _).call ?_
    rintro _ rfl
    conv => whnf
    refine ⟨fun hh21 => ?_, fun hh21 => ?_⟩
    · simp only [decide_eq_true_eq, decide_eq_false_iff_not, Bool.not_eq_true, Bool.not_eq_false, Bool.not_eq_true', Bool.not_eq_false', Bool.and_eq_true, Bool.and_eq_false_iff, Int.not_lt, Int.not_le, Decidable.not_not, beq_iff_eq, Bool.not_eq_eq_eq_not, Bool.not_true, Bool.not_false, beq_eq_false_iff_ne, ne_eq, decide_eq_decide] at hh21
      conv => whnf
      exact tup_ii (f0 (by simp [gpo, *])).1.symm (f0 (by simp [gpo, *])).2.symm
    · simp only [decide_eq_true_eq, decide_eq_false_iff_not, Bool.not_eq_true, Bool.not_eq_false, Bool.not_eq_true', Bool.not_eq_false', Bool.and_eq_true, Bool.and_eq_false_iff, Int.not_lt, Int.not_le, Decidable.not_not, beq_iff_eq, Bool.not_eq_eq_eq_not, Bool.not_true, Bool.not_false, beq_eq_false_iff_ne, ne_eq, decide_eq_decide] at hh21
      conv => whnf
      refine DrawG.of mixed tab_ok ?_
      conv => whnf
      refine (service_s _ _ _ (by first | omega | assumption | decide | simp)).calld ?_
      conv => whnf
      refine (service_s _ _ _ (by first | omega | assumption | decide | simp)).calld ?_
      conv => whnf
      refine (service_s _ _ _ (by first | omega | assumption | decide | simp)).calld ?_
      conv => whnf
      refine (service_s _ _ _ (by first | omega | assumption | decide | simp)).calld ?_
      conv => whnf
      refine ⟨by kernel_rfl, ?_⟩
      conv => whnf
      exact tup_ii (by rw [e1, e2, (f1 (by simp [gpo, *])).1, absI]; (repeat' split) <;> omega) (f1 (by simp [gpo, *])).2.symm
theorem rbound_s (w b m x c n : Int) : PSpec Try.prog 68 [smpE w b m, smpE x c n] (· = .tup [.int .i64 (bdv w b m x c n), .int .i64 (gpe w b m x c n)]) := by
  refine .of_code' tab_ok Try.func68 (by rfl) rfl trivial ?_
  have r1 := nov_rng m w
  have r2 := nov_rng n x
  have f0 : gpo w b m x c n = false → bdv w b m x c n = 0 ∧ gpe w b m x c n = 1 := fun h => by simp [bdv, gpe, h]
  by_cases hg : gpo w b m x c n = true
  · obtain ⟨g1, g2⟩ : smpOk w b m = true ∧ smpOk x c n = true := by simpa [gpo] using hg
    obtain ⟨hw, hb, hm⟩ := (smpOk_iff w b m).1 g1
    obtain ⟨hx, hc, hn⟩ := (smpOk_iff x c n).1 g2
    have e1 := nov_ok hw hm.1 (by omega)
    have e2 := nov_ok hx hn.1 (by omega)
    have e3 : bdv w b m x c n = nov m w + nov n x ∧ gpe w b m x c n = 0 := by simp [bdv, gpe, hg]
    conv => whnf
    refine (rsvalid_s _ _ _).call ?_
    rintro _ rfl
    conv => whnf
    refine both_f (by simp; omega) ?_
    conv => whnf
    refine (rsvalid_s _ _ _).call ?_
    rintro _ rfl
    conv => whnf
    refine both_f (by simp; omega) ?_
    conv => whnf
    refine DrawG.of mixed tab_ok ?_
    conv => whnf
    refine ⟨by omega, ?_⟩
    conv => whnf
    refine ⟨by omega, ?_⟩
    conv => whnf
    refine ⟨by kernel_rfl, ?_⟩
    conv => whnf
    exact tup_ii (by rw [e1, e2, e3.1]; exact w64 _ (by omega) (by omega)) e3.2.symm
  · have hg : gpo w b m x c n = false := by simpa using hg
    conv => whnf
    refine (rsvalid_s _ _ _).call ?_
    rintro _ rfl
    conv => whnf
    refine ⟨fun hh10 => ?_, fun hh10 => ?_⟩
    · simp only [decide_eq_true_eq, decide_eq_false_iff_not, Bool.not_eq_true, Bool.not_eq_false, Bool.not_eq_true', Bool.not_eq_false', Bool.and_eq_true, Bool.and_eq_false_iff, Int.not_lt, Int.not_le, Decidable.not_not, beq_iff_eq, Bool.not_eq_eq_eq_not, Bool.not_true, Bool.not_false, beq_eq_false_iff_ne, ne_eq, decide_eq_decide] at hh10
      conv => whnf
      exact tup_ii (f0 hg).1.symm (f0 hg).2.symm
    · simp only [decide_eq_true_eq, decide_eq_false_iff_not, Bool.not_eq_true, Bool.not_eq_false, Bool.not_eq_true', Bool.not_eq_false', Bool.and_eq_true, Bool.and_eq_false_iff, Int.not_lt, Int.not_le, Decidable.not_not, beq_iff_eq, Bool.not_eq_eq_eq_not, Bool.not_true, Bool.not_false, beq_eq_false_iff_ne, ne_eq, decide_eq_decide] at hh10
      conv => whnf
      refine (rsvalid_s _ _ _).call ?_
      rintro _ rfl
      conv => whnf
      refine ⟨fun hh21 => ?_, fun hh21 => ?_⟩
      · simp only [decide_eq_true_eq, decide_eq_false_iff_not, Bool.not_eq_true, Bool.not_eq_false, Bool.not_eq_true', Bool.not_eq_false', Bool.and_eq_true, Bool.and_eq_false_iff, Int.not_lt, Int.not_le, Decidable.not_not, beq_iff_eq, Bool.not_eq_eq_eq_not, Bool.not_true, Bool.not_false, beq_eq_false_iff_ne, ne_eq, decide_eq_decide] at hh21
        conv => whnf
        exact tup_ii (f0 hg).1.symm (f0 hg).2.symm
      · simp only [decide_eq_true_eq, decide_eq_false_iff_not, Bool.not_eq_true, Bool.not_eq_false, Bool.not_eq_true', Bool.not_eq_false', Bool.and_eq_true, Bool.and_eq_false_iff, Int.not_lt, Int.not_le, Decidable.not_not, beq_iff_eq, Bool.not_eq_eq_eq_not, Bool.not_true, Bool.not_false, beq_eq_false_iff_ne, ne_eq, decide_eq_decide] at hh21
        conv => whnf
        refine DrawG.of mixed tab_ok ?_
        conv => whnf
        refine ⟨by (exfalso; simp [gpo] at hg; simp_all), ?_⟩
        conv => whnf
        refine ⟨by (exfalso; simp [gpo] at hg; simp_all), ?_⟩
        conv => whnf
        refine ⟨by kernel_rfl, ?_⟩
        conv => whnf
        (exfalso; simp [gpo] at hg; simp_all)
theorem rfair_s (w b m x c n : Int) : PSpec Try.prog 72 [smpE w b m, smpE x c n] (· = .bool (fairB w b m x c n)) := by
  refine .of_code' tab_ok Try.func72 (by rfl) rfl trivial ?_
  have f0 : gpe w b m x c n ≠ 0 → gpo w b m x c n = false := fun h => by cases hg : gpo w b m x c n <;> simp_all [gpe]
  have f1 : gpe w b m x c n = 0 → gpo w b m x c n = true := fun h => by cases hg : gpo w b m x c n <;> simp_all [gpe]
  conv => whnf
  refine (rgap_s _ _ _ _ _ _).call ?_
  rintro _ rfl
  conv => whnf
  refine (rbound_s _ _ _ _ _ _).call ?_
  rintro _ rfl
  conv => whnf
  refine ⟨fun hh20 => ?_, fun hh20 => ?_⟩
  · simp only [decide_eq_true_eq, decide_eq_false_iff_not] at hh20
    conv => whnf
    refine both_t (by simp; omega) ?_
    conv => whnf
    (rw [fairB, f1 (by omega)]; simp)
  · simp only [decide_eq_true_eq, decide_eq_false_iff_not] at hh20
    conv => whnf
    (rw [fairB, f0 (by omega)]; simp)
theorem pairs14_s (w b m x c n : Int) : PSpec Try.prog 24 [smpE w b m, smpE x c n] (· = .bool true) := by
  refine .of_code' tab_ok Try.func24 (by rfl) rfl trivial ?_
  conv => whnf
  refine (gap_s _ _ _ _ _ _).call ?_
  rintro _ rfl
  conv => whnf
  refine (rgap_s _ _ _ _ _ _).call ?_
  rintro _ rfl
  conv => whnf
  refine (bound_s _ _ _ _ _ _).call ?_
  rintro _ rfl
  conv => whnf
  refine (rbound_s _ _ _ _ _ _).call ?_
  rintro _ rfl
  conv => whnf
  refine DrawG.of mixed tab_ok ?_
  conv => whnf
  refine (fvalid_s _ _ _).calld ?_
  conv => whnf
  refine (rsvalid_s _ _ _).calld ?_
  conv => whnf
  refine both_t (by simp) ?_
  conv => whnf
  refine both_t (by simp) ?_
  conv => whnf
  refine both_t (by simp) ?_
  conv => whnf
  refine both_t (by simp) ?_
  conv => whnf
  refine both_t (by simp) ?_
  conv => whnf
  refine (fair_s _ _ _ _ _ _).calld ?_
  conv => whnf
  refine (rfair_s _ _ _ _ _ _).calld ?_
  conv => whnf
  refine ⟨by kernel_rfl, ?_⟩
  conv => whnf
  simp
end Go.Proofs.Ythlomoacacebeac

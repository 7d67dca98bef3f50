/- Contracts of package fairness. No statement of the seat is proved here. -/
import Derived.Test.YthlomoacacebeacTagList
namespace Go.Proofs.Ythlomoacacebeac
open Go.Sx
set_option linter.unusedSimpArgs false
set_option linter.unusedVariables false
def smpOk (w b m : Int) : Bool := wty w && decide (0 ≤ b) && decide (b ≤ 2147483648) && decide (0 ≤ m) && decide (m ≤ 4096)
abbrev smpE (w b m : Int) : SV := .agg [.int .i64 w, .int .i64 b, .int .i64 m]
theorem smpOk_iff (w b m : Int) : smpOk w b m = true ↔ (1 ≤ w ∧ w ≤ 16) ∧ (0 ≤ b ∧ b ≤ 2147483648) ∧ 0 ≤ m ∧ m ≤ 4096 := by
  simp [smpOk, wty]; omega
theorem smpOk_not (w b m : Int) : smpOk w b m = false ↔ ¬ ((1 ≤ w ∧ w ≤ 16) ∧ (0 ≤ b ∧ b ≤ 2147483648) ∧ 0 ≤ m ∧ m ≤ 4096) := by rw [← smpOk_iff]; simp
theorem fvalid_s (w b m : Int) : PSpec Try.prog 69 [smpE w b m] (· = .bool (smpOk w b m)) := by
  refine .of_code' tab_ok Try.func69 (by rfl) rfl trivial ?_
  conv => whnf
  refine ⟨fun hh0 => ?_, fun hh0 => ?_⟩
  · simp only [decide_eq_true_eq, decide_eq_false_iff_not] at hh0
    conv => whnf
    refine ⟨fun hh1 => ?_, fun hh1 => ?_⟩
    · simp only [decide_eq_true_eq, decide_eq_false_iff_not] at hh1
      conv => whnf
      refine ⟨fun hh2 => ?_, fun hh2 => ?_⟩
      · simp only [decide_eq_true_eq, decide_eq_false_iff_not] at hh2
        conv => whnf
        refine ⟨fun hh3 => ?_, fun hh3 => ?_⟩
        · simp only [decide_eq_true_eq, decide_eq_false_iff_not] at hh3
          conv => whnf
          refine ⟨fun hh4 => ?_, fun hh4 => ?_⟩
          · simp only [decide_eq_true_eq, decide_eq_false_iff_not] at hh4
            conv => whnf
            simp [smpOk, wty, *]
          · simp only [decide_eq_true_eq, decide_eq_false_iff_not] at hh4
            conv => whnf
            exact bool_e ((smpOk_not w b m).2 (by omega)).symm
        · simp only [decide_eq_true_eq, decide_eq_false_iff_not] at hh3
          conv => whnf
          exact bool_e ((smpOk_not w b m).2 (by omega)).symm
      · simp only [decide_eq_true_eq, decide_eq_false_iff_not] at hh2
        conv => whnf
        exact bool_e ((smpOk_not w b m).2 (by omega)).symm
    · simp only [decide_eq_true_eq, decide_eq_false_iff_not] at hh1
      conv => whnf
      exact bool_e ((smpOk_not w b m).2 (by omega)).symm
  · simp only [decide_eq_true_eq, decide_eq_false_iff_not] at hh0
    conv => whnf
    exact bool_e ((smpOk_not w b m).2 (by omega)).symm
theorem fnorm_s (w b m n : Int) : PSpec Try.prog 73 [smpE w b m, .int .i64 n] (· = .int .i64 (nov n w)) := by
  refine .of_code' tab_ok Try.func73 (by rfl) rfl trivial ?_
  conv => whnf
  refine (normalized_s _ _).call ?_
  rintro _ rfl
  conv => whnf
def gpo (w b m x c n : Int) : Bool := smpOk w b m && smpOk x c n
def absI (d : Int) : Int := if 0 ≤ d then d else -d
def gpv (w b m x c n : Int) : Int := if gpo w b m x c n = true then absI (nov b w - nov c x) else 0
def gpe (w b m x c n : Int) : Int := if gpo w b m x c n = true then 0 else 1
theorem gap_s (w b m x c n : Int) : PSpec Try.prog 27 [smpE w b m, smpE x c n] (· = .tup [.int .i64 (gpv w b m x c n), .int .i64 (gpe w b m x c n)]) := by
  refine .of_code' tab_ok Try.func27 (by rfl) rfl trivial ?_
  have r1 := nov_rng b w
  have r2 := nov_rng c x
  have e1 : IntKind.i64.wrap (nov b w - nov c x) = nov b w - nov c x := w64 _ (by omega) (by omega)
  have e2 : IntKind.i64.wrap (0 - (nov b w - nov c x)) = 0 - (nov b w - nov c x) := w64 _ (by omega) (by omega)
  have f0 : gpo w b m x c n = false → gpv w b m x c n = 0 ∧ gpe w b m x c n = 1 := fun h => by simp [gpv, gpe, h]
  have f1 : gpo w b m x c n = true → gpv w b m x c n = absI (nov b w - nov c x) ∧ gpe w b m x c n = 0 := fun h => by simp [gpv, gpe, h]
  conv => whnf
  refine (fvalid_s _ _ _).call ?_
  rintro _ rfl
  conv => whnf
  refine ⟨fun hh10 => ?_, fun hh10 => ?_⟩
  · simp only [decide_eq_true_eq, decide_eq_false_iff_not, Bool.not_eq_true, Bool.not_eq_false, Bool.not_eq_true', Bool.not_eq_false', Bool.and_eq_true, Bool.and_eq_false_iff, Int.not_lt, Int.not_le, Decidable.not_not, beq_iff_eq, Bool.not_eq_eq_eq_not, Bool.not_true, Bool.not_false, beq_eq_false_iff_ne, ne_eq, decide_eq_decide] at hh10
    conv => whnf
    exact tup_ii (f0 (by simp [gpo, *])).1.symm (f0 (by simp [gpo, *])).2.symm
  · simp only [decide_eq_true_eq, decide_eq_false_iff_not, Bool.not_eq_true, Bool.not_eq_false, Bool.not_eq_true', Bool.not_eq_false', Bool.and_eq_true, Bool.and_eq_false_iff, Int.not_lt, Int.not_le, Decidable.not_not, beq_iff_eq, Bool.not_eq_eq_eq_not, Bool.not_true, Bool.not_false, beq_eq_false_iff_ne, ne_eq, decide_eq_decide] at hh10
    conv => whnf
    refine (fvalid_s _ _ _).call ?_
    rintro _ rfl
    conv => whnf
    refine ⟨fun hh21 => ?_, fun hh21 => ?_⟩
    · simp only [decide_eq_true_eq, decide_eq_false_iff_not, Bool.not_eq_true, Bool.not_eq_false, Bool.not_eq_true', Bool.not_eq_false', Bool.and_eq_true, Bool.and_eq_false_iff, Int.not_lt, Int.not_le, Decidable.not_not, beq_iff_eq, Bool.not_eq_eq_eq_not, Bool.not_true, Bool.not_false, beq_eq_false_iff_ne, ne_eq, decide_eq_decide] at hh21
      conv => whnf
      exact tup_ii (f0 (by simp [gpo, *])).1.symm (f0 (by simp [gpo, *])).2.symm
    · simp only [decide_eq_true_eq, decide_eq_false_iff_not, Bool.not_eq_true, Bool.not_eq_false, Bool.not_eq_true', Bool.not_eq_false', Bool.and_eq_true, Bool.and_eq_false_iff, Int.not_lt, Int.not_le, Decidable.not_not, beq_iff_eq, Bool.not_eq_eq_eq_not, Bool.not_true, Bool.not_false, beq_eq_false_iff_ne, ne_eq, decide_eq_decide] at hh21
      conv => whnf
      refine DrawG.of mixed tab_ok ?_
      conv => whnf
      refine (fnorm_s _ _ _ _).calld ?_
      conv => whnf
      refine (fnorm_s _ _ _ _).calld ?_
      conv => whnf
      refine ⟨by kernel_rfl, ?_⟩
      conv => whnf
      exact tup_ii (by rw [e1, e2, (f1 (by simp [gpo, *])).1, absI]; (repeat' split) <;> omega) (f1 (by simp [gpo, *])).2.symm
def bdv (w b m x c n : Int) : Int := if gpo w b m x c n = true then nov m w + nov n x else 0
theorem bound_s (w b m x c n : Int) : PSpec Try.prog 67 [smpE w b m, smpE x c n] (· = .tup [.int .i64 (bdv w b m x c n), .int .i64 (gpe w b m x c n)]) := by
  refine .of_code' tab_ok Try.func67 (by rfl) rfl trivial ?_
  have r1 := nov_rng m w
  have r2 := nov_rng n x
  have f0 : gpo w b m x c n = false → bdv w b m x c n = 0 ∧ gpe w b m x c n = 1 := fun h => by simp [bdv, gpe, h]
  have f1 : gpo w b m x c n = true → bdv w b m x c n = nov m w + nov n x ∧ gpe w b m x c n = 0 := fun h => by simp [bdv, gpe, h]
  conv => whnf
  refine (fvalid_s _ _ _).call ?_
  rintro _ rfl
  conv => whnf
  refine ⟨fun hh10 => ?_, fun hh10 => ?_⟩
  · simp only [decide_eq_true_eq, decide_eq_false_iff_not, Bool.not_eq_true, Bool.not_eq_false, Bool.not_eq_true', Bool.not_eq_false', Bool.and_eq_true, Bool.and_eq_false_iff, Int.not_lt, Int.not_le, Decidable.not_not, beq_iff_eq, Bool.not_eq_eq_eq_not, Bool.not_true, Bool.not_false, beq_eq_false_iff_ne, ne_eq, decide_eq_decide] at hh10
    conv => whnf
    exact tup_ii (f0 (by simp [gpo, *])).1.symm (f0 (by simp [gpo, *])).2.symm
  · simp only [decide_eq_true_eq, decide_eq_false_iff_not, Bool.not_eq_true, Bool.not_eq_false, Bool.not_eq_true', Bool.not_eq_false', Bool.and_eq_true, Bool.and_eq_false_iff, Int.not_lt, Int.not_le, Decidable.not_not, beq_iff_eq, Bool.not_eq_eq_eq_not, Bool.not_true, Bool.not_false, beq_eq_false_iff_ne, ne_eq, decide_eq_decide] at hh10
    conv => whnf
    refine (fvalid_s _ _ _).call ?_
    rintro _ rfl
    conv => whnf
    refine ⟨fun hh21 => ?_, fun hh21 => ?_⟩
    · simp only [decide_eq_true_eq, decide_eq_false_iff_not, Bool.not_eq_true, Bool.not_eq_false, Bool.not_eq_true', Bool.not_eq_false', Bool.and_eq_true, Bool.and_eq_false_iff, Int.not_lt, Int.not_le, Decidable.not_not, beq_iff_eq, Bool.not_eq_eq_eq_not, Bool.not_true, Bool.not_false, beq_eq_false_iff_ne, ne_eq, decide_eq_decide] at hh21
      conv => whnf
      exact tup_ii (f0 (by simp [gpo, *])).1.symm (f0 (by simp [gpo, *])).2.symm
    · simp only [decide_eq_true_eq, decide_eq_false_iff_not, Bool.not_eq_true, Bool.not_eq_false, Bool.not_eq_true', Bool.not_eq_false', Bool.and_eq_true, Bool.and_eq_false_iff, Int.not_lt, Int.not_le, Decidable.not_not, beq_iff_eq, Bool.not_eq_eq_eq_not, Bool.not_true, Bool.not_false, beq_eq_false_iff_ne, ne_eq, decide_eq_decide] at hh21
      conv => whnf
      refine DrawG.of mixed tab_ok ?_
      conv => whnf
      refine (fnorm_s _ _ _ _).calld ?_
      conv => whnf
      refine (fnorm_s _ _ _ _).calld ?_
      conv => whnf
      refine ⟨by kernel_rfl, ?_⟩
      conv => whnf
      exact tup_ii ((w64 _ (by omega) (by omega)).trans (f1 (by simp [gpo, *])).1.symm) (f1 (by simp [gpo, *])).2.symm
def fairB (w b m x c n : Int) : Bool := gpo w b m x c n && decide (gpv w b m x c n ≤ bdv w b m x c n)
theorem fair_s (w b m x c n : Int) : PSpec Try.prog 71 [smpE w b m, smpE x c n] (· = .bool (fairB w b m x c n)) := by
  refine .of_code' tab_ok Try.func71 (by rfl) rfl trivial ?_
  have f0 : gpe w b m x c n ≠ 0 → gpo w b m x c n = false := fun h => by cases hg : gpo w b m x c n <;> simp_all [gpe]
  have f1 : gpe w b m x c n = 0 → gpo w b m x c n = true := fun h => by cases hg : gpo w b m x c n <;> simp_all [gpe]
  conv => whnf
  refine (gap_s _ _ _ _ _ _).call ?_
  rintro _ rfl
  conv => whnf
  refine (bound_s _ _ _ _ _ _).call ?_
  rintro _ rfl
  conv => whnf
  refine ⟨fun hh20 => ?_, fun hh20 => ?_⟩
  · simp only [decide_eq_true_eq, decide_eq_false_iff_not] at hh20
    conv => whnf
    (rw [fairB, f1 (by omega)]; simp)
  · simp only [decide_eq_true_eq, decide_eq_false_iff_not] at hh20
    conv => whnf
    (rw [fairB, f0 (by omega)]; simp)
end Go.Proofs.Ythlomoacacebeac

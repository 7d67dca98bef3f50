/- Chapter 8: valid headers and their records. -/
import Derived.Test.YtdommpfnoiemkaaNameR
import Derived.Test.YtdommpfnoiemkaaPkt3
namespace Go.Proofs.Ytdommpfnoiemkaa
open Go.Sx
set_option linter.unusedSimpArgs false
set_option linter.unusedVariables false
structure Hd where
  st : List UInt8
  c : Int
  p : Int
  l : Int
  f : Int
abbrev hdE (h : Hd) : SV := .agg [.str h.st, .int .i64 h.c, .int .i64 h.p, .int .i64 h.l, .int .i64 h.f]
def hdP (h : Hd) : Prop := 0 ≤ h.c ∧ h.c ≤ 7 ∧ 0 ≤ h.p ∧ h.p ≤ 65535 ∧ 1 ≤ h.l ∧ h.l ≤ 4096 ∧ 0 ≤ h.f ∧ h.f ≤ 65535
instance (h : Hd) : Decidable (hdP h) := by unfold hdP; infer_instance
def hdOk (h : Hd) : Bool := nameOk h.st && decide (hdP h)
theorem hdOk_t {h : Hd} (a : nameOk h.st = true) (b : hdP h) : hdOk h = true := by unfold hdOk; rw [a, decide_eq_true b]; rfl
theorem hdOk_f {h : Hd} (b : ¬ hdP h) : hdOk h = false := by unfold hdOk; rw [decide_eq_false b, Bool.and_false]
theorem hdOk_n {h : Hd} (a : nameOk h.st = false) : hdOk h = false := by unfold hdOk; rw [a]; rfl
theorem hdOk_d {h : Hd} {q : Prop} [Decidable q] (a : nameOk h.st = true) (b : q ↔ hdP h) : decide q = hdOk h := by unfold hdOk; rw [a, Bool.true_and]; exact decide_eq_decide.2 b
theorem pvalid_s (h : Hd) : PSpec Try.prog 59 [hdE h] (· = .bool (hdOk h)) := by
  refine .of_code' tab_ok Try.func59 (by rfl) rfl trivial ?_
  conv => whnf
  refine (lvalid_s _).call ?_
  rintro _ rfl
  conv => whnf
  refine ⟨fun hh10 => ?_, fun hh10 => ?_⟩
  · skip
    conv => whnf
    refine ⟨fun hh11 => ?_, fun hh11 => ?_⟩
    · simp only [decide_eq_true_eq, decide_eq_false_iff_not] at hh11
      conv => whnf
      refine ⟨fun hh12 => ?_, fun hh12 => ?_⟩
      · simp only [decide_eq_true_eq, decide_eq_false_iff_not] at hh12
        conv => whnf
        refine ⟨fun hh13 => ?_, fun hh13 => ?_⟩
        · simp only [decide_eq_true_eq, decide_eq_false_iff_not] at hh13
          conv => whnf
          refine ⟨fun hh14 => ?_, fun hh14 => ?_⟩
          · simp only [decide_eq_true_eq, decide_eq_false_iff_not] at hh14
            conv => whnf
            refine ⟨fun hh15 => ?_, fun hh15 => ?_⟩
            · simp only [decide_eq_true_eq, decide_eq_false_iff_not] at hh15
              conv => whnf
              refine ⟨fun hh16 => ?_, fun hh16 => ?_⟩
              · simp only [decide_eq_true_eq, decide_eq_false_iff_not] at hh16
                conv => whnf
                refine ⟨fun hh17 => ?_, fun hh17 => ?_⟩
                · simp only [decide_eq_true_eq, decide_eq_false_iff_not] at hh17
                  conv => whnf
                  exact bool_e (hdOk_d ‹_› (by unfold hdP; omega))
                · simp only [decide_eq_true_eq, decide_eq_false_iff_not] at hh17
                  conv => whnf
                  exact bool_e (hdOk_f (by unfold hdP; omega)).symm
              · simp only [decide_eq_true_eq, decide_eq_false_iff_not] at hh16
                conv => whnf
                exact bool_e (hdOk_f (by unfold hdP; omega)).symm
            · simp only [decide_eq_true_eq, decide_eq_false_iff_not] at hh15
              conv => whnf
              exact bool_e (hdOk_f (by unfold hdP; omega)).symm
          · simp only [decide_eq_true_eq, decide_eq_false_iff_not] at hh14
            conv => whnf
            exact bool_e (hdOk_f (by unfold hdP; omega)).symm
        · simp only [decide_eq_true_eq, decide_eq_false_iff_not] at hh13
          conv => whnf
          exact bool_e (hdOk_f (by unfold hdP; omega)).symm
      · simp only [decide_eq_true_eq, decide_eq_false_iff_not] at hh12
        conv => whnf
        exact bool_e (hdOk_f (by unfold hdP; omega)).symm
    · simp only [decide_eq_true_eq, decide_eq_false_iff_not] at hh11
      conv => whnf
      exact bool_e (hdOk_f (by unfold hdP; omega)).symm
  · skip
    conv => whnf
    exact bool_e (hdOk_n ‹_›).symm
theorem rvalidh_s (h : Hd) (hs : h.st.length ≤ 1000) : PSpec Try.prog 60 [hdE h] (· = .bool (hdOk h)) := by
  refine .of_code' tab_ok Try.func60 (by rfl) rfl trivial ?_
  conv => whnf
  refine (rvalid_s _ (by first | omega | assumption | decide | simp)).call ?_
  rintro _ rfl
  conv => whnf
  refine ⟨fun hh10 => ?_, fun hh10 => ?_⟩
  · skip
    conv => whnf
    refine ⟨fun hh11 => ?_, fun hh11 => ?_⟩
    · simp only [decide_eq_true_eq, decide_eq_false_iff_not] at hh11
      conv => whnf
      refine ⟨fun hh12 => ?_, fun hh12 => ?_⟩
      · simp only [decide_eq_true_eq, decide_eq_false_iff_not] at hh12
        conv => whnf
        refine ⟨fun hh13 => ?_, fun hh13 => ?_⟩
        · simp only [decide_eq_true_eq, decide_eq_false_iff_not] at hh13
          conv => whnf
          refine ⟨fun hh14 => ?_, fun hh14 => ?_⟩
          · simp only [decide_eq_true_eq, decide_eq_false_iff_not] at hh14
            conv => whnf
            refine ⟨fun hh15 => ?_, fun hh15 => ?_⟩
            · simp only [decide_eq_true_eq, decide_eq_false_iff_not] at hh15
              conv => whnf
              refine ⟨fun hh16 => ?_, fun hh16 => ?_⟩
              · simp only [decide_eq_true_eq, decide_eq_false_iff_not] at hh16
                conv => whnf
                refine ⟨fun hh17 => ?_, fun hh17 => ?_⟩
                · simp only [decide_eq_true_eq, decide_eq_false_iff_not] at hh17
                  conv => whnf
                  exact bool_e (hdOk_d ‹_› (by unfold hdP; omega))
                · simp only [decide_eq_true_eq, decide_eq_false_iff_not] at hh17
                  conv => whnf
                  exact bool_e (hdOk_f (by unfold hdP; omega)).symm
              · simp only [decide_eq_true_eq, decide_eq_false_iff_not] at hh16
                conv => whnf
                exact bool_e (hdOk_f (by unfold hdP; omega)).symm
            · simp only [decide_eq_true_eq, decide_eq_false_iff_not] at hh15
              conv => whnf
              exact bool_e (hdOk_f (by unfold hdP; omega)).symm
          · simp only [decide_eq_true_eq, decide_eq_false_iff_not] at hh14
            conv => whnf
            exact bool_e (hdOk_f (by unfold hdP; omega)).symm
        · simp only [decide_eq_true_eq, decide_eq_false_iff_not] at hh13
          conv => whnf
          exact bool_e (hdOk_f (by unfold hdP; omega)).symm
      · simp only [decide_eq_true_eq, decide_eq_false_iff_not] at hh12
        conv => whnf
        exact bool_e (hdOk_f (by unfold hdP; omega)).symm
    · simp only [decide_eq_true_eq, decide_eq_false_iff_not] at hh11
      conv => whnf
      exact bool_e (hdOk_f (by unfold hdP; omega)).symm
  · skip
    conv => whnf
    exact bool_e (hdOk_n ‹_›).symm
end Go.Proofs.Ytdommpfnoiemkaa

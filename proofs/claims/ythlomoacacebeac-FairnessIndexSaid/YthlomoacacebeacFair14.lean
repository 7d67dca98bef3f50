/- What the statements of chapter 14 compute. No statement of the seat is proved here. -/
import Derived.Test.YthlomoacacebeacFair
namespace Go.Proofs.Ythlomoacacebeac
open Go.Sx
set_option linter.unusedSimpArgs false
set_option linter.unusedVariables false
theorem awake14_s : PSpec Try.prog 26 [] (· = .bool true) := by
  refine .of_code' tab_ok Try.func26 (by rfl) rfl trivial ?_
  conv => whnf
  refine (gap_s _ _ _ _ _ _).call ?_
  rintro _ rfl
  conv => whnf
  refine (gap_s _ _ _ _ _ _).call ?_
  rintro _ rfl
  conv => whnf
  refine both_t rfl ?_
  conv => whnf
  refine both_t rfl ?_
  conv => whnf
  refine both_t rfl ?_
  conv => whnf
  refine both_t rfl ?_
  conv => whnf
  refine (fair_s _ _ _ _ _ _).call ?_
  rintro _ rfl
  conv => whnf
  rfl
theorem sample_s (ls : List Int) (at' : Int) (h0 : 0 ≤ at') (h1 : at' < 9223372036854775000) :
    OSpec Try.prog 25 [.ptr 0 0] [chs ls at'] fun s ho => ∃ (w b m a2 : Int), s = smpE w b m ∧ ho = [chs ls a2] ∧ at' ≤ a2 ∧ a2 ≤ at' + 10 := by
  refine .of_code tab_ok Try.func25 (by rfl) rfl trivial ?_
  have fin : ∀ (w b m a2 : Int), at' ≤ a2 → a2 ≤ at' + 10 → ∃ (w' b' m' a3 : Int), smpE w b m = smpE w' b' m' ∧ [chs ls a2] = [chs ls a3] ∧ at' ≤ a3 ∧ a3 ≤ at' + 10 :=
    fun w b m a2 p q => ⟨w, b, m, a2, rfl, rfl, p, q⟩
  conv => whnf
  refine DrawG.of mixed tab_ok ?_
  conv => whnf
  refine (weight_s _ _ (by first | omega | assumption | decide | simp) (by first | omega | assumption | decide | simp)).calld [0] (by decide) rfl trivial (And.intro rfl trivial) ?_
  conv => whnf
  refine (next_s _ _ _ (by first | omega | assumption | decide | simp) (by first | omega | assumption | decide | simp) (by first | omega | assumption | decide | simp)).calld [0] (by decide) rfl (And.intro rfl trivial) (And.intro rfl trivial) ?_
  conv => whnf
  refine ⟨by exact ⟨nxt_lo _ _ _, nxt_hi _ _ _ (by omega)⟩, ?_⟩
  conv => whnf
  refine ⟨_, lit_get (l := [0, 100, 200, 2147483648, 12345, 1500]) (nxt_lo _ _ _) (nxt_hi _ _ _ (by decide)), ?_⟩
  conv => whnf
  refine (next_s _ _ _ (by first | omega | assumption | decide | simp) (by first | omega | assumption | decide | simp) (by first | omega | assumption | decide | simp)).calld [0] (by decide) rfl (And.intro rfl trivial) (And.intro rfl trivial) ?_
  conv => whnf
  refine ⟨by exact ⟨nxt_lo _ _ _, nxt_hi _ _ _ (by omega)⟩, ?_⟩
  conv => whnf
  refine ⟨_, lit_get (l := [0, 1, 100, 4096]) (nxt_lo _ _ _) (nxt_hi _ _ _ (by decide)), ?_⟩
  conv => whnf
  refine ⟨by kernel_rfl, ?_⟩
  conv => whnf
  refine (next_s _ _ _ (by first | omega | assumption | decide | simp) (by first | omega | assumption | decide | simp) (by first | omega | assumption | decide | simp)).call [0] (by decide) (And.intro rfl trivial) (And.intro rfl trivial) ?_
  rintro _ _ ⟨rfl, rfl⟩
  conv => whnf
  refine ⟨fun hh42 => ?_, fun hh42 => ?_⟩
  · simp only [decide_eq_true_eq, decide_eq_false_iff_not] at hh42
    conv => whnf
    refine (next_s _ _ _ (by first | omega | assumption | decide | simp) (by first | omega | assumption | decide | simp) (by first | omega | assumption | decide | simp)).call [0] (by decide) (And.intro rfl trivial) (And.intro rfl trivial) ?_
    rintro _ _ ⟨rfl, rfl⟩
    conv => whnf
    refine ⟨by exact ⟨nxt_lo _ _ _, nxt_hi _ _ _ (by omega)⟩, ?_⟩
    conv => whnf
    refine ⟨_, lit_get (l := [0, 17]) (nxt_lo _ _ _) (nxt_hi _ _ _ (by decide)), ?_⟩
    conv => whnf
    refine fin _ _ _ _ (by omega) (by omega)
  · simp only [decide_eq_true_eq, decide_eq_false_iff_not] at hh42
    conv => whnf
    refine ⟨fun hh55 => ?_, fun hh55 => ?_⟩
    · simp only [decide_eq_true_eq, decide_eq_false_iff_not] at hh55
      conv => whnf
      refine (next_s _ _ _ (by first | omega | assumption | decide | simp) (by first | omega | assumption | decide | simp) (by first | omega | assumption | decide | simp)).call [0] (by decide) (And.intro rfl trivial) (And.intro rfl trivial) ?_
      rintro _ _ ⟨rfl, rfl⟩
      conv => whnf
      refine ⟨by exact ⟨nxt_lo _ _ _, nxt_hi _ _ _ (by omega)⟩, ?_⟩
      conv => whnf
      refine ⟨_, lit_get (l := [-1, 2147483649]) (nxt_lo _ _ _) (nxt_hi _ _ _ (by decide)), ?_⟩
      conv => whnf
      refine fin _ _ _ _ (by omega) (by omega)
    · simp only [decide_eq_true_eq, decide_eq_false_iff_not] at hh55
      conv => whnf
      refine ⟨fun hh68 => ?_, fun hh68 => ?_⟩
      · simp only [decide_eq_true_eq, decide_eq_false_iff_not] at hh68
        conv => whnf
        refine (next_s _ _ _ (by first | omega | assumption | decide | simp) (by first | omega | assumption | decide | simp) (by first | omega | assumption | decide | simp)).call [0] (by decide) (And.intro rfl trivial) (And.intro rfl trivial) ?_
        rintro _ _ ⟨rfl, rfl⟩
        conv => whnf
        refine ⟨by exact ⟨nxt_lo _ _ _, nxt_hi _ _ _ (by omega)⟩, ?_⟩
        conv => whnf
        refine ⟨_, lit_get (l := [-1, 4097]) (nxt_lo _ _ _) (nxt_hi _ _ _ (by decide)), ?_⟩
        conv => whnf
        refine fin _ _ _ _ (by omega) (by omega)
      · simp only [decide_eq_true_eq, decide_eq_false_iff_not] at hh68
        conv => whnf
        refine fin _ _ _ _ (by omega) (by omega)
end Go.Proofs.Ythlomoacacebeac

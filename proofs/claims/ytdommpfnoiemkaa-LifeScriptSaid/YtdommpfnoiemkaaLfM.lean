/- Chapter 18: statistics and orders of tables that nobody changes any more. -/
import Derived.Test.YtdommpfnoiemkaaLfL
namespace Go.Proofs.Ytdommpfnoiemkaa
open Go.Sx
set_option linter.unusedSimpArgs false
set_option linter.unusedVariables false
def rrF (R : R3) (f : Int) : Int := if f = 0 then R.r 0 else if f = 1 then R.r 1 else if f = 2 then R.r 2 else 0
def stW (R : R3) (f : Int) : SV := if 0 ≤ f ∧ f < 32 then .agg [.int .i64 f, .int .i64 (sumP (gF f) R.P), .int .i64 (sumP (gS f 3) R.P), .int .i64 (sumP (gS f 4) R.P + rrF R f), .int .i64 (sumP (gB f) R.P), .int .i64 0] else .agg [.int .i64 0, .int .i64 0, .int .i64 0, .int .i64 0, .int .i64 0, .int .i64 0]
theorem sum_zero {g : Pk → Int} : ∀ {P : List Pk}, (∀ i, i < P.length → g (gp P i) = 0) → sumP g P = 0
  | [], _ => rfl
  | q :: P, h => by
    have ih := sum_zero (P := P) fun i hi => h (i + 1) (by simp; omega)
    have h0 : g q = 0 := h 0 (by simp)
    simp only [sumP, ih, h0]; rfl
theorem far {P : List Pk} (h : flOk P) {f : Int} (hf : 3 ≤ f) : sumP (gF f) P = 0 ∧ sumP (gS f 3) P = 0 ∧ sumP (gS f 4) P = 0 ∧ sumP (gB f) P = 0 := by
  have hne : ∀ i, i < P.length → (gp P i).1 ≠ f := fun i hi => by have := h i hi; unfold fOk at this; omega
  exact ⟨sum_zero fun i hi => if_neg (hne i hi), sum_zero fun i hi => if_neg fun q => hne i hi q.1, sum_zero fun i hi => if_neg fun q => hne i hi q.1, sum_zero fun i hi => if_neg fun q => hne i hi q.1⟩
theorem stW_far {n m : Nat} {R : R3} (h : IR n m R) {f : Int} (h3 : 3 ≤ f) (h32 : f < 32) : stW R f = .agg [.int .i64 f, .int .i64 0, .int .i64 0, .int .i64 0, .int .i64 0, .int .i64 0] := by
  obtain ⟨a, b, c, d⟩ := far h.fl h3
  have e : rrF R f = 0 := by unfold rrF; rw [if_neg (by omega), if_neg (by omega), if_neg (by omega)]
  unfold stW
  rw [if_pos ⟨by omega, h32⟩, a, b, c, d, e]; rfl
theorem stW_out {R : R3} {f : Int} (h : ¬ (0 ≤ f ∧ f < 32)) : stW R f = .agg [.int .i64 0, .int .i64 0, .int .i64 0, .int .i64 0, .int .i64 0, .int .i64 0] := if_neg h
theorem stW_k {R : R3} {f : Int} (k : Nat) (hk : k < 3) (h : f = (k : Int)) : stW R f = .agg [.int .i64 f, .int .i64 (cel R.P R.r (6 * k + 1)), .int .i64 (cel R.P R.r (6 * k + 2)), .int .i64 (cel R.P R.r (6 * k + 3)), .int .i64 (cel R.P R.r (6 * k + 4)), .int .i64 (cel R.P R.r (6 * k + 5))] := by
  subst h
  match k, hk with
  | 0, _ => rfl
  | 1, _ => rfl
  | 2, _ => rfl
theorem f32 {f : Int} (h : 0 ≤ f ∧ f < 32) : f = ((0 : Nat) : Int) ∨ f = ((1 : Nat) : Int) ∨ f = ((2 : Nat) : Int) ∨ f = ((3 : Nat) : Int) ∨ f = ((4 : Nat) : Int) ∨ f = ((5 : Nat) : Int) ∨ f = ((6 : Nat) : Int) ∨ f = ((7 : Nat) : Int) ∨ f = ((8 : Nat) : Int) ∨ f = ((9 : Nat) : Int) ∨ f = ((10 : Nat) : Int) ∨ f = ((11 : Nat) : Int) ∨ f = ((12 : Nat) : Int) ∨ f = ((13 : Nat) : Int) ∨ f = ((14 : Nat) : Int) ∨ f = ((15 : Nat) : Int) ∨ f = ((16 : Nat) : Int) ∨ f = ((17 : Nat) : Int) ∨ f = ((18 : Nat) : Int) ∨ f = ((19 : Nat) : Int) ∨ f = ((20 : Nat) : Int) ∨ f = ((21 : Nat) : Int) ∨ f = ((22 : Nat) : Int) ∨ f = ((23 : Nat) : Int) ∨ f = ((24 : Nat) : Int) ∨ f = ((25 : Nat) : Int) ∨ f = ((26 : Nat) : Int) ∨ f = ((27 : Nat) : Int) ∨ f = ((28 : Nat) : Int) ∨ f = ((29 : Nat) : Int) ∨ f = ((30 : Nat) : Int) ∨ f = ((31 : Nat) : Int) := by omega
theorem ord_far {n m : Nat} {R : R3} (h : IR n m R) {f : Int} (h3 : ¬ (f = 0 ∨ f = 1 ∨ f = 2)) : ordO R.P R.D f = [] := by
  unfold ordO
  rw [List.filter_eq_nil_iff]
  intro y hy q
  have q := of_decide_eq_true q
  have hr := (h.dd y hy).1
  unfold inR at hr
  have := h.fl (y.toNat - 1) (by omega)
  unfold fOk at this
  unfold flw at q
  omega
section
variable {n m : Nat} {R : R3}
set_option maxHeartbeats 8000000 in
theorem statsZ_s (h : IR n m R) (hn : n ≤ 200) (f : Int) :
    OSpec Try.prog 29 [.ptr 0 0, .int .i64 f] [lgZ R] fun r ho => r = stW R f ∧ ho = [lgZ R] := by
  refine .of_code tab_ok Try.func29 (by rfl) rfl trivial ?_
  by_cases hf : 0 ≤ f ∧ f < 32
  · rcases f32 hf with h0f | h0f | h0f | h0f | h0f | h0f | h0f | h0f | h0f | h0f | h0f | h0f | h0f | h0f | h0f | h0f | h0f | h0f | h0f | h0f | h0f | h0f | h0f | h0f | h0f | h0f | h0f | h0f | h0f | h0f | h0f | h0f
    · conv => whnf
      refine CallG.of_code tab_ok Try.func74 (by rfl) rfl ?_
      conv => whnf
      refine both_t (by simp; omega) ?_
      conv => whnf
      refine both_f (by simp; omega) ?_
      conv => whnf
      refine ⟨by omega, ?_⟩
      conv => whnf
      (refine ⟨0, h0f, ?_⟩)
      conv => whnf
      refine ⟨by (exact (stW_k 0 (by decide) h0f).symm), ?_⟩
      conv => whnf
    · conv => whnf
      refine CallG.of_code tab_ok Try.func74 (by rfl) rfl ?_
      conv => whnf
      refine both_t (by simp; omega) ?_
      conv => whnf
      refine both_f (by simp; omega) ?_
      conv => whnf
      refine ⟨by omega, ?_⟩
      conv => whnf
      (refine ⟨1, h0f, ?_⟩)
      conv => whnf
      refine ⟨by (exact (stW_k 1 (by decide) h0f).symm), ?_⟩
      conv => whnf
    · conv => whnf
      refine CallG.of_code tab_ok Try.func74 (by rfl) rfl ?_
      conv => whnf
      refine both_t (by simp; omega) ?_
      conv => whnf
      refine both_f (by simp; omega) ?_
      conv => whnf
      refine ⟨by omega, ?_⟩
      conv => whnf
      (refine ⟨2, h0f, ?_⟩)
      conv => whnf
      refine ⟨by (exact (stW_k 2 (by decide) h0f).symm), ?_⟩
      conv => whnf
    · conv => whnf
      refine CallG.of_code tab_ok Try.func74 (by rfl) rfl ?_
      conv => whnf
      refine both_t (by simp; omega) ?_
      conv => whnf
      refine both_f (by simp; omega) ?_
      conv => whnf
      refine ⟨by omega, ?_⟩
      conv => whnf
      (refine ⟨3, h0f, ?_⟩)
      conv => whnf
      refine ⟨by (exact (stW_far h (by omega) (by omega)).symm), ?_⟩
      conv => whnf
    · conv => whnf
      refine CallG.of_code tab_ok Try.func74 (by rfl) rfl ?_
      conv => whnf
      refine both_t (by simp; omega) ?_
      conv => whnf
      refine both_f (by simp; omega) ?_
      conv => whnf
      refine ⟨by omega, ?_⟩
      conv => whnf
      (refine ⟨4, h0f, ?_⟩)
      conv => whnf
      refine ⟨by (exact (stW_far h (by omega) (by omega)).symm), ?_⟩
      conv => whnf
    · conv => whnf
      refine CallG.of_code tab_ok Try.func74 (by rfl) rfl ?_
      conv => whnf
      refine both_t (by simp; omega) ?_
      conv => whnf
      refine both_f (by simp; omega) ?_
      conv => whnf
      refine ⟨by omega, ?_⟩
      conv => whnf
      (refine ⟨5, h0f, ?_⟩)
      conv => whnf
      refine ⟨by (exact (stW_far h (by omega) (by omega)).symm), ?_⟩
      conv => whnf
    · conv => whnf
      refine CallG.of_code tab_ok Try.func74 (by rfl) rfl ?_
      conv => whnf
      refine both_t (by simp; omega) ?_
      conv => whnf
      refine both_f (by simp; omega) ?_
      conv => whnf
      refine ⟨by omega, ?_⟩
      conv => whnf
      (refine ⟨6, h0f, ?_⟩)
      conv => whnf
      refine ⟨by (exact (stW_far h (by omega) (by omega)).symm), ?_⟩
      conv => whnf
    · conv => whnf
      refine CallG.of_code tab_ok Try.func74 (by rfl) rfl ?_
      conv => whnf
      refine both_t (by simp; omega) ?_
      conv => whnf
      refine both_f (by simp; omega) ?_
      conv => whnf
      refine ⟨by omega, ?_⟩
      conv => whnf
      (refine ⟨7, h0f, ?_⟩)
      conv => whnf
      refine ⟨by (exact (stW_far h (by omega) (by omega)).symm), ?_⟩
      conv => whnf
    · conv => whnf
      refine CallG.of_code tab_ok Try.func74 (by rfl) rfl ?_
      conv => whnf
      refine both_t (by simp; omega) ?_
      conv => whnf
      refine both_f (by simp; omega) ?_
      conv => whnf
      refine ⟨by omega, ?_⟩
      conv => whnf
      (refine ⟨8, h0f, ?_⟩)
      conv => whnf
      refine ⟨by (exact (stW_far h (by omega) (by omega)).symm), ?_⟩
      conv => whnf
    · conv => whnf
      refine CallG.of_code tab_ok Try.func74 (by rfl) rfl ?_
      conv => whnf
      refine both_t (by simp; omega) ?_
      conv => whnf
      refine both_f (by simp; omega) ?_
      conv => whnf
      refine ⟨by omega, ?_⟩
      conv => whnf
      (refine ⟨9, h0f, ?_⟩)
      conv => whnf
      refine ⟨by (exact (stW_far h (by omega) (by omega)).symm), ?_⟩
      conv => whnf
    · conv => whnf
      refine CallG.of_code tab_ok Try.func74 (by rfl) rfl ?_
      conv => whnf
      refine both_t (by simp; omega) ?_
      conv => whnf
      refine both_f (by simp; omega) ?_
      conv => whnf
      refine ⟨by omega, ?_⟩
      conv => whnf
      (refine ⟨10, h0f, ?_⟩)
      conv => whnf
      refine ⟨by (exact (stW_far h (by omega) (by omega)).symm), ?_⟩
      conv => whnf
    · conv => whnf
      refine CallG.of_code tab_ok Try.func74 (by rfl) rfl ?_
      conv => whnf
      refine both_t (by simp; omega) ?_
      conv => whnf
      refine both_f (by simp; omega) ?_
      conv => whnf
      refine ⟨by omega, ?_⟩
      conv => whnf
      (refine ⟨11, h0f, ?_⟩)
      conv => whnf
      refine ⟨by (exact (stW_far h (by omega) (by omega)).symm), ?_⟩
      conv => whnf
    · conv => whnf
      refine CallG.of_code tab_ok Try.func74 (by rfl) rfl ?_
      conv => whnf
      refine both_t (by simp; omega) ?_
      conv => whnf
      refine both_f (by simp; omega) ?_
      conv => whnf
      refine ⟨by omega, ?_⟩
      conv => whnf
      (refine ⟨12, h0f, ?_⟩)
      conv => whnf
      refine ⟨by (exact (stW_far h (by omega) (by omega)).symm), ?_⟩
      conv => whnf
    · conv => whnf
      refine CallG.of_code tab_ok Try.func74 (by rfl) rfl ?_
      conv => whnf
      refine both_t (by simp; omega) ?_
      conv => whnf
      refine both_f (by simp; omega) ?_
      conv => whnf
      refine ⟨by omega, ?_⟩
      conv => whnf
      (refine ⟨13, h0f, ?_⟩)
      conv => whnf
      refine ⟨by (exact (stW_far h (by omega) (by omega)).symm), ?_⟩
      conv => whnf
    · conv => whnf
      refine CallG.of_code tab_ok Try.func74 (by rfl) rfl ?_
      conv => whnf
      refine both_t (by simp; omega) ?_
      conv => whnf
      refine both_f (by simp; omega) ?_
      conv => whnf
      refine ⟨by omega, ?_⟩
      conv => whnf
      (refine ⟨14, h0f, ?_⟩)
      conv => whnf
      refine ⟨by (exact (stW_far h (by omega) (by omega)).symm), ?_⟩
      conv => whnf
    · conv => whnf
      refine CallG.of_code tab_ok Try.func74 (by rfl) rfl ?_
      conv => whnf
      refine both_t (by simp; omega) ?_
      conv => whnf
      refine both_f (by simp; omega) ?_
      conv => whnf
      refine ⟨by omega, ?_⟩
      conv => whnf
      (refine ⟨15, h0f, ?_⟩)
      conv => whnf
      refine ⟨by (exact (stW_far h (by omega) (by omega)).symm), ?_⟩
      conv => whnf
    · conv => whnf
      refine CallG.of_code tab_ok Try.func74 (by rfl) rfl ?_
      conv => whnf
      refine both_t (by simp; omega) ?_
      conv => whnf
      refine both_f (by simp; omega) ?_
      conv => whnf
      refine ⟨by omega, ?_⟩
      conv => whnf
      (refine ⟨16, h0f, ?_⟩)
      conv => whnf
      refine ⟨by (exact (stW_far h (by omega) (by omega)).symm), ?_⟩
      conv => whnf
    · conv => whnf
      refine CallG.of_code tab_ok Try.func74 (by rfl) rfl ?_
      conv => whnf
      refine both_t (by simp; omega) ?_
      conv => whnf
      refine both_f (by simp; omega) ?_
      conv => whnf
      refine ⟨by omega, ?_⟩
      conv => whnf
      (refine ⟨17, h0f, ?_⟩)
      conv => whnf
      refine ⟨by (exact (stW_far h (by omega) (by omega)).symm), ?_⟩
      conv => whnf
    · conv => whnf
      refine CallG.of_code tab_ok Try.func74 (by rfl) rfl ?_
      conv => whnf
      refine both_t (by simp; omega) ?_
      conv => whnf
      refine both_f (by simp; omega) ?_
      conv => whnf
      refine ⟨by omega, ?_⟩
      conv => whnf
      (refine ⟨18, h0f, ?_⟩)
      conv => whnf
      refine ⟨by (exact (stW_far h (by omega) (by omega)).symm), ?_⟩
      conv => whnf
    · conv => whnf
      refine CallG.of_code tab_ok Try.func74 (by rfl) rfl ?_
      conv => whnf
      refine both_t (by simp; omega) ?_
      conv => whnf
      refine both_f (by simp; omega) ?_
      conv => whnf
      refine ⟨by omega, ?_⟩
      conv => whnf
      (refine ⟨19, h0f, ?_⟩)
      conv => whnf
      refine ⟨by (exact (stW_far h (by omega) (by omega)).symm), ?_⟩
      conv => whnf
    · conv => whnf
      refine CallG.of_code tab_ok Try.func74 (by rfl) rfl ?_
      conv => whnf
      refine both_t (by simp; omega) ?_
      conv => whnf
      refine both_f (by simp; omega) ?_
      conv => whnf
      refine ⟨by omega, ?_⟩
      conv => whnf
      (refine ⟨20, h0f, ?_⟩)
      conv => whnf
      refine ⟨by (exact (stW_far h (by omega) (by omega)).symm), ?_⟩
      conv => whnf
    · conv => whnf
      refine CallG.of_code tab_ok Try.func74 (by rfl) rfl ?_
      conv => whnf
      refine both_t (by simp; omega) ?_
      conv => whnf
      refine both_f (by simp; omega) ?_
      conv => whnf
      refine ⟨by omega, ?_⟩
      conv => whnf
      (refine ⟨21, h0f, ?_⟩)
      conv => whnf
      refine ⟨by (exact (stW_far h (by omega) (by omega)).symm), ?_⟩
      conv => whnf
    · conv => whnf
      refine CallG.of_code tab_ok Try.func74 (by rfl) rfl ?_
      conv => whnf
      refine both_t (by simp; omega) ?_
      conv => whnf
      refine both_f (by simp; omega) ?_
      conv => whnf
      refine ⟨by omega, ?_⟩
      conv => whnf
      (refine ⟨22, h0f, ?_⟩)
      conv => whnf
      refine ⟨by (exact (stW_far h (by omega) (by omega)).symm), ?_⟩
      conv => whnf
    · conv => whnf
      refine CallG.of_code tab_ok Try.func74 (by rfl) rfl ?_
      conv => whnf
      refine both_t (by simp; omega) ?_
      conv => whnf
      refine both_f (by simp; omega) ?_
      conv => whnf
      refine ⟨by omega, ?_⟩
      conv => whnf
      (refine ⟨23, h0f, ?_⟩)
      conv => whnf
      refine ⟨by (exact (stW_far h (by omega) (by omega)).symm), ?_⟩
      conv => whnf
    · conv => whnf
      refine CallG.of_code tab_ok Try.func74 (by rfl) rfl ?_
      conv => whnf
      refine both_t (by simp; omega) ?_
      conv => whnf
      refine both_f (by simp; omega) ?_
      conv => whnf
      refine ⟨by omega, ?_⟩
      conv => whnf
      (refine ⟨24, h0f, ?_⟩)
      conv => whnf
      refine ⟨by (exact (stW_far h (by omega) (by omega)).symm), ?_⟩
      conv => whnf
    · conv => whnf
      refine CallG.of_code tab_ok Try.func74 (by rfl) rfl ?_
      conv => whnf
      refine both_t (by simp; omega) ?_
      conv => whnf
      refine both_f (by simp; omega) ?_
      conv => whnf
      refine ⟨by omega, ?_⟩
      conv => whnf
      (refine ⟨25, h0f, ?_⟩)
      conv => whnf
      refine ⟨by (exact (stW_far h (by omega) (by omega)).symm), ?_⟩
      conv => whnf
    · conv => whnf
      refine CallG.of_code tab_ok Try.func74 (by rfl) rfl ?_
      conv => whnf
      refine both_t (by simp; omega) ?_
      conv => whnf
      refine both_f (by simp; omega) ?_
      conv => whnf
      refine ⟨by omega, ?_⟩
      conv => whnf
      (refine ⟨26, h0f, ?_⟩)
      conv => whnf
      refine ⟨by (exact (stW_far h (by omega) (by omega)).symm), ?_⟩
      conv => whnf
    · conv => whnf
      refine CallG.of_code tab_ok Try.func74 (by rfl) rfl ?_
      conv => whnf
      refine both_t (by simp; omega) ?_
      conv => whnf
      refine both_f (by simp; omega) ?_
      conv => whnf
      refine ⟨by omega, ?_⟩
      conv => whnf
      (refine ⟨27, h0f, ?_⟩)
      conv => whnf
      refine ⟨by (exact (stW_far h (by omega) (by omega)).symm), ?_⟩
      conv => whnf
    · conv => whnf
      refine CallG.of_code tab_ok Try.func74 (by rfl) rfl ?_
      conv => whnf
      refine both_t (by simp; omega) ?_
      conv => whnf
      refine both_f (by simp; omega) ?_
      conv => whnf
      refine ⟨by omega, ?_⟩
      conv => whnf
      (refine ⟨28, h0f, ?_⟩)
      conv => whnf
      refine ⟨by (exact (stW_far h (by omega) (by omega)).symm), ?_⟩
      conv => whnf
    · conv => whnf
      refine CallG.of_code tab_ok Try.func74 (by rfl) rfl ?_
      conv => whnf
      refine both_t (by simp; omega) ?_
      conv => whnf
      refine both_f (by simp; omega) ?_
      conv => whnf
      refine ⟨by omega, ?_⟩
      conv => whnf
      (refine ⟨29, h0f, ?_⟩)
      conv => whnf
      refine ⟨by (exact (stW_far h (by omega) (by omega)).symm), ?_⟩
      conv => whnf
    · conv => whnf
      refine CallG.of_code tab_ok Try.func74 (by rfl) rfl ?_
      conv => whnf
      refine both_t (by simp; omega) ?_
      conv => whnf
      refine both_f (by simp; omega) ?_
      conv => whnf
      refine ⟨by omega, ?_⟩
      conv => whnf
      (refine ⟨30, h0f, ?_⟩)
      conv => whnf
      refine ⟨by (exact (stW_far h (by omega) (by omega)).symm), ?_⟩
      conv => whnf
    · conv => whnf
      refine CallG.of_code tab_ok Try.func74 (by rfl) rfl ?_
      conv => whnf
      refine both_t (by simp; omega) ?_
      conv => whnf
      refine both_f (by simp; omega) ?_
      conv => whnf
      refine ⟨by omega, ?_⟩
      conv => whnf
      (refine ⟨31, h0f, ?_⟩)
      conv => whnf
      refine ⟨by (exact (stW_far h (by omega) (by omega)).symm), ?_⟩
      conv => whnf
  · by_cases hf1 : f < 0
    · conv => whnf
      refine CallG.of_code tab_ok Try.func74 (by rfl) rfl ?_
      conv => whnf
      refine both_f (by simp; omega) ?_
      conv => whnf
      refine ⟨by (exact (stW_out hf).symm), ?_⟩
      conv => whnf
    · conv => whnf
      refine CallG.of_code tab_ok Try.func74 (by rfl) rfl ?_
      conv => whnf
      refine both_t (by simp; omega) ?_
      conv => whnf
      refine both_t (by simp; omega) ?_
      conv => whnf
      refine ⟨by (exact (stW_out hf).symm), ?_⟩
      conv => whnf
set_option maxHeartbeats 8000000 in
theorem orderZ_s (h : IR n m R) (hn : n ≤ 200) (f : Int) :
    OSpec Try.prog 37 [.ptr 0 0, .int .i64 f] [lgZ R] fun r ho => RowIs 1 (nums (ordO R.P R.D f)) r ∧ ho = [lgZ R] := by
  refine .of_code tab_ok Try.func37 (by rfl) rfl trivial ?_
  have hd := h.dl
  have o0 := ord_le R.P R.D 0
  have o1 := ord_le R.P R.D 1
  have o2 := ord_le R.P R.D 2
  by_cases hf : 0 ≤ f ∧ f < 32
  · rcases f32 hf with h0f | h0f | h0f | h0f | h0f | h0f | h0f | h0f | h0f | h0f | h0f | h0f | h0f | h0f | h0f | h0f | h0f | h0f | h0f | h0f | h0f | h0f | h0f | h0f | h0f | h0f | h0f | h0f | h0f | h0f | h0f | h0f
    · conv => whnf
      refine CallG.of_code tab_ok Try.func74 (by rfl) rfl ?_
      conv => whnf
      refine both_t (by simp; omega) ?_
      conv => whnf
      refine both_f (by simp; omega) ?_
      conv => whnf
      refine ⟨by omega, ?_⟩
      conv => whnf
      (refine ⟨0, h0f, ?_⟩)
      conv => whnf
      refine (clone2_s _ (by first | omega | assumption | decide | simp)).call ?_
      rintro _ rfl
      conv => whnf
      refine ⟨by (exact (by rw [h0f]; exact .inl rfl)), ?_⟩
      conv => whnf
    · conv => whnf
      refine CallG.of_code tab_ok Try.func74 (by rfl) rfl ?_
      conv => whnf
      refine both_t (by simp; omega) ?_
      conv => whnf
      refine both_f (by simp; omega) ?_
      conv => whnf
      refine ⟨by omega, ?_⟩
      conv => whnf
      (refine ⟨1, h0f, ?_⟩)
      conv => whnf
      refine (clone2_s _ (by first | omega | assumption | decide | simp)).call ?_
      rintro _ rfl
      conv => whnf
      refine ⟨by (exact (by rw [h0f]; exact .inl rfl)), ?_⟩
      conv => whnf
    · conv => whnf
      refine CallG.of_code tab_ok Try.func74 (by rfl) rfl ?_
      conv => whnf
      refine both_t (by simp; omega) ?_
      conv => whnf
      refine both_f (by simp; omega) ?_
      conv => whnf
      refine ⟨by omega, ?_⟩
      conv => whnf
      (refine ⟨2, h0f, ?_⟩)
      conv => whnf
      refine (clone2_s _ (by first | omega | assumption | decide | simp)).call ?_
      rintro _ rfl
      conv => whnf
      refine ⟨by (exact (by rw [h0f]; exact .inl rfl)), ?_⟩
      conv => whnf
    · conv => whnf
      refine CallG.of_code tab_ok Try.func74 (by rfl) rfl ?_
      conv => whnf
      refine both_t (by simp; omega) ?_
      conv => whnf
      refine both_f (by simp; omega) ?_
      conv => whnf
      refine ⟨by omega, ?_⟩
      conv => whnf
      (refine ⟨3, h0f, ?_⟩)
      conv => whnf
      refine (clone3_s).call ?_
      rintro _ rfl
      conv => whnf
      refine ⟨by (exact (by rw [ord_far h (by omega)]; exact .inl rfl)), ?_⟩
      conv => whnf
    · conv => whnf
      refine CallG.of_code tab_ok Try.func74 (by rfl) rfl ?_
      conv => whnf
      refine both_t (by simp; omega) ?_
      conv => whnf
      refine both_f (by simp; omega) ?_
      conv => whnf
      refine ⟨by omega, ?_⟩
      conv => whnf
      (refine ⟨4, h0f, ?_⟩)
      conv => whnf
      refine (clone3_s).call ?_
      rintro _ rfl
      conv => whnf
      refine ⟨by (exact (by rw [ord_far h (by omega)]; exact .inl rfl)), ?_⟩
      conv => whnf
    · conv => whnf
      refine CallG.of_code tab_ok Try.func74 (by rfl) rfl ?_
      conv => whnf
      refine both_t (by simp; omega) ?_
      conv => whnf
      refine both_f (by simp; omega) ?_
      conv => whnf
      refine ⟨by omega, ?_⟩
      conv => whnf
      (refine ⟨5, h0f, ?_⟩)
      conv => whnf
      refine (clone3_s).call ?_
      rintro _ rfl
      conv => whnf
      refine ⟨by (exact (by rw [ord_far h (by omega)]; exact .inl rfl)), ?_⟩
      conv => whnf
    · conv => whnf
      refine CallG.of_code tab_ok Try.func74 (by rfl) rfl ?_
      conv => whnf
      refine both_t (by simp; omega) ?_
      conv => whnf
      refine both_f (by simp; omega) ?_
      conv => whnf
      refine ⟨by omega, ?_⟩
      conv => whnf
      (refine ⟨6, h0f, ?_⟩)
      conv => whnf
      refine (clone3_s).call ?_
      rintro _ rfl
      conv => whnf
      refine ⟨by (exact (by rw [ord_far h (by omega)]; exact .inl rfl)), ?_⟩
      conv => whnf
    · conv => whnf
      refine CallG.of_code tab_ok Try.func74 (by rfl) rfl ?_
      conv => whnf
      refine both_t (by simp; omega) ?_
      conv => whnf
      refine both_f (by simp; omega) ?_
      conv => whnf
      refine ⟨by omega, ?_⟩
      conv => whnf
      (refine ⟨7, h0f, ?_⟩)
      conv => whnf
      refine (clone3_s).call ?_
      rintro _ rfl
      conv => whnf
      refine ⟨by (exact (by rw [ord_far h (by omega)]; exact .inl rfl)), ?_⟩
      conv => whnf
    · conv => whnf
      refine CallG.of_code tab_ok Try.func74 (by rfl) rfl ?_
      conv => whnf
      refine both_t (by simp; omega) ?_
      conv => whnf
      refine both_f (by simp; omega) ?_
      conv => whnf
      refine ⟨by omega, ?_⟩
      conv => whnf
      (refine ⟨8, h0f, ?_⟩)
      conv => whnf
      refine (clone3_s).call ?_
      rintro _ rfl
      conv => whnf
      refine ⟨by (exact (by rw [ord_far h (by omega)]; exact .inl rfl)), ?_⟩
      conv => whnf
    · conv => whnf
      refine CallG.of_code tab_ok Try.func74 (by rfl) rfl ?_
      conv => whnf
      refine both_t (by simp; omega) ?_
      conv => whnf
      refine both_f (by simp; omega) ?_
      conv => whnf
      refine ⟨by omega, ?_⟩
      conv => whnf
      (refine ⟨9, h0f, ?_⟩)
      conv => whnf
      refine (clone3_s).call ?_
      rintro _ rfl
      conv => whnf
      refine ⟨by (exact (by rw [ord_far h (by omega)]; exact .inl rfl)), ?_⟩
      conv => whnf
    · conv => whnf
      refine CallG.of_code tab_ok Try.func74 (by rfl) rfl ?_
      conv => whnf
      refine both_t (by simp; omega) ?_
      conv => whnf
      refine both_f (by simp; omega) ?_
      conv => whnf
      refine ⟨by omega, ?_⟩
      conv => whnf
      (refine ⟨10, h0f, ?_⟩)
      conv => whnf
      refine (clone3_s).call ?_
      rintro _ rfl
      conv => whnf
      refine ⟨by (exact (by rw [ord_far h (by omega)]; exact .inl rfl)), ?_⟩
      conv => whnf
    · conv => whnf
      refine CallG.of_code tab_ok Try.func74 (by rfl) rfl ?_
      conv => whnf
      refine both_t (by simp; omega) ?_
      conv => whnf
      refine both_f (by simp; omega) ?_
      conv => whnf
      refine ⟨by omega, ?_⟩
      conv => whnf
      (refine ⟨11, h0f, ?_⟩)
      conv => whnf
      refine (clone3_s).call ?_
      rintro _ rfl
      conv => whnf
      refine ⟨by (exact (by rw [ord_far h (by omega)]; exact .inl rfl)), ?_⟩
      conv => whnf
    · conv => whnf
      refine CallG.of_code tab_ok Try.func74 (by rfl) rfl ?_
      conv => whnf
      refine both_t (by simp; omega) ?_
      conv => whnf
      refine both_f (by simp; omega) ?_
      conv => whnf
      refine ⟨by omega, ?_⟩
      conv => whnf
      (refine ⟨12, h0f, ?_⟩)
      conv => whnf
      refine (clone3_s).call ?_
      rintro _ rfl
      conv => whnf
      refine ⟨by (exact (by rw [ord_far h (by omega)]; exact .inl rfl)), ?_⟩
      conv => whnf
    · conv => whnf
      refine CallG.of_code tab_ok Try.func74 (by rfl) rfl ?_
      conv => whnf
      refine both_t (by simp; omega) ?_
      conv => whnf
      refine both_f (by simp; omega) ?_
      conv => whnf
      refine ⟨by omega, ?_⟩
      conv => whnf
      (refine ⟨13, h0f, ?_⟩)
      conv => whnf
      refine (clone3_s).call ?_
      rintro _ rfl
      conv => whnf
      refine ⟨by (exact (by rw [ord_far h (by omega)]; exact .inl rfl)), ?_⟩
      conv => whnf
    · conv => whnf
      refine CallG.of_code tab_ok Try.func74 (by rfl) rfl ?_
      conv => whnf
      refine both_t (by simp; omega) ?_
      conv => whnf
      refine both_f (by simp; omega) ?_
      conv => whnf
      refine ⟨by omega, ?_⟩
      conv => whnf
      (refine ⟨14, h0f, ?_⟩)
      conv => whnf
      refine (clone3_s).call ?_
      rintro _ rfl
      conv => whnf
      refine ⟨by (exact (by rw [ord_far h (by omega)]; exact .inl rfl)), ?_⟩
      conv => whnf
    · conv => whnf
      refine CallG.of_code tab_ok Try.func74 (by rfl) rfl ?_
      conv => whnf
      refine both_t (by simp; omega) ?_
      conv => whnf
      refine both_f (by simp; omega) ?_
      conv => whnf
      refine ⟨by omega, ?_⟩
      conv => whnf
      (refine ⟨15, h0f, ?_⟩)
      conv => whnf
      refine (clone3_s).call ?_
      rintro _ rfl
      conv => whnf
      refine ⟨by (exact (by rw [ord_far h (by omega)]; exact .inl rfl)), ?_⟩
      conv => whnf
    · conv => whnf
      refine CallG.of_code tab_ok Try.func74 (by rfl) rfl ?_
      conv => whnf
      refine both_t (by simp; omega) ?_
      conv => whnf
      refine both_f (by simp; omega) ?_
      conv => whnf
      refine ⟨by omega, ?_⟩
      conv => whnf
      (refine ⟨16, h0f, ?_⟩)
      conv => whnf
      refine (clone3_s).call ?_
      rintro _ rfl
      conv => whnf
      refine ⟨by (exact (by rw [ord_far h (by omega)]; exact .inl rfl)), ?_⟩
      conv => whnf
    · conv => whnf
      refine CallG.of_code tab_ok Try.func74 (by rfl) rfl ?_
      conv => whnf
      refine both_t (by simp; omega) ?_
      conv => whnf
      refine both_f (by simp; omega) ?_
      conv => whnf
      refine ⟨by omega, ?_⟩
      conv => whnf
      (refine ⟨17, h0f, ?_⟩)
      conv => whnf
      refine (clone3_s).call ?_
      rintro _ rfl
      conv => whnf
      refine ⟨by (exact (by rw [ord_far h (by omega)]; exact .inl rfl)), ?_⟩
      conv => whnf
    · conv => whnf
      refine CallG.of_code tab_ok Try.func74 (by rfl) rfl ?_
      conv => whnf
      refine both_t (by simp; omega) ?_
      conv => whnf
      refine both_f (by simp; omega) ?_
      conv => whnf
      refine ⟨by omega, ?_⟩
      conv => whnf
      (refine ⟨18, h0f, ?_⟩)
      conv => whnf
      refine (clone3_s).call ?_
      rintro _ rfl
      conv => whnf
      refine ⟨by (exact (by rw [ord_far h (by omega)]; exact .inl rfl)), ?_⟩
      conv => whnf
    · conv => whnf
      refine CallG.of_code tab_ok Try.func74 (by rfl) rfl ?_
      conv => whnf
      refine both_t (by simp; omega) ?_
      conv => whnf
      refine both_f (by simp; omega) ?_
      conv => whnf
      refine ⟨by omega, ?_⟩
      conv => whnf
      (refine ⟨19, h0f, ?_⟩)
      conv => whnf
      refine (clone3_s).call ?_
      rintro _ rfl
      conv => whnf
      refine ⟨by (exact (by rw [ord_far h (by omega)]; exact .inl rfl)), ?_⟩
      conv => whnf
    · conv => whnf
      refine CallG.of_code tab_ok Try.func74 (by rfl) rfl ?_
      conv => whnf
      refine both_t (by simp; omega) ?_
      conv => whnf
      refine both_f (by simp; omega) ?_
      conv => whnf
      refine ⟨by omega, ?_⟩
      conv => whnf
      (refine ⟨20, h0f, ?_⟩)
      conv => whnf
      refine (clone3_s).call ?_
      rintro _ rfl
      conv => whnf
      refine ⟨by (exact (by rw [ord_far h (by omega)]; exact .inl rfl)), ?_⟩
      conv => whnf
    · conv => whnf
      refine CallG.of_code tab_ok Try.func74 (by rfl) rfl ?_
      conv => whnf
      refine both_t (by simp; omega) ?_
      conv => whnf
      refine both_f (by simp; omega) ?_
      conv => whnf
      refine ⟨by omega, ?_⟩
      conv => whnf
      (refine ⟨21, h0f, ?_⟩)
      conv => whnf
      refine (clone3_s).call ?_
      rintro _ rfl
      conv => whnf
      refine ⟨by (exact (by rw [ord_far h (by omega)]; exact .inl rfl)), ?_⟩
      conv => whnf
    · conv => whnf
      refine CallG.of_code tab_ok Try.func74 (by rfl) rfl ?_
      conv => whnf
      refine both_t (by simp; omega) ?_
      conv => whnf
      refine both_f (by simp; omega) ?_
      conv => whnf
      refine ⟨by omega, ?_⟩
      conv => whnf
      (refine ⟨22, h0f, ?_⟩)
      conv => whnf
      refine (clone3_s).call ?_
      rintro _ rfl
      conv => whnf
      refine ⟨by (exact (by rw [ord_far h (by omega)]; exact .inl rfl)), ?_⟩
      conv => whnf
    · conv => whnf
      refine CallG.of_code tab_ok Try.func74 (by rfl) rfl ?_
      conv => whnf
      refine both_t (by simp; omega) ?_
      conv => whnf
      refine both_f (by simp; omega) ?_
      conv => whnf
      refine ⟨by omega, ?_⟩
      conv => whnf
      (refine ⟨23, h0f, ?_⟩)
      conv => whnf
      refine (clone3_s).call ?_
      rintro _ rfl
      conv => whnf
      refine ⟨by (exact (by rw [ord_far h (by omega)]; exact .inl rfl)), ?_⟩
      conv => whnf
    · conv => whnf
      refine CallG.of_code tab_ok Try.func74 (by rfl) rfl ?_
      conv => whnf
      refine both_t (by simp; omega) ?_
      conv => whnf
      refine both_f (by simp; omega) ?_
      conv => whnf
      refine ⟨by omega, ?_⟩
      conv => whnf
      (refine ⟨24, h0f, ?_⟩)
      conv => whnf
      refine (clone3_s).call ?_
      rintro _ rfl
      conv => whnf
      refine ⟨by (exact (by rw [ord_far h (by omega)]; exact .inl rfl)), ?_⟩
      conv => whnf
    · conv => whnf
      refine CallG.of_code tab_ok Try.func74 (by rfl) rfl ?_
      conv => whnf
      refine both_t (by simp; omega) ?_
      conv => whnf
      refine both_f (by simp; omega) ?_
      conv => whnf
      refine ⟨by omega, ?_⟩
      conv => whnf
      (refine ⟨25, h0f, ?_⟩)
      conv => whnf
      refine (clone3_s).call ?_
      rintro _ rfl
      conv => whnf
      refine ⟨by (exact (by rw [ord_far h (by omega)]; exact .inl rfl)), ?_⟩
      conv => whnf
    · conv => whnf
      refine CallG.of_code tab_ok Try.func74 (by rfl) rfl ?_
      conv => whnf
      refine both_t (by simp; omega) ?_
      conv => whnf
      refine both_f (by simp; omega) ?_
      conv => whnf
      refine ⟨by omega, ?_⟩
      conv => whnf
      (refine ⟨26, h0f, ?_⟩)
      conv => whnf
      refine (clone3_s).call ?_
      rintro _ rfl
      conv => whnf
      refine ⟨by (exact (by rw [ord_far h (by omega)]; exact .inl rfl)), ?_⟩
      conv => whnf
    · conv => whnf
      refine CallG.of_code tab_ok Try.func74 (by rfl) rfl ?_
      conv => whnf
      refine both_t (by simp; omega) ?_
      conv => whnf
      refine both_f (by simp; omega) ?_
      conv => whnf
      refine ⟨by omega, ?_⟩
      conv => whnf
      (refine ⟨27, h0f, ?_⟩)
      conv => whnf
      refine (clone3_s).call ?_
      rintro _ rfl
      conv => whnf
      refine ⟨by (exact (by rw [ord_far h (by omega)]; exact .inl rfl)), ?_⟩
      conv => whnf
    · conv => whnf
      refine CallG.of_code tab_ok Try.func74 (by rfl) rfl ?_
      conv => whnf
      refine both_t (by simp; omega) ?_
      conv => whnf
      refine both_f (by simp; omega) ?_
      conv => whnf
      refine ⟨by omega, ?_⟩
      conv => whnf
      (refine ⟨28, h0f, ?_⟩)
      conv => whnf
      refine (clone3_s).call ?_
      rintro _ rfl
      conv => whnf
      refine ⟨by (exact (by rw [ord_far h (by omega)]; exact .inl rfl)), ?_⟩
      conv => whnf
    · conv => whnf
      refine CallG.of_code tab_ok Try.func74 (by rfl) rfl ?_
      conv => whnf
      refine both_t (by simp; omega) ?_
      conv => whnf
      refine both_f (by simp; omega) ?_
      conv => whnf
      refine ⟨by omega, ?_⟩
      conv => whnf
      (refine ⟨29, h0f, ?_⟩)
      conv => whnf
      refine (clone3_s).call ?_
      rintro _ rfl
      conv => whnf
      refine ⟨by (exact (by rw [ord_far h (by omega)]; exact .inl rfl)), ?_⟩
      conv => whnf
    · conv => whnf
      refine CallG.of_code tab_ok Try.func74 (by rfl) rfl ?_
      conv => whnf
      refine both_t (by simp; omega) ?_
      conv => whnf
      refine both_f (by simp; omega) ?_
      conv => whnf
      refine ⟨by omega, ?_⟩
      conv => whnf
      (refine ⟨30, h0f, ?_⟩)
      conv => whnf
      refine (clone3_s).call ?_
      rintro _ rfl
      conv => whnf
      refine ⟨by (exact (by rw [ord_far h (by omega)]; exact .inl rfl)), ?_⟩
      conv => whnf
    · conv => whnf
      refine CallG.of_code tab_ok Try.func74 (by rfl) rfl ?_
      conv => whnf
      refine both_t (by simp; omega) ?_
      conv => whnf
      refine both_f (by simp; omega) ?_
      conv => whnf
      refine ⟨by omega, ?_⟩
      conv => whnf
      (refine ⟨31, h0f, ?_⟩)
      conv => whnf
      refine (clone3_s).call ?_
      rintro _ rfl
      conv => whnf
      refine ⟨by (exact (by rw [ord_far h (by omega)]; exact .inl rfl)), ?_⟩
      conv => whnf
  · have e := ord_far h (f := f) (by omega)
    by_cases hf1 : f < 0
    · conv => whnf
      refine CallG.of_code tab_ok Try.func74 (by rfl) rfl ?_
      conv => whnf
      refine both_f (by simp; omega) ?_
      conv => whnf
      refine ⟨by (exact (by rw [e]; exact .inr ⟨rfl, rfl⟩)), ?_⟩
      conv => whnf
    · conv => whnf
      refine CallG.of_code tab_ok Try.func74 (by rfl) rfl ?_
      conv => whnf
      refine both_t (by simp; omega) ?_
      conv => whnf
      refine both_t (by simp; omega) ?_
      conv => whnf
      refine ⟨by (exact (by rw [e]; exact .inr ⟨rfl, rfl⟩)), ?_⟩
      conv => whnf
theorem sum_take {g : Pk → Int} {P : List Pk} {i : Nat} (h : i < P.length) : sumP g (P.take (i + 1)) = sumP g (P.take i) + g (gp P i) := by
  rw [List.take_add_one, List.getElem?_eq_getElem h, gp_get h]
  exact sumP_app g _ _
set_option maxHeartbeats 8000000 in
theorem rstatsZ_s (h : IR n m R) (hn : n ≤ 200) (hm : m ≤ 1000) (f : Int) :
    OSpec Try.prog 35 [.ptr 0 0, .int .i64 f] [rgZ R] fun r ho => r = stW R f ∧ ho = [rgZ R] := by
  refine .of_code tab_ok Try.func35 (by rfl) rfl trivial ?_
  have hs := h.pl
  have hl : (R.P.map pkE).length = R.P.length := List.length_map ..
  by_cases hf : 0 ≤ f ∧ f < 32
  · refine' once (sp := fun v : { v : Int // v = rrF R f } => [(0, .ptr 0 0), (1, .int .i64 f), (4, .ptr 1 0), (5, .ptr 2 0), (6, .int .i64 0)])
      (hx := fun v => [rgZ R, .fix 54 [.int .i64 0, .int .i64 0, .int .i64 0, .int .i64 0, .int .i64 0, .int .i64 0], .fix 54 [.int .i64 f, .int .i64 0, .int .i64 0, .int .i64 v.1, .int .i64 0, .int .i64 0]]) (n := 75) (m := 1) (P := Try.prog) ?main ?inner
    case main =>
      intro inner
      rcases f32 hf with h0f | h0f | h0f | h0f | h0f | h0f | h0f | h0f | h0f | h0f | h0f | h0f | h0f | h0f | h0f | h0f | h0f | h0f | h0f | h0f | h0f | h0f | h0f | h0f | h0f | h0f | h0f | h0f | h0f | h0f | h0f | h0f
      · conv => whnf
        refine CallG.of_code tab_ok Try.func75 (by rfl) rfl ?_
        conv => whnf
        refine both_t (by simp; omega) ?_
        conv => whnf
        refine both_f (by simp; omega) ?_
        conv => whnf
        refine ⟨by omega, ?_⟩
        conv => whnf
        (refine ⟨0, h0f, ?_⟩)
        conv => whnf
        exact LoopG.head (inner ⟨R.r 0, (by (unfold rrF; rw [h0f]; rfl))⟩) (.of [some 0, some 1, some 2] (by rfl) (by ((conv => whnf); (repeat (first | exact trivial | (refine ⟨rfl, ?_⟩; (conv => whnf)))))))
      · conv => whnf
        refine CallG.of_code tab_ok Try.func75 (by rfl) rfl ?_
        conv => whnf
        refine both_t (by simp; omega) ?_
        conv => whnf
        refine both_f (by simp; omega) ?_
        conv => whnf
        refine ⟨by omega, ?_⟩
        conv => whnf
        (refine ⟨1, h0f, ?_⟩)
        conv => whnf
        exact LoopG.head (inner ⟨R.r 1, (by (unfold rrF; rw [h0f]; rfl))⟩) (.of [some 0, some 1, some 2] (by rfl) (by ((conv => whnf); (repeat (first | exact trivial | (refine ⟨rfl, ?_⟩; (conv => whnf)))))))
      · conv => whnf
        refine CallG.of_code tab_ok Try.func75 (by rfl) rfl ?_
        conv => whnf
        refine both_t (by simp; omega) ?_
        conv => whnf
        refine both_f (by simp; omega) ?_
        conv => whnf
        refine ⟨by omega, ?_⟩
        conv => whnf
        (refine ⟨2, h0f, ?_⟩)
        conv => whnf
        exact LoopG.head (inner ⟨R.r 2, (by (unfold rrF; rw [h0f]; rfl))⟩) (.of [some 0, some 1, some 2] (by rfl) (by ((conv => whnf); (repeat (first | exact trivial | (refine ⟨rfl, ?_⟩; (conv => whnf)))))))
      · conv => whnf
        refine CallG.of_code tab_ok Try.func75 (by rfl) rfl ?_
        conv => whnf
        refine both_t (by simp; omega) ?_
        conv => whnf
        refine both_f (by simp; omega) ?_
        conv => whnf
        refine ⟨by omega, ?_⟩
        conv => whnf
        (refine ⟨3, h0f, ?_⟩)
        conv => whnf
        exact LoopG.head (inner ⟨0, (by (unfold rrF; rw [h0f]; rfl))⟩) (.of [some 0, some 1, some 2] (by rfl) (by ((conv => whnf); (repeat (first | exact trivial | (refine ⟨rfl, ?_⟩; (conv => whnf)))))))
      · conv => whnf
        refine CallG.of_code tab_ok Try.func75 (by rfl) rfl ?_
        conv => whnf
        refine both_t (by simp; omega) ?_
        conv => whnf
        refine both_f (by simp; omega) ?_
        conv => whnf
        refine ⟨by omega, ?_⟩
        conv => whnf
        (refine ⟨4, h0f, ?_⟩)
        conv => whnf
        exact LoopG.head (inner ⟨0, (by (unfold rrF; rw [h0f]; rfl))⟩) (.of [some 0, some 1, some 2] (by rfl) (by ((conv => whnf); (repeat (first | exact trivial | (refine ⟨rfl, ?_⟩; (conv => whnf)))))))
      · conv => whnf
        refine CallG.of_code tab_ok Try.func75 (by rfl) rfl ?_
        conv => whnf
        refine both_t (by simp; omega) ?_
        conv => whnf
        refine both_f (by simp; omega) ?_
        conv => whnf
        refine ⟨by omega, ?_⟩
        conv => whnf
        (refine ⟨5, h0f, ?_⟩)
        conv => whnf
        exact LoopG.head (inner ⟨0, (by (unfold rrF; rw [h0f]; rfl))⟩) (.of [some 0, some 1, some 2] (by rfl) (by ((conv => whnf); (repeat (first | exact trivial | (refine ⟨rfl, ?_⟩; (conv => whnf)))))))
      · conv => whnf
        refine CallG.of_code tab_ok Try.func75 (by rfl) rfl ?_
        conv => whnf
        refine both_t (by simp; omega) ?_
        conv => whnf
        refine both_f (by simp; omega) ?_
        conv => whnf
        refine ⟨by omega, ?_⟩
        conv => whnf
        (refine ⟨6, h0f, ?_⟩)
        conv => whnf
        exact LoopG.head (inner ⟨0, (by (unfold rrF; rw [h0f]; rfl))⟩) (.of [some 0, some 1, some 2] (by rfl) (by ((conv => whnf); (repeat (first | exact trivial | (refine ⟨rfl, ?_⟩; (conv => whnf)))))))
      · conv => whnf
        refine CallG.of_code tab_ok Try.func75 (by rfl) rfl ?_
        conv => whnf
        refine both_t (by simp; omega) ?_
        conv => whnf
        refine both_f (by simp; omega) ?_
        conv => whnf
        refine ⟨by omega, ?_⟩
        conv => whnf
        (refine ⟨7, h0f, ?_⟩)
        conv => whnf
        exact LoopG.head (inner ⟨0, (by (unfold rrF; rw [h0f]; rfl))⟩) (.of [some 0, some 1, some 2] (by rfl) (by ((conv => whnf); (repeat (first | exact trivial | (refine ⟨rfl, ?_⟩; (conv => whnf)))))))
      · conv => whnf
        refine CallG.of_code tab_ok Try.func75 (by rfl) rfl ?_
        conv => whnf
        refine both_t (by simp; omega) ?_
        conv => whnf
        refine both_f (by simp; omega) ?_
        conv => whnf
        refine ⟨by omega, ?_⟩
        conv => whnf
        (refine ⟨8, h0f, ?_⟩)
        conv => whnf
        exact LoopG.head (inner ⟨0, (by (unfold rrF; rw [h0f]; rfl))⟩) (.of [some 0, some 1, some 2] (by rfl) (by ((conv => whnf); (repeat (first | exact trivial | (refine ⟨rfl, ?_⟩; (conv => whnf)))))))
      · conv => whnf
        refine CallG.of_code tab_ok Try.func75 (by rfl) rfl ?_
        conv => whnf
        refine both_t (by simp; omega) ?_
        conv => whnf
        refine both_f (by simp; omega) ?_
        conv => whnf
        refine ⟨by omega, ?_⟩
        conv => whnf
        (refine ⟨9, h0f, ?_⟩)
        conv => whnf
        exact LoopG.head (inner ⟨0, (by (unfold rrF; rw [h0f]; rfl))⟩) (.of [some 0, some 1, some 2] (by rfl) (by ((conv => whnf); (repeat (first | exact trivial | (refine ⟨rfl, ?_⟩; (conv => whnf)))))))
      · conv => whnf
        refine CallG.of_code tab_ok Try.func75 (by rfl) rfl ?_
        conv => whnf
        refine both_t (by simp; omega) ?_
        conv => whnf
        refine both_f (by simp; omega) ?_
        conv => whnf
        refine ⟨by omega, ?_⟩
        conv => whnf
        (refine ⟨10, h0f, ?_⟩)
        conv => whnf
        exact LoopG.head (inner ⟨0, (by (unfold rrF; rw [h0f]; rfl))⟩) (.of [some 0, some 1, some 2] (by rfl) (by ((conv => whnf); (repeat (first | exact trivial | (refine ⟨rfl, ?_⟩; (conv => whnf)))))))
      · conv => whnf
        refine CallG.of_code tab_ok Try.func75 (by rfl) rfl ?_
        conv => whnf
        refine both_t (by simp; omega) ?_
        conv => whnf
        refine both_f (by simp; omega) ?_
        conv => whnf
        refine ⟨by omega, ?_⟩
        conv => whnf
        (refine ⟨11, h0f, ?_⟩)
        conv => whnf
        exact LoopG.head (inner ⟨0, (by (unfold rrF; rw [h0f]; rfl))⟩) (.of [some 0, some 1, some 2] (by rfl) (by ((conv => whnf); (repeat (first | exact trivial | (refine ⟨rfl, ?_⟩; (conv => whnf)))))))
      · conv => whnf
        refine CallG.of_code tab_ok Try.func75 (by rfl) rfl ?_
        conv => whnf
        refine both_t (by simp; omega) ?_
        conv => whnf
        refine both_f (by simp; omega) ?_
        conv => whnf
        refine ⟨by omega, ?_⟩
        conv => whnf
        (refine ⟨12, h0f, ?_⟩)
        conv => whnf
        exact LoopG.head (inner ⟨0, (by (unfold rrF; rw [h0f]; rfl))⟩) (.of [some 0, some 1, some 2] (by rfl) (by ((conv => whnf); (repeat (first | exact trivial | (refine ⟨rfl, ?_⟩; (conv => whnf)))))))
      · conv => whnf
        refine CallG.of_code tab_ok Try.func75 (by rfl) rfl ?_
        conv => whnf
        refine both_t (by simp; omega) ?_
        conv => whnf
        refine both_f (by simp; omega) ?_
        conv => whnf
        refine ⟨by omega, ?_⟩
        conv => whnf
        (refine ⟨13, h0f, ?_⟩)
        conv => whnf
        exact LoopG.head (inner ⟨0, (by (unfold rrF; rw [h0f]; rfl))⟩) (.of [some 0, some 1, some 2] (by rfl) (by ((conv => whnf); (repeat (first | exact trivial | (refine ⟨rfl, ?_⟩; (conv => whnf)))))))
      · conv => whnf
        refine CallG.of_code tab_ok Try.func75 (by rfl) rfl ?_
        conv => whnf
        refine both_t (by simp; omega) ?_
        conv => whnf
        refine both_f (by simp; omega) ?_
        conv => whnf
        refine ⟨by omega, ?_⟩
        conv => whnf
        (refine ⟨14, h0f, ?_⟩)
        conv => whnf
        exact LoopG.head (inner ⟨0, (by (unfold rrF; rw [h0f]; rfl))⟩) (.of [some 0, some 1, some 2] (by rfl) (by ((conv => whnf); (repeat (first | exact trivial | (refine ⟨rfl, ?_⟩; (conv => whnf)))))))
      · conv => whnf
        refine CallG.of_code tab_ok Try.func75 (by rfl) rfl ?_
        conv => whnf
        refine both_t (by simp; omega) ?_
        conv => whnf
        refine both_f (by simp; omega) ?_
        conv => whnf
        refine ⟨by omega, ?_⟩
        conv => whnf
        (refine ⟨15, h0f, ?_⟩)
        conv => whnf
        exact LoopG.head (inner ⟨0, (by (unfold rrF; rw [h0f]; rfl))⟩) (.of [some 0, some 1, some 2] (by rfl) (by ((conv => whnf); (repeat (first | exact trivial | (refine ⟨rfl, ?_⟩; (conv => whnf)))))))
      · conv => whnf
        refine CallG.of_code tab_ok Try.func75 (by rfl) rfl ?_
        conv => whnf
        refine both_t (by simp; omega) ?_
        conv => whnf
        refine both_f (by simp; omega) ?_
        conv => whnf
        refine ⟨by omega, ?_⟩
        conv => whnf
        (refine ⟨16, h0f, ?_⟩)
        conv => whnf
        exact LoopG.head (inner ⟨0, (by (unfold rrF; rw [h0f]; rfl))⟩) (.of [some 0, some 1, some 2] (by rfl) (by ((conv => whnf); (repeat (first | exact trivial | (refine ⟨rfl, ?_⟩; (conv => whnf)))))))
      · conv => whnf
        refine CallG.of_code tab_ok Try.func75 (by rfl) rfl ?_
        conv => whnf
        refine both_t (by simp; omega) ?_
        conv => whnf
        refine both_f (by simp; omega) ?_
        conv => whnf
        refine ⟨by omega, ?_⟩
        conv => whnf
        (refine ⟨17, h0f, ?_⟩)
        conv => whnf
        exact LoopG.head (inner ⟨0, (by (unfold rrF; rw [h0f]; rfl))⟩) (.of [some 0, some 1, some 2] (by rfl) (by ((conv => whnf); (repeat (first | exact trivial | (refine ⟨rfl, ?_⟩; (conv => whnf)))))))
      · conv => whnf
        refine CallG.of_code tab_ok Try.func75 (by rfl) rfl ?_
        conv => whnf
        refine both_t (by simp; omega) ?_
        conv => whnf
        refine both_f (by simp; omega) ?_
        conv => whnf
        refine ⟨by omega, ?_⟩
        conv => whnf
        (refine ⟨18, h0f, ?_⟩)
        conv => whnf
        exact LoopG.head (inner ⟨0, (by (unfold rrF; rw [h0f]; rfl))⟩) (.of [some 0, some 1, some 2] (by rfl) (by ((conv => whnf); (repeat (first | exact trivial | (refine ⟨rfl, ?_⟩; (conv => whnf)))))))
      · conv => whnf
        refine CallG.of_code tab_ok Try.func75 (by rfl) rfl ?_
        conv => whnf
        refine both_t (by simp; omega) ?_
        conv => whnf
        refine both_f (by simp; omega) ?_
        conv => whnf
        refine ⟨by omega, ?_⟩
        conv => whnf
        (refine ⟨19, h0f, ?_⟩)
        conv => whnf
        exact LoopG.head (inner ⟨0, (by (unfold rrF; rw [h0f]; rfl))⟩) (.of [some 0, some 1, some 2] (by rfl) (by ((conv => whnf); (repeat (first | exact trivial | (refine ⟨rfl, ?_⟩; (conv => whnf)))))))
      · conv => whnf
        refine CallG.of_code tab_ok Try.func75 (by rfl) rfl ?_
        conv => whnf
        refine both_t (by simp; omega) ?_
        conv => whnf
        refine both_f (by simp; omega) ?_
        conv => whnf
        refine ⟨by omega, ?_⟩
        conv => whnf
        (refine ⟨20, h0f, ?_⟩)
        conv => whnf
        exact LoopG.head (inner ⟨0, (by (unfold rrF; rw [h0f]; rfl))⟩) (.of [some 0, some 1, some 2] (by rfl) (by ((conv => whnf); (repeat (first | exact trivial | (refine ⟨rfl, ?_⟩; (conv => whnf)))))))
      · conv => whnf
        refine CallG.of_code tab_ok Try.func75 (by rfl) rfl ?_
        conv => whnf
        refine both_t (by simp; omega) ?_
        conv => whnf
        refine both_f (by simp; omega) ?_
        conv => whnf
        refine ⟨by omega, ?_⟩
        conv => whnf
        (refine ⟨21, h0f, ?_⟩)
        conv => whnf
        exact LoopG.head (inner ⟨0, (by (unfold rrF; rw [h0f]; rfl))⟩) (.of [some 0, some 1, some 2] (by rfl) (by ((conv => whnf); (repeat (first | exact trivial | (refine ⟨rfl, ?_⟩; (conv => whnf)))))))
      · conv => whnf
        refine CallG.of_code tab_ok Try.func75 (by rfl) rfl ?_
        conv => whnf
        refine both_t (by simp; omega) ?_
        conv => whnf
        refine both_f (by simp; omega) ?_
        conv => whnf
        refine ⟨by omega, ?_⟩
        conv => whnf
        (refine ⟨22, h0f, ?_⟩)
        conv => whnf
        exact LoopG.head (inner ⟨0, (by (unfold rrF; rw [h0f]; rfl))⟩) (.of [some 0, some 1, some 2] (by rfl) (by ((conv => whnf); (repeat (first | exact trivial | (refine ⟨rfl, ?_⟩; (conv => whnf)))))))
      · conv => whnf
        refine CallG.of_code tab_ok Try.func75 (by rfl) rfl ?_
        conv => whnf
        refine both_t (by simp; omega) ?_
        conv => whnf
        refine both_f (by simp; omega) ?_
        conv => whnf
        refine ⟨by omega, ?_⟩
        conv => whnf
        (refine ⟨23, h0f, ?_⟩)
        conv => whnf
        exact LoopG.head (inner ⟨0, (by (unfold rrF; rw [h0f]; rfl))⟩) (.of [some 0, some 1, some 2] (by rfl) (by ((conv => whnf); (repeat (first | exact trivial | (refine ⟨rfl, ?_⟩; (conv => whnf)))))))
      · conv => whnf
        refine CallG.of_code tab_ok Try.func75 (by rfl) rfl ?_
        conv => whnf
        refine both_t (by simp; omega) ?_
        conv => whnf
        refine both_f (by simp; omega) ?_
        conv => whnf
        refine ⟨by omega, ?_⟩
        conv => whnf
        (refine ⟨24, h0f, ?_⟩)
        conv => whnf
        exact LoopG.head (inner ⟨0, (by (unfold rrF; rw [h0f]; rfl))⟩) (.of [some 0, some 1, some 2] (by rfl) (by ((conv => whnf); (repeat (first | exact trivial | (refine ⟨rfl, ?_⟩; (conv => whnf)))))))
      · conv => whnf
        refine CallG.of_code tab_ok Try.func75 (by rfl) rfl ?_
        conv => whnf
        refine both_t (by simp; omega) ?_
        conv => whnf
        refine both_f (by simp; omega) ?_
        conv => whnf
        refine ⟨by omega, ?_⟩
        conv => whnf
        (refine ⟨25, h0f, ?_⟩)
        conv => whnf
        exact LoopG.head (inner ⟨0, (by (unfold rrF; rw [h0f]; rfl))⟩) (.of [some 0, some 1, some 2] (by rfl) (by ((conv => whnf); (repeat (first | exact trivial | (refine ⟨rfl, ?_⟩; (conv => whnf)))))))
      · conv => whnf
        refine CallG.of_code tab_ok Try.func75 (by rfl) rfl ?_
        conv => whnf
        refine both_t (by simp; omega) ?_
        conv => whnf
        refine both_f (by simp; omega) ?_
        conv => whnf
        refine ⟨by omega, ?_⟩
        conv => whnf
        (refine ⟨26, h0f, ?_⟩)
        conv => whnf
        exact LoopG.head (inner ⟨0, (by (unfold rrF; rw [h0f]; rfl))⟩) (.of [some 0, some 1, some 2] (by rfl) (by ((conv => whnf); (repeat (first | exact trivial | (refine ⟨rfl, ?_⟩; (conv => whnf)))))))
      · conv => whnf
        refine CallG.of_code tab_ok Try.func75 (by rfl) rfl ?_
        conv => whnf
        refine both_t (by simp; omega) ?_
        conv => whnf
        refine both_f (by simp; omega) ?_
        conv => whnf
        refine ⟨by omega, ?_⟩
        conv => whnf
        (refine ⟨27, h0f, ?_⟩)
        conv => whnf
        exact LoopG.head (inner ⟨0, (by (unfold rrF; rw [h0f]; rfl))⟩) (.of [some 0, some 1, some 2] (by rfl) (by ((conv => whnf); (repeat (first | exact trivial | (refine ⟨rfl, ?_⟩; (conv => whnf)))))))
      · conv => whnf
        refine CallG.of_code tab_ok Try.func75 (by rfl) rfl ?_
        conv => whnf
        refine both_t (by simp; omega) ?_
        conv => whnf
        refine both_f (by simp; omega) ?_
        conv => whnf
        refine ⟨by omega, ?_⟩
        conv => whnf
        (refine ⟨28, h0f, ?_⟩)
        conv => whnf
        exact LoopG.head (inner ⟨0, (by (unfold rrF; rw [h0f]; rfl))⟩) (.of [some 0, some 1, some 2] (by rfl) (by ((conv => whnf); (repeat (first | exact trivial | (refine ⟨rfl, ?_⟩; (conv => whnf)))))))
      · conv => whnf
        refine CallG.of_code tab_ok Try.func75 (by rfl) rfl ?_
        conv => whnf
        refine both_t (by simp; omega) ?_
        conv => whnf
        refine both_f (by simp; omega) ?_
        conv => whnf
        refine ⟨by omega, ?_⟩
        conv => whnf
        (refine ⟨29, h0f, ?_⟩)
        conv => whnf
        exact LoopG.head (inner ⟨0, (by (unfold rrF; rw [h0f]; rfl))⟩) (.of [some 0, some 1, some 2] (by rfl) (by ((conv => whnf); (repeat (first | exact trivial | (refine ⟨rfl, ?_⟩; (conv => whnf)))))))
      · conv => whnf
        refine CallG.of_code tab_ok Try.func75 (by rfl) rfl ?_
        conv => whnf
        refine both_t (by simp; omega) ?_
        conv => whnf
        refine both_f (by simp; omega) ?_
        conv => whnf
        refine ⟨by omega, ?_⟩
        conv => whnf
        (refine ⟨30, h0f, ?_⟩)
        conv => whnf
        exact LoopG.head (inner ⟨0, (by (unfold rrF; rw [h0f]; rfl))⟩) (.of [some 0, some 1, some 2] (by rfl) (by ((conv => whnf); (repeat (first | exact trivial | (refine ⟨rfl, ?_⟩; (conv => whnf)))))))
      · conv => whnf
        refine CallG.of_code tab_ok Try.func75 (by rfl) rfl ?_
        conv => whnf
        refine both_t (by simp; omega) ?_
        conv => whnf
        refine both_f (by simp; omega) ?_
        conv => whnf
        refine ⟨by omega, ?_⟩
        conv => whnf
        (refine ⟨31, h0f, ?_⟩)
        conv => whnf
        exact LoopG.head (inner ⟨0, (by (unfold rrF; rw [h0f]; rfl))⟩) (.of [some 0, some 1, some 2] (by rfl) (by ((conv => whnf); (repeat (first | exact trivial | (refine ⟨rfl, ?_⟩; (conv => whnf)))))))
    case inner =>
      intro v
      obtain ⟨v, hv⟩ := v
      have hrr : 0 ≤ v ∧ v ≤ 1000 := by
        have a0 := h.rr 0
        have a1 := h.rr 1
        have a2 := h.rr 2
        rw [hv]
        unfold rrF
        split
        · omega
        · split
          · omega
          · split <;> omega
      dsimp only
      refine LoopG.inv tab_ok 75 (fun i : { i : Nat // i ≤ R.P.length } => [(0, .ptr 0 0), (1, .int .i64 f), (4, .ptr 1 0), (5, .ptr 2 0), (6, .int .i64 (i.1 : Int))])
        (fun i => [rgZ R, .fix 54 [.int .i64 0, .int .i64 0, .int .i64 0, .int .i64 0, .int .i64 0, .int .i64 0], .fix 54 [.int .i64 f, .int .i64 (sumP (gF f) (R.P.take i.1)), .int .i64 (sumP (gS f 3) (R.P.take i.1)), .int .i64 (sumP (gS f 4) (R.P.take i.1) + v), .int .i64 (sumP (gB f) (R.P.take i.1)), .int .i64 0]])
        (fun i => R.P.length - i.1) ⟨0, by omega⟩ (.of [some 0, some 1, some 2] (by rfl) ?_) ?_
      · conv => whnf
        (repeat (first | exact trivial | (refine ⟨rfl, ?_⟩; (conv => whnf)) | (refine ⟨(by simp [sumP]), ?_⟩; (conv => whnf))))
      · intro i
        have hi := i.2
        have bF := sumP_rng (g := gF f) (k := 1) (P := R.P.take i.1) fun j hj => by unfold gF; split <;> omega
        have bD := sumP_rng (g := gS f 3) (k := 1) (P := R.P.take i.1) fun j hj => by unfold gS; split <;> omega
        have bX := sumP_rng (g := gS f 4) (k := 1) (P := R.P.take i.1) fun j hj => by unfold gS; split <;> omega
        have gpt : ∀ j, j < (R.P.take i.1).length → gp (R.P.take i.1) j = gp R.P j := fun j hj => by
          have hj2 := hj
          rw [List.length_take] at hj2
          rw [gp_get hj, gp_get (by omega), List.getElem_take]
        have bB := sumP_rng (g := gB f) (k := 4096) (P := R.P.take i.1) fun j hj => by
          rw [gpt j hj]
          rw [List.length_take] at hj
          have := h.ln j (by omega)
          unfold gB; split <;> omega
        have hlt : (R.P.take i.1).length ≤ 200 := by rw [List.length_take]; omega
        conv => whnf
        refine ⟨fun hb => ?_, fun hb => ?_⟩
        · have hb : i.1 < R.P.length := by simp only [decide_eq_true_eq, hl] at hb; omega
          have hg := pk_get hb
          have eF := sum_take (g := gF f) hb
          have eD := sum_take (g := gS f 3) hb
          have eX := sum_take (g := gS f 4) hb
          have eB := sum_take (g := gB f) hb
          have hln := h.ln i.1 hb
          have hst := h.st i.1 hb
          by_cases z1 : (gp R.P i.1).1 = f
          · rw [show gF f (gp R.P i.1) = 1 from if_pos z1] at eF
            by_cases z3 : (gp R.P i.1).2.2.1 = 3
            · rw [gS_eq z3, if_pos z1] at eD
              rw [gS_ne (by rw [z3]; decide), Int.add_zero] at eX
              rw [gB_eq z3, if_pos z1] at eB
              conv => whnf
              refine ⟨by omega, ?_⟩
              conv => whnf
              (refine ⟨_, hg, ?_⟩)
              conv => whnf
              refine both_f (by (exact decide_eq_false fun q => q z1)) ?_
              conv => whnf
              refine ⟨by omega, ?_⟩
              conv => whnf
              (refine ⟨_, hg, ?_⟩)
              conv => whnf
              refine both_t (by (exact decide_eq_true z3)) ?_
              conv => whnf
              refine DrawG.of mixed tab_ok ?_
              conv => whnf
              refine ⟨by omega, ?_⟩
              conv => whnf
              (refine ⟨_, hg, ?_⟩)
              conv => whnf
              refine ⟨by kernel_rfl, ?_⟩
              conv => whnf
              (refine ⟨⟨i.1 + 1, by omega⟩, by show R.P.length - (i.1 + 1) < R.P.length - i.1; omega, .of [some 0, some 1, some 2] (by rfl) ?_⟩; (conv => whnf); (repeat (first | exact trivial | (refine ⟨rfl, ?_⟩; (conv => whnf)) | (refine ⟨eF.symm, ?_⟩; (conv => whnf)) | (refine ⟨eD.symm, ?_⟩; (conv => whnf)) | (refine ⟨eB.symm, ?_⟩; (conv => whnf)) | (refine ⟨(by (rw [eX]; done)), ?_⟩; (conv => whnf)) | (refine ⟨(by (rw [eF]; exact w64 _ (by omega) (by omega))), ?_⟩; (conv => whnf)) | (refine ⟨(by (rw [eD]; exact w64 _ (by omega) (by omega))), ?_⟩; (conv => whnf)) | (refine ⟨(by (rw [eB]; exact w64 _ (by omega) (by omega))), ?_⟩; (conv => whnf)) | (refine ⟨(by (rw [eX]; exact (w64 _ (by omega) (by omega)).trans (by omega))), ?_⟩; (conv => whnf)) | (refine ⟨(w64 _ (by omega) (by omega)).trans (by simp), ?_⟩; (conv => whnf)))); done)
            · rw [gS_ne z3, Int.add_zero] at eD
              rw [gB_ne z3, Int.add_zero] at eB
              by_cases z4 : (gp R.P i.1).2.2.1 = 4
              · rw [gS_eq z4, if_pos z1] at eX
                conv => whnf
                refine ⟨by omega, ?_⟩
                conv => whnf
                (refine ⟨_, hg, ?_⟩)
                conv => whnf
                refine both_f (by (exact decide_eq_false fun q => q z1)) ?_
                conv => whnf
                refine ⟨by omega, ?_⟩
                conv => whnf
                (refine ⟨_, hg, ?_⟩)
                conv => whnf
                refine both_f (by (exact decide_eq_false z3)) ?_
                conv => whnf
                refine both_t (by (exact decide_eq_true z4)) ?_
                conv => whnf
                refine ⟨⟨i.1 + 1, by omega⟩, by show R.P.length - (i.1 + 1) < R.P.length - i.1; omega, .of [some 0, some 1, some 2] (by rfl) ?_⟩
                conv => whnf
                repeat (first | exact trivial | (refine ⟨rfl, ?_⟩; (conv => whnf)) | (refine ⟨eF.symm, ?_⟩; (conv => whnf)) | (refine ⟨eD.symm, ?_⟩; (conv => whnf)) | (refine ⟨eB.symm, ?_⟩; (conv => whnf)) | (refine ⟨(by (rw [eF]; exact w64 _ (by omega) (by omega))), ?_⟩; (conv => whnf)) | (refine ⟨(by (rw [eX]; exact (w64 _ (by omega) (by omega)).trans (by omega))), ?_⟩; (conv => whnf)) | (refine ⟨(w64 _ (by omega) (by omega)).trans (by simp; done), ?_⟩; (conv => whnf)))
              · rw [gS_ne z4, Int.add_zero] at eX
                conv => whnf
                refine ⟨by omega, ?_⟩
                conv => whnf
                (refine ⟨_, hg, ?_⟩)
                conv => whnf
                refine both_f (by (exact decide_eq_false fun q => q z1)) ?_
                conv => whnf
                refine ⟨by omega, ?_⟩
                conv => whnf
                (refine ⟨_, hg, ?_⟩)
                conv => whnf
                refine both_f (by (exact decide_eq_false z3)) ?_
                conv => whnf
                refine both_f (by (exact decide_eq_false z4)) ?_
                conv => whnf
                (refine ⟨⟨i.1 + 1, by omega⟩, by show R.P.length - (i.1 + 1) < R.P.length - i.1; omega, .of [some 0, some 1, some 2] (by rfl) ?_⟩; (conv => whnf); (repeat (first | exact trivial | (refine ⟨rfl, ?_⟩; (conv => whnf)) | (refine ⟨eF.symm, ?_⟩; (conv => whnf)) | (refine ⟨eD.symm, ?_⟩; (conv => whnf)) | (refine ⟨eB.symm, ?_⟩; (conv => whnf)) | (refine ⟨(by (rw [eX]; done)), ?_⟩; (conv => whnf)) | (refine ⟨(by (rw [eF]; exact w64 _ (by omega) (by omega))), ?_⟩; (conv => whnf)) | (refine ⟨(by (rw [eD]; exact w64 _ (by omega) (by omega))), ?_⟩; (conv => whnf)) | (refine ⟨(by (rw [eB]; exact w64 _ (by omega) (by omega))), ?_⟩; (conv => whnf)) | (refine ⟨(by (rw [eX]; exact (w64 _ (by omega) (by omega)).trans (by omega))), ?_⟩; (conv => whnf)) | (refine ⟨(w64 _ (by omega) (by omega)).trans (by simp), ?_⟩; (conv => whnf)))); done)
          · rw [show gF f (gp R.P i.1) = 0 from if_neg z1, Int.add_zero] at eF
            rw [show gS f 3 (gp R.P i.1) = 0 from if_neg fun q => z1 q.1, Int.add_zero] at eD
            rw [show gS f 4 (gp R.P i.1) = 0 from if_neg fun q => z1 q.1, Int.add_zero] at eX
            rw [show gB f (gp R.P i.1) = 0 from if_neg fun q => z1 q.1, Int.add_zero] at eB
            conv => whnf
            refine ⟨by omega, ?_⟩
            conv => whnf
            (refine ⟨_, hg, ?_⟩)
            conv => whnf
            refine both_t (by (exact decide_eq_true z1)) ?_
            conv => whnf
            (refine ⟨⟨i.1 + 1, by omega⟩, by show R.P.length - (i.1 + 1) < R.P.length - i.1; omega, .of [some 0, some 1, some 2] (by rfl) ?_⟩; (conv => whnf); (repeat (first | exact trivial | (refine ⟨rfl, ?_⟩; (conv => whnf)) | (refine ⟨eF.symm, ?_⟩; (conv => whnf)) | (refine ⟨eD.symm, ?_⟩; (conv => whnf)) | (refine ⟨eB.symm, ?_⟩; (conv => whnf)) | (refine ⟨(by (rw [eX]; done)), ?_⟩; (conv => whnf)) | (refine ⟨(by (rw [eF]; exact w64 _ (by omega) (by omega))), ?_⟩; (conv => whnf)) | (refine ⟨(by (rw [eD]; exact w64 _ (by omega) (by omega))), ?_⟩; (conv => whnf)) | (refine ⟨(by (rw [eB]; exact w64 _ (by omega) (by omega))), ?_⟩; (conv => whnf)) | (refine ⟨(by (rw [eX]; exact (w64 _ (by omega) (by omega)).trans (by omega))), ?_⟩; (conv => whnf)) | (refine ⟨(w64 _ (by omega) (by omega)).trans (by simp), ?_⟩; (conv => whnf)))); done)
        · have hb : i.1 = R.P.length := by simp only [decide_eq_false_iff_not, hl] at hb; omega
          have hx : R.P.take i.1 = R.P := by rw [hb, List.take_length]
          rw [hx]
          conv => whnf
          refine .same ?_
          conv => whnf
          refine ⟨by (exact (by (unfold stW; rw [if_pos hf, ← hv]))), ?_⟩
          conv => whnf
  · by_cases hf1 : f < 0
    · conv => whnf
      refine CallG.of_code tab_ok Try.func75 (by rfl) rfl ?_
      conv => whnf
      refine both_f (by simp; omega) ?_
      conv => whnf
      refine ⟨by (exact (stW_out hf).symm), ?_⟩
      conv => whnf
    · conv => whnf
      refine CallG.of_code tab_ok Try.func75 (by rfl) rfl ?_
      conv => whnf
      refine both_t (by simp; omega) ?_
      conv => whnf
      refine both_t (by simp; omega) ?_
      conv => whnf
      refine ⟨by (exact (stW_out hf).symm), ?_⟩
      conv => whnf
theorem ord_take {P : List Pk} {D : List Int} {f : Int} {i : Nat} (h : i < D.length) : ordO P (D.take (i + 1)) f = ordO P (D.take i) f ++ (if flw P (D.getD i 0) = f then [D.getD i 0] else []) := by
  unfold ordO
  rw [List.take_add_one, List.filter_append, List.getElem?_eq_getElem h]
  simp only [Option.toList_some, List.filter_cons, List.filter_nil, decide_eq_true_eq]
  rw [show D.getD i 0 = D[i] by simp [List.getD, List.getElem?_eq_getElem h]]
set_option maxHeartbeats 8000000 in
theorem rorderZ_s (h : IR n m R) (hn : n ≤ 200) (f : Int) :
    OSpec Try.prog 38 [.ptr 0 0, .int .i64 f] [rgZ R] fun r ho => r = .rs 1 (nums (ordO R.P R.D f)) ∧ ho = [rgZ R] := by
  refine .of_code tab_ok Try.func38 (by rfl) rfl trivial ?_
  have hs : R.P.length ≤ 1000 := by have := h.pl; omega
  have hd := h.dl
  have hl : (R.P.map pkE).length = R.P.length := List.length_map ..
  have hdl : (nums R.D).length = R.D.length := nums_len R.D
  conv => whnf
  refine LoopG.inv tab_ok 44 (fun i : { i : Nat // i ≤ R.D.length } => [(0, .ptr 0 0), (1, .int .i64 f), (5, .sl 1), (6, .int .i64 (i.1 : Int))])
    (fun i => [rgZ R, lgO (ordO R.P (R.D.take i.1) f)]) (fun i => R.D.length - i.1) ⟨0, by omega⟩ (.of [some 0, none] (by rfl) ?_) ?_
  · conv => whnf
    (repeat (first | exact trivial | (refine ⟨rfl, ?_⟩; (conv => whnf)) | (refine ⟨(by simp), ?_⟩; (conv => whnf))))
  · intro i
    have hi := i.2
    have hol := ord_le R.P (R.D.take i.1) f
    rw [List.length_take] at hol
    have hol2 : (ordO R.P (R.D.take i.1) f).length ≤ 200 := by omega
    conv => whnf
    refine ⟨fun hb => ?_, fun hb => ?_⟩
    · have hb : i.1 < R.D.length := by simp only [decide_eq_true_eq, hdl] at hb; omega
      have hg := nums_at hb
      have ht := ord_take (P := R.P) (f := f) hb
      have hdx := h.dok _ hb
      obtain ⟨d, ed⟩ : ∃ d, d = R.D.getD i.1 0 := ⟨_, rfl⟩
      rw [← ed] at hg hdx ht
      unfold inR at hdx
      by_cases z : flw R.P d = f
      · rw [if_pos z] at ht
        unfold flw at z
        conv => whnf
        refine DrawG.of mixed tab_ok ?_
        conv => whnf
        refine ⟨by omega, ?_⟩
        conv => whnf
        (refine ⟨_, hg, ?_⟩)
        conv => whnf
        refine ⟨by (exact pk_at hs hdx.1 hdx.2), ?_⟩
        conv => whnf
        (refine ⟨_, pk_ld hs hdx.1 hdx.2, ?_⟩)
        conv => whnf
        refine ⟨by kernel_rfl, ?_⟩
        conv => whnf
        refine both_t (by (exact decide_eq_true z)) ?_
        conv => whnf
        refine ⟨by omega, ?_⟩
        conv => whnf
        (refine ⟨_, hg, ?_⟩)
        conv => whnf
        refine ⟨by (rw [nums_len]; simp only [List.length_cons, List.length_nil]; omega), ?_⟩
        conv => whnf
        (refine ⟨⟨i.1 + 1, by omega⟩, by show R.D.length - (i.1 + 1) < R.D.length - i.1; omega, .of [some 0, some 3] (by rfl) ?_⟩; (conv => whnf); (repeat (first | exact trivial | (refine ⟨rfl, ?_⟩; (conv => whnf)) | (refine ⟨(by (rw [ht]; exact nums_app)), ?_⟩; (conv => whnf)) | (refine ⟨(by (rw [ht]; done)), ?_⟩; (conv => whnf)) | (refine ⟨(w64 _ (by omega) (by omega)).trans (by simp), ?_⟩; (conv => whnf)))); done)
      · rw [if_neg z, List.append_nil] at ht
        unfold flw at z
        conv => whnf
        refine DrawG.of mixed tab_ok ?_
        conv => whnf
        refine ⟨by omega, ?_⟩
        conv => whnf
        (refine ⟨_, hg, ?_⟩)
        conv => whnf
        refine ⟨by (exact pk_at hs hdx.1 hdx.2), ?_⟩
        conv => whnf
        (refine ⟨_, pk_ld hs hdx.1 hdx.2, ?_⟩)
        conv => whnf
        refine ⟨by kernel_rfl, ?_⟩
        conv => whnf
        refine both_f (by (exact decide_eq_false z)) ?_
        conv => whnf
        (refine ⟨⟨i.1 + 1, by omega⟩, by show R.D.length - (i.1 + 1) < R.D.length - i.1; omega, .of [some 0, some 1] (by rfl) ?_⟩; (conv => whnf); (repeat (first | exact trivial | (refine ⟨rfl, ?_⟩; (conv => whnf)) | (refine ⟨(by (rw [ht]; exact nums_app)), ?_⟩; (conv => whnf)) | (refine ⟨(by (rw [ht]; done)), ?_⟩; (conv => whnf)) | (refine ⟨(w64 _ (by omega) (by omega)).trans (by simp), ?_⟩; (conv => whnf)))); done)
    · have hb : i.1 = R.D.length := by simp only [decide_eq_false_iff_not, hdl] at hb; omega
      have hx : R.D.take i.1 = R.D := by rw [hb, List.take_length]
      rw [hx]
      conv => whnf
      refine .same ?_
      conv => whnf
      refine ⟨by rfl, ?_⟩
      conv => whnf
end
end Go.Proofs.Ytdommpfnoiemkaa

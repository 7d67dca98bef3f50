/- Contracts of package fixed's other functions and of the reference's. No statement of the seat is proved here. -/
import Derived.Test.YthlomoacacebeaaRMulDiv
namespace Go.Proofs.Ythlomoacacebeaa
open Go.Sx
set_option linter.unusedSimpArgs false
set_option linter.unusedVariables false
theorem quot_s (a b r : Int) (ha : -9223372036854775808 ≤ a ∧ a ≤ 9223372036854775807) (hb : -9223372036854775808 ≤ b ∧ b ≤ 9223372036854775807) :
    PSpec Try.prog 48 [.int .i64 a, .int .i64 b, .int .i64 r] (· = .tup [.int .i64 (mdv a 1 b r), .int .i64 (mde a 1 b r)]) := by
  refine .of_code' tab_ok Try.func48 (by rfl) rfl trivial ?_
  conv => whnf
  refine (muldiv_s _ _ _ _ (by first | omega | assumption | decide | simp) (by first | omega | assumption | decide | simp) (by first | omega | assumption | decide | simp)).call ?_
  rintro _ rfl
  conv => whnf
theorem rquot_s (a b r : Int) (ha : -9223372036854775808 ≤ a ∧ a ≤ 9223372036854775807) (hb : -9223372036854775808 ≤ b ∧ b ≤ 9223372036854775807) :
    PSpec Try.prog 49 [.int .i64 a, .int .i64 b, .int .i64 r] (· = .tup [.int .i64 (mdv a 1 b r), .int .i64 (mde a 1 b r)]) := by
  refine .of_code' tab_ok Try.func49 (by rfl) rfl trivial ?_
  conv => whnf
  refine (rmuldiv_s _ _ _ _ (by first | omega | assumption | decide | simp) (by first | omega | assumption | decide | simp) (by first | omega | assumption | decide | simp)).call ?_
  rintro _ rfl
  conv => whnf
def clv (a l h : Int) : Int := if a < l then l else if h < a then h else a
def clb (a l h : Int) : Bool := decide (a < l) || decide (h < a)
theorem clamp_s (a l h : Int) : PSpec Try.prog 37 [.int .i64 a, .int .i64 l, .int .i64 h] (· = .tup [.int .i64 (clv a l h), .bool (clb a l h)]) := by
  refine .of_code' tab_ok Try.func37 (by rfl) rfl trivial ?_
  conv => whnf
  refine ⟨fun hh0 => ?_, fun hh0 => ?_⟩
  · simp only [decide_eq_true_eq, decide_eq_false_iff_not] at hh0
    conv => whnf
    simp [clv, clb, *]
  · simp only [decide_eq_true_eq, decide_eq_false_iff_not] at hh0
    conv => whnf
    refine ⟨fun hh1 => ?_, fun hh1 => ?_⟩
    · simp only [decide_eq_true_eq, decide_eq_false_iff_not] at hh1
      conv => whnf
      simp [clv, clb, *]
    · simp only [decide_eq_true_eq, decide_eq_false_iff_not] at hh1
      conv => whnf
      simp [clv, clb, *]
theorem rclamp_s (a l h : Int) : PSpec Try.prog 38 [.int .i64 a, .int .i64 l, .int .i64 h] (· = .tup [.int .i64 (clv a l h), .bool (clb a l h)]) := by
  refine .of_code' tab_ok Try.func38 (by rfl) rfl trivial ?_
  conv => whnf
  refine ⟨fun hh0 => ?_, fun hh0 => ?_⟩
  · simp only [decide_eq_true_eq, decide_eq_false_iff_not] at hh0
    conv => whnf
    simp [clv, clb, *]
  · simp only [decide_eq_true_eq, decide_eq_false_iff_not] at hh0
    conv => whnf
    refine ⟨fun hh1 => ?_, fun hh1 => ?_⟩
    · simp only [decide_eq_true_eq, decide_eq_false_iff_not] at hh1
      conv => whnf
      simp [clv, clb, *]
    · simp only [decide_eq_true_eq, decide_eq_false_iff_not] at hh1
      conv => whnf
      simp [clv, clb, *]
def stv (s : Int) : Int := if 9223372036854775807 < s then 9223372036854775807 else if s < -9223372036854775808 then -9223372036854775808 else s
def stb (s : Int) : Bool := decide (9223372036854775807 < s) || decide (s < -9223372036854775808)
theorem sat_facts (s : Int) : (fe s = 0 → fv s = stv s ∧ stb s = false) ∧ (¬ fe s = 0 → 0 < s → stv s = 9223372036854775807 ∧ stb s = true) ∧ (¬ fe s = 0 → s < 0 → stv s = -9223372036854775808 ∧ stb s = true) ∧ (¬ fe s = 0 → s < -9223372036854775808 ∨ 9223372036854775807 < s) := by
  have h1 : stb s = decide (9223372036854775807 < s ∨ s < -9223372036854775808) := by simp [stb]
  rw [h1]
  unfold fe fv stv
  simp only [decide_eq_true_eq, decide_eq_false_iff_not]
  refine ⟨fun h => ?_, fun h h0 => ?_, fun h h0 => ?_, fun h => ?_⟩ <;> (repeat' split at h) <;> omega
theorem sat_s (a b : Int) (ha : -9223372036854775808 ≤ a ∧ a ≤ 9223372036854775807) (hb : -9223372036854775808 ≤ b ∧ b ≤ 9223372036854775807) : PSpec Try.prog 35 [.int .i64 a, .int .i64 b] (· = .tup [.int .i64 (stv (a + b)), .bool (stb (a + b))]) := by
  refine .of_code' tab_ok Try.func35 (by rfl) rfl trivial ?_
  obtain ⟨g1, g2, g3, g4⟩ := sat_facts (a + b)
  conv => whnf
  refine (fadd_s _ _ (by first | omega | assumption | decide | simp) (by first | omega | assumption | decide | simp)).call ?_
  rintro _ rfl
  conv => whnf
  refine ⟨fun hh10 => ?_, fun hh10 => ?_⟩
  · simp only [decide_eq_true_eq, decide_eq_false_iff_not] at hh10
    conv => whnf
    (have m := g1 (by assumption); rw [m.1, m.2])
  · simp only [decide_eq_true_eq, decide_eq_false_iff_not] at hh10
    conv => whnf
    refine ⟨fun hh11 => ?_, fun hh11 => ?_⟩
    · simp only [decide_eq_true_eq, decide_eq_false_iff_not] at hh11
      conv => whnf
      (have m5 := g4 (by assumption); have m := g2 (by assumption) (by omega); rw [m.1, m.2])
    · simp only [decide_eq_true_eq, decide_eq_false_iff_not] at hh11
      conv => whnf
      (have m5 := g4 (by assumption); have m := g3 (by assumption) (by omega); rw [m.1, m.2])
theorem rsat_s (a b : Int) (ha : -9223372036854775808 ≤ a ∧ a ≤ 9223372036854775807) (hb : -9223372036854775808 ≤ b ∧ b ≤ 9223372036854775807) : PSpec Try.prog 36 [.int .i64 a, .int .i64 b] (· = .tup [.int .i64 (stv (a + b)), .bool (stb (a + b))]) := by
  refine .of_code' tab_ok Try.func36 (by rfl) rfl trivial ?_
  obtain ⟨g1, g2, g3, g4⟩ := sat_facts (a + b)
  conv => whnf
  refine (radd64_s _ _ (by first | omega | assumption | decide | simp) (by first | omega | assumption | decide | simp)).call ?_
  rintro _ rfl
  conv => whnf
  refine ⟨fun hh10 => ?_, fun hh10 => ?_⟩
  · simp only [decide_eq_true_eq, decide_eq_false_iff_not] at hh10
    conv => whnf
    (have m := g1 (by assumption); rw [m.1, m.2])
  · simp only [decide_eq_true_eq, decide_eq_false_iff_not] at hh10
    conv => whnf
    refine ⟨fun hh11 => ?_, fun hh11 => ?_⟩
    · simp only [decide_eq_true_eq, decide_eq_false_iff_not] at hh11
      conv => whnf
      (have m5 := g4 (by assumption); have m := g3 (by assumption) (by omega); rw [m.1, m.2])
    · simp only [decide_eq_true_eq, decide_eq_false_iff_not] at hh11
      conv => whnf
      (have m5 := g4 (by assumption); have m := g2 (by assumption) (by omega); rw [m.1, m.2])
/-- How a / b and c / d compare. -/
def rav (a b c d : Int) : Int := if b ≤ 0 ∨ d ≤ 0 then 0 else cmp2 (a * d) (c * b)
def rae (b d : Int) : Int := if b ≤ 0 ∨ d ≤ 0 then 1 else 0
theorem cmp2_neg (x y : Int) : cmp2 (-x) (-y) = cmp2 y x := by unfold cmp2; (repeat' split) <;> omega
theorem cmp2_swap (x y : Int) : -cmp2 x y = cmp2 y x := by unfold cmp2; (repeat' split) <;> omega
theorem cmp2_rng (x y : Int) : -1 ≤ cmp2 x y ∧ cmp2 x y ≤ 1 := by unfold cmp2; (repeat' split) <;> omega
theorem ra_facts {a b c d : Int} (hb : 0 < b) (hd : 0 < d) :
    (a < 0 → c < 0 → cmp2 (ab c * ab b) (ab a * ab d) = cmp2 (a * d) (c * b) ∧ cmp2 (ab c * b) (ab a * d) = cmp2 (a * d) (c * b)) ∧ (a < 0 → 0 ≤ c → cmp2 (a * d) (c * b) = -1) ∧ (0 ≤ a → c < 0 → cmp2 (a * d) (c * b) = 1) ∧
    (0 ≤ a → 0 ≤ c → cmp2 (ab a * ab d) (ab c * ab b) = cmp2 (a * d) (c * b) ∧ cmp2 (ab a * d) (ab c * b) = cmp2 (a * d) (c * b)) := by
  have eb : ab b = b := by unfold ab; rw [if_neg (by omega)]
  have ed : ab d = d := by unfold ab; rw [if_neg (by omega)]
  rw [eb, ed]
  refine ⟨fun h1 h2 => ?_, fun h1 h2 => ?_, fun h1 h2 => ?_, fun h1 h2 => ?_⟩
  · have ea : ab a = -a := by unfold ab; rw [if_pos h1]
    have ec : ab c = -c := by unfold ab; rw [if_pos h2]
    rw [ea, ec, Int.neg_mul, Int.neg_mul, cmp2_neg]
    exact ⟨rfl, rfl⟩
  · have h3 := Int.mul_neg_of_neg_of_pos h1 hd
    have h4 := Int.mul_nonneg h2 (Int.le_of_lt hb)
    unfold cmp2
    rw [if_pos (by omega)]
  · have h3 := Int.mul_nonneg h1 (Int.le_of_lt hd)
    have h4 := Int.mul_neg_of_neg_of_pos h2 hb
    unfold cmp2
    rw [if_neg (by omega), if_pos (by omega)]
  · have ea : ab a = a := by unfold ab; rw [if_neg (by omega)]
    have ec : ab c = c := by unfold ab; rw [if_neg (by omega)]
    rw [ea, ec]
    exact ⟨rfl, rfl⟩
theorem ratio_s (a b c d : Int) (ha : -9223372036854775808 ≤ a ∧ a ≤ 9223372036854775807) (hb : -9223372036854775808 ≤ b ∧ b ≤ 9223372036854775807) (hc : -9223372036854775808 ≤ c ∧ c ≤ 9223372036854775807) (hd : -9223372036854775808 ≤ d ∧ d ≤ 9223372036854775807) :
    PSpec Try.prog 60 [.int .i64 a, .int .i64 b, .int .i64 c, .int .i64 d] (· = .tup [.int .i64 (rav a b c d), .int .i64 (rae b d)]) := by
  refine .of_code' tab_ok Try.func60 (by rfl) rfl trivial ?_
  have a1 := ab_fits ha
  have b1 := ab_fits hb
  have c1 := ab_fits hc
  have d1 := ab_fits hd
  by_cases hbd : b ≤ 0 ∨ d ≤ 0
  · rcases hbd with h | h
    · conv => whnf
      refine both_t (by simp; omega) ?_
      conv => whnf
      simp [rav, rae, h]
    · conv => whnf
      refine ⟨fun hh0 => ?_, fun hh0 => ?_⟩
      · simp only [decide_eq_true_eq, decide_eq_false_iff_not] at hh0
        conv => whnf
        simp [rav, rae, *]
      · simp only [decide_eq_true_eq, decide_eq_false_iff_not] at hh0
        conv => whnf
        refine both_t (by simp; omega) ?_
        conv => whnf
        simp [rav, rae, *]
  · obtain ⟨f1, f2, f3, f4⟩ := @ra_facts a b c d (by omega) (by omega)
    conv => whnf
    refine both_f (by simp; omega) ?_
    conv => whnf
    refine both_f (by simp; omega) ?_
    conv => whnf
    refine ⟨fun hh0 => ?_, fun hh0 => ?_⟩
    · simp only [decide_eq_true_eq, decide_eq_false_iff_not] at hh0
      conv => whnf
      refine ⟨fun hh1 => ?_, fun hh1 => ?_⟩
      · simp only [decide_eq_true_eq, decide_eq_false_iff_not] at hh1
        conv => whnf
        refine (size_s _ (by first | omega | exact ⟨by omega, by omega⟩ | assumption | decide | simp)).call ?_
        rintro _ rfl
        conv => whnf
        refine (size_s _ (by first | omega | exact ⟨by omega, by omega⟩ | assumption | decide | simp)).call ?_
        rintro _ rfl
        conv => whnf
        refine (size_s _ (by first | omega | exact ⟨by omega, by omega⟩ | assumption | decide | simp)).call ?_
        rintro _ rfl
        conv => whnf
        refine (size_s _ (by first | omega | exact ⟨by omega, by omega⟩ | assumption | decide | simp)).call ?_
        rintro _ rfl
        conv => whnf
        refine (wcross_s _ _ _ _ (by first | omega | exact ⟨by omega, by omega⟩ | assumption | decide | simp) (by first | omega | exact ⟨by omega, by omega⟩ | assumption | decide | simp) (by first | omega | exact ⟨by omega, by omega⟩ | assumption | decide | simp) (by first | omega | exact ⟨by omega, by omega⟩ | assumption | decide | simp)).call ?_
        rintro _ rfl
        conv => whnf
        (rw [rav, rae, if_neg hbd, if_neg hbd, (f1 (by omega) (by omega)).1])
      · simp only [decide_eq_true_eq, decide_eq_false_iff_not] at hh1
        conv => whnf
        refine both_t (by simp; omega) ?_
        conv => whnf
        (rw [rav, rae, if_neg hbd, if_neg hbd, f2 (by omega) (by omega)])
    · simp only [decide_eq_true_eq, decide_eq_false_iff_not] at hh0
      conv => whnf
      refine both_f (by simp; omega) ?_
      conv => whnf
      refine ⟨fun hh52 => ?_, fun hh52 => ?_⟩
      · simp only [decide_eq_true_eq, decide_eq_false_iff_not] at hh52
        conv => whnf
        (rw [rav, rae, if_neg hbd, if_neg hbd, f3 (by omega) (by omega)])
      · simp only [decide_eq_true_eq, decide_eq_false_iff_not] at hh52
        conv => whnf
        refine (size_s _ (by first | omega | exact ⟨by omega, by omega⟩ | assumption | decide | simp)).call ?_
        rintro _ rfl
        conv => whnf
        refine (size_s _ (by first | omega | exact ⟨by omega, by omega⟩ | assumption | decide | simp)).call ?_
        rintro _ rfl
        conv => whnf
        refine (size_s _ (by first | omega | exact ⟨by omega, by omega⟩ | assumption | decide | simp)).call ?_
        rintro _ rfl
        conv => whnf
        refine (size_s _ (by first | omega | exact ⟨by omega, by omega⟩ | assumption | decide | simp)).call ?_
        rintro _ rfl
        conv => whnf
        refine (wcross_s _ _ _ _ (by first | omega | exact ⟨by omega, by omega⟩ | assumption | decide | simp) (by first | omega | exact ⟨by omega, by omega⟩ | assumption | decide | simp) (by first | omega | exact ⟨by omega, by omega⟩ | assumption | decide | simp) (by first | omega | exact ⟨by omega, by omega⟩ | assumption | decide | simp)).call ?_
        rintro _ rfl
        conv => whnf
        (rw [rav, rae, if_neg hbd, if_neg hbd, (f4 (by omega) (by omega)).1])
theorem rratio_s (a b c d : Int) (ha : -9223372036854775808 ≤ a ∧ a ≤ 9223372036854775807) (hb : -9223372036854775808 ≤ b ∧ b ≤ 9223372036854775807) (hc : -9223372036854775808 ≤ c ∧ c ≤ 9223372036854775807) (hd : -9223372036854775808 ≤ d ∧ d ≤ 9223372036854775807) :
    PSpec Try.prog 61 [.int .i64 a, .int .i64 b, .int .i64 c, .int .i64 d] (· = .tup [.int .i64 (rav a b c d), .int .i64 (rae b d)]) := by
  refine .of_code' tab_ok Try.func61 (by rfl) rfl trivial ?_
  have a1 := ab_fits ha
  have c1 := ab_fits hc
  by_cases hbd : b ≤ 0 ∨ d ≤ 0
  · rcases hbd with h | h
    · conv => whnf
      refine both_t (by simp; omega) ?_
      conv => whnf
      simp [rav, rae, h]
    · conv => whnf
      refine ⟨fun hh0 => ?_, fun hh0 => ?_⟩
      · simp only [decide_eq_true_eq, decide_eq_false_iff_not] at hh0
        conv => whnf
        simp [rav, rae, *]
      · simp only [decide_eq_true_eq, decide_eq_false_iff_not] at hh0
        conv => whnf
        refine both_t (by simp; omega) ?_
        conv => whnf
        simp [rav, rae, *]
  · obtain ⟨f1, f2, f3, f4⟩ := @ra_facts a b c d (by omega) (by omega)
    have e1 : IntKind.u64.wrap b = b := by rw [IntKind.wrap_u64]; omega
    have e2 : IntKind.u64.wrap d = d := by rw [IntKind.wrap_u64]; omega
    have e3 : ∀ x y, IntKind.i64.wrap (0 - cmp2 x y) = cmp2 y x := fun x y => by have := cmp2_rng x y; rw [w64 _ (by omega) (by omega), ← cmp2_swap]; omega
    conv => whnf
    refine both_f (by simp; omega) ?_
    conv => whnf
    refine both_f (by simp; omega) ?_
    conv => whnf
    refine ⟨fun hh0 => ?_, fun hh0 => ?_⟩
    · simp only [decide_eq_true_eq, decide_eq_false_iff_not] at hh0
      conv => whnf
      refine ⟨fun hh1 => ?_, fun hh1 => ?_⟩
      · simp only [decide_eq_true_eq, decide_eq_false_iff_not] at hh1
        conv => whnf
        (rw [rav, rae, if_neg hbd, if_neg hbd, f2 (by omega) (by omega)])
      · simp only [decide_eq_true_eq, decide_eq_false_iff_not] at hh1
        conv => whnf
        refine both_f (by simp; omega) ?_
        conv => whnf
        refine (abs_s _ (by first | omega | exact ⟨by omega, by omega⟩ | (rw [e1]; exact ⟨by omega, by omega⟩) | (rw [e2]; exact ⟨by omega, by omega⟩) | assumption | decide | simp)).call ?_
        rintro _ rfl
        conv => whnf
        refine (abs_s _ (by first | omega | exact ⟨by omega, by omega⟩ | (rw [e1]; exact ⟨by omega, by omega⟩) | (rw [e2]; exact ⟨by omega, by omega⟩) | assumption | decide | simp)).call ?_
        rintro _ rfl
        conv => whnf
        refine (rcross_s _ _ _ _ (by first | omega | exact ⟨by omega, by omega⟩ | (rw [e1]; exact ⟨by omega, by omega⟩) | (rw [e2]; exact ⟨by omega, by omega⟩) | assumption | decide | simp) (by first | omega | exact ⟨by omega, by omega⟩ | (rw [e1]; exact ⟨by omega, by omega⟩) | (rw [e2]; exact ⟨by omega, by omega⟩) | assumption | decide | simp) (by first | omega | exact ⟨by omega, by omega⟩ | (rw [e1]; exact ⟨by omega, by omega⟩) | (rw [e2]; exact ⟨by omega, by omega⟩) | assumption | decide | simp) (by first | omega | exact ⟨by omega, by omega⟩ | (rw [e1]; exact ⟨by omega, by omega⟩) | (rw [e2]; exact ⟨by omega, by omega⟩) | assumption | decide | simp)).call ?_
        rintro _ rfl
        conv => whnf
        refine both_t (by simp; omega) ?_
        conv => whnf
        (rw [rav, rae, if_neg hbd, if_neg hbd, e1, e2, e3, (f1 (by omega) (by omega)).2])
    · simp only [decide_eq_true_eq, decide_eq_false_iff_not] at hh0
      conv => whnf
      refine both_t (by simp; omega) ?_
      conv => whnf
      refine ⟨fun hh32 => ?_, fun hh32 => ?_⟩
      · simp only [decide_eq_true_eq, decide_eq_false_iff_not] at hh32
        conv => whnf
        (rw [rav, rae, if_neg hbd, if_neg hbd, f3 (by omega) (by omega)])
      · simp only [decide_eq_true_eq, decide_eq_false_iff_not] at hh32
        conv => whnf
        refine (abs_s _ (by first | omega | exact ⟨by omega, by omega⟩ | (rw [e1]; exact ⟨by omega, by omega⟩) | (rw [e2]; exact ⟨by omega, by omega⟩) | assumption | decide | simp)).call ?_
        rintro _ rfl
        conv => whnf
        refine (abs_s _ (by first | omega | exact ⟨by omega, by omega⟩ | (rw [e1]; exact ⟨by omega, by omega⟩) | (rw [e2]; exact ⟨by omega, by omega⟩) | assumption | decide | simp)).call ?_
        rintro _ rfl
        conv => whnf
        refine (rcross_s _ _ _ _ (by first | omega | exact ⟨by omega, by omega⟩ | (rw [e1]; exact ⟨by omega, by omega⟩) | (rw [e2]; exact ⟨by omega, by omega⟩) | assumption | decide | simp) (by first | omega | exact ⟨by omega, by omega⟩ | (rw [e1]; exact ⟨by omega, by omega⟩) | (rw [e2]; exact ⟨by omega, by omega⟩) | assumption | decide | simp) (by first | omega | exact ⟨by omega, by omega⟩ | (rw [e1]; exact ⟨by omega, by omega⟩) | (rw [e2]; exact ⟨by omega, by omega⟩) | assumption | decide | simp) (by first | omega | exact ⟨by omega, by omega⟩ | (rw [e1]; exact ⟨by omega, by omega⟩) | (rw [e2]; exact ⟨by omega, by omega⟩) | assumption | decide | simp)).call ?_
        rintro _ rfl
        conv => whnf
        refine both_f (by simp; omega) ?_
        conv => whnf
        (rw [rav, rae, if_neg hbd, if_neg hbd, e1, e2, (f4 (by omega) (by omega)).2])
end Go.Proofs.Ythlomoacacebeaa

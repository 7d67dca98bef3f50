/- Contracts of the comparisons of package wide. No statement of the seat is proved here. -/
import Derived.Test.YthlomoacacebeaaWide
namespace Go.Proofs.Ythlomoacacebeaa
open Go.Sx
def cmp2 (x y : Int) : Int := if x < y then -1 else if y < x then 1 else 0
theorem isNaN_s (x : Int) : PSpec Try.prog 73 [.int .u64 x] (· = .bool false) := by
  refine .of_code' tab_ok Try.func73 (by rfl) rfl trivial ?_
  conv => whnf
  simp
theorem compare_u (x y : Int) : PSpec Try.prog 69 [.int .u64 x, .int .u64 y] (· = .int .i64 (cmp2 x y)) := by
  refine .of_code' tab_ok Try.func69 (by rfl) rfl trivial ?_
  conv => whnf
  refine (isNaN_s x).call ?_
  rintro _ rfl
  conv => whnf
  refine (isNaN_s y).call ?_
  rintro _ rfl
  conv => whnf
  repeat (refine both_f rfl ?_; conv => whnf)
  refine ⟨fun h => ?_, fun h => ?_⟩
  · conv => whnf
    have h : x < y := by simpa using h
    simp [cmp2, h]
  · conv => whnf
    have h : ¬ x < y := by simpa using h
    refine ⟨fun h' => ?_, fun h' => ?_⟩
    · conv => whnf
      have h' : y < x := by simpa using h'
      simp [cmp2, h, h']
    · conv => whnf
      have h' : ¬ y < x := by simpa using h'
      simp [cmp2, h, h']
theorem cmpor_s (x y : Int) : PSpec Try.prog 68 [.rs 1 [[.int .i64 x], [.int .i64 y]]] (· = .int .i64 (if x = 0 then y else x)) := by
  refine .of_code' tab_ok Try.func68 (by rfl) rfl trivial ?_
  conv => whnf
  refine LoopG.inv tab_ok 18 (fun i : { i : Nat // i ≤ 2 ∧ (1 ≤ i → x = 0) ∧ (2 ≤ i → y = 0) } => [(0, .rs 1 [[.int .i64 x], [.int .i64 y]]), (2, .int .i64 0), (3, .int .i64 0), (6, .rs 1 [[.int .i64 x], [.int .i64 y]]), (7, .int .i64 2), (8, .int .i64 (i.1 : Int))])
    (fun _ => []) (fun i => 2 - i.1) ⟨0, by omega⟩ (.of [] (by decide) ?_) ?_
  · conv => whnf
    repeat (refine ⟨rfl, ?_⟩; conv => whnf)
    trivial
  · rintro ⟨i, hi⟩
    conv => whnf
    refine ⟨fun hb => ?_, fun hb => ?_⟩
    · have hb : (i : Int) < 2 := by simpa using hb
      conv => whnf
      refine ⟨⟨by show (0 : Int) ≤ (i : Int); omega, hb⟩, ?_⟩
      conv => whnf
      have hcase : i = 0 ∨ i = 1 := by omega
      refine ⟨[.int .i64 (if i = 0 then x else y)], by rcases hcase with rfl | rfl <;> rfl, ?_⟩
      conv => whnf
      refine ⟨fun h => ?_, fun h => ?_⟩
      · conv => whnf
        refine .same ?_
        conv => whnf
        have h : ¬ (if i = 0 then x else y) = 0 := by simpa using h
        rcases hcase with rfl | rfl
        · simp at h; simp [h]
        · have := hi.2.1 (by omega); simp [this]
      · conv => whnf
        have h : (if i = 0 then x else y) = 0 := by simpa using h
        refine ⟨⟨i + 1, by omega, fun _ => ?_, fun _ => ?_⟩, by show 2 - (i + 1) < 2 - i; omega, .of [] (by decide) ?_⟩
        · rcases hcase with rfl | rfl
          · simpa using h
          · exact hi.2.1 (by omega)
        · rcases hcase with rfl | rfl
          · omega
          · simpa using h
        · conv => whnf
          refine ⟨rfl, ?_⟩
          conv => whnf
          refine ⟨rfl, ?_⟩
          conv => whnf
          refine ⟨rfl, ?_⟩
          conv => whnf
          refine ⟨rfl, ?_⟩
          conv => whnf
          refine ⟨rfl, ?_⟩
          conv => whnf
          refine ⟨(w64 ((i : Int) + 1) (by omega) (by omega)).trans (show (i : Int) + 1 = ((i + 1 : Nat) : Int) by omega), ?_⟩
          conv => whnf
          trivial
    · have hb : ¬ (i : Int) < 2 := by simpa using hb
      conv => whnf
      refine .same ?_
      conv => whnf
      have : x = 0 := hi.2.1 (by omega)
      have : y = 0 := hi.2.2 (by omega)
      simp [*]
theorem compare_s (a b c d : Int) : PSpec Try.prog 45 [.agg [.int .u64 a, .int .u64 b], .agg [.int .u64 c, .int .u64 d]] (· = .int .i64 (if cmp2 a c = 0 then cmp2 b d else cmp2 a c)) := by
  refine .of_code' tab_ok Try.func45 (by rfl) rfl trivial ?_
  conv => whnf
  refine DrawG.of mixed tab_ok ?_
  conv => whnf
  refine (compare_u a c).calld ?_
  conv => whnf
  refine (compare_u b d).calld ?_
  conv => whnf
  refine (cmpor_s _ _).lendd (And.intro rfl trivial) ?_
  conv => whnf
  refine ⟨by kernel_rfl, ?_⟩
  conv => whnf
def lessB (a b c d : Int) : Bool := decide (a < c) || (decide (a = c) && decide (b < d))
theorem lessB_iff (a b c d : Int) : lessB a b c d = true ↔ a < c ∨ (a = c ∧ b < d) := by simp [lessB]
theorem wide_lt (u v : Int) : lessB (u / 18446744073709551616) (u % 18446744073709551616) (v / 18446744073709551616) (v % 18446744073709551616) = decide (u < v) := by
  rw [Bool.eq_iff_iff, lessB_iff, decide_eq_true_eq]
  omega
theorem wide_cmp (u v : Int) : (if cmp2 (u / 18446744073709551616) (v / 18446744073709551616) = 0 then cmp2 (u % 18446744073709551616) (v % 18446744073709551616) else cmp2 (u / 18446744073709551616) (v / 18446744073709551616)) = cmp2 u v := by
  unfold cmp2
  by_cases h1 : u < v
  · rw [if_pos h1]
    by_cases h2 : u / 18446744073709551616 < v / 18446744073709551616
    · simp [h2]
    · have e : v / 18446744073709551616 = u / 18446744073709551616 := by omega
      have h3 : u % 18446744073709551616 < v % 18446744073709551616 := by omega
      simp [e, h3]
  · rw [if_neg h1]
    by_cases h2 : v < u
    · rw [if_pos h2]
      by_cases h3 : v / 18446744073709551616 < u / 18446744073709551616
      · have : ¬ u / 18446744073709551616 < v / 18446744073709551616 := by omega
        simp [h3, this]
      · have e : v / 18446744073709551616 = u / 18446744073709551616 := by omega
        have h4 : v % 18446744073709551616 < u % 18446744073709551616 := by omega
        have h5 : ¬ u % 18446744073709551616 < v % 18446744073709551616 := by omega
        simp [e, h4, h5]
    · have : u = v := by omega
      subst this
      simp
theorem wless_s (a b c d : Int) : PSpec Try.prog 24 [.agg [.int .u64 a, .int .u64 b], .agg [.int .u64 c, .int .u64 d]] (· = .bool (lessB a b c d)) := by
  refine .of_code' tab_ok Try.func24 (by rfl) rfl trivial ?_
  conv => whnf
  refine (compare_s a b c d).call ?_
  rintro _ rfl
  conv => whnf
  congr 1
  unfold cmp2 lessB
  by_cases h1 : a < c
  · simp [h1]
  · by_cases h2 : c < a
    · have : ¬ a = c := by omega
      simp [h1, h2, this]
    · have : a = c := by omega
      subst this
      by_cases h3 : b < d
      · simp [h3]
      · by_cases h4 : d < b <;> simp [h3, h4]
theorem rless_s (a b c d : Int) : PSpec Try.prog 25 [.agg [.int .u64 a, .int .u64 b], .agg [.int .u64 c, .int .u64 d]] (· = .bool (lessB a b c d)) := by
  refine .of_code' tab_ok Try.func25 (by rfl) rfl trivial ?_
  conv => whnf
  refine ⟨fun h => ?_, fun h => ?_⟩
  · conv => whnf
    simp only [decide_eq_true_eq] at h
    simp [lessB, h]
  · conv => whnf
    simp only [decide_eq_false_iff_not] at h
    refine ⟨fun h' => ?_, fun h' => ?_⟩
    · conv => whnf
      simp only [decide_eq_true_eq] at h'
      simp [lessB, h']
    · conv => whnf
      simp only [decide_eq_false_iff_not] at h'
      simp [lessB, h, h']
theorem wcross_s (a b c d : Int) (ha : 0 ≤ a ∧ a < 18446744073709551616) (hb : 0 ≤ b ∧ b < 18446744073709551616) (hc : 0 ≤ c ∧ c < 18446744073709551616) (hd : 0 ≤ d ∧ d < 18446744073709551616) :
    PSpec Try.prog 22 [.int .u64 a, .int .u64 b, .int .u64 c, .int .u64 d] (· = .int .i64 (cmp2 (a * b) (c * d))) := by
  refine .of_code' tab_ok Try.func22 (by rfl) rfl trivial ?_
  conv => whnf
  refine (wmul_s a b ha.1 ha.2 hb.1 hb.2).call ?_
  rintro _ rfl
  conv => whnf
  refine (wmul_s c d hc.1 hc.2 hd.1 hd.2).call ?_
  rintro _ rfl
  conv => whnf
  refine (compare_s _ _ _ _).call ?_
  rintro _ rfl
  conv => whnf
  rw [wide_cmp]
theorem rcross_s (a b c d : Int) (ha : 0 ≤ a ∧ a < 18446744073709551616) (hb : 0 ≤ b ∧ b < 18446744073709551616) (hc : 0 ≤ c ∧ c < 18446744073709551616) (hd : 0 ≤ d ∧ d < 18446744073709551616) :
    PSpec Try.prog 23 [.int .u64 a, .int .u64 b, .int .u64 c, .int .u64 d] (· = .int .i64 (cmp2 (a * b) (c * d))) := by
  refine .of_code' tab_ok Try.func23 (by rfl) rfl trivial ?_
  conv => whnf
  refine (rmul_s a b ha.1 ha.2 hb.1 hb.2).call ?_
  rintro _ rfl
  conv => whnf
  refine (rmul_s c d hc.1 hc.2 hd.1 hd.2).call ?_
  rintro _ rfl
  conv => whnf
  refine (rless_s _ _ _ _).call ?_
  rintro _ rfl
  conv => whnf
  rw [wide_lt]
  refine ⟨fun h => ?_, fun h => ?_⟩
  · conv => whnf
    have h : a * b < c * d := by simpa using h
    simp [cmp2, h]
  · conv => whnf
    have h : ¬ a * b < c * d := by simpa using h
    refine (rless_s _ _ _ _).call ?_
    rintro _ rfl
    conv => whnf
    rw [wide_lt]
    refine ⟨fun h' => ?_, fun h' => ?_⟩
    · conv => whnf
      have h' : c * d < a * b := by simpa using h'
      simp [cmp2, h, h']
    · conv => whnf
      have h' : ¬ c * d < a * b := by simpa using h'
      simp [cmp2, h, h']
end Go.Proofs.Ythlomoacacebeaa

/- What the statements of chapter 2 compute. No statement of the seat is proved here. -/
import Derived.Test.YthlomoacacebeaaFixedMore
import Derived.Test.YthlomoacacebeaaGenI
namespace Go.Proofs.Ythlomoacacebeaa
open Go.Sx
set_option linter.unusedSimpArgs false
set_option linter.unusedVariables false
theorem awake2_s : PSpec Try.prog 31 [] (· = .bool true) := by
  refine .of_code' tab_ok Try.func31 (by rfl) rfl trivial ?_
  conv => whnf
  refine (quot_s _ _ _ (by first | omega | assumption | decide | simp) (by first | omega | assumption | decide | simp)).call ?_
  rintro _ rfl
  conv => whnf
  refine (quot_s _ _ _ (by first | omega | assumption | decide | simp) (by first | omega | assumption | decide | simp)).call ?_
  rintro _ rfl
  conv => whnf
  refine both_t rfl ?_
  conv => whnf
  refine both_t rfl ?_
  conv => whnf
  rfl
theorem sums_s (a b : Int) (ha : -9223372036854775808 ≤ a ∧ a ≤ 9223372036854775807) (hb : -9223372036854775808 ≤ b ∧ b ≤ 9223372036854775807) : PSpec Try.prog 34 [.int .i64 a, .int .i64 b] (· = .bool true) := by
  refine .of_code' tab_ok Try.func34 (by rfl) rfl trivial ?_
  conv => whnf
  refine (fadd_s _ _ (by first | omega | assumption | decide | simp) (by first | omega | assumption | decide | simp)).call ?_
  rintro _ rfl
  conv => whnf
  refine (radd64_s _ _ (by first | omega | assumption | decide | simp) (by first | omega | assumption | decide | simp)).call ?_
  rintro _ rfl
  conv => whnf
  refine (fsub_s _ _ (by first | omega | assumption | decide | simp) (by first | omega | assumption | decide | simp)).call ?_
  rintro _ rfl
  conv => whnf
  refine (rsub64_s _ _ (by first | omega | assumption | decide | simp) (by first | omega | assumption | decide | simp)).call ?_
  rintro _ rfl
  conv => whnf
  refine (fmul_s _ _ (by first | omega | assumption | decide | simp) (by first | omega | assumption | decide | simp)).call ?_
  rintro _ rfl
  conv => whnf
  refine (rmul64_s _ _ (by first | omega | assumption | decide | simp) (by first | omega | assumption | decide | simp)).call ?_
  rintro _ rfl
  conv => whnf
  refine both_t (by simp) ?_
  conv => whnf
  refine both_t (by simp) ?_
  conv => whnf
  refine both_t (by simp) ?_
  conv => whnf
  refine both_t (by simp) ?_
  conv => whnf
  refine both_t (by simp) ?_
  conv => whnf
  simp
theorem quotient_s (a b r : Int) (ha : -9223372036854775808 ≤ a ∧ a ≤ 9223372036854775807) (hb : -9223372036854775808 ≤ b ∧ b ≤ 9223372036854775807) : PSpec Try.prog 28 [.int .i64 a, .int .i64 b, .int .i64 r] (· = .bool true) := by
  refine .of_code' tab_ok Try.func28 (by rfl) rfl trivial ?_
  conv => whnf
  refine (quot_s _ _ _ (by first | omega | assumption | decide | simp) (by first | omega | assumption | decide | simp)).call ?_
  rintro _ rfl
  conv => whnf
  refine (rquot_s _ _ _ (by first | omega | assumption | decide | simp) (by first | omega | assumption | decide | simp)).call ?_
  rintro _ rfl
  conv => whnf
  refine both_t (by simp) ?_
  conv => whnf
  simp
theorem muldiv2_s (a b c r : Int) (ha : -9223372036854775808 ≤ a ∧ a ≤ 9223372036854775807) (hb : -9223372036854775808 ≤ b ∧ b ≤ 9223372036854775807) (hc : -9223372036854775808 ≤ c ∧ c ≤ 9223372036854775807) : PSpec Try.prog 32 [.int .i64 a, .int .i64 b, .int .i64 c, .int .i64 r] (· = .bool true) := by
  refine .of_code' tab_ok Try.func32 (by rfl) rfl trivial ?_
  conv => whnf
  refine (muldiv_s _ _ _ _ (by first | omega | assumption | decide | simp) (by first | omega | assumption | decide | simp) (by first | omega | assumption | decide | simp)).call ?_
  rintro _ rfl
  conv => whnf
  refine (rmuldiv_s _ _ _ _ (by first | omega | assumption | decide | simp) (by first | omega | assumption | decide | simp) (by first | omega | assumption | decide | simp)).call ?_
  rintro _ rfl
  conv => whnf
  refine both_t (by simp) ?_
  conv => whnf
  simp
theorem ratio2_s (a b c d : Int) (ha : -9223372036854775808 ≤ a ∧ a ≤ 9223372036854775807) (hb : -9223372036854775808 ≤ b ∧ b ≤ 9223372036854775807) (hc : -9223372036854775808 ≤ c ∧ c ≤ 9223372036854775807) (hd : -9223372036854775808 ≤ d ∧ d ≤ 9223372036854775807) : PSpec Try.prog 39 [.int .i64 a, .int .i64 b, .int .i64 c, .int .i64 d] (· = .bool true) := by
  refine .of_code' tab_ok Try.func39 (by rfl) rfl trivial ?_
  conv => whnf
  refine (ratio_s _ _ _ _ (by first | omega | assumption | decide | simp) (by first | omega | assumption | decide | simp) (by first | omega | assumption | decide | simp) (by first | omega | assumption | decide | simp)).call ?_
  rintro _ rfl
  conv => whnf
  refine (rratio_s _ _ _ _ (by first | omega | assumption | decide | simp) (by first | omega | assumption | decide | simp) (by first | omega | assumption | decide | simp) (by first | omega | assumption | decide | simp)).call ?_
  rintro _ rfl
  conv => whnf
  refine both_t (by simp) ?_
  conv => whnf
  simp
theorem fixedSums_s (ls : List Int) (a : Int) (b : Int) (ha0 : -9223372036854775808 ≤ a) (ha1 : a ≤ 9223372036854775807) (hb0 : -9223372036854775808 ≤ b) (hb1 : b ≤ 9223372036854775807) :
    PSpec Try.prog 11 [.rs 1 (nums ls), .int .i64 a, .int .i64 b] TrueS := by
  refine .of_code' tab_ok Try.func11 (by rfl) rfl trivial ?_
  conv => whnf
  refine CallG.of_code tab_ok Try.func15 (by rfl) rfl ?_
  conv => whnf
  refine LoopG.inv tab_ok 34 (fun i : { i : Nat // i ≤ 5 } => [(0, .rs 1 (nums ls)), (1, .int .i64 a), (2, .int .i64 b), (6, .ff), (7, .ptr 0 0), (8, .int .i64 (i.1 : Int))])
    (fun i => [chs ls (9 * (i.1 : Int))]) (fun i => 5 - i.1) ⟨0, by decide⟩ (.of [some 0] (by decide) ?_) ?_
  · conv => whnf
    refine ⟨by rfl, ?_⟩
    conv => whnf
    refine ⟨by rfl, ?_⟩
    conv => whnf
    refine ⟨by rfl, ?_⟩
    conv => whnf
    refine ⟨by rfl, ?_⟩
    conv => whnf
    refine ⟨by rfl, ?_⟩
    conv => whnf
    refine ⟨by rfl, ?_⟩
    conv => whnf
    exact trivial
  · intro i
    have hi := i.2
    conv => whnf
    refine ⟨fun hb => ?_, fun hb => ?_⟩
    · have hb : (i.1 : Int) < 5 := by simpa using hb
      conv => whnf
      refine (int64_s _ _ (by first | omega | exact inx_fits _ _ | exact ⟨by omega, by omega⟩ | assumption | decide | simp) (by first | omega | exact inx_fits _ _ | exact ⟨by omega, by omega⟩ | assumption | decide | simp)).call [0] (by decide) trivial (And.intro rfl trivial) ?_
      rintro _ _ ⟨rfl, rfl⟩
      conv => whnf
      refine (int64_s _ _ (by first | omega | exact inx_fits _ _ | exact ⟨by omega, by omega⟩ | assumption | decide | simp) (by first | omega | exact inx_fits _ _ | exact ⟨by omega, by omega⟩ | assumption | decide | simp)).call [0] (by decide) trivial (And.intro rfl trivial) ?_
      rintro _ _ ⟨rfl, rfl⟩
      conv => whnf
      refine (sums_s _ _ (by first | omega | exact inx_fits _ _ | exact ⟨by omega, by omega⟩ | assumption | decide | simp) (by first | omega | exact inx_fits _ _ | exact ⟨by omega, by omega⟩ | assumption | decide | simp)).call ?_
      rintro _ rfl
      conv => whnf
      refine both_f rfl ?_
      conv => whnf
      refine (int64_s _ _ (by first | omega | exact inx_fits _ _ | exact ⟨by omega, by omega⟩ | assumption | decide | simp) (by first | omega | exact inx_fits _ _ | exact ⟨by omega, by omega⟩ | assumption | decide | simp)).call [0] (by decide) trivial (And.intro rfl trivial) ?_
      rintro _ _ ⟨rfl, rfl⟩
      conv => whnf
      refine (sums_s _ _ (by first | omega | exact inx_fits _ _ | exact ⟨by omega, by omega⟩ | assumption | decide | simp) (by first | omega | exact inx_fits _ _ | exact ⟨by omega, by omega⟩ | assumption | decide | simp)).call ?_
      rintro _ rfl
      conv => whnf
      refine both_f rfl ?_
      conv => whnf
      refine ⟨⟨i.1 + 1, by omega⟩, by show 5 - (i.1 + 1) < 5 - i.1; omega, .of [some 0] (by decide) ?_⟩
      conv => whnf
      refine ⟨by rfl, ?_⟩
      conv => whnf
      refine ⟨by rfl, ?_⟩
      conv => whnf
      refine ⟨by rfl, ?_⟩
      conv => whnf
      refine ⟨by exact (w64 _ (by omega) (by omega)).trans (by simp), ?_⟩
      conv => whnf
      refine ⟨by rfl, ?_⟩
      conv => whnf
      refine ⟨by rfl, ?_⟩
      conv => whnf
      exact trivial
    · conv => whnf
      refine .same ?_
      conv => whnf
      refine (sums_s _ _ (by first | omega | exact inx_fits _ _ | exact ⟨by omega, by omega⟩ | assumption | decide | simp) (by first | omega | exact inx_fits _ _ | exact ⟨by omega, by omega⟩ | assumption | decide | simp)).call ?_
      rintro _ rfl
      conv => whnf
      refine both_t rfl ?_
      conv => whnf
      refine (awake2_s).call ?_
      rintro _ rfl
      conv => whnf
theorem fixedQuotient_s (ls : List Int) (a : Int) (b : Int) (r : Int) (ha0 : -9223372036854775808 ≤ a) (ha1 : a ≤ 9223372036854775807) (hb0 : -9223372036854775808 ≤ b) (hb1 : b ≤ 9223372036854775807) (hr0 : -9223372036854775808 ≤ r) (hr1 : r ≤ 9223372036854775807) :
    PSpec Try.prog 8 [.rs 1 (nums ls), .int .i64 a, .int .i64 b, .int .i64 r] TrueS := by
  refine .of_code' tab_ok Try.func8 (by rfl) rfl trivial ?_
  conv => whnf
  refine CallG.of_code tab_ok Try.func15 (by rfl) rfl ?_
  conv => whnf
  refine LoopG.inv tab_ok 41 (fun i : { i : Nat // i ≤ 5 } => [(0, .rs 1 (nums ls)), (1, .int .i64 a), (2, .int .i64 b), (3, .int .i64 r), (8, .ff), (9, .ptr 0 0), (10, .int .i64 (i.1 : Int))])
    (fun i => [chs ls (8 * (i.1 : Int))]) (fun i => 5 - i.1) ⟨0, by decide⟩ (.of [some 0] (by decide) ?_) ?_
  · conv => whnf
    refine ⟨by rfl, ?_⟩
    conv => whnf
    refine ⟨by rfl, ?_⟩
    conv => whnf
    refine ⟨by rfl, ?_⟩
    conv => whnf
    refine ⟨by rfl, ?_⟩
    conv => whnf
    refine ⟨by rfl, ?_⟩
    conv => whnf
    refine ⟨by rfl, ?_⟩
    conv => whnf
    refine ⟨by rfl, ?_⟩
    conv => whnf
    exact trivial
  · intro i
    have hi := i.2
    conv => whnf
    refine ⟨fun hb => ?_, fun hb => ?_⟩
    · have hb : (i.1 : Int) < 5 := by simpa using hb
      conv => whnf
      refine (int64_s _ _ (by first | omega | exact inx_fits _ _ | exact ⟨by omega, by omega⟩ | assumption | decide | simp) (by first | omega | exact inx_fits _ _ | exact ⟨by omega, by omega⟩ | assumption | decide | simp)).call [0] (by decide) trivial (And.intro rfl trivial) ?_
      rintro _ _ ⟨rfl, rfl⟩
      conv => whnf
      refine (int64_s _ _ (by first | omega | exact inx_fits _ _ | exact ⟨by omega, by omega⟩ | assumption | decide | simp) (by first | omega | exact inx_fits _ _ | exact ⟨by omega, by omega⟩ | assumption | decide | simp)).call [0] (by decide) trivial (And.intro rfl trivial) ?_
      rintro _ _ ⟨rfl, rfl⟩
      conv => whnf
      refine (next_s _ _ _ (by first | omega | exact inx_fits _ _ | exact ⟨by omega, by omega⟩ | assumption | decide | simp) (by first | omega | exact inx_fits _ _ | exact ⟨by omega, by omega⟩ | assumption | decide | simp) (by first | omega | exact inx_fits _ _ | exact ⟨by omega, by omega⟩ | assumption | decide | simp)).call [0] (by decide) (And.intro rfl trivial) (And.intro rfl trivial) ?_
      rintro _ _ ⟨rfl, rfl⟩
      conv => whnf
      refine (quotient_s _ _ _ (by first | omega | exact inx_fits _ _ | exact ⟨by omega, by omega⟩ | assumption | decide | simp) (by first | omega | exact inx_fits _ _ | exact ⟨by omega, by omega⟩ | assumption | decide | simp)).call ?_
      rintro _ rfl
      conv => whnf
      refine both_f rfl ?_
      conv => whnf
      refine (next_s _ _ _ (by first | omega | exact inx_fits _ _ | exact ⟨by omega, by omega⟩ | assumption | decide | simp) (by first | omega | exact inx_fits _ _ | exact ⟨by omega, by omega⟩ | assumption | decide | simp) (by first | omega | exact inx_fits _ _ | exact ⟨by omega, by omega⟩ | assumption | decide | simp)).call [0] (by decide) (And.intro rfl trivial) (And.intro rfl trivial) ?_
      rintro _ _ ⟨rfl, rfl⟩
      conv => whnf
      refine (quotient_s _ _ _ (by first | omega | exact inx_fits _ _ | exact ⟨by omega, by omega⟩ | assumption | decide | simp) (by first | omega | exact inx_fits _ _ | exact ⟨by omega, by omega⟩ | assumption | decide | simp)).call ?_
      rintro _ rfl
      conv => whnf
      refine both_f rfl ?_
      conv => whnf
      refine ⟨⟨i.1 + 1, by omega⟩, by show 5 - (i.1 + 1) < 5 - i.1; omega, .of [some 0] (by decide) ?_⟩
      conv => whnf
      refine ⟨by rfl, ?_⟩
      conv => whnf
      refine ⟨by rfl, ?_⟩
      conv => whnf
      refine ⟨by rfl, ?_⟩
      conv => whnf
      refine ⟨by rfl, ?_⟩
      conv => whnf
      refine ⟨by exact (w64 _ (by omega) (by omega)).trans (by simp), ?_⟩
      conv => whnf
      refine ⟨by rfl, ?_⟩
      conv => whnf
      refine ⟨by rfl, ?_⟩
      conv => whnf
      exact trivial
    · conv => whnf
      refine .same ?_
      conv => whnf
      refine (quotient_s _ _ _ (by first | omega | exact inx_fits _ _ | exact ⟨by omega, by omega⟩ | assumption | decide | simp) (by first | omega | exact inx_fits _ _ | exact ⟨by omega, by omega⟩ | assumption | decide | simp)).call ?_
      rintro _ rfl
      conv => whnf
      refine both_t rfl ?_
      conv => whnf
      refine (awake2_s).call ?_
      rintro _ rfl
      conv => whnf
theorem fixedMulDiv_s (ls : List Int) (a : Int) (b : Int) (d : Int) (r : Int) (ha0 : -9223372036854775808 ≤ a) (ha1 : a ≤ 9223372036854775807) (hb0 : -9223372036854775808 ≤ b) (hb1 : b ≤ 9223372036854775807) (hd0 : -9223372036854775808 ≤ d) (hd1 : d ≤ 9223372036854775807) (hr0 : -9223372036854775808 ≤ r) (hr1 : r ≤ 9223372036854775807) :
    PSpec Try.prog 9 [.rs 1 (nums ls), .int .i64 a, .int .i64 b, .int .i64 d, .int .i64 r] TrueS := by
  refine .of_code' tab_ok Try.func9 (by rfl) rfl trivial ?_
  conv => whnf
  refine CallG.of_code tab_ok Try.func15 (by rfl) rfl ?_
  conv => whnf
  refine LoopG.inv tab_ok 47 (fun i : { i : Nat // i ≤ 5 } => [(0, .rs 1 (nums ls)), (1, .int .i64 a), (2, .int .i64 b), (3, .int .i64 d), (4, .int .i64 r), (10, .ff), (11, .ptr 0 0), (12, .int .i64 (i.1 : Int))])
    (fun i => [chs ls (11 * (i.1 : Int))]) (fun i => 5 - i.1) ⟨0, by decide⟩ (.of [some 0] (by decide) ?_) ?_
  · conv => whnf
    refine ⟨by rfl, ?_⟩
    conv => whnf
    refine ⟨by rfl, ?_⟩
    conv => whnf
    refine ⟨by rfl, ?_⟩
    conv => whnf
    refine ⟨by rfl, ?_⟩
    conv => whnf
    refine ⟨by rfl, ?_⟩
    conv => whnf
    refine ⟨by rfl, ?_⟩
    conv => whnf
    refine ⟨by rfl, ?_⟩
    conv => whnf
    refine ⟨by rfl, ?_⟩
    conv => whnf
    exact trivial
  · intro i
    have hi := i.2
    conv => whnf
    refine ⟨fun hb => ?_, fun hb => ?_⟩
    · have hb : (i.1 : Int) < 5 := by simpa using hb
      conv => whnf
      refine (int64_s _ _ (by first | omega | exact inx_fits _ _ | exact ⟨by omega, by omega⟩ | assumption | decide | simp) (by first | omega | exact inx_fits _ _ | exact ⟨by omega, by omega⟩ | assumption | decide | simp)).call [0] (by decide) trivial (And.intro rfl trivial) ?_
      rintro _ _ ⟨rfl, rfl⟩
      conv => whnf
      refine (int64_s _ _ (by first | omega | exact inx_fits _ _ | exact ⟨by omega, by omega⟩ | assumption | decide | simp) (by first | omega | exact inx_fits _ _ | exact ⟨by omega, by omega⟩ | assumption | decide | simp)).call [0] (by decide) trivial (And.intro rfl trivial) ?_
      rintro _ _ ⟨rfl, rfl⟩
      conv => whnf
      refine (int64_s _ _ (by first | omega | exact inx_fits _ _ | exact ⟨by omega, by omega⟩ | assumption | decide | simp) (by first | omega | exact inx_fits _ _ | exact ⟨by omega, by omega⟩ | assumption | decide | simp)).call [0] (by decide) trivial (And.intro rfl trivial) ?_
      rintro _ _ ⟨rfl, rfl⟩
      conv => whnf
      refine (next_s _ _ _ (by first | omega | exact inx_fits _ _ | exact ⟨by omega, by omega⟩ | assumption | decide | simp) (by first | omega | exact inx_fits _ _ | exact ⟨by omega, by omega⟩ | assumption | decide | simp) (by first | omega | exact inx_fits _ _ | exact ⟨by omega, by omega⟩ | assumption | decide | simp)).call [0] (by decide) (And.intro rfl trivial) (And.intro rfl trivial) ?_
      rintro _ _ ⟨rfl, rfl⟩
      conv => whnf
      refine (muldiv2_s _ _ _ _ (by first | omega | exact inx_fits _ _ | exact ⟨by omega, by omega⟩ | assumption | decide | simp) (by first | omega | exact inx_fits _ _ | exact ⟨by omega, by omega⟩ | assumption | decide | simp) (by first | omega | exact inx_fits _ _ | exact ⟨by omega, by omega⟩ | assumption | decide | simp)).call ?_
      rintro _ rfl
      conv => whnf
      refine both_f rfl ?_
      conv => whnf
      refine (next_s _ _ _ (by first | omega | exact inx_fits _ _ | exact ⟨by omega, by omega⟩ | assumption | decide | simp) (by first | omega | exact inx_fits _ _ | exact ⟨by omega, by omega⟩ | assumption | decide | simp) (by first | omega | exact inx_fits _ _ | exact ⟨by omega, by omega⟩ | assumption | decide | simp)).call [0] (by decide) (And.intro rfl trivial) (And.intro rfl trivial) ?_
      rintro _ _ ⟨rfl, rfl⟩
      conv => whnf
      refine (muldiv2_s _ _ _ _ (by first | omega | exact inx_fits _ _ | exact ⟨by omega, by omega⟩ | assumption | decide | simp) (by first | omega | exact inx_fits _ _ | exact ⟨by omega, by omega⟩ | assumption | decide | simp) (by first | omega | exact inx_fits _ _ | exact ⟨by omega, by omega⟩ | assumption | decide | simp)).call ?_
      rintro _ rfl
      conv => whnf
      refine both_f rfl ?_
      conv => whnf
      refine ⟨⟨i.1 + 1, by omega⟩, by show 5 - (i.1 + 1) < 5 - i.1; omega, .of [some 0] (by decide) ?_⟩
      conv => whnf
      refine ⟨by rfl, ?_⟩
      conv => whnf
      refine ⟨by rfl, ?_⟩
      conv => whnf
      refine ⟨by rfl, ?_⟩
      conv => whnf
      refine ⟨by rfl, ?_⟩
      conv => whnf
      refine ⟨by rfl, ?_⟩
      conv => whnf
      refine ⟨by exact (w64 _ (by omega) (by omega)).trans (by simp), ?_⟩
      conv => whnf
      refine ⟨by rfl, ?_⟩
      conv => whnf
      refine ⟨by rfl, ?_⟩
      conv => whnf
      exact trivial
    · conv => whnf
      refine .same ?_
      conv => whnf
      refine (muldiv2_s _ _ _ _ (by first | omega | exact inx_fits _ _ | exact ⟨by omega, by omega⟩ | assumption | decide | simp) (by first | omega | exact inx_fits _ _ | exact ⟨by omega, by omega⟩ | assumption | decide | simp) (by first | omega | exact inx_fits _ _ | exact ⟨by omega, by omega⟩ | assumption | decide | simp)).call ?_
      rintro _ rfl
      conv => whnf
      refine both_t rfl ?_
      conv => whnf
      refine (awake2_s).call ?_
      rintro _ rfl
      conv => whnf
theorem fixedClamp_s (ls : List Int) (a : Int) (l : Int) (h : Int) (ha0 : -9223372036854775808 ≤ a) (ha1 : a ≤ 9223372036854775807) (hl0 : -9223372036854775808 ≤ l) (hl1 : l ≤ 9223372036854775807) (hh0 : -9223372036854775808 ≤ h) (hh1 : h ≤ 9223372036854775807) :
    PSpec Try.prog 12 [.rs 1 (nums ls), .int .i64 a, .int .i64 l, .int .i64 h] TrueS := by
  refine .of_code' tab_ok Try.func12 (by rfl) rfl trivial ?_
  conv => whnf
  refine CallG.of_code tab_ok Try.func15 (by rfl) rfl ?_
  conv => whnf
  refine LoopG.inv tab_ok 102 (fun i : { i : Nat // i ≤ 4 } => [(0, .rs 1 (nums ls)), (1, .int .i64 a), (2, .int .i64 l), (3, .int .i64 h), (8, .ff), (9, .ptr 0 0), (10, .int .i64 (i.1 : Int))])
    (fun i => [chs ls (6 * (i.1 : Int))]) (fun i => 4 - i.1) ⟨0, by decide⟩ (.of [some 0] (by decide) ?_) ?_
  · conv => whnf
    refine ⟨by rfl, ?_⟩
    conv => whnf
    refine ⟨by rfl, ?_⟩
    conv => whnf
    refine ⟨by rfl, ?_⟩
    conv => whnf
    refine ⟨by rfl, ?_⟩
    conv => whnf
    refine ⟨by rfl, ?_⟩
    conv => whnf
    refine ⟨by rfl, ?_⟩
    conv => whnf
    refine ⟨by rfl, ?_⟩
    conv => whnf
    exact trivial
  · intro i
    have hi := i.2
    conv => whnf
    refine ⟨fun hb => ?_, fun hb => ?_⟩
    · have hb : (i.1 : Int) < 4 := by simpa using hb
      conv => whnf
      refine (int64_s _ _ (by first | omega | exact inx_fits _ _ | exact ⟨by omega, by omega⟩ | assumption | decide | simp) (by first | omega | exact inx_fits _ _ | exact ⟨by omega, by omega⟩ | assumption | decide | simp)).call [0] (by decide) trivial (And.intro rfl trivial) ?_
      rintro _ _ ⟨rfl, rfl⟩
      conv => whnf
      refine (int64_s _ _ (by first | omega | exact inx_fits _ _ | exact ⟨by omega, by omega⟩ | assumption | decide | simp) (by first | omega | exact inx_fits _ _ | exact ⟨by omega, by omega⟩ | assumption | decide | simp)).call [0] (by decide) trivial (And.intro rfl trivial) ?_
      rintro _ _ ⟨rfl, rfl⟩
      conv => whnf
      refine (sat_s _ _ (by first | omega | exact inx_fits _ _ | exact ⟨by omega, by omega⟩ | assumption | decide | simp) (by first | omega | exact inx_fits _ _ | exact ⟨by omega, by omega⟩ | assumption | decide | simp)).call ?_
      rintro _ rfl
      conv => whnf
      refine (rsat_s _ _ (by first | omega | exact inx_fits _ _ | exact ⟨by omega, by omega⟩ | assumption | decide | simp) (by first | omega | exact inx_fits _ _ | exact ⟨by omega, by omega⟩ | assumption | decide | simp)).call ?_
      rintro _ rfl
      conv => whnf
      refine both_f (by simp) ?_
      conv => whnf
      refine both_f (by simp) ?_
      conv => whnf
      refine ⟨⟨i.1 + 1, by omega⟩, by show 4 - (i.1 + 1) < 4 - i.1; omega, .of [some 0] (by decide) ?_⟩
      conv => whnf
      refine ⟨by rfl, ?_⟩
      conv => whnf
      refine ⟨by rfl, ?_⟩
      conv => whnf
      refine ⟨by rfl, ?_⟩
      conv => whnf
      refine ⟨by rfl, ?_⟩
      conv => whnf
      refine ⟨by exact (w64 _ (by omega) (by omega)).trans (by simp), ?_⟩
      conv => whnf
      refine ⟨by rfl, ?_⟩
      conv => whnf
      refine ⟨by rfl, ?_⟩
      conv => whnf
      exact trivial
    · conv => whnf
      refine .same ?_
      conv => whnf
      refine (clamp_s _ _ _).call ?_
      rintro _ rfl
      conv => whnf
      refine (rclamp_s _ _ _).call ?_
      rintro _ rfl
      conv => whnf
      refine (sat_s _ _ (by first | omega | exact inx_fits _ _ | exact ⟨by omega, by omega⟩ | assumption | decide | simp) (by first | omega | exact inx_fits _ _ | exact ⟨by omega, by omega⟩ | assumption | decide | simp)).call ?_
      rintro _ rfl
      conv => whnf
      refine (rsat_s _ _ (by first | omega | exact inx_fits _ _ | exact ⟨by omega, by omega⟩ | assumption | decide | simp) (by first | omega | exact inx_fits _ _ | exact ⟨by omega, by omega⟩ | assumption | decide | simp)).call ?_
      rintro _ rfl
      conv => whnf
      refine both_t (by simp) ?_
      conv => whnf
      refine both_t (by simp) ?_
      conv => whnf
      refine both_t (by simp) ?_
      conv => whnf
      refine both_t (by simp) ?_
      conv => whnf
      refine (awake2_s).call ?_
      rintro _ rfl
      conv => whnf
theorem fixedRatio_s (ls : List Int) (a : Int) (b : Int) (c : Int) (d : Int) (ha0 : -9223372036854775808 ≤ a) (ha1 : a ≤ 9223372036854775807) (hb0 : -9223372036854775808 ≤ b) (hb1 : b ≤ 9223372036854775807) (hc0 : -9223372036854775808 ≤ c) (hc1 : c ≤ 9223372036854775807) (hd0 : -9223372036854775808 ≤ d) (hd1 : d ≤ 9223372036854775807) :
    PSpec Try.prog 13 [.rs 1 (nums ls), .int .i64 a, .int .i64 b, .int .i64 c, .int .i64 d] TrueS := by
  refine .of_code' tab_ok Try.func13 (by rfl) rfl trivial ?_
  conv => whnf
  refine CallG.of_code tab_ok Try.func15 (by rfl) rfl ?_
  conv => whnf
  refine LoopG.inv tab_ok 47 (fun i : { i : Nat // i ≤ 5 } => [(0, .rs 1 (nums ls)), (1, .int .i64 a), (2, .int .i64 b), (3, .int .i64 c), (4, .int .i64 d), (10, .ff), (11, .ptr 0 0), (12, .int .i64 (i.1 : Int))])
    (fun i => [chs ls (18 * (i.1 : Int))]) (fun i => 5 - i.1) ⟨0, by decide⟩ (.of [some 0] (by decide) ?_) ?_
  · conv => whnf
    refine ⟨by rfl, ?_⟩
    conv => whnf
    refine ⟨by rfl, ?_⟩
    conv => whnf
    refine ⟨by rfl, ?_⟩
    conv => whnf
    refine ⟨by rfl, ?_⟩
    conv => whnf
    refine ⟨by rfl, ?_⟩
    conv => whnf
    refine ⟨by rfl, ?_⟩
    conv => whnf
    refine ⟨by rfl, ?_⟩
    conv => whnf
    refine ⟨by rfl, ?_⟩
    conv => whnf
    exact trivial
  · intro i
    have hi := i.2
    conv => whnf
    refine ⟨fun hb => ?_, fun hb => ?_⟩
    · have hb : (i.1 : Int) < 5 := by simpa using hb
      conv => whnf
      refine (int64_s _ _ (by first | omega | exact inx_fits _ _ | exact ⟨by omega, by omega⟩ | assumption | decide | simp) (by first | omega | exact inx_fits _ _ | exact ⟨by omega, by omega⟩ | assumption | decide | simp)).call [0] (by decide) trivial (And.intro rfl trivial) ?_
      rintro _ _ ⟨rfl, rfl⟩
      conv => whnf
      refine (int64_s _ _ (by first | omega | exact inx_fits _ _ | exact ⟨by omega, by omega⟩ | assumption | decide | simp) (by first | omega | exact inx_fits _ _ | exact ⟨by omega, by omega⟩ | assumption | decide | simp)).call [0] (by decide) trivial (And.intro rfl trivial) ?_
      rintro _ _ ⟨rfl, rfl⟩
      conv => whnf
      refine (int64_s _ _ (by first | omega | exact inx_fits _ _ | exact ⟨by omega, by omega⟩ | assumption | decide | simp) (by first | omega | exact inx_fits _ _ | exact ⟨by omega, by omega⟩ | assumption | decide | simp)).call [0] (by decide) trivial (And.intro rfl trivial) ?_
      rintro _ _ ⟨rfl, rfl⟩
      conv => whnf
      refine (int64_s _ _ (by first | omega | exact inx_fits _ _ | exact ⟨by omega, by omega⟩ | assumption | decide | simp) (by first | omega | exact inx_fits _ _ | exact ⟨by omega, by omega⟩ | assumption | decide | simp)).call [0] (by decide) trivial (And.intro rfl trivial) ?_
      rintro _ _ ⟨rfl, rfl⟩
      conv => whnf
      refine (ratio2_s _ _ _ _ (by first | omega | exact inx_fits _ _ | exact ⟨by omega, by omega⟩ | assumption | decide | simp) (by first | omega | exact inx_fits _ _ | exact ⟨by omega, by omega⟩ | assumption | decide | simp) (by first | omega | exact inx_fits _ _ | exact ⟨by omega, by omega⟩ | assumption | decide | simp) (by first | omega | exact inx_fits _ _ | exact ⟨by omega, by omega⟩ | assumption | decide | simp)).call ?_
      rintro _ rfl
      conv => whnf
      refine both_f rfl ?_
      conv => whnf
      refine (int64_s _ _ (by first | omega | exact inx_fits _ _ | exact ⟨by omega, by omega⟩ | assumption | decide | simp) (by first | omega | exact inx_fits _ _ | exact ⟨by omega, by omega⟩ | assumption | decide | simp)).call [0] (by decide) trivial (And.intro rfl trivial) ?_
      rintro _ _ ⟨rfl, rfl⟩
      conv => whnf
      refine (int64_s _ _ (by first | omega | exact inx_fits _ _ | exact ⟨by omega, by omega⟩ | assumption | decide | simp) (by first | omega | exact inx_fits _ _ | exact ⟨by omega, by omega⟩ | assumption | decide | simp)).call [0] (by decide) trivial (And.intro rfl trivial) ?_
      rintro _ _ ⟨rfl, rfl⟩
      conv => whnf
      refine (ratio2_s _ _ _ _ (by first | omega | exact inx_fits _ _ | exact ⟨by omega, by omega⟩ | assumption | decide | simp) (by first | omega | exact inx_fits _ _ | exact ⟨by omega, by omega⟩ | assumption | decide | simp) (by first | omega | exact inx_fits _ _ | exact ⟨by omega, by omega⟩ | assumption | decide | simp) (by first | omega | exact inx_fits _ _ | exact ⟨by omega, by omega⟩ | assumption | decide | simp)).call ?_
      rintro _ rfl
      conv => whnf
      refine both_f rfl ?_
      conv => whnf
      refine ⟨⟨i.1 + 1, by omega⟩, by show 5 - (i.1 + 1) < 5 - i.1; omega, .of [some 0] (by decide) ?_⟩
      conv => whnf
      refine ⟨by rfl, ?_⟩
      conv => whnf
      refine ⟨by rfl, ?_⟩
      conv => whnf
      refine ⟨by rfl, ?_⟩
      conv => whnf
      refine ⟨by rfl, ?_⟩
      conv => whnf
      refine ⟨by rfl, ?_⟩
      conv => whnf
      refine ⟨by exact (w64 _ (by omega) (by omega)).trans (by simp), ?_⟩
      conv => whnf
      refine ⟨by rfl, ?_⟩
      conv => whnf
      refine ⟨by rfl, ?_⟩
      conv => whnf
      exact trivial
    · conv => whnf
      refine .same ?_
      conv => whnf
      refine (ratio2_s _ _ _ _ (by first | omega | exact inx_fits _ _ | exact ⟨by omega, by omega⟩ | assumption | decide | simp) (by first | omega | exact inx_fits _ _ | exact ⟨by omega, by omega⟩ | assumption | decide | simp) (by first | omega | exact inx_fits _ _ | exact ⟨by omega, by omega⟩ | assumption | decide | simp) (by first | omega | exact inx_fits _ _ | exact ⟨by omega, by omega⟩ | assumption | decide | simp)).call ?_
      rintro _ rfl
      conv => whnf
      refine both_t rfl ?_
      conv => whnf
      refine (awake2_s).call ?_
      rintro _ rfl
      conv => whnf
end Go.Proofs.Ythlomoacacebeaa

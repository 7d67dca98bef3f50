/- Contracts of Go's length of a number in bits and of its division of 128 bits by 64. No statement of the seat is proved here. -/
import Derived.Test.YthlomoacacebeadGen
import Derived.Shelf.Bits.Mul64
namespace Go.Proofs.Ythlomoacacebead
open Go.Sx
set_option linter.unusedSimpArgs false
set_option linter.unusedVariables false
/-! ### the quotient of two digits by one, as Knuth finds it -/
/-- The quotient's estimate is not too small. -/
theorem knuth_lo {Y N M u d : Int} (hY : Y = N * 4294967296 + M) (hN : 0 < N) (hM : 0 ≤ M) (hu0 : 0 ≤ u) (hd0 : 0 ≤ d) (hd : d < 4294967296) : (u * 4294967296 + d) / Y ≤ u / N := by
  have hY0 : 0 < Y := by omega
  have h1 := Int.ediv_mul_le (u * 4294967296 + d) (show Y ≠ 0 by omega)
  generalize hQ : (u * 4294967296 + d) / Y = Q at *
  have hQ0 : 0 ≤ Q := by rw [← hQ]; exact Int.ediv_nonneg (by omega) (by omega)
  refine Int.le_ediv_of_mul_le hN ?_
  have e : Q * Y = Q * N * 4294967296 + Q * M := by rw [hY, Int.mul_add, Int.mul_assoc]
  have : 0 ≤ Q * M := Int.mul_nonneg hQ0 hM
  omega
theorem knuth_hi {Y N M u : Int} (hY : Y = N * 4294967296 + M) (hN : 2147483648 ≤ N) (hM : M < 4294967296) (hu : u < Y) : u / N ≤ 4294967297 := by
  have : u / N < 4294967298 := Int.ediv_lt_of_lt_mul (by omega) (by omega)
  omega
/-- The test of the loop. -/
theorem knuth_gt {Y N M u d q : Int} (hY : Y = N * 4294967296 + M) (hY0 : 0 < Y) (h : 4294967296 * (u - q * N) + d < q * M) : (u * 4294967296 + d) / Y < q := by
  have e : q * Y = q * N * 4294967296 + q * M := by rw [hY, Int.mul_add, Int.mul_assoc]
  exact Int.ediv_lt_of_lt_mul hY0 (by omega)
theorem knuth_big {Y u d q : Int} (hY0 : 0 < Y) (hu : u < Y) (hd : d < 4294967296) (h : 4294967296 ≤ q) : (u * 4294967296 + d) / Y < q := by
  have : (u * 4294967296 + d) / Y < 4294967296 := Int.ediv_lt_of_lt_mul hY0 (by omega)
  omega
theorem knuth_le {Y N M u d q : Int} (hY : Y = N * 4294967296 + M) (hY0 : 0 < Y) (h : q * M ≤ 4294967296 * (u - q * N) + d) : q ≤ (u * 4294967296 + d) / Y := by
  have e : q * Y = q * N * 4294967296 + q * M := by rw [hY, Int.mul_add, Int.mul_assoc]
  exact Int.le_ediv_of_mul_le hY0 (by omega)
theorem knuth_mulM {M q : Int} (hM0 : 0 ≤ M) (hM : M < 4294967296) (hq0 : 0 ≤ q) (hq : q ≤ 4294967297) : 0 ≤ q * M ∧ q * M < 18446744073709551616 := by
  have h1 := Int.mul_nonneg hq0 hM0
  have h2 := Int.mul_le_mul_of_nonneg_right hq hM0
  omega
/-- The way out of the loop's middle. -/
theorem knuth_brk {Y N M u d q : Int} (hY : Y = N * 4294967296 + M) (hY0 : 0 < Y) (hM0 : 0 ≤ M) (hM : M < 4294967296) (hd0 : 0 ≤ d) (hq : q ≤ 4294967296) (hr : 4294967296 ≤ u - q * N) : q ≤ (u * 4294967296 + d) / Y := by
  refine knuth_le hY hY0 ?_
  have h2 := Int.mul_le_mul_of_nonneg_right hq hM0
  omega
theorem knuth_dig {Y u d : Int} (hY0 : 0 < Y) (hu0 : 0 ≤ u) (hu : u < Y) (hd0 : 0 ≤ d) (hd : d < 4294967296) : 0 ≤ (u * 4294967296 + d) / Y ∧ (u * 4294967296 + d) / Y < 4294967296 :=
  ⟨Int.ediv_nonneg (by omega) (by omega), Int.ediv_lt_of_lt_mul hY0 (by omega)⟩
theorem knuth_rest {Y u d : Int} : (u * 4294967296 + d) - (u * 4294967296 + d) / Y * Y = (u * 4294967296 + d) % Y := by
  have := Int.emod_add_mul_ediv (u * 4294967296 + d) Y
  have e := Int.mul_comm Y ((u * 4294967296 + d) / Y)
  omega
theorem knuth_two {Y u a b : Int} (hY0 : 0 < Y) :
    (u * 4294967296 + a) / Y * 4294967296 + ((u * 4294967296 + a) % Y * 4294967296 + b) / Y = (u * 18446744073709551616 + (a * 4294967296 + b)) / Y ∧
    ((u * 4294967296 + a) % Y * 4294967296 + b) % Y = (u * 18446744073709551616 + (a * 4294967296 + b)) % Y := by
  have h1 := Int.emod_add_mul_ediv (u * 4294967296 + a) Y
  generalize (u * 4294967296 + a) / Y = Q at *
  generalize (u * 4294967296 + a) % Y = r at *
  have e : u * 18446744073709551616 + (a * 4294967296 + b) = (r * 4294967296 + b) + Y * (Q * 4294967296) := by
    rw [← Int.mul_assoc]; omega
  rw [e, Int.add_mul_ediv_left _ _ (show Y ≠ 0 by omega), Int.add_mul_emod_self_left]
  exact ⟨by omega, rfl⟩
/-- The shift does not change the quotient. -/
theorem knuth_scale {x y p : Int} (hp : 0 < p) : (x * p) / (y * p) = x / y ∧ (x * p) % (y * p) = x % y * p :=
  ⟨Int.mul_ediv_mul_of_pos_left x y hp, by rw [Int.mul_comm x, Int.mul_comm y, Int.mul_emod_mul_of_pos x y hp, Int.mul_comm]⟩

/-! ### the length in bits -/
def len8 : List UInt8 := [0, 1, 2, 2, 3, 3, 3, 3, 4, 4, 4, 4, 4, 4, 4, 4, 5, 5, 5, 5, 5, 5, 5, 5, 5, 5, 5, 5, 5, 5, 5, 5, 6, 6, 6, 6, 6, 6, 6, 6, 6, 6, 6, 6, 6, 6, 6, 6, 6, 6, 6, 6, 6, 6, 6, 6, 6, 6, 6, 6, 6, 6, 6, 6, 7, 7, 7, 7, 7, 7, 7, 7, 7, 7, 7, 7, 7, 7, 7, 7, 7, 7, 7, 7, 7, 7, 7, 7, 7, 7, 7, 7, 7, 7, 7, 7, 7, 7, 7, 7, 7, 7, 7, 7, 7, 7, 7, 7, 7, 7, 7, 7, 7, 7, 7, 7, 7, 7, 7, 7, 7, 7, 7, 7, 7, 7, 7, 7, 8, 8, 8, 8, 8, 8, 8, 8, 8, 8, 8, 8, 8, 8, 8, 8, 8, 8, 8, 8, 8, 8, 8, 8, 8, 8, 8, 8, 8, 8, 8, 8, 8, 8, 8, 8, 8, 8, 8, 8, 8, 8, 8, 8, 8, 8, 8, 8, 8, 8, 8, 8, 8, 8, 8, 8, 8, 8, 8, 8, 8, 8, 8, 8, 8, 8, 8, 8, 8, 8, 8, 8, 8, 8, 8, 8, 8, 8, 8, 8, 8, 8, 8, 8, 8, 8, 8, 8, 8, 8, 8, 8, 8, 8, 8, 8, 8, 8, 8, 8, 8, 8, 8, 8, 8, 8, 8, 8, 8, 8, 8, 8, 8, 8, 8, 8, 8, 8, 8, 8, 8, 8, 8, 8, 8, 8, 8, 8]
theorem len8_spec : ∀ m : Nat, m < 256 → (len8.getD m 0).toNat ≤ 8 ∧ m < 2 ^ (len8.getD m 0).toNat ∧ (0 < m → 2 ^ (len8.getD m 0).toNat ≤ 2 * m) := by decide +kernel
theorem u8_range (z : Int) : 0 ≤ IntKind.u8.wrap z ∧ IntKind.u8.wrap z < 256 := by rw [IntKind.wrap_u8]; omega
theorem fd8 (a : Int) : a.fdiv (2 ^ min (Int.toNat 8) IntKind.u64.bits) = a / 256 := by
  show a.fdiv 256 = a / 256
  exact Int.fdiv_eq_ediv_of_nonneg _ (by decide)
theorem fd16 (a : Int) : a.fdiv (2 ^ min (Int.toNat 16) IntKind.u64.bits) = a / 65536 := by
  show a.fdiv 65536 = a / 65536
  exact Int.fdiv_eq_ediv_of_nonneg _ (by decide)
theorem fd32 (a : Int) : a.fdiv (2 ^ min (Int.toNat 32) IntKind.u64.bits) = a / 4294967296 := by
  show a.fdiv 4294967296 = a / 4294967296
  exact Int.fdiv_eq_ediv_of_nonneg _ (by decide)
theorem len_out (x z : Int) (c d : Nat) (hd : d = 2 ^ c) (hc : c ≤ 56) (hz : z = x / d) (h0 : 0 ≤ z) (h1 : z < 256) (hp : 0 < c → 0 < z) :
    ∃ n : Nat, SV.int .i64 (IntKind.i64.wrap ((c : Int) + IntKind.i64.wrap ((len8.getD (IntKind.u8.wrap z).toNat 0).toNat : Int))) = .int .i64 (n : Int) ∧ n ≤ 64 ∧ x < 2 ^ n ∧ (0 < x → 2 ^ n ≤ 2 * x) := by
  obtain ⟨m, rfl⟩ := Int.eq_ofNat_of_zero_le h0
  have hm : m < 256 := by omega
  obtain ⟨h2, h3, h4⟩ := len8_spec m hm
  rw [show IntKind.u8.wrap (m : Int) = (m : Int) by rw [IntKind.wrap_u8]; omega, Int.toNat_natCast]
  generalize (len8.getD m 0).toNat = k at *
  have hdp : 0 < d := by rw [hd]; exact Nat.pow_pos (by decide)
  refine ⟨c + k, by rw [w64 (k : Int) (by omega) (by omega), w64 _ (by omega) (by omega)]; rfl, by omega, ?_, fun hx0 => ?_⟩
  · have e : ((2 : Int) ^ (c + k)) = ((2 ^ k * d : Nat) : Int) := by rw [Nat.mul_comm, hd, ← Nat.pow_add]; simp
    rw [e]
    have h5 : (m + 1) * d ≤ 2 ^ k * d := Nat.mul_le_mul_right _ h3
    have h6 := Int.lt_ediv_add_one_mul_self x (show (0 : Int) < d by omega)
    rw [← hz] at h6
    have : ((m : Int) + 1) * d = ((m + 1) * d : Nat) := by simp
    omega
  · have e : ((2 : Int) ^ (c + k)) = ((2 ^ k * d : Nat) : Int) := by rw [Nat.mul_comm, hd, ← Nat.pow_add]; simp
    rw [e]
    have hm0 : 0 < m := by
      rcases Nat.eq_zero_or_pos c with rfl | hc0
      · have : d = 1 := by simpa using hd
        subst this
        simp at hz
        omega
      · have := hp hc0
        omega
    have h5 : 2 ^ k * d ≤ 2 * m * d := Nat.mul_le_mul_right _ (h4 hm0)
    have h6 := Int.ediv_mul_le x (show (d : Int) ≠ 0 by omega)
    rw [← hz] at h6
    have e2 : 2 * m * d = 2 * (m * d) := Nat.mul_assoc _ _ _
    have : (m : Int) * d = (m * d : Nat) := by simp
    omega
set_option maxRecDepth 10000 in
theorem len64_s (x : Int) (x0 : 0 ≤ x) (x1 : x < 18446744073709551616) :
    PSpec Try.prog 106 [.int .u64 x] fun s => ∃ n : Nat, s = .int .i64 (n : Int) ∧ n ≤ 64 ∧ x < 2 ^ n ∧ (0 < x → 2 ^ n ≤ 2 * x) := by
  refine .of_code' tab_ok Try.func106 (by rfl) rfl trivial ?_
  conv => whnf
  refine ⟨fun h0 => ?_, fun h0 => ?_⟩
  · conv => whnf
    refine ⟨by decide, ?_⟩
    conv => whnf
    refine ⟨fun h1 => ?_, fun h1 => ?_⟩
    · conv => whnf
      refine ⟨by decide, ?_⟩
      conv => whnf
      refine ⟨fun h2 => ?_, fun h2 => ?_⟩
      · conv => whnf
        refine ⟨by decide, ?_⟩
        conv => whnf
        refine ⟨u8_range _, ?_⟩
        conv => whnf
        simp only [decide_eq_true_eq, decide_eq_false_iff_not, fd8, fd16, fd32] at *
        exact len_out x _ 56 72057594037927936 (by decide) (by decide) (by omega) (by omega) (by omega) (by omega)
      · conv => whnf
        refine ⟨u8_range _, ?_⟩
        conv => whnf
        simp only [decide_eq_true_eq, decide_eq_false_iff_not, fd8, fd16, fd32] at *
        exact len_out x _ 48 281474976710656 (by decide) (by decide) (by omega) (by omega) (by omega) (by omega)
    · conv => whnf
      refine ⟨fun h2 => ?_, fun h2 => ?_⟩
      · conv => whnf
        refine ⟨by decide, ?_⟩
        conv => whnf
        refine ⟨u8_range _, ?_⟩
        conv => whnf
        simp only [decide_eq_true_eq, decide_eq_false_iff_not, fd8, fd16, fd32] at *
        exact len_out x _ 40 1099511627776 (by decide) (by decide) (by omega) (by omega) (by omega) (by omega)
      · conv => whnf
        refine ⟨u8_range _, ?_⟩
        conv => whnf
        simp only [decide_eq_true_eq, decide_eq_false_iff_not, fd8, fd16, fd32] at *
        exact len_out x _ 32 4294967296 (by decide) (by decide) (by omega) (by omega) (by omega) (by omega)
  · conv => whnf
    refine ⟨fun h1 => ?_, fun h1 => ?_⟩
    · conv => whnf
      refine ⟨by decide, ?_⟩
      conv => whnf
      refine ⟨fun h2 => ?_, fun h2 => ?_⟩
      · conv => whnf
        refine ⟨by decide, ?_⟩
        conv => whnf
        refine ⟨u8_range _, ?_⟩
        conv => whnf
        simp only [decide_eq_true_eq, decide_eq_false_iff_not, fd8, fd16, fd32] at *
        exact len_out x _ 24 16777216 (by decide) (by decide) (by omega) (by omega) (by omega) (by omega)
      · conv => whnf
        refine ⟨u8_range _, ?_⟩
        conv => whnf
        simp only [decide_eq_true_eq, decide_eq_false_iff_not, fd8, fd16, fd32] at *
        exact len_out x _ 16 65536 (by decide) (by decide) (by omega) (by omega) (by omega) (by omega)
    · conv => whnf
      refine ⟨fun h2 => ?_, fun h2 => ?_⟩
      · conv => whnf
        refine ⟨by decide, ?_⟩
        conv => whnf
        refine ⟨u8_range _, ?_⟩
        conv => whnf
        simp only [decide_eq_true_eq, decide_eq_false_iff_not, fd8, fd16, fd32] at *
        exact len_out x _ 8 256 (by decide) (by decide) (by omega) (by omega) (by omega) (by omega)
      · conv => whnf
        refine ⟨u8_range _, ?_⟩
        conv => whnf
        simp only [decide_eq_true_eq, decide_eq_false_iff_not, fd8, fd16, fd32] at *
        exact len_out x _ 0 1 (by decide) (by decide) (by omega) (by omega) (by omega) (by omega)
theorem lz64_s (x : Int) (x0 : 0 < x) (x1 : x < 18446744073709551616) :
    PSpec Try.prog 105 [.int .u64 x] fun s => ∃ n : Nat, s = .int .i64 (n : Int) ∧ n < 64 ∧ 9223372036854775808 ≤ x * 2 ^ n ∧ x * 2 ^ n < 18446744073709551616 := by
  refine .of_code' tab_ok Try.func105 (by rfl) rfl trivial ?_
  conv => whnf
  refine (len64_s x (by omega) x1).call ?_
  rintro _ ⟨n, rfl, h1, h2, h3⟩
  conv => whnf
  have h3 := h3 x0
  have hn0 : 0 < n := by
    rcases Nat.eq_zero_or_pos n with rfl | h
    · simp at h2; omega
    · exact h
  refine ⟨64 - n, by rw [w64 _ (by omega) (by omega)]; congr 1; omega, by omega, ?_, ?_⟩
  · have e : (2 : Int) ^ n * 2 ^ (64 - n) = 18446744073709551616 := by rw [← Int.pow_add, show n + (64 - n) = 64 by omega]; rfl
    have := Int.mul_le_mul_of_nonneg_right h3 (show (0 : Int) ≤ 2 ^ (64 - n) from Int.pow_nonneg (by decide))
    rw [e, Int.mul_assoc] at this
    omega
  · have e : (2 : Int) ^ n * 2 ^ (64 - n) = 18446744073709551616 := by rw [← Int.pow_add, show n + (64 - n) = 64 by omega]; rfl
    have := Int.mul_lt_mul_of_pos_right h2 (show (0 : Int) < 2 ^ (64 - n) from Int.pow_pos (by decide))
    rw [e] at this
    exact this
theorem mask32 (a : Nat) (ha : a < 18446744073709551616) : IntKind.u64.wrap ((BitVec.ofInt IntKind.u64.bits (a : Int) &&& BitVec.ofInt IntKind.u64.bits 4294967295).toNat : Int) = ((a % 4294967296 : Nat) : Int) :=
  Mul64.maskN a ha
theorem or_add (a b k : Nat) (ha : a * 2 ^ k < 18446744073709551616) (hb : b < 2 ^ k) (hb2 : b < 18446744073709551616) :
    IntKind.u64.wrap ((BitVec.ofInt IntKind.u64.bits ((a * 2 ^ k : Nat) : Int) ||| BitVec.ofInt IntKind.u64.bits (b : Int)).toNat : Int) = ((a * 2 ^ k + b : Nat) : Int) := by
  have e1 : (BitVec.ofInt IntKind.u64.bits ((a * 2 ^ k : Nat) : Int) ||| BitVec.ofInt IntKind.u64.bits (b : Int)).toNat = a * 2 ^ k ||| b := by
    show (BitVec.ofInt 64 ((a * 2 ^ k : Nat) : Int) ||| BitVec.ofInt 64 (b : Int)).toNat = _
    rw [BitVec.toNat_or, BitVec.ofInt_natCast, BitVec.ofInt_natCast, BitVec.toNat_ofNat, BitVec.toNat_ofNat, Nat.mod_eq_of_lt (by omega), Nat.mod_eq_of_lt (by omega)]
  have e2 : a * 2 ^ k ||| b = a * 2 ^ k + b := by
    rw [Nat.mul_comm, ← Nat.two_pow_add_eq_or_of_lt hb a]
  have h3 : a * 2 ^ k + b < 18446744073709551616 := by
    rw [← e2]
    exact Nat.or_lt_two_pow (n := 64) (by omega) (by omega)
  rw [e1, e2, IntKind.wrap_u64]
  omega
theorem or_shift (a b n : Nat) (hn : n < 64) (ha : a * 2 ^ n < 18446744073709551616) (hb : b < 18446744073709551616) :
    IntKind.u64.wrap ((BitVec.ofInt IntKind.u64.bits ((a * 2 ^ n : Nat) : Int) ||| BitVec.ofInt IntKind.u64.bits ((b / 2 ^ (64 - n) : Nat) : Int)).toNat : Int) = (((a * 18446744073709551616 + b) * 2 ^ n / 18446744073709551616 : Nat) : Int) := by
  have e : 2 ^ (64 - n) * 2 ^ n = 18446744073709551616 := by rw [← Nat.pow_add, show 64 - n + n = 64 by omega]
  have hp : 0 < 2 ^ n := Nat.pow_pos (by decide)
  have hq : 0 < 2 ^ (64 - n) := Nat.pow_pos (by decide)
  have h1 : b / 2 ^ (64 - n) < 2 ^ n := Nat.div_lt_of_lt_mul (by rw [e]; exact hb)
  rw [or_add a _ n ha h1 (by have := Nat.div_le_self b (2 ^ (64 - n)); omega)]
  have h2 : b * 2 ^ n / 18446744073709551616 = b / 2 ^ (64 - n) := by rw [← e, Nat.mul_div_mul_right _ _ hp]
  have h3 : (a * 18446744073709551616 + b) * 2 ^ n = b * 2 ^ n + 18446744073709551616 * (a * 2 ^ n) := by
    rw [Nat.add_mul, Nat.mul_right_comm, Nat.mul_comm _ 18446744073709551616]; omega
  rw [h3, Nat.add_mul_div_left _ _ (by decide), h2]
  omega
theorem div64_n (a b c : Nat) (h1 : a < c) (hb : b < 18446744073709551616) (hc : c < 18446744073709551616) :
    PSpec Try.prog 103 [.int .u64 (a : Int), .int .u64 (b : Int), .int .u64 (c : Int)] (· = .tup [.int .u64 (((a : Int) * 18446744073709551616 + b) / c), .int .u64 (((a : Int) * 18446744073709551616 + b) % c)]) := by
  refine .of_code' tab_ok Try.func103 (by rfl) rfl trivial ?_
  conv => whnf
  refine both_f (by simp; omega) ?_
  conv => whnf
  refine both_f (by simp; omega) ?_
  conv => whnf
  refine ⟨fun h0 => ?_, fun h0 => ?_⟩
  · have h0 : (a : Int) = 0 := by simpa using h0
    conv => whnf
    refine DrawG.of mixed tab_ok ?_
    conv => whnf
    refine ⟨by omega, ?_⟩
    conv => whnf
    refine ⟨by omega, ?_⟩
    conv => whnf
    refine ⟨by kernel_rfl, ?_⟩
    conv => whnf
    have e3 : b / c < 18446744073709551616 := by have := Nat.div_le_self b c; omega
    have e4 : (b : Int) / c = ((b / c : Nat) : Int) := rfl
    rw [h0, Int.tdiv_eq_ediv_of_nonneg (by omega), Int.tmod_eq_emod_of_nonneg (by omega), Int.zero_mul, Int.zero_add, IntKind.wrap_u64, Int.emod_eq_of_lt (by rw [e4]; exact Int.natCast_nonneg _) (by rw [e4]; exact Int.ofNat_lt.2 e3)]
  · have h0 : (a : Int) ≠ 0 := by simpa using h0
    conv => whnf
    refine (lz64_s (c : Int) (by omega) (by omega)).call ?_
    rintro _ ⟨n, rfl, hn, g1, g2⟩
    conv => whnf
    have w0 : IntKind.u64.wrap (n : Int) = n := by rw [IntKind.wrap_u64]; omega
    have w1 : IntKind.u64.wrap (64 - (n : Int)) = ((64 - n : Nat) : Int) := by rw [IntKind.wrap_u64]; omega
    refine ⟨by rw [w0]; omega, ?_⟩
    conv => whnf
    refine ⟨by decide, ?_⟩
    conv => whnf
    refine ⟨by rw [w0]; omega, ?_⟩
    conv => whnf
    refine ⟨by rw [w0, w1]; omega, ?_⟩
    conv => whnf
    refine ⟨by rw [w0]; omega, ?_⟩
    conv => whnf
    refine ⟨by decide, ?_⟩
    conv => whnf
    have hp0 : 0 < 2 ^ n := Nat.pow_pos (by decide)
    have ep : (2 : Int) ^ n = ((2 ^ n : Nat) : Int) := by simp
    have m0 : min (Int.toNat (n : Int)) IntKind.u64.bits = n := by show min (Int.toNat (n : Int)) 64 = n; omega
    have m1 : min (Int.toNat ((64 - n : Nat) : Int)) IntKind.u64.bits = 64 - n := by show min (Int.toNat ((64 - n : Nat) : Int)) 64 = 64 - n; omega
    rw [ep] at g1 g2
    have hac : a * 2 ^ n < c * 2 ^ n := Nat.mul_lt_mul_of_pos_right h1 hp0
    have ec : ((c : Int) * ((2 ^ n : Nat) : Int)) = ((c * 2 ^ n : Nat) : Int) := by simp
    have ea : ((a : Int) * ((2 ^ n : Nat) : Int)) = ((a * 2 ^ n : Nat) : Int) := by simp
    have eb : ((b : Int) * ((2 ^ n : Nat) : Int)) = ((b * 2 ^ n : Nat) : Int) := by simp
    rw [ec] at g1 g2
    have wc : IntKind.u64.wrap ((c : Int) * 2 ^ n) = ((c * 2 ^ n : Nat) : Int) := by rw [ep, ec, IntKind.wrap_u64]; omega
    have wa : IntKind.u64.wrap ((a : Int) * 2 ^ n) = ((a * 2 ^ n : Nat) : Int) := by rw [ep, ea, IntKind.wrap_u64]; omega
    have wb : IntKind.u64.wrap ((b : Int) * 2 ^ n) = ((b * 2 ^ n % 18446744073709551616 : Nat) : Int) := by rw [ep, eb, IntKind.wrap_u64]; omega
    have fb : (b : Int).fdiv (2 ^ (64 - n)) = ((b / 2 ^ (64 - n) : Nat) : Int) := by
      rw [show (2 : Int) ^ (64 - n) = ((2 ^ (64 - n) : Nat) : Int) by simp, Int.fdiv_eq_ediv_of_nonneg _ (Int.natCast_nonneg _)]
      rfl
    have hU : (a * 18446744073709551616 + b) * 2 ^ n = b * 2 ^ n + 18446744073709551616 * (a * 2 ^ n) := by
      rw [Nat.add_mul, Nat.mul_right_comm, Nat.mul_comm _ 18446744073709551616]; omega
    have hUY : (a * 18446744073709551616 + b) * 2 ^ n / 18446744073709551616 < c * 2 ^ n := by
      refine Nat.div_lt_of_lt_mul ?_
      have : (a * 18446744073709551616 + b) * 2 ^ n < (c * 18446744073709551616) * 2 ^ n := Nat.mul_lt_mul_of_pos_right (by omega) hp0
      rw [Nat.mul_right_comm c] at this
      omega
    have hsc := @knuth_scale ((a : Int) * 18446744073709551616 + b) c ((2 ^ n : Nat) : Int) (by omega)
    have eX : ((a : Int) * 18446744073709551616 + b) * ((2 ^ n : Nat) : Int) = (((a * 18446744073709551616 + b) * 2 ^ n : Nat) : Int) := by simp
    rw [eX, ec] at hsc
    have eW : b * 2 ^ n % 18446744073709551616 = (a * 18446744073709551616 + b) * 2 ^ n % 18446744073709551616 := by omega
    have hpn : ((2 ^ n : Nat) : Int) ≠ 0 := by omega
    have g2' : c * 2 ^ n < 18446744073709551616 := by omega
    simp only [w0, w1, m0, m1, wc, wa, wb, fb, or_shift a b n (by omega) (by omega) hb, fd32, eW]
    clear fb wb wa wc eb ea ec w1 m1 hac eW hU eX
    generalize (a * 18446744073709551616 + b) * 2 ^ n = U at *
    generalize hY : c * 2 ^ n = Y at *
    have hW : U % 18446744073709551616 < 18446744073709551616 := Nat.mod_lt _ (by decide)
    refine ⟨by omega, ?_⟩
    conv => whnf
    simp only [mask32 _ g2', mask32 _ hW]
    have hN1 : 2147483648 ≤ (Y : Int) / 4294967296 := by omega
    have hN2 : (Y : Int) / 4294967296 < 4294967296 := by omega
    have hM2 : Y % 4294967296 < 4294967296 := by omega
    have hYN : (Y : Int) = (Y : Int) / 4294967296 * 4294967296 + ((Y % 4294967296 : Nat) : Int) := by omega
    have hU2 : (U : Int) = ((U / 18446744073709551616 : Nat) : Int) * 18446744073709551616 + (((U % 18446744073709551616 : Nat) : Int) / 4294967296 * 4294967296 + ((U % 18446744073709551616 % 4294967296 : Nat) : Int)) := by omega
    have hd0 : 0 ≤ ((U % 18446744073709551616 : Nat) : Int) / 4294967296 := by omega
    have hd1 : ((U % 18446744073709551616 : Nat) : Int) / 4294967296 < 4294967296 := by omega
    have he1 : U % 18446744073709551616 % 4294967296 < 4294967296 := by omega
    have hu1 : ((U / 18446744073709551616 : Nat) : Int) < (Y : Int) := by omega
    have hu0 : (0 : Int) ≤ ((U / 18446744073709551616 : Nat) : Int) := Int.natCast_nonneg _
    generalize ((U / 18446744073709551616 : Nat) : Int) = u at *
    generalize ((U % 18446744073709551616 : Nat) : Int) / 4294967296 = d at *
    generalize (Y : Int) / 4294967296 = N at *
    generalize U % 18446744073709551616 % 4294967296 = e at *
    generalize U % 18446744073709551616 = W at *
    generalize Y % 4294967296 = M at *
    have hN0 : 0 < N := by omega
    have hY0 : (0 : Int) < (Y : Int) := by omega
    have st : ∀ v d : Int, 0 ≤ v → v < (Y : Int) → 0 ≤ d → d < 4294967296 → IntKind.u64.wrap (v.tdiv N) = v / N ∧ IntKind.u64.wrap (v - IntKind.u64.wrap (v / N * N)) = v - v / N * N ∧
        (v * 4294967296 + d) / Y ≤ v / N ∧ v / N ≤ 4294967297 ∧ 0 ≤ v - v / N * N ∧ v - v / N * N < 4294967296 := by
      intro v d hv0 hv1 hd0 hd1
      have a1 := knuth_lo hYN hN0 (Int.natCast_nonneg M) hv0 hd0 hd1
      have a2 := knuth_hi hYN hN1 (by omega) hv1
      have a3 : 0 ≤ v / N := Int.ediv_nonneg hv0 (by omega)
      have a4 := Int.emod_nonneg v (show N ≠ 0 by omega)
      have a5 := Int.emod_lt_of_pos v hN0
      have a6 : v % N = v - v / N * N := by have := Int.emod_add_mul_ediv v N; rw [Int.mul_comm] at this; omega
      have a7 : 0 ≤ v / N * N := Int.mul_nonneg a3 (by omega)
      refine ⟨by rw [Int.tdiv_eq_ediv_of_nonneg hv0, IntKind.wrap_u64]; omega, ?_, a1, a2, by omega, by omega⟩
      rw [show IntKind.u64.wrap (v / N * N) = v / N * N by rw [IntKind.wrap_u64]; omega, IntKind.wrap_u64]
      omega
    -- one round: the tests, the step
    have rd : ∀ v d q : Int, 0 ≤ v → v < (Y : Int) → 0 ≤ d → d < 4294967296 → (v * 4294967296 + d) / Y ≤ q → q ≤ 4294967297 → 0 ≤ v - q * N → v - q * N < 4294967296 →
        IntKind.u64.wrap (q * M) = q * M ∧ IntKind.u64.wrap (IntKind.u64.wrap (4294967296 * (v - q * N)) + d) = 4294967296 * (v - q * N) + d ∧
        (4294967296 ≤ q ∨ 4294967296 * (v - q * N) + d < q * M → (v * 4294967296 + d) / Y < q) ∧ (q * M ≤ 4294967296 * (v - q * N) + d → q = (v * 4294967296 + d) / Y) ∧
        ((v * 4294967296 + d) / Y < q → IntKind.u64.wrap (q - 1) = q - 1 ∧ IntKind.u64.wrap (v - q * N + N) = v - (q - 1) * N ∧ (4294967296 ≤ v - (q - 1) * N → q - 1 = (v * 4294967296 + d) / Y)) := by
      intro v d q hv0 hv1 hd0 hd1 hq0 hq1 hr0 hr1
      obtain ⟨b1, b2⟩ := knuth_dig hY0 hv0 hv1 hd0 hd1
      obtain ⟨c1, c2⟩ := knuth_mulM (M := (M : Int)) (q := q) (by omega) (by omega) (by omega) hq1
      have e1 : (q - 1) * N = q * N - N := by rw [Int.sub_mul]; omega
      refine ⟨by rw [IntKind.wrap_u64]; omega, by rw [IntKind.wrap_u64, IntKind.wrap_u64]; omega, fun h => ?_, fun h => ?_, fun h => ⟨by rw [IntKind.wrap_u64]; omega, by rw [IntKind.wrap_u64]; omega, fun h2 => ?_⟩⟩
      · rcases h with h | h
        · exact knuth_big hY0 hv1 hd1 h
        · exact knuth_gt hYN hY0 h
      · have := knuth_le hYN hY0 h
        omega
      · have := knuth_brk (q := q - 1) hYN hY0 (by omega) (by omega) hd0 (by omega) h2
        omega
    obtain ⟨s1, s2, s3, s4, s5, s6⟩ := st u d hu0 hu1 hd0 hd1
    refine LoopG.invE tab_ok 135 (fun q : { q : Int // (u * 4294967296 + d) / Y ≤ q ∧ q ≤ 4294967297 ∧ 0 ≤ u - q * N ∧ u - q * N < 4294967296 } => [(2, .int .u64 (Y : Int)), (8, .int .u64 (n : Int)), (9, .int .u64 N), (10, .int .u64 (M : Int)), (11, .int .u64 u), (13, .int .u64 d), (14, .int .u64 (e : Int)), (15, .int .u64 q.1), (16, .int .u64 (u - q.1 * N))])
      (fun _ => []) (fun q => (q.1 - (u * 4294967296 + d) / Y).toNat) ⟨u / N, s3, s4, s5, s6⟩ 0
      (fun _ : Unit => [(2, .int .u64 (Y : Int)), (8, .int .u64 (n : Int)), (9, .int .u64 N), (10, .int .u64 (M : Int)), (11, .int .u64 u), (13, .int .u64 d), (14, .int .u64 (e : Int)), (15, .int .u64 ((u * 4294967296 + d) / Y))]) (fun _ => []) (.of [] (by decide) ?_) ?_ ?_
    · conv => whnf
      iterate 7 (refine ⟨rfl, ?_⟩; conv => whnf)
      refine ⟨s1, ?_⟩
      conv => whnf
      refine ⟨by rw [s1]; exact s2, ?_⟩
      conv => whnf
      trivial
    · rintro ⟨q, q0, q1, q2, q3⟩
      obtain ⟨r1, r2, r3, r4, r5⟩ := rd u d q hu0 hu1 hd0 hd1 q0 q1 q2 q3
      have step : (u * 4294967296 + d) / Y < q → ∀ (F : Fr) (h : Hp) (A B : Prop), (q - 1 = (u * 4294967296 + d) / Y → A) → (∀ h0 : (u * 4294967296 + d) / Y ≤ q - 1 ∧ q - 1 ≤ 4294967297 ∧ 0 ≤ u - (q - 1) * N ∧ u - (q - 1) * N < 4294967296, (q - 1 - (u * 4294967296 + d) / Y).toNat < (q - (u * 4294967296 + d) / Y).toNat → B) →
          (decide (4294967296 ≤ IntKind.u64.wrap (u - q * N + N)) = true → A) ∧ (decide (4294967296 ≤ IntKind.u64.wrap (u - q * N + N)) = false → B) := by
        intro hgt F h A B hA hB
        obtain ⟨t1, t2, t3⟩ := r5 hgt
        have e1 : (q - 1) * N = q * N - N := by rw [Int.sub_mul]; omega
        refine ⟨fun h1 => hA (t3 (by rw [← t2]; simpa using h1)), fun h1 => hB ⟨by omega, by omega, by omega, ?_⟩ (by omega)⟩
        rw [t2] at h1
        simpa using h1
      have fin : ∀ hgt : (u * 4294967296 + d) / Y < q, IntKind.u64.wrap (q - 1) = q - 1 ∧ IntKind.u64.wrap (u - q * N + N) = u - (q - 1) * N := fun hgt => ⟨(r5 hgt).1, (r5 hgt).2.1⟩
      conv => whnf
      refine ⟨fun h0 => ?_, fun h0 => ?_⟩
      · have hgt := r3 (.inl (by simpa using h0))
        conv => whnf
        refine step hgt [] [] _ _ (fun hq => ?_) (fun hb hlt => ?_)
        · conv => whnf
          refine ⟨rfl, (), .of [] (by decide) ?_⟩
          conv => whnf
          iterate 7 (refine ⟨rfl, ?_⟩; conv => whnf)
          refine ⟨(fin hgt).1.trans hq, ?_⟩
          conv => whnf
          trivial
        · conv => whnf
          refine ⟨⟨q - 1, hb⟩, hlt, .of [] (by decide) ?_⟩
          conv => whnf
          iterate 7 (refine ⟨rfl, ?_⟩; conv => whnf)
          refine ⟨(fin hgt).1, ?_⟩
          conv => whnf
          refine ⟨(fin hgt).2, ?_⟩
          conv => whnf
          trivial
      · conv => whnf
        refine ⟨fun h4 => ?_, fun h4 => ?_⟩
        · have hgt := r3 (.inr (by simp only [r1, r2, decide_eq_true_eq] at h4; exact h4))
          conv => whnf
          refine step hgt [] [] _ _ (fun hq => ?_) (fun hb hlt => ?_)
          · conv => whnf
            refine ⟨rfl, (), .of [] (by decide) ?_⟩
            conv => whnf
            iterate 7 (refine ⟨rfl, ?_⟩; conv => whnf)
            refine ⟨(fin hgt).1.trans hq, ?_⟩
            conv => whnf
            trivial
          · conv => whnf
            refine ⟨⟨q - 1, hb⟩, hlt, .of [] (by decide) ?_⟩
            conv => whnf
            iterate 7 (refine ⟨rfl, ?_⟩; conv => whnf)
            refine ⟨(fin hgt).1, ?_⟩
            conv => whnf
            refine ⟨(fin hgt).2, ?_⟩
            conv => whnf
            trivial
        · have hq := r4 (by simp only [r1, r2, decide_eq_false_iff_not, Int.not_lt] at h4; exact h4)
          conv => whnf
          refine ⟨rfl, (), .of [] (by decide) ?_⟩
          conv => whnf
          iterate 7 (refine ⟨rfl, ?_⟩; conv => whnf)
          refine ⟨hq, ?_⟩
          conv => whnf
          trivial
    · rintro ⟨⟩
      conv => whnf
      refine ⟨by omega, ?_⟩
      conv => whnf
      have hr : IntKind.u64.wrap (IntKind.u64.wrap (IntKind.u64.wrap (u * 4294967296) + d) - IntKind.u64.wrap ((u * 4294967296 + d) / Y * Y)) = (u * 4294967296 + d) % Y := by
        have h1 := @knuth_rest (Y : Int) u d
        have h2 := Int.emod_nonneg (u * 4294967296 + d) (show (Y : Int) ≠ 0 by omega)
        have h3 := Int.emod_lt_of_pos (u * 4294967296 + d) hY0
        rw [IntKind.wrap_u64, IntKind.wrap_u64, IntKind.wrap_u64, IntKind.wrap_u64]
        omega
      have hr0 := Int.emod_nonneg (u * 4294967296 + d) (show (Y : Int) ≠ 0 by omega)
      have hr1 := Int.emod_lt_of_pos (u * 4294967296 + d) hY0
      have h2 := @knuth_two (Y : Int) u d (e : Int) hY0
      have hq0 := knuth_dig hY0 hu0 hu1 hd0 hd1
      simp only [hr]
      generalize (u * 4294967296 + d) % Y = t at *
      generalize (u * 4294967296 + d) / Y = Q at *
      have he0 : (0 : Int) ≤ (e : Int) := Int.natCast_nonneg e
      have he2 : (e : Int) < 4294967296 := by omega
      clear s1 s2 s3 s4 s5 s6
      obtain ⟨s1, s2, s3, s4, s5, s6⟩ := st t (e : Int) hr0 hr1 he0 he2
      refine LoopG.invE tab_ok 135 (fun q : { q : Int // (t * 4294967296 + (e : Int)) / Y ≤ q ∧ q ≤ 4294967297 ∧ 0 ≤ t - q * N ∧ t - q * N < 4294967296 } => [(2, .int .u64 (Y : Int)), (8, .int .u64 (n : Int)), (9, .int .u64 N), (10, .int .u64 (M : Int)), (14, .int .u64 (e : Int)), (15, .int .u64 Q), (17, .int .u64 t), (18, .int .u64 q.1), (16, .int .u64 (t - q.1 * N))])
        (fun _ => []) (fun q => (q.1 - (t * 4294967296 + (e : Int)) / Y).toNat) ⟨t / N, s3, s4, s5, s6⟩ 2
        (fun _ : Unit => [(2, .int .u64 (Y : Int)), (8, .int .u64 (n : Int)), (9, .int .u64 N), (10, .int .u64 (M : Int)), (14, .int .u64 (e : Int)), (15, .int .u64 Q), (17, .int .u64 t), (18, .int .u64 ((t * 4294967296 + (e : Int)) / Y))]) (fun _ => []) (.of [] (by decide) ?_) ?_ ?_
      · conv => whnf
        iterate 6 (refine ⟨rfl, ?_⟩; conv => whnf)
        refine ⟨by rw [s1]; exact s2, ?_⟩
        conv => whnf
        refine ⟨rfl, ?_⟩
        conv => whnf
        refine ⟨s1, ?_⟩
        conv => whnf
        trivial
      · rintro ⟨q, q0, q1, q2, q3⟩
        obtain ⟨r1, r2, r3, r4, r5⟩ := rd t (e : Int) q hr0 hr1 he0 he2 q0 q1 q2 q3
        have step : (t * 4294967296 + (e : Int)) / Y < q → ∀ (F : Fr) (h : Hp) (A B : Prop), (q - 1 = (t * 4294967296 + (e : Int)) / Y → A) → (∀ h0 : (t * 4294967296 + (e : Int)) / Y ≤ q - 1 ∧ q - 1 ≤ 4294967297 ∧ 0 ≤ t - (q - 1) * N ∧ t - (q - 1) * N < 4294967296, (q - 1 - (t * 4294967296 + (e : Int)) / Y).toNat < (q - (t * 4294967296 + (e : Int)) / Y).toNat → B) →
            (decide (4294967296 ≤ IntKind.u64.wrap (t - q * N + N)) = true → A) ∧ (decide (4294967296 ≤ IntKind.u64.wrap (t - q * N + N)) = false → B) := by
          intro hgt F h A B hA hB
          obtain ⟨t1, t2, t3⟩ := r5 hgt
          have e1 : (q - 1) * N = q * N - N := by rw [Int.sub_mul]; omega
          refine ⟨fun h1 => hA (t3 (by rw [← t2]; simpa using h1)), fun h1 => hB ⟨by omega, by omega, by omega, ?_⟩ (by omega)⟩
          rw [t2] at h1
          simpa using h1
        have fin : ∀ hgt : (t * 4294967296 + (e : Int)) / Y < q, IntKind.u64.wrap (q - 1) = q - 1 ∧ IntKind.u64.wrap (t - q * N + N) = t - (q - 1) * N := fun hgt => ⟨(r5 hgt).1, (r5 hgt).2.1⟩
        conv => whnf
        refine ⟨fun h0 => ?_, fun h0 => ?_⟩
        · have hgt := r3 (.inl (by simpa using h0))
          conv => whnf
          refine step hgt [] [] _ _ (fun hq => ?_) (fun hb hlt => ?_)
          · conv => whnf
            refine ⟨rfl, (), .of [] (by decide) ?_⟩
            conv => whnf
            iterate 7 (refine ⟨rfl, ?_⟩; conv => whnf)
            refine ⟨(fin hgt).1.trans hq, ?_⟩
            conv => whnf
            trivial
          · conv => whnf
            refine ⟨⟨q - 1, hb⟩, hlt, .of [] (by decide) ?_⟩
            conv => whnf
            iterate 6 (refine ⟨rfl, ?_⟩; conv => whnf)
            refine ⟨(fin hgt).2, ?_⟩
            conv => whnf
            refine ⟨rfl, ?_⟩
            conv => whnf
            refine ⟨(fin hgt).1, ?_⟩
            conv => whnf
            trivial
        · conv => whnf
          refine ⟨fun h4 => ?_, fun h4 => ?_⟩
          · have hgt := r3 (.inr (by simp only [r1, r2, decide_eq_true_eq] at h4; exact h4))
            conv => whnf
            refine step hgt [] [] _ _ (fun hq => ?_) (fun hb hlt => ?_)
            · conv => whnf
              refine ⟨rfl, (), .of [] (by decide) ?_⟩
              conv => whnf
              iterate 7 (refine ⟨rfl, ?_⟩; conv => whnf)
              refine ⟨(fin hgt).1.trans hq, ?_⟩
              conv => whnf
              trivial
            · conv => whnf
              refine ⟨⟨q - 1, hb⟩, hlt, .of [] (by decide) ?_⟩
              conv => whnf
              iterate 6 (refine ⟨rfl, ?_⟩; conv => whnf)
              refine ⟨(fin hgt).2, ?_⟩
              conv => whnf
              refine ⟨rfl, ?_⟩
              conv => whnf
              refine ⟨(fin hgt).1, ?_⟩
              conv => whnf
              trivial
          · have hq := r4 (by simp only [r1, r2, decide_eq_false_iff_not, Int.not_lt] at h4; exact h4)
            conv => whnf
            refine ⟨rfl, (), .of [] (by decide) ?_⟩
            conv => whnf
            iterate 7 (refine ⟨rfl, ?_⟩; conv => whnf)
            refine ⟨hq, ?_⟩
            conv => whnf
            trivial
      · rintro ⟨⟩
        conv => whnf
        refine ⟨by omega, ?_⟩
        conv => whnf
        have hq2 := knuth_dig hY0 hr0 hr1 he0 he2
        have hr3 : IntKind.u64.wrap (IntKind.u64.wrap (IntKind.u64.wrap (t * 4294967296) + (e : Int)) - IntKind.u64.wrap ((t * 4294967296 + (e : Int)) / Y * Y)) = (t * 4294967296 + (e : Int)) % Y := by
          have h1 := @knuth_rest (Y : Int) t (e : Int)
          have h2 := Int.emod_nonneg (t * 4294967296 + (e : Int)) (show (Y : Int) ≠ 0 by omega)
          have h3 := Int.emod_lt_of_pos (t * 4294967296 + (e : Int)) hY0
          rw [IntKind.wrap_u64, IntKind.wrap_u64, IntKind.wrap_u64, IntKind.wrap_u64]
          omega
        rw [hr3, m0, show IntKind.u64.wrap (IntKind.u64.wrap (Q * 4294967296) + (t * 4294967296 + (e : Int)) / Y) = Q * 4294967296 + (t * 4294967296 + (e : Int)) / Y by rw [IntKind.wrap_u64, IntKind.wrap_u64]; omega]
        rw [h2.1, h2.2, ← hU2, hsc.1, hsc.2, ep, Int.fdiv_eq_ediv_of_nonneg _ (Int.natCast_nonneg _), Int.mul_ediv_cancel _ hpn]
theorem div64_s (hi lo y : Int) (h0 : 0 ≤ hi) (h1 : hi < y) (l0 : 0 ≤ lo) (l1 : lo < 18446744073709551616) (y1 : y < 18446744073709551616) :
    PSpec Try.prog 103 [.int .u64 hi, .int .u64 lo, .int .u64 y] (· = .tup [.int .u64 ((hi * 18446744073709551616 + lo) / y), .int .u64 ((hi * 18446744073709551616 + lo) % y)]) := by
  obtain ⟨a, rfl⟩ := Int.eq_ofNat_of_zero_le h0
  obtain ⟨b, rfl⟩ := Int.eq_ofNat_of_zero_le l0
  obtain ⟨c, rfl⟩ := Int.eq_ofNat_of_zero_le (show 0 ≤ y by omega)
  exact div64_n a b c (by omega) (by omega) (by omega)
end Go.Proofs.Ythlomoacacebead

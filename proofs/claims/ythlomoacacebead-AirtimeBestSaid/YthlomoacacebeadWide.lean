/- Contracts of package wide, of its reference and of Go's carry and product. No statement of the seat is proved here. -/
import Derived.Test.YthlomoacacebeadGen
import Derived.Laws.Externs
import Derived.Shelf.Bits.Mul64
namespace Go.Proofs.Ythlomoacacebead
open Go.Sx

theorem shr32 (a : Int) : a.fdiv (2 ^ min (Int.toNat 32) IntKind.u64.bits) = a / 4294967296 := by
  show a.fdiv 4294967296 = a / 4294967296
  exact Int.fdiv_eq_ediv_of_nonneg _ (by decide)
theorem and32 (a : Nat) (ha : a < 18446744073709551616) : IntKind.u64.wrap ((BitVec.ofInt IntKind.u64.bits (a : Int) &&& BitVec.ofInt IntKind.u64.bits 4294967295).toNat : Int) = ((a % 4294967296 : Nat) : Int) :=
  Mul64.maskN a ha
theorem mul64_n (x y : Nat) (hx : x < 18446744073709551616) (hy : y < 18446744073709551616) :
    PSpec Try.prog 104 [.int .u64 (x : Int), .int .u64 (y : Int)] (· = .tup [.int .u64 ((x * y / 18446744073709551616 : Nat) : Int), .int .u64 ((x * y % 18446744073709551616 : Nat) : Int)]) := by
  refine .of_code' tab_ok Try.func104 (by rfl) rfl trivial ?_
  conv => whnf
  repeat (refine ⟨by decide, ?_⟩; conv => whnf)
  obtain ⟨bd, bt, bw, hhi⟩ := Lib.mul64_hi x y hx hy
  have ba := Lib.half_mul_le (a := x / 4294967296) (b := y / 4294967296) (by omega) (by omega)
  have bb := Lib.half_mul_le (a := x / 4294967296) (b := y % 4294967296) (by omega) (by omega)
  have bc := Lib.half_mul_le (a := x % 4294967296) (b := y / 4294967296) (by omega) (by omega)
  have ba' : x / 4294967296 * (y / 4294967296) < 18446744073709551616 := by omega
  have bb' : x / 4294967296 * (y % 4294967296) < 18446744073709551616 := by omega
  have bc' : x % 4294967296 * (y / 4294967296) < 18446744073709551616 := by omega
  have bh1 : x / 4294967296 * (y / 4294967296) + (x / 4294967296 * (y % 4294967296) + x % 4294967296 * (y % 4294967296) / 4294967296) / 4294967296 < 18446744073709551616 := by omega
  have bh : x / 4294967296 * (y / 4294967296) + (x / 4294967296 * (y % 4294967296) + x % 4294967296 * (y % 4294967296) / 4294967296) / 4294967296 + ((x / 4294967296 * (y % 4294967296) + x % 4294967296 * (y % 4294967296) / 4294967296) % 4294967296 + x % 4294967296 * (y / 4294967296)) / 4294967296 < 18446744073709551616 := by
    rw [hhi]
    have h1 : x * y ≤ 18446744073709551615 * 18446744073709551615 := Nat.mul_le_mul (by omega) (by omega)
    omega
  simp only [and32 x hx, and32 y hy, shr32, Mul64.divN, Mul64.mulN, Mul64.addN, Mul64.wrapN _ bd, Mul64.wrapN _ bb', Mul64.wrapN _ bt, and32 _ bt, Mul64.wrapN _ bc', Mul64.wrapN _ bw, Mul64.wrapN _ ba', Mul64.wrapN _ bh1, Mul64.wrapN _ bh, Mul64.wrapM (x * y)]
  rw [hhi]
theorem mul64_s (x y : Int) (x0 : 0 ≤ x) (x1 : x < 18446744073709551616) (y0 : 0 ≤ y) (y1 : y < 18446744073709551616) :
    PSpec Try.prog 104 [.int .u64 x, .int .u64 y] (· = .tup [.int .u64 (x * y / 18446744073709551616), .int .u64 (x * y % 18446744073709551616)]) := by
  obtain ⟨a, rfl⟩ := Int.eq_ofNat_of_zero_le x0
  obtain ⟨b, rfl⟩ := Int.eq_ofNat_of_zero_le y0
  have := mul64_n a b (by omega) (by omega)
  rw [← Int.natCast_mul]
  exact this
theorem wmul_s (x y : Int) (x0 : 0 ≤ x) (x1 : x < 18446744073709551616) (y0 : 0 ≤ y) (y1 : y < 18446744073709551616) :
    PSpec Try.prog 96 [.int .u64 x, .int .u64 y] (· = .agg [.int .u64 (x * y / 18446744073709551616), .int .u64 (x * y % 18446744073709551616)]) := by
  refine .of_code' tab_ok Try.func96 (by rfl) rfl trivial ?_
  conv => whnf
  refine (mul64_s x y x0 x1 y0 y1).call ?_
  rintro _ rfl
  conv => whnf
def addHi (h l y : Int) : Int := (h + (l + y) / 18446744073709551616) % 18446744073709551616
def addLo (l y : Int) : Int := (l + y) % 18446744073709551616
def addOv (h l y : Int) : Bool := decide ((h + (l + y) / 18446744073709551616) / 18446744073709551616 = 1)
end Go.Proofs.Ythlomoacacebead

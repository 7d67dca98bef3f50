/- Contracts of package wide, of its reference and of Go's carry and product. No statement of the seat is proved here. -/
import Derived.Test.YthlomoacacebeacGen
import Derived.Laws.Externs
import Derived.Shelf.Bits.Mul64
namespace Go.Proofs.Ythlomoacacebeac
open Go.Sx

theorem shr32 (a : Int) : a.fdiv (2 ^ min (Int.toNat 32) IntKind.u64.bits) = a / 4294967296 := by
  show a.fdiv 4294967296 = a / 4294967296
  exact Int.fdiv_eq_ediv_of_nonneg _ (by decide)
theorem and32 (a : Nat) (ha : a < 18446744073709551616) : IntKind.u64.wrap ((BitVec.ofInt IntKind.u64.bits (a : Int) &&& BitVec.ofInt IntKind.u64.bits 4294967295).toNat : Int) = ((a % 4294967296 : Nat) : Int) :=
  Mul64.maskN a ha
theorem mul64_n (x y : Nat) (hx : x < 18446744073709551616) (hy : y < 18446744073709551616) :
    PSpec Try.prog 94 [.int .u64 (x : Int), .int .u64 (y : Int)] (· = .tup [.int .u64 ((x * y / 18446744073709551616 : Nat) : Int), .int .u64 ((x * y % 18446744073709551616 : Nat) : Int)]) := by
  refine .of_code' tab_ok Try.func94 (by rfl) rfl trivial ?_
  conv => whnf
  repeat (refine ⟨by decide, ?_⟩; conv => whnf)
  obtain ⟨bd, bt, bw, hhi⟩ := Lib.mul64_hi x y hx hy
  have ba := Lib.half_mul_le (a := x / 4294967296) (b := y / 4294967296) (by omega) (by omega)
  have bb := Lib.half_mul_le (a := x / 4294967296) (b := y % 4294967296) (by omega) (by omega)
  have bc := Lib.half_mul_le (a := x % 4294967296) (b := y / 4294967296) (by omega) (by omega)
  have ba' : x / 4294967296 * (y / 4294967296) < 18446744073709551616 := by omega
  have bb' : x / 4294967296 * (y % 4294967296) < 18446744073709551616 := by omega
  have bc' : x % 4294967296 * (y / 4294967296) < 18446744073709551616 := by omega
  have bh1 : x / 4294967296 * (y / 4294967296) + (x / 4294967296 * (y % 4294967296) + x % 4294967296 * (y % 4294967296) / 4294967296) / 4294967296 < 18446744073709551616 := by omega
  have bh : x / 4294967296 * (y / 4294967296) + (x / 4294967296 * (y % 4294967296) + x % 4294967296 * (y % 4294967296) / 4294967296) / 4294967296 + ((x / 4294967296 * (y % 4294967296) + x % 4294967296 * (y % 4294967296) / 4294967296) % 4294967296 + x % 4294967296 * (y / 4294967296)) / 4294967296 < 18446744073709551616 := by
    rw [hhi]
    have h1 : x * y ≤ 18446744073709551615 * 18446744073709551615 := Nat.mul_le_mul (by omega) (by omega)
    omega
  simp only [and32 x hx, and32 y hy, shr32, Mul64.divN, Mul64.mulN, Mul64.addN, Mul64.wrapN _ bd, Mul64.wrapN _ bb', Mul64.wrapN _ bt, and32 _ bt, Mul64.wrapN _ bc', Mul64.wrapN _ bw, Mul64.wrapN _ ba', Mul64.wrapN _ bh1, Mul64.wrapN _ bh, Mul64.wrapM (x * y)]
  rw [hhi]
theorem mul64_s (x y : Int) (x0 : 0 ≤ x) (x1 : x < 18446744073709551616) (y0 : 0 ≤ y) (y1 : y < 18446744073709551616) :
    PSpec Try.prog 94 [.int .u64 x, .int .u64 y] (· = .tup [.int .u64 (x * y / 18446744073709551616), .int .u64 (x * y % 18446744073709551616)]) := by
  obtain ⟨a, rfl⟩ := Int.eq_ofNat_of_zero_le x0
  obtain ⟨b, rfl⟩ := Int.eq_ofNat_of_zero_le y0
  have := mul64_n a b (by omega) (by omega)
  rw [← Int.natCast_mul]
  exact this
theorem wmul_s (x y : Int) (x0 : 0 ≤ x) (x1 : x < 18446744073709551616) (y0 : 0 ≤ y) (y1 : y < 18446744073709551616) :
    PSpec Try.prog 79 [.int .u64 x, .int .u64 y] (· = .agg [.int .u64 (x * y / 18446744073709551616), .int .u64 (x * y % 18446744073709551616)]) := by
  refine .of_code' tab_ok Try.func79 (by rfl) rfl trivial ?_
  conv => whnf
  refine (mul64_s x y x0 x1 y0 y1).call ?_
  rintro _ rfl
  conv => whnf
theorem rmul_s (x y : Int) (x0 : 0 ≤ x) (x1 : x < 18446744073709551616) (y0 : 0 ≤ y) (y1 : y < 18446744073709551616) :
    PSpec Try.prog 91 [.int .u64 x, .int .u64 y] (· = .agg [.int .u64 (x * y / 18446744073709551616), .int .u64 (x * y % 18446744073709551616)]) := by
  refine .of_code' tab_ok Try.func91 (by rfl) rfl trivial ?_
  conv => whnf
  repeat (refine ⟨by decide, ?_⟩; conv => whnf)
  obtain ⟨m, rfl⟩ := Int.eq_ofNat_of_zero_le x0
  obtain ⟨n, rfl⟩ := Int.eq_ofNat_of_zero_le y0
  have hm : m < 18446744073709551616 := by omega
  have hn : n < 18446744073709551616 := by omega
  obtain ⟨bd, bt, bw, hhi⟩ := Lib.mul64_hi m n hm hn
  have e : m * n = (m / 4294967296) * (n / 4294967296) * (4294967296 * 4294967296) + ((m / 4294967296) * (n % 4294967296) + (m % 4294967296) * (n / 4294967296)) * 4294967296 + (m % 4294967296) * (n % 4294967296) := by
    rw [← Lib.split_mul, Nat.div_add_mod' m 4294967296, Nat.div_add_mod' n 4294967296]
  have bb := Lib.half_mul_le (a := m / 4294967296) (b := n % 4294967296) (by omega) (by omega)
  have bc := Lib.half_mul_le (a := m % 4294967296) (b := n / 4294967296) (by omega) (by omega)
  have ba := Lib.half_mul_le (a := m / 4294967296) (b := n / 4294967296) (by omega) (by omega)
  have t1 : ∀ k : Nat, ((k : Int)).tmod 4294967296 = ((k % 4294967296 : Nat) : Int) := fun k => by rw [Int.tmod_eq_emod_of_nonneg (by omega)]; rfl
  have sl : ∀ k : Nat, ((k : Int)) * 2 ^ min (Int.toNat 32) IntKind.u64.bits = ((k * 4294967296 : Nat) : Int) := fun k => by
    show (k : Int) * 4294967296 = _
    omega
  simp only [shr32, Mul64.divN, t1, Mul64.mulN, Mul64.addN, Mul64.wrapM, sl]
  congr 1
  generalize (m / 4294967296) * (n / 4294967296) = s at *
  generalize (m / 4294967296) * (n % 4294967296) = q at *
  generalize (m % 4294967296) * (n / 4294967296) = r at *
  generalize (m % 4294967296) * (n % 4294967296) = p at *
  have z1 : q % 18446744073709551616 = q := by omega
  have z2 : p % 18446744073709551616 = p := by omega
  have z3 : r % 18446744073709551616 = r := by omega
  have z4 : s % 18446744073709551616 = s := by omega
  simp only [z1, z2, z3, z4]
  generalize m * n = mn at *
  refine List.cons_eq_cons.2 ⟨?_, List.cons_eq_cons.2 ⟨?_, rfl⟩⟩
  · congr 1
    omega
  · congr 1
    omega
theorem add64_s (x y c : Int) (hx : 0 ≤ x) (hy : 0 ≤ y) (hc0 : 0 ≤ c) (hc : c ≤ 1) :
    PSpec Try.prog 96 [.int .u64 x, .int .u64 y, .int .u64 c] (· = .tup [.int .u64 ((x + y + c) % 18446744073709551616), .int .u64 ((x + y + c) / 18446744073709551616)]) := by
  refine .of_value rfl fun w E σ vs hr => ?_
  obtain ⟨v, u, t, rfl, h1, h2, h3⟩ := repl3 hr
  cases h1; cases h2; cases h3
  refine ⟨_, (run_callFunc_extern (e := add64Entry) Try.func96 (by rfl) (by rfl) (by rfl) (by rfl) _ w).trans (by rw [run_add64 x y c hx hy hc0 hc w]; rfl), .tup rfl fun i s v hs hv => ?_⟩
  match i with
  | 0 => simp at hs hv; subst hs; subst hv; exact .int
  | 1 => simp at hs hv; subst hs; subst hv; exact .int
  | i + 2 => simp at hs
def addHi (h l y : Int) : Int := (h + (l + y) / 18446744073709551616) % 18446744073709551616
def addLo (l y : Int) : Int := (l + y) % 18446744073709551616
def addOv (h l y : Int) : Bool := decide ((h + (l + y) / 18446744073709551616) / 18446744073709551616 = 1)
theorem wadd_s (h l y : Int) (h0 : 0 ≤ h) (l0 : 0 ≤ l) (l1 : l < 18446744073709551616) (y0 : 0 ≤ y) (y1 : y < 18446744073709551616) :
    PSpec Try.prog 93 [.agg [.int .u64 h, .int .u64 l], .int .u64 y] (· = .tup [.agg [.int .u64 (addHi h l y), .int .u64 (addLo l y)], .bool (addOv h l y)]) := by
  refine .of_code' tab_ok Try.func93 (by rfl) rfl trivial ?_
  conv => whnf
  refine (add64_s l y 0 l0 y0 (by omega) (by omega)).call ?_
  rintro _ rfl
  conv => whnf
  refine (add64_s h 0 _ h0 (by omega) (by omega) (by omega)).call ?_
  rintro _ rfl
  conv => whnf
  simp only [addHi, addLo, addOv, Int.add_zero]
theorem radd_s (h l y : Int) (h0 : 0 ≤ h) (h1 : h < 18446744073709551616) (l0 : 0 ≤ l) (l1 : l < 18446744073709551616) (y0 : 0 ≤ y) (y1 : y < 18446744073709551616) :
    PSpec Try.prog 92 [.agg [.int .u64 h, .int .u64 l], .int .u64 y] (· = .tup [.agg [.int .u64 (addHi h l y), .int .u64 (addLo l y)], .bool (addOv h l y)]) := by
  refine .of_code' tab_ok Try.func92 (by rfl) rfl trivial ?_
  conv => whnf
  refine ⟨fun hb => ?_, fun hb => ?_⟩
  all_goals conv => whnf
  · simp only [decide_eq_true_eq, IntKind.wrap_u64] at hb
    have e1 : h = addHi h l y := by unfold addHi; omega
    have e3 : addOv h l y = false := by unfold addOv; simp only [decide_eq_false_iff_not]; omega
    rw [← e1, e3]
    simp only [IntKind.wrap_u64, addLo]
  · refine DrawG.of mixed tab_ok ?_
    conv => whnf
    refine ⟨by kernel_rfl, ?_⟩
    conv => whnf
    simp only [decide_eq_false_iff_not, IntKind.wrap_u64] at hb
    have e1 : (h + 1) % 18446744073709551616 = addHi h l y := by unfold addHi; omega
    have e3 : addOv h l y = decide ((h + 1) % 18446744073709551616 = 0) := by unfold addOv; rw [decide_eq_decide]; omega
    simp only [IntKind.wrap_u64, e3, e1]
    rfl
end Go.Proofs.Ythlomoacacebeac

/- Chapter 8: two bytes, sealed records. -/
import Derived.Test.YtdommpfnoiemkaaPkt
namespace Go.Proofs.Ytdommpfnoiemkaa
open Go.Sx
set_option linter.unusedSimpArgs false
set_option linter.unusedVariables false
def twoB (n : Int) : List UInt8 := [UInt8.ofNat (n / 256).toNat, UInt8.ofNat (n % 256).toNat]
theorem ckV_rng (s : List UInt8) : 0 ≤ ckV s ∧ ckV s ≤ 65278 := by
  have a := ckA_rng s s.length
  have b := ckB_rng s s.length
  unfold ckV; omega
theorem u8_nat {z : Int} (h0 : 0 ≤ z) (h1 : z ≤ 255) : ((UInt8.ofNat z.toNat).toNat : Int) = z := by
  rw [UInt8.toNat_ofNat']; omega
theorem two_s (n : Int) (h0 : 0 ≤ n) (h1 : n ≤ 65535) : PSpec Try.prog 62 [.int .i64 n] (· = .str (twoB n)) := by
  refine .of_code' tab_ok Try.func62 (by rfl) rfl trivial ?_
  have e1 : IntKind.u8.wrap (IntKind.i64.wrap (Int.tdiv n 256)) = n / 256 := by
    rw [Int.tdiv_eq_ediv_of_nonneg h0, w64 _ (by omega) (by omega), IntKind.wrap_u8]; omega
  have e2 : IntKind.u8.wrap (Int.tmod n 256) = n % 256 := by
    rw [Int.tmod_eq_emod_of_nonneg h0, IntKind.wrap_u8]; omega
  have e3 : [[SV.int .u8 (IntKind.u8.wrap (IntKind.i64.wrap (Int.tdiv n 256)))], [SV.int .u8 (IntKind.u8.wrap (Int.tmod n 256))]] = (twoB n).map byteCell := by
    rw [e1, e2]
    simp only [twoB, List.map_cons, List.map_nil, byteCell]
    rw [u8_nat (by omega) (by omega), u8_nat (by omega) (by omega)]
  conv => whnf
  refine ⟨by omega, ?_⟩
  conv => whnf
  refine ⟨by omega, ?_⟩
  conv => whnf
  refine ⟨twoB n, e3, ?_⟩
  conv => whnf
theorem sealed_s (s : List UInt8) (hs : s.length ≤ 1000000) : PSpec Try.prog 22 [.str s] (· = .str (s ++ twoB (ckV s))) := by
  refine .of_code' tab_ok Try.func22 (by rfl) rfl trivial ?_
  have r := ckV_rng s
  have r1 := r.1
  have r2 : ckV s ≤ 65535 := by omega
  conv => whnf
  refine (rcsum_s _ (by first | omega | assumption | decide | simp)).call ?_
  rintro _ rfl
  conv => whnf
  refine (two_s _ (by first | omega | assumption | decide | simp) (by first | omega | assumption | decide | simp)).call ?_
  rintro _ rfl
  conv => whnf
  refine ⟨by (have e : (twoB (ckV s)).length = 2 := rfl; omega), ?_⟩
  conv => whnf
end Go.Proofs.Ytdommpfnoiemkaa

/- Chapter 8: checksums. -/
import Derived.Test.YtdommpfnoiemkaaGen
namespace Go.Proofs.Ytdommpfnoiemkaa
open Go.Sx
set_option linter.unusedSimpArgs false
set_option linter.unusedVariables false
abbrev byt (s : List UInt8) (i : Nat) : Int := ((s.getD i 0).toNat : Int)
theorem byt_rng (s : List UInt8) (i : Nat) : 0 ≤ byt s i ∧ byt s i ≤ 255 := by
  have := (s.getD i 0).toNat_lt
  unfold byt; omega
def ckA (s : List UInt8) : Nat → Int
  | 0 => 0
  | i + 1 => (ckA s i + byt s i) % 255
def ckB (s : List UInt8) : Nat → Int
  | 0 => 0
  | i + 1 => (ckB s i + ckA s (i + 1)) % 255
theorem ckA_rng (s : List UInt8) : ∀ i, 0 ≤ ckA s i ∧ ckA s i ≤ 254 := by
  intro i
  cases i with
  | zero => simp [ckA]
  | succ i => simp only [ckA]; omega
theorem ckB_rng (s : List UInt8) : ∀ i, 0 ≤ ckB s i ∧ ckB s i ≤ 254 := by
  intro i
  cases i with
  | zero => simp [ckB]
  | succ i => simp only [ckB]; omega
def ckV (s : List UInt8) : Int := 256 * ckB s s.length + ckA s s.length
theorem csum_s (s : List UInt8) (hs : s.length ≤ 1000000) : PSpec Try.prog 61 [.str s] (· = .int .i64 (ckV s)) := by
  refine .of_code' tab_ok Try.func61 (by rfl) rfl trivial ?_
  have hl : (s.map byteCell).length = s.length := by simp
  conv => whnf
  refine ⟨by omega, ?_⟩
  conv => whnf
  refine LoopG.inv tab_ok 28 (fun i : { i : Nat // i ≤ s.length } => [(3, .int .i64 (ckA s i.1)), (4, .int .i64 (ckB s i.1)), (8, .sl 0), (9, .int .i64 (s.length : Int)), (10, .int .i64 (i.1 : Int))])
    (fun _ => [.row 5 1 (s.map byteCell)]) (fun i => s.length - i.1) ⟨0, by omega⟩ (.of [some 0] (by rfl) ?_) ?_
  · conv => whnf
    refine ⟨by rfl, ?_⟩
    conv => whnf
    refine ⟨by rfl, ?_⟩
    conv => whnf
    refine ⟨by omega, ?_⟩
    conv => whnf
    refine ⟨by rfl, ?_⟩
    conv => whnf
    refine ⟨by rfl, ?_⟩
    conv => whnf
    exact trivial
  · intro i
    have hi := i.2
    conv => whnf
    refine ⟨fun hb => ?_, fun hb => ?_⟩
    · have hb : i.1 < s.length := by simp only [decide_eq_true_eq] at hb; omega
      have a1 := ckA_rng s i.1
      have b1 := ckB_rng s i.1
      have x1 := byt_rng s i.1
      have a2 := ckA_rng s (i.1 + 1)
      have hg : (s.map byteCell)[(i.1 : Int).toNat]? = some [SV.int .u8 (byt s i.1)] := by
        rw [Int.toNat_natCast, List.getElem?_map, List.getElem?_eq_getElem hb]
        simp [byteCell, byt, List.getD, List.getElem?_eq_getElem hb]
      have ea : Int.tmod (IntKind.i64.wrap (ckA s i.1 + IntKind.i64.wrap (byt s i.1))) 255 = ckA s (i.1 + 1) := by
        rw [w64 (byt s i.1) (by omega) (by omega), w64 _ (by omega) (by omega), Int.tmod_eq_emod_of_nonneg (by omega)]; rfl
      have eb : Int.tmod (IntKind.i64.wrap (ckB s i.1 + ckA s (i.1 + 1))) 255 = ckB s (i.1 + 1) := by
        rw [w64 _ (by omega) (by omega), Int.tmod_eq_emod_of_nonneg (by omega)]; rfl
      conv => whnf
      refine ⟨by omega, ?_⟩
      conv => whnf
      refine ⟨_, hg, ?_⟩
      conv => whnf
      refine ⟨by omega, ?_⟩
      conv => whnf
      refine ⟨by omega, ?_⟩
      conv => whnf
      refine ⟨⟨i.1 + 1, by omega⟩, by show s.length - (i.1 + 1) < s.length - i.1; omega, .of [some 0] (by rfl) ?_⟩
      conv => whnf
      refine ⟨by omega, ?_⟩
      conv => whnf
      refine ⟨by simp [*], ?_⟩
      conv => whnf
      refine ⟨by rfl, ?_⟩
      conv => whnf
      refine ⟨by exact (w64 _ (by omega) (by omega)).trans (by simp), ?_⟩
      conv => whnf
      refine ⟨by rfl, ?_⟩
      conv => whnf
      exact trivial
    · have hb : s.length = i.1 := by simp only [decide_eq_false_iff_not] at hb; omega
      have a1 := ckA_rng s i.1
      have b1 := ckB_rng s i.1
      have ev : IntKind.i64.wrap (IntKind.i64.wrap (256 * ckB s i.1) + ckA s i.1) = ckV s := by
        rw [w64 (256 * ckB s i.1) (by omega) (by omega), w64 _ (by omega) (by omega)]; unfold ckV; rw [show ckB s s.length = ckB s i.1 from congrArg (ckB s) hb, show ckA s s.length = ckA s i.1 from congrArg (ckA s) hb]
      conv => whnf
      refine .same ?_
      conv => whnf
      rw [ev]
theorem rcsum_s (s : List UInt8) (hs : s.length ≤ 1000000) : PSpec Try.prog 64 [.str s] (· = .int .i64 (ckV s)) := by
  refine .of_code' tab_ok Try.func64 (by rfl) rfl trivial ?_
  conv => whnf
  refine LoopG.inv tab_ok 27 (fun i : { i : Nat // i ≤ s.length } => [(0, .str s), (3, .int .i64 (ckA s i.1)), (4, .int .i64 (ckB s i.1)), (5, .int .i64 (i.1 : Int))])
    (fun _ => []) (fun i => s.length - i.1) ⟨0, by omega⟩ (.of [] (by decide) ?_) ?_
  · conv => whnf
    refine ⟨by rfl, ?_⟩
    conv => whnf
    refine ⟨by rfl, ?_⟩
    conv => whnf
    refine ⟨by rfl, ?_⟩
    conv => whnf
    refine ⟨by rfl, ?_⟩
    conv => whnf
    exact trivial
  · intro i
    have hi := i.2
    conv => whnf
    refine ⟨fun hb => ?_, fun hb => ?_⟩
    · have hb : i.1 < s.length := by simp only [decide_eq_true_eq] at hb; omega
      have a1 := ckA_rng s i.1
      have b1 := ckB_rng s i.1
      have x1 := byt_rng s i.1
      have a2 := ckA_rng s (i.1 + 1)
      have en : IntKind.i64.wrap ((i.1 : Int) + 1) = ((i.1 + 1 : Nat) : Int) := by rw [w64 _ (by omega) (by omega)]; omega
      have ea : Int.tmod (IntKind.i64.wrap (ckA s i.1 + IntKind.i64.wrap (byt s i.1))) 255 = ckA s (i.1 + 1) := by
        rw [w64 (byt s i.1) (by omega) (by omega), w64 _ (by omega) (by omega), Int.tmod_eq_emod_of_nonneg (by omega)]; rfl
      have eb : Int.tmod (IntKind.i64.wrap (ckB s i.1 + ckA s (i.1 + 1))) 255 = ckB s (i.1 + 1) := by
        rw [w64 _ (by omega) (by omega), Int.tmod_eq_emod_of_nonneg (by omega)]; rfl
      conv => whnf
      refine ⟨by omega, ?_⟩
      conv => whnf
      refine ⟨by omega, ?_⟩
      conv => whnf
      refine ⟨by omega, ?_⟩
      conv => whnf
      refine ⟨⟨i.1 + 1, by omega⟩, by show s.length - (i.1 + 1) < s.length - i.1; omega, .of [] (by decide) ?_⟩
      conv => whnf
      refine ⟨by rfl, ?_⟩
      conv => whnf
      refine ⟨by exact ea, ?_⟩
      conv => whnf
      refine ⟨by exact Eq.trans (by rw [show ((i.1 : Int)).toNat = i.1 from rfl] at *; rw [ea]) eb, ?_⟩
      conv => whnf
      refine ⟨by omega, ?_⟩
      conv => whnf
      exact trivial
    · have hb : s.length = i.1 := by simp only [decide_eq_false_iff_not] at hb; omega
      have a1 := ckA_rng s i.1
      have b1 := ckB_rng s i.1
      have ev : IntKind.i64.wrap (IntKind.i64.wrap (256 * ckB s i.1) + ckA s i.1) = ckV s := by
        rw [w64 (256 * ckB s i.1) (by omega) (by omega), w64 _ (by omega) (by omega)]; unfold ckV; rw [show ckB s s.length = ckB s i.1 from congrArg (ckB s) hb, show ckA s s.length = ckA s i.1 from congrArg (ckA s) hb]
      conv => whnf
      refine .same ?_
      conv => whnf
      rw [ev]
end Go.Proofs.Ytdommpfnoiemkaa

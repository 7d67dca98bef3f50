/- Contracts of the choices from which the statements draw. No statement of the seat is proved here. -/
import Derived.Test.YtdommpfnoiemkaaTab
namespace Go.Proofs.Ytdommpfnoiemkaa
open Go.Sx
theorem mixed : Try.prog.follows .mixedOrders = true := by kernel_rfl
/-- A row of numbers. -/
def nums (ls : List Int) : List (List SV) := ls.map fun z => [.int .i64 z]
theorem nums_len (ls : List Int) : (nums ls).length = ls.length := by simp [nums]
/-- What stands at a place of the choices. -/
def raw (ls : List Int) (at' : Int) : Int := if at' < (ls.length : Int) then ls.getD at'.toNat 0 else IntKind.i64.wrap (IntKind.i64.wrap (7 * at') + 3)
/-- The next number below n. -/
def nxt (ls : List Int) (at' n : Int) : Int := if n < 1 then 0 else raw ls at' % n
def chs (ls : List Int) (at' : Int) : Blk := .fix 93 [.rs 1 (nums ls), .int .i64 at']
theorem w64 (n : Int) (h0 : -9223372036854775808 ≤ n) (h1 : n ≤ 9223372036854775807) : IntKind.i64.wrap n = n := by rw [IntKind.wrap_i64]; omega
theorem tmod_neg {v n : Int} (hn : 0 < n) (h : v.tmod n < 0) : v.tmod n + n = v % n := by
  rw [Int.tmod_eq_emod] at *
  split at h
  · have := Int.emod_nonneg v (b := n) (by omega); omega
  · rename_i hc; rw [if_neg hc]; omega
theorem tmod_pos {v n : Int} (hn : 0 < n) (h : 0 ≤ v.tmod n) : v.tmod n = v % n := by
  rw [Int.tmod_eq_emod] at *
  split at h
  · rename_i hc; rw [if_pos hc]; omega
  · have := Int.emod_lt_of_pos v (b := n) hn; omega
theorem next_s (ls : List Int) (at' n : Int) (h0 : 0 ≤ at') (h1 : at' < 9223372036854775807) (n1 : n ≤ 9223372036854775807) :
    OSpec Try.prog 17 [.ptr 0 0, .int .i64 n] [chs ls at'] fun s ho => s = .int .i64 (nxt ls at' n) ∧ ho = [chs ls (at' + 1)] := by
  refine .of_code tab_ok Try.func17 (by rfl) rfl trivial ?_
  conv => whnf
  refine DrawG.of mixed tab_ok ?_
  conv => whnf
  refine ⟨by kernel_rfl, ?_⟩
  conv => whnf
  have hget : at' < (ls.length : Int) → (nums ls)[at'.toNat]? = some [.int .i64 (ls.getD at'.toNat 0)] := fun h => by
    have : at'.toNat < ls.length := by omega
    simp [nums, List.getD, List.getElem?_eq_getElem this]
  refine ⟨fun hb => ?_, fun hb => ?_⟩
  · have hb' : at' < (ls.length : Int) := by simpa [nums_len] using hb
    have hraw : raw ls at' = ls.getD at'.toNat 0 := by simp [raw, hb']
    conv => whnf
    refine DrawG.of mixed tab_ok ?_
    conv => whnf
    refine ⟨⟨h0, by rw [nums_len]; exact hb'⟩, ?_⟩
    conv => whnf
    refine ⟨_, hget hb', ?_⟩
    conv => whnf
    refine ⟨by kernel_rfl, ?_⟩
    conv => whnf
    generalize hv : ls.getD at'.toNat 0 = v at *
    refine ⟨fun hn => ?_, fun hn => ?_⟩
    · conv => whnf
      have hn : n < 1 := by simpa using hn
      rw [w64 (at' + 1) (by omega) (by omega)]
      exact ⟨by simp [nxt, hn], rfl⟩
    · conv => whnf
      have hn : ¬ n < 1 := by simpa using hn
      refine ⟨by omega, ?_⟩
      conv => whnf
      refine ⟨fun hm => ?_, fun hm => ?_⟩
      · conv => whnf
        rw [w64 (at' + 1) (by omega) (by omega)]
        have e : nxt ls at' n = v % n := by simp [nxt, hn, hraw]
        have hm : v.tmod n < 0 := by simpa using hm
        have e2 : v.tmod n + n = v % n := tmod_neg (by omega) hm
        refine ⟨?_, rfl⟩
        rw [e, ← e2, w64 _ (by have := Int.emod_nonneg v (b := n) (by omega); omega) (by have := Int.emod_lt_of_pos v (b := n) (by omega); omega)]
      · conv => whnf
        rw [w64 (at' + 1) (by omega) (by omega)]
        have e : nxt ls at' n = v % n := by simp [nxt, hn, hraw]
        have hm : ¬ v.tmod n < 0 := by simpa using hm
        refine ⟨?_, rfl⟩
        rw [e, tmod_pos (by omega) (by omega)]
  · have hraw : raw ls at' = IntKind.i64.wrap (IntKind.i64.wrap (7 * at') + 3) := by
      have : ¬ at' < (ls.length : Int) := by simpa [nums_len] using hb
      simp [raw, this]
    generalize IntKind.i64.wrap (IntKind.i64.wrap (7 * at') + 3) = v at *
    conv => whnf
    refine ⟨fun hn => ?_, fun hn => ?_⟩
    · conv => whnf
      have hn : n < 1 := by simpa using hn
      rw [w64 (at' + 1) (by omega) (by omega)]
      exact ⟨by simp [nxt, hn], rfl⟩
    · conv => whnf
      have hn : ¬ n < 1 := by simpa using hn
      refine ⟨by omega, ?_⟩
      conv => whnf
      refine ⟨fun hm => ?_, fun hm => ?_⟩
      · conv => whnf
        rw [w64 (at' + 1) (by omega) (by omega)]
        have e : nxt ls at' n = v % n := by simp [nxt, hn, hraw]
        have hm : v.tmod n < 0 := by simpa using hm
        have e2 : v.tmod n + n = v % n := tmod_neg (by omega) hm
        refine ⟨?_, rfl⟩
        rw [e, ← e2, w64 _ (by have := Int.emod_nonneg v (b := n) (by omega); omega) (by have := Int.emod_lt_of_pos v (b := n) (by omega); omega)]
      · conv => whnf
        rw [w64 (at' + 1) (by omega) (by omega)]
        have e : nxt ls at' n = v % n := by simp [nxt, hn, hraw]
        have hm : ¬ v.tmod n < 0 := by simpa using hm
        refine ⟨?_, rfl⟩
        rw [e, tmod_pos (by omega) (by omega)]
def bigs : List Int := [0, 1, 2, 3, 6, 10, 2147483648, 4294967296, 4294967295, 9223372036854775808, 9223372036854775807, 18446744073709551615, 18446744073709551614, 4611686018427387904, 720720]
/-- The next number of 64 bits. -/
def unx (ls : List Int) (at' : Int) : Int := bigs.getD (nxt ls at' 15).toNat 0
theorem nxt_lo (ls : List Int) (at' n : Int) : 0 ≤ nxt ls at' n := by
  unfold nxt
  split
  · omega
  · exact Int.emod_nonneg _ (by omega)
theorem nxt_hi (ls : List Int) (at' n : Int) (hn : 1 ≤ n) : nxt ls at' n < n := by
  unfold nxt
  rw [if_neg (by omega)]
  exact Int.emod_lt_of_pos _ (by omega)
theorem unx_fits (ls : List Int) (at' : Int) : 0 ≤ unx ls at' ∧ unx ls at' < 18446744073709551616 := by
  have h0 := nxt_lo ls at' 15
  have h1 := nxt_hi ls at' 15 (by omega)
  unfold unx
  generalize nxt ls at' 15 = k at *
  have key : ∀ j : Nat, j < 15 → 0 ≤ bigs.getD j 0 ∧ bigs.getD j 0 < 18446744073709551616 := by decide
  exact key k.toNat (by omega)
end Go.Proofs.Ytdommpfnoiemkaa

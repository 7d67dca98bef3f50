/- The statement BoundGrows as a contract. -/
import Derived.Test.YthlomoacacebeaeBndKeep
namespace Go.Proofs.Ythlomoacacebeae
open Go.Sx
set_option linter.unusedSimpArgs false
set_option linter.unusedVariables false
theorem lmax_rng {ls : List Int} (h : wOk ls) : ∀ k, k ≤ ls.length → 0 ≤ lmax ls k ∧ lmax ls k ≤ 1 + 17 * ls.length ∧ (0 < k → 1 ≤ lmax ls k) := by
  intro k
  induction k with
  | zero => intro _; simp [lmax]; omega
  | succ k ih =>
    intro hk
    have q := ih (by omega)
    have t := tsum_rng h (i := k) (by omega) ls.length (Nat.le_refl _)
    simp only [lmax]
    split <;> omega
theorem wOk3 {a b c : Int} (ha : 1 ≤ a ∧ a ≤ 16) (hb : 1 ≤ b ∧ b ≤ 16) (hc : 1 ≤ c ∧ c ≤ 16) : wOk [a, b, c] := by
  refine ⟨by simp, by simp, fun i hi => ?_⟩
  match i with
  | 0 => exact ha
  | 1 => exact hb
  | 2 => exact hc
  | i + 3 => simp at hi; omega
theorem kp1 : IntKind.i64.wrap (kpv 1 3 + 1) = 2 := by decide
theorem kp2 : IntKind.i64.wrap (kpv 2 3 + 1) = 4 := by decide
theorem dlv_eq {T M n : Int} (q : Int) (hT : 1 ≤ T ∧ T ≤ 52) (hM : 1 ≤ M ∧ M ≤ 52) (hn : 1 ≤ n ∧ n ≤ 51) (hq : 0 ≤ q ∧ q ≤ 4) : IntKind.i64.wrap (IntKind.i64.wrap (IntKind.i64.wrap (n * T) * q) * M) = n * T * q * M := by
  have h0 : 0 ≤ n * T := Int.mul_nonneg (by omega) (by omega)
  have h1 : n * T ≤ 51 * 52 := Int.mul_le_mul (by omega) (by omega) (by omega) (by omega)
  have h2 : 0 ≤ n * T * q := Int.mul_nonneg h0 (by omega)
  have h3 : n * T * q ≤ (51 * 52) * 4 := Int.mul_le_mul h1 (by omega) (by omega) (by omega)
  have h4 : 0 ≤ n * T * q * M := Int.mul_nonneg h2 (by omega)
  have h5 : n * T * q * M ≤ ((51 * 52) * 4) * 52 := Int.mul_le_mul h3 (by omega) (by omega) (by omega)
  rw [w64 (n * T) (by omega) (by omega), w64 (n * T * q) (by omega) (by omega), w64 _ (by omega) (by omega)]
theorem grow_all {a b c n : Int} (ha : 1 ≤ a ∧ a ≤ 16) (hb : 1 ≤ b ∧ b ≤ 15) (hc : 1 ≤ c ∧ c ≤ 16) (hn : 1 ≤ n ∧ n ≤ 50) :
    0 < dlv [a, b, c] 1 3 0 n ∧ dlv [a, b, c] 1 3 0 n < dlv [a, b, c] 1 3 0 (n + 1) ∧ dlv [a, b, c] 1 3 0 n ≤ dlv [a, b, c] 2 3 0 n ∧ tsum [a, b, c] 0 3 ≤ tsum [a, b + 1, c] 0 3 := by
  have hw := wOk3 ha (b := b) (by omega) hc
  have hT := tsum_rng hw (i := 0) (by simp) 3 (by simp)
  have hM := lmax_rng hw 3 (by simp)
  have e1 := dlv_eq (T := tsum [a, b, c] 0 3) (M := lmax [a, b, c] 3) (n := n) 2 (by omega) ⟨hM.2.2 (by omega), hM.2.1⟩ (by omega) (by omega)
  have e2 := dlv_eq (T := tsum [a, b, c] 0 3) (M := lmax [a, b, c] 3) (n := n + 1) 2 (by omega) ⟨hM.2.2 (by omega), hM.2.1⟩ (by omega) (by omega)
  have e3 := dlv_eq (T := tsum [a, b, c] 0 3) (M := lmax [a, b, c] 3) (n := n) 4 (by omega) ⟨hM.2.2 (by omega), hM.2.1⟩ (by omega) (by omega)
  have d1 : dlv [a, b, c] 1 3 0 n = n * tsum [a, b, c] 0 3 * 2 * lmax [a, b, c] 3 := by rw [dlv, kp1]; exact e1
  have d2 : dlv [a, b, c] 1 3 0 (n + 1) = (n + 1) * tsum [a, b, c] 0 3 * 2 * lmax [a, b, c] 3 := by rw [dlv, kp1]; exact e2
  have d3 : dlv [a, b, c] 2 3 0 n = n * tsum [a, b, c] 0 3 * 4 * lmax [a, b, c] 3 := by rw [dlv, kp2]; exact e3
  rw [d1, d2, d3]
  have hM1 : 0 < lmax [a, b, c] 3 := by have := hM.2.2 (by omega); omega
  have hP : 0 < n * tsum [a, b, c] 0 3 := Int.mul_pos (by omega) (by omega)
  have hP1 : (n + 1) * tsum [a, b, c] 0 3 = n * tsum [a, b, c] 0 3 + tsum [a, b, c] 0 3 := by rw [Int.add_mul, Int.one_mul]
  refine ⟨Int.mul_pos (by omega) hM1, Int.mul_lt_mul_of_pos_right (by omega) hM1, Int.mul_le_mul_of_nonneg_right (by omega) (by omega), ?_⟩
  have t1 : tsum [a, b, c] 0 3 = 1 + (b / a + 1) + (c / a + 1) := rfl
  have t2 : tsum [a, b + 1, c] 0 3 = 1 + ((b + 1) / a + 1) + (c / a + 1) := rfl
  have hd : b / a ≤ (b + 1) / a := Int.ediv_le_ediv (by omega) (by omega)
  omega
theorem alp13 : alpOk 1 3 = true := by decide
theorem alp23 : alpOk 2 3 = true := by decide
theorem boundGrows_s (ls : List Int) : PSpec Try.prog 4 [.rs 1 (nums ls)] TrueS := by
  refine .of_code' tab_ok Try.func4 (by rfl) rfl trivial ?_
  have ha := wex_rng ls 0
  have b0 := nxt_lo ls (0 + 1) 15
  have b1 := nxt_hi ls (0 + 1) 15 (by omega)
  have hc := wex_rng ls (0 + 1 + 1)
  have n0 := nxt_lo ls (0 + 1 + 1 + 1) 50
  have n1 := nxt_hi ls (0 + 1 + 1 + 1) 50 (by omega)
  have eb : IntKind.i64.wrap (1 + nxt ls (0 + 1) 15) = 1 + nxt ls (0 + 1) 15 := w64 _ (by omega) (by omega)
  have en : IntKind.i64.wrap (1 + nxt ls (0 + 1 + 1 + 1) 50) = 1 + nxt ls (0 + 1 + 1 + 1) 50 := w64 _ (by omega) (by omega)
  conv => whnf
  refine CallG.of_code tab_ok Try.func12 (by rfl) rfl ?_
  conv => whnf
  refine (weight_s ls 0 (by omega) (by omega)).call [0] (by decide) trivial (And.intro rfl trivial) ?_
  rintro _ _ ⟨rfl, rfl⟩
  conv => whnf
  refine (next_s ls (0 + 1) 15 (by omega) (by omega) (by omega)).call [0] (by decide) (And.intro rfl trivial) (And.intro rfl trivial) ?_
  rintro _ _ ⟨rfl, rfl⟩
  conv => whnf
  refine (weight_s ls (0 + 1 + 1) (by omega) (by omega)).call [0] (by decide) trivial (And.intro rfl trivial) ?_
  rintro _ _ ⟨rfl, rfl⟩
  rw [eb]
  generalize hA : wex ls 0 = a at *
  generalize hB : 1 + nxt ls (0 + 1) 15 = b at *
  generalize hC : wex ls (0 + 1 + 1) = c at *
  have hb : 1 ≤ b ∧ b ≤ 15 := by omega
  have eb1 : IntKind.i64.wrap (b + 1) = b + 1 := w64 _ (by omega) (by omega)
  conv => whnf
  refine DrawG.of mixed tab_ok ?_
  conv => whnf
  refine ⟨by simp, ?_⟩
  conv => whnf
  refine ⟨_, rfl, ?_⟩
  conv => whnf
  refine ⟨by simp, ?_⟩
  conv => whnf
  refine ⟨_, rfl, ?_⟩
  conv => whnf
  refine ⟨by simp, ?_⟩
  conv => whnf
  refine ⟨_, rfl, ?_⟩
  conv => whnf
  refine ⟨by kernel_rfl, ?_⟩
  conv => whnf
  refine (next_s _ _ _ (by first | omega | assumption | decide | simp) (by first | omega | assumption | decide | simp) (by first | omega | assumption | decide | simp)).call [0] (by decide) (And.intro rfl trivial) (And.intro rfl trivial) ?_
  rintro _ _ ⟨rfl, rfl⟩
  conv => whnf
  rw [en, eb1]
  generalize hN : 1 + nxt ls (0 + 1 + 1 + 1) 50 = n at *
  have hn : 1 ≤ n ∧ n ≤ 50 := by omega
  have en1 : IntKind.i64.wrap (n + 1) = n + 1 := w64 _ (by omega) (by omega)
  obtain ⟨g1, g2, g3, g4⟩ := grow_all ha hb hc hn
  have hw := wOk3 ha (b := b) (by omega) hc
  have hw2 := wOk3 ha (b := b + 1) (by omega) hc
  conv => whnf
  refine PSpec.lend (delay_t [a, b, c] hw 1 3 alp13 0 (by simp) n (by omega) (by omega)) ?_ ?_
  · conv => whnf
    refine ⟨rfl, ?_⟩
    conv => whnf
    refine ⟨rfl, ?_⟩
    conv => whnf
    refine ⟨rfl, ?_⟩
    conv => whnf
    refine ⟨rfl, ?_⟩
    conv => whnf
    exact trivial
  rintro _ rfl
  conv => whnf
  rw [en1]
  conv => whnf
  refine PSpec.lend (delay_t [a, b, c] hw 1 3 alp13 0 (by simp) (n + 1) (by omega) (by omega)) ?_ ?_
  · conv => whnf
    refine ⟨rfl, ?_⟩
    conv => whnf
    refine ⟨rfl, ?_⟩
    conv => whnf
    refine ⟨rfl, ?_⟩
    conv => whnf
    refine ⟨rfl, ?_⟩
    conv => whnf
    exact trivial
  rintro _ rfl
  conv => whnf
  refine PSpec.lend (delay_t [a, b, c] hw 2 3 alp23 0 (by simp) n (by omega) (by omega)) ?_ ?_
  · conv => whnf
    refine ⟨rfl, ?_⟩
    conv => whnf
    refine ⟨rfl, ?_⟩
    conv => whnf
    refine ⟨rfl, ?_⟩
    conv => whnf
    refine ⟨rfl, ?_⟩
    conv => whnf
    exact trivial
  rintro _ rfl
  conv => whnf
  refine PSpec.lend (turn_t [a, b, c] hw 0 (by simp)) ?_ ?_
  · conv => whnf
    refine ⟨rfl, ?_⟩
    conv => whnf
    refine ⟨rfl, ?_⟩
    conv => whnf
    exact trivial
  rintro _ rfl
  conv => whnf
  refine PSpec.lend (turn_t [a, b + 1, c] hw2 0 (by simp)) ?_ ?_
  · conv => whnf
    refine ⟨rfl, ?_⟩
    conv => whnf
    refine ⟨rfl, ?_⟩
    conv => whnf
    exact trivial
  rintro _ rfl
  have g4' : tsum [a, b, c] 0 [a, b, c].length ≤ tsum [a, b + 1, c] 0 [a, b + 1, c].length := g4
  conv => whnf
  refine both_t rfl ?_
  conv => whnf
  refine both_t rfl ?_
  conv => whnf
  refine both_t rfl ?_
  conv => whnf
  refine both_t rfl ?_
  conv => whnf
  refine both_t rfl ?_
  conv => whnf
  refine both_t (by simp; omega) ?_
  conv => whnf
  refine both_t (by simp; omega) ?_
  conv => whnf
  refine both_t (by simp; omega) ?_
  conv => whnf
  refine both_t (by simp; omega) ?_
  conv => whnf
  refine (awake26_s).call ?_
  rintro _ rfl
  conv => whnf
end Go.Proofs.Ythlomoacacebeae

/- The statement BoundShares as a contract. -/
import Derived.Test.YthlomoacacebeaeBndKeep
namespace Go.Proofs.Ythlomoacacebeae
open Go.Sx
set_option linter.unusedSimpArgs false
set_option linter.unusedVariables false
theorem shw_s (w : Int) : PSpec Try.prog 47 [.int .i64 w] (· = .bool (decide (1 ≤ w) && decide (w ≤ 16))) := by
  refine .of_code' tab_ok Try.func47 (by rfl) rfl trivial ?_
  conv => whnf
  refine ⟨fun hh0 => ?_, fun hh0 => ?_⟩
  · simp only [decide_eq_true_eq, decide_eq_false_iff_not] at hh0
    conv => whnf
    simp [*]
  · simp only [decide_eq_true_eq, decide_eq_false_iff_not] at hh0
    conv => whnf
    simp [*]
theorem shc_s (m : Int) : PSpec Try.prog 48 [.int .i64 m] (· = .bool (decide (0 ≤ m) && decide (m ≤ 1048576))) := by
  refine .of_code' tab_ok Try.func48 (by rfl) rfl trivial ?_
  conv => whnf
  refine ⟨fun hh0 => ?_, fun hh0 => ?_⟩
  · simp only [decide_eq_true_eq, decide_eq_false_iff_not] at hh0
    conv => whnf
    simp [*]
  · simp only [decide_eq_true_eq, decide_eq_false_iff_not] at hh0
    conv => whnf
    simp [*]
def shP (q x y m n a b : Int) : Prop := (256 ≤ q ∧ q ≤ 1048576) ∧ (1 ≤ x ∧ x ≤ 16) ∧ (1 ≤ y ∧ y ≤ 16) ∧ (0 ≤ m ∧ m ≤ 1048576) ∧ (0 ≤ n ∧ n ≤ 1048576) ∧ (0 ≤ a ∧ a ≤ 1099511627776) ∧ 0 ≤ b ∧ b ≤ 1099511627776
instance (q x y m n a b : Int) : Decidable (shP q x y m n a b) := by unfold shP; infer_instance
def absG (g : Int) : Int := if 0 - g > g then 0 - g else g
def shB (q x y m n a b : Int) : Bool := decide (shP q x y m n a b) && decide (absG (a * y - b * x) ≤ 2 * q * x * y + m * y + n * x)
theorem shB_no {q x y m n a b : Int} (h : ¬ shP q x y m n a b) : false = shB q x y m n a b := by simp [shB, h]
theorem mul_rng {p q P Q : Int} (h0 : 0 ≤ p) (h1 : p ≤ P) (k0 : 0 ≤ q) (k1 : q ≤ Q) : 0 ≤ p * q ∧ p * q ≤ P * Q :=
  ⟨Int.mul_nonneg h0 k0, Int.mul_le_mul h1 k1 k0 (by omega)⟩
theorem sh_raw {q x y m n a b : Int} (h : shP q x y m n a b) :
    IntKind.i64.wrap (IntKind.i64.wrap (a * y) - IntKind.i64.wrap (b * x)) = a * y - b * x ∧ IntKind.i64.wrap (0 - (a * y - b * x)) = 0 - (a * y - b * x) ∧
    IntKind.i64.wrap (IntKind.i64.wrap (IntKind.i64.wrap (IntKind.i64.wrap (IntKind.i64.wrap (2 * q) * x) * y) + IntKind.i64.wrap (m * y)) + IntKind.i64.wrap (n * x)) = 2 * q * x * y + m * y + n * x := by
  obtain ⟨hq, hx, hy, hm, hn, ha, hb⟩ := h
  have r1 := mul_rng ha.1 ha.2 (q := y) (Q := 16) (by omega) (by omega)
  have r2 := mul_rng hb.1 hb.2 (q := x) (Q := 16) (by omega) (by omega)
  have r3 := mul_rng hm.1 hm.2 (q := y) (Q := 16) (by omega) (by omega)
  have r4 := mul_rng hn.1 hn.2 (q := x) (Q := 16) (by omega) (by omega)
  have r5 := mul_rng (p := 2 * q) (P := 2097152) (by omega) (by omega) (q := x) (Q := 16) (by omega) (by omega)
  have r6 := mul_rng (p := 2 * q * x) (P := 2097152 * 16) (by omega) (by omega) (q := y) (Q := 16) (by omega) (by omega)
  rw [w64 (a * y) (by omega) (by omega), w64 (b * x) (by omega) (by omega), w64 (a * y - b * x) (by omega) (by omega), w64 (2 * q) (by omega) (by omega), w64 (2 * q * x) (by omega) (by omega), w64 (2 * q * x * y) (by omega) (by omega), w64 (m * y) (by omega) (by omega), w64 (n * x) (by omega) (by omega), w64 (2 * q * x * y + m * y) (by omega) (by omega)]
  exact ⟨rfl, w64 _ (by omega) (by omega), w64 _ (by omega) (by omega)⟩
theorem sh_swap (q x y m n a b : Int) : shB q x y m n a b = shB q y x n m b a := by
  by_cases h : shP q x y m n a b
  · have h' : shP q y x n m b a := by unfold shP at *; omega
    have e : 2 * q * y * x = 2 * q * x * y := Int.mul_right_comm _ _ _
    simp only [shB, h, h', decide_true, Bool.true_and, e]
    have e2 : absG (b * x - a * y) = absG (a * y - b * x) := by unfold absG; (repeat' split) <;> omega
    rw [e2]
    congr 1
    rw [Int.add_right_comm]
  · have h' : ¬ shP q y x n m b a := by unfold shP at *; omega
    rw [← shB_no h, ← shB_no h']
theorem shares_s (q x y m n a b : Int) : PSpec Try.prog 21 [.int .i64 q, .int .i64 x, .int .i64 y, .int .i64 m, .int .i64 n, .int .i64 a, .int .i64 b] (· = .bool (shB q x y m n a b)) := by
  refine .of_code' tab_ok Try.func21 (by rfl) rfl trivial ?_
  conv => whnf
  refine ⟨fun hh0 => ?_, fun hh0 => ?_⟩
  · simp only [decide_eq_true_eq, decide_eq_false_iff_not] at hh0
    conv => whnf
    exact bool_e (shB_no (by unfold shP; omega))
  · simp only [decide_eq_true_eq, decide_eq_false_iff_not] at hh0
    conv => whnf
    refine ⟨fun hh1 => ?_, fun hh1 => ?_⟩
    · simp only [decide_eq_true_eq, decide_eq_false_iff_not] at hh1
      conv => whnf
      exact bool_e (shB_no (by unfold shP; omega))
    · simp only [decide_eq_true_eq, decide_eq_false_iff_not] at hh1
      conv => whnf
      refine (shw_s _).call ?_
      rintro _ rfl
      conv => whnf
      refine ⟨fun hh12 => ?_, fun hh12 => ?_⟩
      · simp only [decide_eq_true_eq, decide_eq_false_iff_not, Bool.not_eq_true, Bool.not_eq_false, Bool.not_eq_true', Bool.not_eq_false', Bool.and_eq_true, Bool.and_eq_false_iff, Int.not_lt, Int.not_le, Decidable.not_not, beq_iff_eq, Bool.not_eq_eq_eq_not, Bool.not_true, Bool.not_false, beq_eq_false_iff_ne, ne_eq, decide_eq_decide] at hh12
        conv => whnf
        exact bool_e (shB_no (by unfold shP; omega))
      · simp only [decide_eq_true_eq, decide_eq_false_iff_not, Bool.not_eq_true, Bool.not_eq_false, Bool.not_eq_true', Bool.not_eq_false', Bool.and_eq_true, Bool.and_eq_false_iff, Int.not_lt, Int.not_le, Decidable.not_not, beq_iff_eq, Bool.not_eq_eq_eq_not, Bool.not_true, Bool.not_false, beq_eq_false_iff_ne, ne_eq, decide_eq_decide] at hh12
        conv => whnf
        refine (shw_s _).call ?_
        rintro _ rfl
        conv => whnf
        refine ⟨fun hh23 => ?_, fun hh23 => ?_⟩
        · simp only [decide_eq_true_eq, decide_eq_false_iff_not, Bool.not_eq_true, Bool.not_eq_false, Bool.not_eq_true', Bool.not_eq_false', Bool.and_eq_true, Bool.and_eq_false_iff, Int.not_lt, Int.not_le, Decidable.not_not, beq_iff_eq, Bool.not_eq_eq_eq_not, Bool.not_true, Bool.not_false, beq_eq_false_iff_ne, ne_eq, decide_eq_decide] at hh23
          conv => whnf
          exact bool_e (shB_no (by unfold shP; omega))
        · simp only [decide_eq_true_eq, decide_eq_false_iff_not, Bool.not_eq_true, Bool.not_eq_false, Bool.not_eq_true', Bool.not_eq_false', Bool.and_eq_true, Bool.and_eq_false_iff, Int.not_lt, Int.not_le, Decidable.not_not, beq_iff_eq, Bool.not_eq_eq_eq_not, Bool.not_true, Bool.not_false, beq_eq_false_iff_ne, ne_eq, decide_eq_decide] at hh23
          conv => whnf
          refine (shc_s _).call ?_
          rintro _ rfl
          conv => whnf
          refine ⟨fun hh34 => ?_, fun hh34 => ?_⟩
          · simp only [decide_eq_true_eq, decide_eq_false_iff_not, Bool.not_eq_true, Bool.not_eq_false, Bool.not_eq_true', Bool.not_eq_false', Bool.and_eq_true, Bool.and_eq_false_iff, Int.not_lt, Int.not_le, Decidable.not_not, beq_iff_eq, Bool.not_eq_eq_eq_not, Bool.not_true, Bool.not_false, beq_eq_false_iff_ne, ne_eq, decide_eq_decide] at hh34
            conv => whnf
            exact bool_e (shB_no (by unfold shP; omega))
          · simp only [decide_eq_true_eq, decide_eq_false_iff_not, Bool.not_eq_true, Bool.not_eq_false, Bool.not_eq_true', Bool.not_eq_false', Bool.and_eq_true, Bool.and_eq_false_iff, Int.not_lt, Int.not_le, Decidable.not_not, beq_iff_eq, Bool.not_eq_eq_eq_not, Bool.not_true, Bool.not_false, beq_eq_false_iff_ne, ne_eq, decide_eq_decide] at hh34
            conv => whnf
            refine (shc_s _).call ?_
            rintro _ rfl
            conv => whnf
            refine ⟨fun hh45 => ?_, fun hh45 => ?_⟩
            · simp only [decide_eq_true_eq, decide_eq_false_iff_not, Bool.not_eq_true, Bool.not_eq_false, Bool.not_eq_true', Bool.not_eq_false', Bool.and_eq_true, Bool.and_eq_false_iff, Int.not_lt, Int.not_le, Decidable.not_not, beq_iff_eq, Bool.not_eq_eq_eq_not, Bool.not_true, Bool.not_false, beq_eq_false_iff_ne, ne_eq, decide_eq_decide] at hh45
              conv => whnf
              exact bool_e (shB_no (by unfold shP; omega))
            · simp only [decide_eq_true_eq, decide_eq_false_iff_not, Bool.not_eq_true, Bool.not_eq_false, Bool.not_eq_true', Bool.not_eq_false', Bool.and_eq_true, Bool.and_eq_false_iff, Int.not_lt, Int.not_le, Decidable.not_not, beq_iff_eq, Bool.not_eq_eq_eq_not, Bool.not_true, Bool.not_false, beq_eq_false_iff_ne, ne_eq, decide_eq_decide] at hh45
              conv => whnf
              refine ⟨fun hh46 => ?_, fun hh46 => ?_⟩
              · simp only [decide_eq_true_eq, decide_eq_false_iff_not] at hh46
                conv => whnf
                exact bool_e (shB_no (by unfold shP; omega))
              · simp only [decide_eq_true_eq, decide_eq_false_iff_not] at hh46
                conv => whnf
                refine ⟨fun hh47 => ?_, fun hh47 => ?_⟩
                · simp only [decide_eq_true_eq, decide_eq_false_iff_not] at hh47
                  conv => whnf
                  exact bool_e (shB_no (by unfold shP; omega))
                · simp only [decide_eq_true_eq, decide_eq_false_iff_not] at hh47
                  conv => whnf
                  refine ⟨fun hh48 => ?_, fun hh48 => ?_⟩
                  · simp only [decide_eq_true_eq, decide_eq_false_iff_not] at hh48
                    conv => whnf
                    exact bool_e (shB_no (by unfold shP; omega))
                  · simp only [decide_eq_true_eq, decide_eq_false_iff_not] at hh48
                    conv => whnf
                    refine ⟨fun hh49 => ?_, fun hh49 => ?_⟩
                    · simp only [decide_eq_true_eq, decide_eq_false_iff_not] at hh49
                      conv => whnf
                      exact bool_e (shB_no (by unfold shP; omega))
                    · simp only [decide_eq_true_eq, decide_eq_false_iff_not] at hh49
                      conv => whnf
                      have hp : shP q x y m n a b := (by unfold shP; omega)
                      obtain ⟨e1, e2, e3⟩ := sh_raw hp
                      exact bool_e (by rw [e1, e2, e3, shB, decide_eq_true hp, Bool.true_and, absG])
theorem rshares_s (q x y m n a b : Int) : PSpec Try.prog 22 [.int .i64 q, .int .i64 x, .int .i64 y, .int .i64 m, .int .i64 n, .int .i64 a, .int .i64 b] (· = .bool (shB q x y m n a b)) := by
  refine .of_code' tab_ok Try.func22 (by rfl) rfl trivial ?_
  conv => whnf
  refine ⟨fun hh0 => ?_, fun hh0 => ?_⟩
  · simp only [decide_eq_true_eq, decide_eq_false_iff_not] at hh0
    conv => whnf
    exact bool_e (shB_no (by unfold shP; omega))
  · simp only [decide_eq_true_eq, decide_eq_false_iff_not] at hh0
    conv => whnf
    refine ⟨fun hh1 => ?_, fun hh1 => ?_⟩
    · simp only [decide_eq_true_eq, decide_eq_false_iff_not] at hh1
      conv => whnf
      exact bool_e (shB_no (by unfold shP; omega))
    · simp only [decide_eq_true_eq, decide_eq_false_iff_not] at hh1
      conv => whnf
      refine ⟨fun hh2 => ?_, fun hh2 => ?_⟩
      · simp only [decide_eq_true_eq, decide_eq_false_iff_not] at hh2
        conv => whnf
        exact bool_e (shB_no (by unfold shP; omega))
      · simp only [decide_eq_true_eq, decide_eq_false_iff_not] at hh2
        conv => whnf
        refine ⟨fun hh3 => ?_, fun hh3 => ?_⟩
        · simp only [decide_eq_true_eq, decide_eq_false_iff_not] at hh3
          conv => whnf
          exact bool_e (shB_no (by unfold shP; omega))
        · simp only [decide_eq_true_eq, decide_eq_false_iff_not] at hh3
          conv => whnf
          refine ⟨fun hh4 => ?_, fun hh4 => ?_⟩
          · simp only [decide_eq_true_eq, decide_eq_false_iff_not] at hh4
            conv => whnf
            exact bool_e (shB_no (by unfold shP; omega))
          · simp only [decide_eq_true_eq, decide_eq_false_iff_not] at hh4
            conv => whnf
            refine ⟨fun hh5 => ?_, fun hh5 => ?_⟩
            · simp only [decide_eq_true_eq, decide_eq_false_iff_not] at hh5
              conv => whnf
              exact bool_e (shB_no (by unfold shP; omega))
            · simp only [decide_eq_true_eq, decide_eq_false_iff_not] at hh5
              conv => whnf
              refine ⟨fun hh6 => ?_, fun hh6 => ?_⟩
              · simp only [decide_eq_true_eq, decide_eq_false_iff_not] at hh6
                conv => whnf
                exact bool_e (shB_no (by unfold shP; omega))
              · simp only [decide_eq_true_eq, decide_eq_false_iff_not] at hh6
                conv => whnf
                refine ⟨fun hh7 => ?_, fun hh7 => ?_⟩
                · simp only [decide_eq_true_eq, decide_eq_false_iff_not] at hh7
                  conv => whnf
                  exact bool_e (shB_no (by unfold shP; omega))
                · simp only [decide_eq_true_eq, decide_eq_false_iff_not] at hh7
                  conv => whnf
                  refine ⟨fun hh8 => ?_, fun hh8 => ?_⟩
                  · simp only [decide_eq_true_eq, decide_eq_false_iff_not] at hh8
                    conv => whnf
                    exact bool_e (shB_no (by unfold shP; omega))
                  · simp only [decide_eq_true_eq, decide_eq_false_iff_not] at hh8
                    conv => whnf
                    refine ⟨fun hh9 => ?_, fun hh9 => ?_⟩
                    · simp only [decide_eq_true_eq, decide_eq_false_iff_not] at hh9
                      conv => whnf
                      exact bool_e (shB_no (by unfold shP; omega))
                    · simp only [decide_eq_true_eq, decide_eq_false_iff_not] at hh9
                      conv => whnf
                      refine ⟨fun hh10 => ?_, fun hh10 => ?_⟩
                      · simp only [decide_eq_true_eq, decide_eq_false_iff_not] at hh10
                        conv => whnf
                        exact bool_e (shB_no (by unfold shP; omega))
                      · simp only [decide_eq_true_eq, decide_eq_false_iff_not] at hh10
                        conv => whnf
                        refine ⟨fun hh11 => ?_, fun hh11 => ?_⟩
                        · simp only [decide_eq_true_eq, decide_eq_false_iff_not] at hh11
                          conv => whnf
                          exact bool_e (shB_no (by unfold shP; omega))
                        · simp only [decide_eq_true_eq, decide_eq_false_iff_not] at hh11
                          conv => whnf
                          refine ⟨fun hh12 => ?_, fun hh12 => ?_⟩
                          · simp only [decide_eq_true_eq, decide_eq_false_iff_not] at hh12
                            conv => whnf
                            exact bool_e (shB_no (by unfold shP; omega))
                          · simp only [decide_eq_true_eq, decide_eq_false_iff_not] at hh12
                            conv => whnf
                            refine ⟨fun hh13 => ?_, fun hh13 => ?_⟩
                            · simp only [decide_eq_true_eq, decide_eq_false_iff_not] at hh13
                              conv => whnf
                              exact bool_e (shB_no (by unfold shP; omega))
                            · simp only [decide_eq_true_eq, decide_eq_false_iff_not] at hh13
                              conv => whnf
                              have hp : shP q x y m n a b := (by unfold shP; omega)
                              obtain ⟨e1, e2, e3⟩ := sh_raw hp
                              exact bool_e (by rw [e1, e2, e3, shB, decide_eq_true hp, Bool.true_and, absG])
theorem sharesT_s (q x y m n a b : Int) : PSpec Try.prog 21 [.int .i64 q, .int .i64 y, .int .i64 x, .int .i64 n, .int .i64 m, .int .i64 b, .int .i64 a] (· = .bool (shB q x y m n a b)) := by
  rw [sh_swap]; exact shares_s _ _ _ _ _ _ _
theorem boundShares_s (ls : List Int) (q wa wb ma mb a b : Int) :
    PSpec Try.prog 5 [.rs 1 (nums ls), .int .i64 q, .int .i64 wa, .int .i64 wb, .int .i64 ma, .int .i64 mb, .int .i64 a, .int .i64 b] TrueS := by
  refine .of_code' tab_ok Try.func5 (by rfl) rfl trivial ?_
  conv => whnf
  refine CallG.of_code tab_ok Try.func12 (by rfl) rfl ?_
  conv => whnf
  refine LoopG.inv tab_ok 117 (fun i : { i : Nat // i ≤ 8 } => [(1, .int .i64 q), (2, .int .i64 wa), (3, .int .i64 wb), (4, .int .i64 ma), (5, .int .i64 mb), (6, .int .i64 a), (7, .int .i64 b), (16, .ff), (17, .ptr 0 0), (18, .int .i64 (i.1 : Int))])
    (fun i => [chs ls (7 * (i.1 : Int))]) (fun i => 8 - i.1) ⟨0, by decide⟩ (.of [some 0] (by rfl) ?_) ?_
  · conv => whnf
    refine ⟨by rfl, ?_⟩
    conv => whnf
    refine ⟨by rfl, ?_⟩
    conv => whnf
    refine ⟨by rfl, ?_⟩
    conv => whnf
    refine ⟨by rfl, ?_⟩
    conv => whnf
    refine ⟨by rfl, ?_⟩
    conv => whnf
    refine ⟨by rfl, ?_⟩
    conv => whnf
    refine ⟨by rfl, ?_⟩
    conv => whnf
    refine ⟨by rfl, ?_⟩
    conv => whnf
    refine ⟨by rfl, ?_⟩
    conv => whnf
    refine ⟨by rfl, ?_⟩
    conv => whnf
    exact trivial
  · intro i
    have hi := i.2
    conv => whnf
    refine ⟨fun hb => ?_, fun hb => ?_⟩
    · have hb : (i.1 : Int) < 8 := by simpa using hb
      conv => whnf
      refine DrawG.of mixed tab_ok ?_
      conv => whnf
      refine (next_s _ _ _ (by first | omega | assumption | decide | simp) (by first | omega | assumption | decide | simp) (by first | omega | assumption | decide | simp)).calld [0] (by decide) rfl (And.intro rfl trivial) (And.intro rfl trivial) ?_
      conv => whnf
      refine ⟨by exact ⟨nxt_lo _ _ _, nxt_hi _ _ _ (by omega)⟩, ?_⟩
      conv => whnf
      refine ⟨_, lit_get (l := [0, 256, 512, 513, 1099511627776, 1099511627777, -1]) (nxt_lo _ _ _) (nxt_hi _ _ _ (by decide)), ?_⟩
      conv => whnf
      refine (next_s _ _ _ (by first | omega | assumption | decide | simp) (by first | omega | assumption | decide | simp) (by first | omega | assumption | decide | simp)).calld [0] (by decide) rfl (And.intro rfl trivial) (And.intro rfl trivial) ?_
      conv => whnf
      refine ⟨by exact ⟨nxt_lo _ _ _, nxt_hi _ _ _ (by omega)⟩, ?_⟩
      conv => whnf
      refine ⟨_, lit_get (l := [0, 1, 256, 600, 1099511627776]) (nxt_lo _ _ _) (nxt_hi _ _ _ (by decide)), ?_⟩
      conv => whnf
      refine ⟨by kernel_rfl, ?_⟩
      conv => whnf
      refine DrawG.of mixed tab_ok ?_
      conv => whnf
      refine (next_s _ _ _ (by first | omega | assumption | decide | simp) (by first | omega | assumption | decide | simp) (by first | omega | assumption | decide | simp)).calld [0] (by decide) rfl (And.intro rfl trivial) (And.intro rfl trivial) ?_
      conv => whnf
      refine ⟨by exact ⟨nxt_lo _ _ _, nxt_hi _ _ _ (by omega)⟩, ?_⟩
      conv => whnf
      refine ⟨_, lit_get (l := [0, 100, 1048576, 1048577, -1]) (nxt_lo _ _ _) (nxt_hi _ _ _ (by decide)), ?_⟩
      conv => whnf
      refine (next_s _ _ _ (by first | omega | assumption | decide | simp) (by first | omega | assumption | decide | simp) (by first | omega | assumption | decide | simp)).calld [0] (by decide) rfl (And.intro rfl trivial) (And.intro rfl trivial) ?_
      conv => whnf
      refine ⟨by exact ⟨nxt_lo _ _ _, nxt_hi _ _ _ (by omega)⟩, ?_⟩
      conv => whnf
      refine ⟨_, lit_get (l := [0, 1, 1048576]) (nxt_lo _ _ _) (nxt_hi _ _ _ (by decide)), ?_⟩
      conv => whnf
      refine ⟨by kernel_rfl, ?_⟩
      conv => whnf
      refine DrawG.of mixed tab_ok ?_
      conv => whnf
      refine (next_s _ _ _ (by first | omega | assumption | decide | simp) (by first | omega | assumption | decide | simp) (by first | omega | assumption | decide | simp)).calld [0] (by decide) rfl (And.intro rfl trivial) (And.intro rfl trivial) ?_
      conv => whnf
      refine ⟨by exact ⟨nxt_lo _ _ _, nxt_hi _ _ _ (by omega)⟩, ?_⟩
      conv => whnf
      refine ⟨_, lit_get (l := [256, 255, 1048576, 1048577]) (nxt_lo _ _ _) (nxt_hi _ _ _ (by decide)), ?_⟩
      conv => whnf
      refine (next_s _ _ _ (by first | omega | assumption | decide | simp) (by first | omega | assumption | decide | simp) (by first | omega | assumption | decide | simp)).calld [0] (by decide) rfl (And.intro rfl trivial) (And.intro rfl trivial) ?_
      conv => whnf
      refine (weight_s _ _ (by first | omega | assumption | decide | simp) (by first | omega | assumption | decide | simp)).calld [0] (by decide) rfl trivial (And.intro rfl trivial) ?_
      conv => whnf
      refine ⟨by kernel_rfl, ?_⟩
      conv => whnf
      refine (shares_s _ _ _ _ _ _ _).call ?_
      rintro _ rfl
      conv => whnf
      refine (rshares_s _ _ _ _ _ _ _).call ?_
      rintro _ rfl
      conv => whnf
      refine both_f (by simp) ?_
      conv => whnf
      refine (shares_s _ _ _ _ _ _ _).call ?_
      rintro _ rfl
      conv => whnf
      refine (shares_s _ _ _ _ _ _ _).call ?_
      rintro _ rfl
      conv => whnf
      refine both_f (by rw [← sh_swap]; simp) ?_
      conv => whnf
      refine ⟨⟨i.1 + 1, by omega⟩, by show 8 - (i.1 + 1) < 8 - i.1; omega, .of [some 0] (by rfl) ?_⟩
      conv => whnf
      refine ⟨by rfl, ?_⟩
      conv => whnf
      refine ⟨by rfl, ?_⟩
      conv => whnf
      refine ⟨by rfl, ?_⟩
      conv => whnf
      refine ⟨by rfl, ?_⟩
      conv => whnf
      refine ⟨by rfl, ?_⟩
      conv => whnf
      refine ⟨by rfl, ?_⟩
      conv => whnf
      refine ⟨by rfl, ?_⟩
      conv => whnf
      refine ⟨by exact (w64 _ (by omega) (by omega)).trans (by simp), ?_⟩
      conv => whnf
      refine ⟨by rfl, ?_⟩
      conv => whnf
      refine ⟨by rfl, ?_⟩
      conv => whnf
      exact trivial
    · conv => whnf
      refine .same ?_
      conv => whnf
      refine (shares_s _ _ _ _ _ _ _).call ?_
      rintro _ rfl
      conv => whnf
      refine (rshares_s _ _ _ _ _ _ _).call ?_
      rintro _ rfl
      conv => whnf
      refine both_t (by simp) ?_
      conv => whnf
      refine (awake26_s).call ?_
      rintro _ rfl
      conv => whnf
end Go.Proofs.Ythlomoacacebeae

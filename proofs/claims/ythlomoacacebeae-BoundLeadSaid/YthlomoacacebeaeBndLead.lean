/- The statement BoundLead as a contract. -/
import Derived.Test.YthlomoacacebeaeBndKeep
import Derived.Test.YthlomoacacebeaeWideCmp
namespace Go.Proofs.Ythlomoacacebeae
open Go.Sx
set_option linter.unusedSimpArgs false
set_option linter.unusedVariables false
def ldP (a b r l m : Int) : Prop := alpOk a b = true ∧ (0 ≤ r ∧ r ≤ 4611686018427387904) ∧ (0 ≤ l ∧ l ≤ 4611686018427387904) ∧ 0 ≤ m ∧ m ≤ 4096
instance (a b r l m : Int) : Decidable (ldP a b r l m) := by unfold ldP; infer_instance
def ldB (a b r l m : Int) : Bool := decide (ldP a b r l m) && decide (0 ≤ cmp2 ((l + m) * b) (a * r))
theorem ldB_no {a b r l m : Int} (h : ¬ ldP a b r l m) : false = ldB a b r l m := by simp [ldB, h]
theorem wu (n : Int) (h0 : 0 ≤ n) (h1 : n < 18446744073709551616) : IntKind.u64.wrap n = n := by rw [IntKind.wrap_u64]; omega
theorem lead_s (a b r l m : Int) : PSpec Try.prog 23 [alpE a b, .int .i64 r, .int .i64 l, .int .i64 m] (· = .bool (ldB a b r l m)) := by
  refine .of_code' tab_ok Try.func23 (by rfl) rfl trivial ?_
  by_cases hp : ldP a b r l m
  · obtain ⟨h1, h2, h3, h4⟩ := id hp
    have h5 := (alpOk_iff a b).1 h1
    have hB : ldB a b r l m = decide (0 ≤ cmp2 ((l + m) * b) (a * r)) := by rw [ldB, decide_eq_true hp, Bool.true_and]
    conv => whnf
    refine (validAlpha_s _ _).call ?_
    rintro _ rfl
    conv => whnf
    refine both_t (by simp [*]) ?_
    conv => whnf
    refine both_t (by simp; omega) ?_
    conv => whnf
    refine both_t (by simp; omega) ?_
    conv => whnf
    refine both_t (by simp; omega) ?_
    conv => whnf
    refine both_t (by simp; omega) ?_
    conv => whnf
    refine both_t (by simp; omega) ?_
    conv => whnf
    refine both_t (by simp; omega) ?_
    conv => whnf
    rw [wu l (by omega) (by omega), wu m (by omega) (by omega), wu (l + m) (by omega) (by omega), wu b (by omega) (by omega), wu a (by omega) (by omega), wu r (by omega) (by omega)]
    refine (wcross_s (l + m) b a r (by omega) (by omega) (by omega) (by omega)).call ?_
    rintro _ rfl
    conv => whnf
    exact bool_e hB.symm
  · conv => whnf
    refine (validAlpha_s _ _).call ?_
    rintro _ rfl
    conv => whnf
    refine ⟨fun hh10 => ?_, fun hh10 => ?_⟩
    · skip
      conv => whnf
      refine ⟨fun hh11 => ?_, fun hh11 => ?_⟩
      · simp only [decide_eq_true_eq, decide_eq_false_iff_not] at hh11
        conv => whnf
        refine ⟨fun hh12 => ?_, fun hh12 => ?_⟩
        · simp only [decide_eq_true_eq, decide_eq_false_iff_not] at hh12
          conv => whnf
          refine ⟨fun hh13 => ?_, fun hh13 => ?_⟩
          · simp only [decide_eq_true_eq, decide_eq_false_iff_not] at hh13
            conv => whnf
            refine ⟨fun hh14 => ?_, fun hh14 => ?_⟩
            · simp only [decide_eq_true_eq, decide_eq_false_iff_not] at hh14
              conv => whnf
              refine ⟨fun hh15 => ?_, fun hh15 => ?_⟩
              · simp only [decide_eq_true_eq, decide_eq_false_iff_not] at hh15
                conv => whnf
                refine ⟨fun hh16 => ?_, fun hh16 => ?_⟩
                · simp only [decide_eq_true_eq, decide_eq_false_iff_not] at hh16
                  conv => whnf
                  exact (hp ⟨by first | assumption | simp_all, by omega, by omega, by omega⟩).elim
                · simp only [decide_eq_true_eq, decide_eq_false_iff_not] at hh16
                  conv => whnf
                  exact bool_e (ldB_no hp)
              · simp only [decide_eq_true_eq, decide_eq_false_iff_not] at hh15
                conv => whnf
                exact bool_e (ldB_no hp)
            · simp only [decide_eq_true_eq, decide_eq_false_iff_not] at hh14
              conv => whnf
              exact bool_e (ldB_no hp)
          · simp only [decide_eq_true_eq, decide_eq_false_iff_not] at hh13
            conv => whnf
            exact bool_e (ldB_no hp)
        · simp only [decide_eq_true_eq, decide_eq_false_iff_not] at hh12
          conv => whnf
          exact bool_e (ldB_no hp)
      · simp only [decide_eq_true_eq, decide_eq_false_iff_not] at hh11
        conv => whnf
        exact bool_e (ldB_no hp)
    · skip
      conv => whnf
      exact bool_e (ldB_no hp)
theorem rlead_s (a b r l m : Int) : PSpec Try.prog 24 [alpE a b, .int .i64 r, .int .i64 l, .int .i64 m] (· = .bool (ldB a b r l m)) := by
  refine .of_code' tab_ok Try.func24 (by rfl) rfl trivial ?_
  by_cases hp : ldP a b r l m
  · obtain ⟨h1, h2, h3, h4⟩ := id hp
    have h5 := (alpOk_iff a b).1 h1
    have hB : ldB a b r l m = decide (0 ≤ cmp2 ((l + m) * b) (a * r)) := by rw [ldB, decide_eq_true hp, Bool.true_and]
    conv => whnf
    refine (rvalidAlpha_s _ _).call ?_
    rintro _ rfl
    conv => whnf
    refine both_f (by simp; omega) ?_
    conv => whnf
    refine both_f (by simp; omega) ?_
    conv => whnf
    refine both_f (by simp; omega) ?_
    conv => whnf
    refine both_f (by simp; omega) ?_
    conv => whnf
    refine both_f (by simp; omega) ?_
    conv => whnf
    refine both_f (by simp; omega) ?_
    conv => whnf
    refine both_f (by simp; omega) ?_
    conv => whnf
    rw [w64 (l + m) (by omega) (by omega), wu (l + m) (by omega) (by omega), wu b (by omega) (by omega), wu a (by omega) (by omega), wu r (by omega) (by omega)]
    refine (rcross_s (l + m) b a r (by omega) (by omega) (by omega) (by omega)).call ?_
    rintro _ rfl
    conv => whnf
    exact bool_e hB.symm
  · conv => whnf
    refine (rvalidAlpha_s _ _).call ?_
    rintro _ rfl
    conv => whnf
    refine ⟨fun hh10 => ?_, fun hh10 => ?_⟩
    · simp only [decide_eq_true_eq, decide_eq_false_iff_not, Bool.not_eq_true, Bool.not_eq_false, Bool.not_eq_true', Bool.not_eq_false', Bool.and_eq_true, Bool.and_eq_false_iff, Int.not_lt, Int.not_le, Decidable.not_not, beq_iff_eq, Bool.not_eq_eq_eq_not, Bool.not_true, Bool.not_false, beq_eq_false_iff_ne, ne_eq, decide_eq_decide] at hh10
      conv => whnf
      exact bool_e (ldB_no hp)
    · simp only [decide_eq_true_eq, decide_eq_false_iff_not, Bool.not_eq_true, Bool.not_eq_false, Bool.not_eq_true', Bool.not_eq_false', Bool.and_eq_true, Bool.and_eq_false_iff, Int.not_lt, Int.not_le, Decidable.not_not, beq_iff_eq, Bool.not_eq_eq_eq_not, Bool.not_true, Bool.not_false, beq_eq_false_iff_ne, ne_eq, decide_eq_decide] at hh10
      conv => whnf
      refine ⟨fun hh11 => ?_, fun hh11 => ?_⟩
      · simp only [decide_eq_true_eq, decide_eq_false_iff_not] at hh11
        conv => whnf
        exact bool_e (ldB_no hp)
      · simp only [decide_eq_true_eq, decide_eq_false_iff_not] at hh11
        conv => whnf
        refine ⟨fun hh12 => ?_, fun hh12 => ?_⟩
        · simp only [decide_eq_true_eq, decide_eq_false_iff_not] at hh12
          conv => whnf
          exact bool_e (ldB_no hp)
        · simp only [decide_eq_true_eq, decide_eq_false_iff_not] at hh12
          conv => whnf
          refine ⟨fun hh13 => ?_, fun hh13 => ?_⟩
          · simp only [decide_eq_true_eq, decide_eq_false_iff_not] at hh13
            conv => whnf
            exact bool_e (ldB_no hp)
          · simp only [decide_eq_true_eq, decide_eq_false_iff_not] at hh13
            conv => whnf
            refine ⟨fun hh14 => ?_, fun hh14 => ?_⟩
            · simp only [decide_eq_true_eq, decide_eq_false_iff_not] at hh14
              conv => whnf
              exact bool_e (ldB_no hp)
            · simp only [decide_eq_true_eq, decide_eq_false_iff_not] at hh14
              conv => whnf
              refine ⟨fun hh15 => ?_, fun hh15 => ?_⟩
              · simp only [decide_eq_true_eq, decide_eq_false_iff_not] at hh15
                conv => whnf
                exact bool_e (ldB_no hp)
              · simp only [decide_eq_true_eq, decide_eq_false_iff_not] at hh15
                conv => whnf
                refine ⟨fun hh16 => ?_, fun hh16 => ?_⟩
                · simp only [decide_eq_true_eq, decide_eq_false_iff_not] at hh16
                  conv => whnf
                  exact bool_e (ldB_no hp)
                · simp only [decide_eq_true_eq, decide_eq_false_iff_not] at hh16
                  conv => whnf
                  exact (hp ⟨by first | assumption | simp_all, by omega, by omega, by omega⟩).elim
theorem boundLead_s (ls : List Int) (s : Int × Int) (c r m : Int) :
    PSpec Try.prog 6 [.rs 1 (nums ls), alpE s.1 s.2, .int .i64 c, .int .i64 r, .int .i64 m] TrueS := by
  refine .of_code' tab_ok Try.func6 (by rfl) rfl trivial ?_
  conv => whnf
  refine CallG.of_code tab_ok Try.func12 (by rfl) rfl ?_
  conv => whnf
  refine LoopG.inv tab_ok 78 (fun i : { i : Nat // i ≤ 8 } => [(2, .int .i64 c), (3, .int .i64 r), (4, .int .i64 m), (6, .ptr 0 0), (10, .ff), (11, .ptr 1 0), (12, .int .i64 (i.1 : Int))])
    (fun i => [.fix 24 [.int .i64 s.1, .int .i64 s.2], chs ls (4 * (i.1 : Int))]) (fun i => 8 - i.1) ⟨0, by decide⟩ (.of [some 0, some 1] (by rfl) ?_) ?_
  · conv => whnf
    refine ⟨by rfl, ?_⟩
    conv => whnf
    refine ⟨by rfl, ?_⟩
    conv => whnf
    refine ⟨by rfl, ?_⟩
    conv => whnf
    refine ⟨by rfl, ?_⟩
    conv => whnf
    refine ⟨by rfl, ?_⟩
    conv => whnf
    refine ⟨by rfl, ?_⟩
    conv => whnf
    refine ⟨by rfl, ?_⟩
    conv => whnf
    refine ⟨by rfl, ?_⟩
    conv => whnf
    exact trivial
  · intro i
    have hi := i.2
    conv => whnf
    refine ⟨fun hb => ?_, fun hb => ?_⟩
    · have hb : (i.1 : Int) < 8 := by simpa using hb
      conv => whnf
      refine DrawG.of mixed tab_ok ?_
      conv => whnf
      refine (next_s _ _ _ (by first | omega | assumption | decide | simp) (by first | omega | assumption | decide | simp) (by first | omega | assumption | decide | simp)).calld [1] (by decide) rfl (And.intro rfl trivial) (And.intro rfl trivial) ?_
      conv => whnf
      refine ⟨by exact ⟨nxt_lo _ _ _, nxt_hi _ _ _ (by omega)⟩, ?_⟩
      conv => whnf
      refine ⟨_, lit_get (l := [0, 100, 4611686018427387904, 4611686018427387905, -1, 4096]) (nxt_lo _ _ _) (nxt_hi _ _ _ (by decide)), ?_⟩
      conv => whnf
      refine (next_s _ _ _ (by first | omega | assumption | decide | simp) (by first | omega | assumption | decide | simp) (by first | omega | assumption | decide | simp)).calld [1] (by decide) rfl (And.intro rfl trivial) (And.intro rfl trivial) ?_
      conv => whnf
      refine ⟨by exact ⟨nxt_lo _ _ _, nxt_hi _ _ _ (by omega)⟩, ?_⟩
      conv => whnf
      refine ⟨_, lit_get (l := [0, 50, 49, 4611686018427387904, -1, 2305843009213693952]) (nxt_lo _ _ _) (nxt_hi _ _ _ (by decide)), ?_⟩
      conv => whnf
      refine ⟨by kernel_rfl, ?_⟩
      conv => whnf
      refine (next_s _ _ _ (by first | omega | assumption | decide | simp) (by first | omega | assumption | decide | simp) (by first | omega | assumption | decide | simp)).call [1] (by decide) (And.intro rfl trivial) (And.intro rfl trivial) ?_
      rintro _ _ ⟨rfl, rfl⟩
      conv => whnf
      refine ⟨by exact ⟨nxt_lo _ _ _, nxt_hi _ _ _ (by omega)⟩, ?_⟩
      conv => whnf
      refine ⟨_, lit_get (l := [0, 1, 4096, 4097, -1]) (nxt_lo _ _ _) (nxt_hi _ _ _ (by decide)), ?_⟩
      conv => whnf
      refine (alpha_s _ _ (by first | omega | assumption | decide | simp) (by first | omega | assumption | decide | simp)).call [1] (by decide) trivial (And.intro rfl trivial) ?_
      rintro _ _ ⟨rfl, rfl⟩
      conv => whnf
      refine DrawG.of mixed tab_ok ?_
      conv => whnf
      refine (lead_s _ _ _ _ _).calld ?_
      conv => whnf
      refine (rlead_s _ _ _ _ _).calld ?_
      conv => whnf
      refine both_f (by simp) ?_
      conv => whnf
      refine (lead_s _ _ _ _ _).calld ?_
      conv => whnf
      refine (rlead_s _ _ _ _ _).calld ?_
      conv => whnf
      refine ⟨by kernel_rfl, ?_⟩
      conv => whnf
      refine both_f (by simp) ?_
      conv => whnf
      refine ⟨⟨i.1 + 1, by omega⟩, by show 8 - (i.1 + 1) < 8 - i.1; omega, .of [some 0, some 1] (by rfl) ?_⟩
      conv => whnf
      refine ⟨by rfl, ?_⟩
      conv => whnf
      refine ⟨by rfl, ?_⟩
      conv => whnf
      refine ⟨by rfl, ?_⟩
      conv => whnf
      refine ⟨by exact (w64 _ (by omega) (by omega)).trans (by simp), ?_⟩
      conv => whnf
      refine ⟨by rfl, ?_⟩
      conv => whnf
      refine ⟨by rfl, ?_⟩
      conv => whnf
      refine ⟨by rfl, ?_⟩
      conv => whnf
      refine ⟨by rfl, ?_⟩
      conv => whnf
      exact trivial
    · conv => whnf
      refine .same ?_
      conv => whnf
      refine DrawG.of mixed tab_ok ?_
      conv => whnf
      refine (lead_s _ _ _ _ _).calld ?_
      conv => whnf
      refine (rlead_s _ _ _ _ _).calld ?_
      conv => whnf
      refine both_t (by simp) ?_
      conv => whnf
      refine (awake26_s).calld ?_
      conv => whnf
      refine ⟨by kernel_rfl, ?_⟩
      conv => whnf
end Go.Proofs.Ythlomoacacebeae

/- Contracts of the reference of package tags. No statement of the seat is proved here. -/
import Derived.Test.YthlomoacacebeabRebase
import Derived.Test.YthlomoacacebeabFixedSums
namespace Go.Proofs.Ythlomoacacebeab
open Go.Sx
set_option linter.unusedSimpArgs false
set_option linter.unusedVariables false
theorem goodWeight_s (w : Int) : PSpec Try.prog 66 [.int .i64 w] (· = .bool (wty w)) := by
  refine .of_code' tab_ok Try.func66 (by rfl) rfl trivial ?_
  conv => whnf
  refine ⟨fun hh0 => ?_, fun hh0 => ?_⟩
  · simp only [decide_eq_true_eq, decide_eq_false_iff_not] at hh0
    conv => whnf
    simp [wty, *]
  · simp only [decide_eq_true_eq, decide_eq_false_iff_not] at hh0
    conv => whnf
    simp [wty, *]
theorem rcost_s (l w : Int) : PSpec Try.prog 62 [.int .i64 l, .int .i64 w] (· = .tup [.int .i64 (cov l w), .int .i64 (coe l w)]) := by
  refine .of_code' tab_ok Try.func62 (by rfl) rfl trivial ?_
  by_cases hw : wty w = true
  · have hr := (wty_iff w).1 hw
    obtain ⟨u0, u1, u2⟩ := unit_rng hr
    have e1 : 1 ≤ l → l ≤ 4096 → IntKind.i64.wrap (l * IntKind.i64.wrap (Int.tdiv 720720 w)) = cov l w ∧ coe l w = 0 := by
      intro h1 h2
      have hc := cov_rng l w
      have e : cov l w = l * unit w := by unfold cov; rw [if_pos ⟨h1, h2, hw⟩]
      rw [e] at hc
      rw [u0, w64 (unit w) (by omega) (by omega), w64 _ (by omega) (by omega), e]
      exact ⟨rfl, by unfold coe; rw [if_pos ⟨h1, h2, hw⟩]⟩
    have e2 : ¬ (1 ≤ l ∧ l ≤ 4096) → cov l w = 0 ∧ coe l w = 1 := by
      intro h; unfold cov coe; rw [if_neg (by omega), if_neg (by omega)]; exact ⟨rfl, rfl⟩
    conv => whnf
    refine ⟨fun hh0 => ?_, fun hh0 => ?_⟩
    · simp only [decide_eq_true_eq, decide_eq_false_iff_not] at hh0
      conv => whnf
      (rw [(e2 (by omega)).1, (e2 (by omega)).2])
    · simp only [decide_eq_true_eq, decide_eq_false_iff_not] at hh0
      conv => whnf
      refine ⟨fun hh1 => ?_, fun hh1 => ?_⟩
      · simp only [decide_eq_true_eq, decide_eq_false_iff_not] at hh1
        conv => whnf
        (rw [(e2 (by omega)).1, (e2 (by omega)).2])
      · simp only [decide_eq_true_eq, decide_eq_false_iff_not] at hh1
        conv => whnf
        refine (goodWeight_s _).call ?_
        rintro _ rfl
        conv => whnf
        refine both_f (by simp; omega) ?_
        conv => whnf
        refine ⟨by omega, ?_⟩
        conv => whnf
        (rw [(e1 (by omega) (by omega)).1, (e1 (by omega) (by omega)).2])
  · have e2 : cov l w = 0 ∧ coe l w = 1 := by
      unfold cov coe; rw [if_neg (by simp [hw]), if_neg (by simp [hw])]; exact ⟨rfl, rfl⟩
    conv => whnf
    refine ⟨fun hh0 => ?_, fun hh0 => ?_⟩
    · simp only [decide_eq_true_eq, decide_eq_false_iff_not] at hh0
      conv => whnf
      (rw [e2.1, e2.2])
    · simp only [decide_eq_true_eq, decide_eq_false_iff_not] at hh0
      conv => whnf
      refine ⟨fun hh1 => ?_, fun hh1 => ?_⟩
      · simp only [decide_eq_true_eq, decide_eq_false_iff_not] at hh1
        conv => whnf
        (rw [e2.1, e2.2])
      · simp only [decide_eq_true_eq, decide_eq_false_iff_not] at hh1
        conv => whnf
        refine (goodWeight_s _).call ?_
        rintro _ rfl
        conv => whnf
        refine both_t (by simp [*]) ?_
        conv => whnf
        (rw [e2.1, e2.2])
theorem rnormalized_s (b w : Int) : PSpec Try.prog 60 [.int .i64 b, .int .i64 w] (· = .tup [.int .i64 (nov b w), .int .i64 (noe b w)]) := by
  refine .of_code' tab_ok Try.func60 (by rfl) rfl trivial ?_
  by_cases hw : wty w = true
  · have hr := (wty_iff w).1 hw
    obtain ⟨u0, u1, u2⟩ := unit_rng hr
    have e1 : -1099511627776 ≤ b → b ≤ 1099511627776 → IntKind.i64.wrap (b * IntKind.i64.wrap (Int.tdiv 720720 w)) = nov b w ∧ noe b w = 0 := by
      intro h1 h2
      have hc := nov_rng b w
      have e : nov b w = b * unit w := by unfold nov; rw [if_pos ⟨h1, h2, hw⟩]
      rw [e] at hc
      rw [u0, w64 (unit w) (by omega) (by omega), w64 _ (by omega) (by omega), e]
      exact ⟨rfl, by unfold noe; rw [if_pos ⟨h1, h2, hw⟩]⟩
    have e2 : ¬ (-1099511627776 ≤ b ∧ b ≤ 1099511627776) → nov b w = 0 ∧ noe b w = 1 := by
      intro h; unfold nov noe; rw [if_neg (by omega), if_neg (by omega)]; exact ⟨rfl, rfl⟩
    conv => whnf
    refine ⟨fun hh0 => ?_, fun hh0 => ?_⟩
    · simp only [decide_eq_true_eq, decide_eq_false_iff_not] at hh0
      conv => whnf
      (rw [(e2 (by omega)).1, (e2 (by omega)).2])
    · simp only [decide_eq_true_eq, decide_eq_false_iff_not] at hh0
      conv => whnf
      refine ⟨fun hh1 => ?_, fun hh1 => ?_⟩
      · simp only [decide_eq_true_eq, decide_eq_false_iff_not] at hh1
        conv => whnf
        (rw [(e2 (by omega)).1, (e2 (by omega)).2])
      · simp only [decide_eq_true_eq, decide_eq_false_iff_not] at hh1
        conv => whnf
        refine (goodWeight_s _).call ?_
        rintro _ rfl
        conv => whnf
        refine both_f (by simp; omega) ?_
        conv => whnf
        refine ⟨by omega, ?_⟩
        conv => whnf
        (rw [(e1 (by omega) (by omega)).1, (e1 (by omega) (by omega)).2])
  · have e2 : nov b w = 0 ∧ noe b w = 1 := by
      unfold nov noe; rw [if_neg (by simp [hw]), if_neg (by simp [hw])]; exact ⟨rfl, rfl⟩
    conv => whnf
    refine ⟨fun hh0 => ?_, fun hh0 => ?_⟩
    · simp only [decide_eq_true_eq, decide_eq_false_iff_not] at hh0
      conv => whnf
      (rw [e2.1, e2.2])
    · simp only [decide_eq_true_eq, decide_eq_false_iff_not] at hh0
      conv => whnf
      refine ⟨fun hh1 => ?_, fun hh1 => ?_⟩
      · simp only [decide_eq_true_eq, decide_eq_false_iff_not] at hh1
        conv => whnf
        (rw [e2.1, e2.2])
      · simp only [decide_eq_true_eq, decide_eq_false_iff_not] at hh1
        conv => whnf
        refine (goodWeight_s _).call ?_
        rintro _ rfl
        conv => whnf
        refine both_t (by simp [*]) ?_
        conv => whnf
        (rw [e2.1, e2.2])
def fie (s l w : Int) : Int := if coe l w ≠ 0 ∨ s < 0 ∨ 1099511627776 < s then 1 else if 1099511627776 < s + cov l w then 2 else 0
def fiv (s l w : Int) : Int := if fie s l w = 0 then s + cov l w else 0
theorem finish_s (s l w : Int) (h0 : -9223372036854775808 ≤ s) (h1 : s ≤ 9223372036854775807) : PSpec Try.prog 63 [.int .i64 s, .int .i64 l, .int .i64 w] (· = .tup [.int .i64 (fiv s l w), .int .i64 (fie s l w)]) := by
  refine .of_code' tab_ok Try.func63 (by rfl) rfl trivial ?_
  have hc := cov_rng l w
  have e : 0 ≤ s → s ≤ 1099511627776 → fv (s + cov l w) = s + cov l w := fun _ _ => by rw [fv, if_pos (by omega)]
  conv => whnf
  refine (cost_s _ _).call ?_
  rintro _ rfl
  conv => whnf
  refine ⟨fun hh10 => ?_, fun hh10 => ?_⟩
  · simp only [decide_eq_true_eq, decide_eq_false_iff_not] at hh10
    conv => whnf
    (refine tup_ii ?_ ?_ <;> (simp only [fiv, fie]; (repeat' split) <;> omega))
  · simp only [decide_eq_true_eq, decide_eq_false_iff_not] at hh10
    conv => whnf
    refine ⟨fun hh11 => ?_, fun hh11 => ?_⟩
    · simp only [decide_eq_true_eq, decide_eq_false_iff_not] at hh11
      conv => whnf
      (refine tup_ii ?_ ?_ <;> (simp only [fiv, fie]; (repeat' split) <;> omega))
    · simp only [decide_eq_true_eq, decide_eq_false_iff_not] at hh11
      conv => whnf
      refine ⟨fun hh12 => ?_, fun hh12 => ?_⟩
      · simp only [decide_eq_true_eq, decide_eq_false_iff_not] at hh12
        conv => whnf
        (refine tup_ii ?_ ?_ <;> (simp only [fiv, fie]; (repeat' split) <;> omega))
      · simp only [decide_eq_true_eq, decide_eq_false_iff_not] at hh12
        conv => whnf
        refine (fadd_s _ _ (by first | omega | exact ⟨by omega, by omega⟩ | assumption | decide | simp) (by first | omega | exact ⟨by omega, by omega⟩ | assumption | decide | simp)).call ?_
        rintro _ rfl
        conv => whnf
        refine ⟨fun hh23 => ?_, fun hh23 => ?_⟩
        · simp only [decide_eq_true_eq, decide_eq_false_iff_not] at hh23
          conv => whnf
          (refine tup_ii ?_ ?_ <;> (simp only [fiv, fie]; (repeat' split) <;> omega))
        · simp only [decide_eq_true_eq, decide_eq_false_iff_not] at hh23
          conv => whnf
          (refine tup_ii ?_ ?_ <;> (simp only [fiv, fie]; (repeat' split) <;> omega))
theorem rfinish_s (s l w : Int) (h0 : -9223372036854775808 ≤ s) (h1 : s ≤ 9223372036854775807) : PSpec Try.prog 64 [.int .i64 s, .int .i64 l, .int .i64 w] (· = .tup [.int .i64 (fiv s l w), .int .i64 (fie s l w)]) := by
  refine .of_code' tab_ok Try.func64 (by rfl) rfl trivial ?_
  have hc := cov_rng l w
  have e : 0 ≤ s → s ≤ 1099511627776 → IntKind.i64.wrap (s + cov l w) = s + cov l w := fun _ _ => w64 _ (by omega) (by omega)
  conv => whnf
  refine (rcost_s _ _).call ?_
  rintro _ rfl
  conv => whnf
  refine ⟨fun hh10 => ?_, fun hh10 => ?_⟩
  · simp only [decide_eq_true_eq, decide_eq_false_iff_not] at hh10
    conv => whnf
    (refine tup_ii ?_ ?_ <;> (simp only [fiv, fie]; (repeat' split) <;> omega))
  · simp only [decide_eq_true_eq, decide_eq_false_iff_not] at hh10
    conv => whnf
    refine ⟨fun hh11 => ?_, fun hh11 => ?_⟩
    · simp only [decide_eq_true_eq, decide_eq_false_iff_not] at hh11
      conv => whnf
      (refine tup_ii ?_ ?_ <;> (simp only [fiv, fie]; (repeat' split) <;> omega))
    · simp only [decide_eq_true_eq, decide_eq_false_iff_not] at hh11
      conv => whnf
      refine ⟨fun hh12 => ?_, fun hh12 => ?_⟩
      · simp only [decide_eq_true_eq, decide_eq_false_iff_not] at hh12
        conv => whnf
        (refine tup_ii ?_ ?_ <;> (simp only [fiv, fie]; (repeat' split) <;> omega))
      · simp only [decide_eq_true_eq, decide_eq_false_iff_not] at hh12
        conv => whnf
        refine ⟨fun hh13 => ?_, fun hh13 => ?_⟩
        · simp only [decide_eq_true_eq, decide_eq_false_iff_not] at hh13
          conv => whnf
          (refine tup_ii ?_ ?_ <;> (simp only [fiv, fie]; (repeat' split) <;> omega))
        · simp only [decide_eq_true_eq, decide_eq_false_iff_not] at hh13
          conv => whnf
          (refine tup_ii ?_ ?_ <;> (simp only [fiv, fie]; (repeat' split) <;> omega))
theorem tg_get {ts : List Tg} {i : Nat} (h : i < ts.length) : (ts.map tagE)[((i : Int)).toNat]? = some [.int .i64 (getT ts i).f, .int .i64 (getT ts i).w, .int .i64 (getT ts i).s] := by
  rw [Int.toNat_natCast, List.getElem?_map, getT_get h]; rfl
theorem prev_idx {i : Nat} (h : 0 < i) (h1 : i ≤ 4611686018427387903) : IntKind.i64.wrap ((i : Int) - 1) = ((i - 1 : Nat) : Int) := by rw [w64 _ (by omega) (by omega)]; omega
theorem tg_prev {ts : List Tg} {i : Nat} (h : 0 < i) (h1 : i ≤ ts.length) (h2 : ts.length ≤ 4611686018427387903) : (ts.map tagE)[(IntKind.i64.wrap ((i : Int) - 1)).toNat]? = some [.int .i64 (getT ts (i - 1)).f, .int .i64 (getT ts (i - 1)).w, .int .i64 (getT ts (i - 1)).s] := by
  rw [prev_idx h (by omega)]
  exact tg_get (by omega)
theorem lastOf_prev {ts : List Tg} {i : Nat} (h : 0 < i) (h1 : i ≤ ts.length) : lastOf ts i = (getT ts (i - 1)).f := by
  obtain ⟨k, rfl⟩ : ∃ k, i = k + 1 := ⟨i - 1, by omega⟩
  simp [lastOf, getT_get (show k < ts.length by omega)]
theorem lastOf_zero (ts : List Tg) : lastOf ts 0 = -1 := rfl
theorem lastOf_lo {ts : List Tg} {i : Nat} (hv : tagsOk (-1) ts = tagsOk (lastOf ts i) (ts.drop i)) (h : i < ts.length) : tagsOk (-1) ts = (tagOk (lastOf ts i) (getT ts i) && tagsOk (lastOf ts (i + 1)) (ts.drop (i + 1))) := by
  have h2 : ts[(i : Int).toNat]? = some (getT ts i) := by rw [Int.toNat_natCast]; exact getT_get h
  rw [hv, drop_at h2, tagsOk, lastOf_succ h2]
theorem rvalid_s (ts : List Tg) (hl : ts.length ≤ 4611686018427387903) : PSpec Try.prog 40 [.rs 3 (ts.map tagE)] (· = .bool (tagsOk (-1) ts)) := by
  refine .of_code' tab_ok Try.func40 (by rfl) rfl trivial ?_
  conv => whnf
  refine LoopG.inv tab_ok 67 (fun i : { i : Nat // i ≤ ts.length ∧ tagsOk (-1) ts = tagsOk (lastOf ts i) (ts.drop i) ∧ -1 ≤ lastOf ts i } => [(0, .rs 3 (ts.map tagE)), (2, .ff), (3, .int .i64 (i.1 : Int))])
    (fun _ => []) (fun i => ts.length - i.1) ⟨0, by simp [lastOf]⟩ (.of [] (by decide) ?_) ?_
  · conv => whnf
    refine ⟨by rfl, ?_⟩
    conv => whnf
    refine ⟨by rfl, ?_⟩
    conv => whnf
    exact trivial
  · intro i
    obtain ⟨hi, hv, hlo⟩ := i.2
    conv => whnf
    refine ⟨fun hb => ?_, fun hb => ?_⟩
    · have hb : i.1 < ts.length := by simpa using hb
      have hv2 := lastOf_lo hv hb
      have hz : i.1 = 0 → lastOf ts i.1 = -1 := fun h => by rw [h]; rfl
      have hp : 0 < i.1 → lastOf ts i.1 = (getT ts (i.1 - 1)).f := fun h => lastOf_prev h hi
      have hx : lastOf ts (i.1 + 1) = (getT ts i.1).f := by simp [lastOf, getT_get hb]
      have bad : tagOk (lastOf ts i.1) (getT ts i.1) = false → tagsOk (-1) ts = false := fun h => hv2.trans (by rw [h]; rfl)
      have good : tagOk (lastOf ts i.1) (getT ts i.1) = true → tagsOk (-1) ts = tagsOk (lastOf ts (i.1 + 1)) (ts.drop (i.1 + 1)) := fun h => hv2.trans (by rw [h]; rfl)
      have tf : (getT ts i.1).f ≤ lastOf ts i.1 ∨ 32 ≤ (getT ts i.1).f ∨ wty (getT ts i.1).w = false ∨ (getT ts i.1).s < 0 ∨ 1099511627776 < (getT ts i.1).s → tagOk (lastOf ts i.1) (getT ts i.1) = false := by
        intro h; simp [tagOk]; intro a b c d; rcases h with h | h | h | h | h <;> first | omega | simp_all
      have tt : lastOf ts i.1 < (getT ts i.1).f → (getT ts i.1).f < 32 → wty (getT ts i.1).w = true → 0 ≤ (getT ts i.1).s → (getT ts i.1).s ≤ 1099511627776 → tagOk (lastOf ts i.1) (getT ts i.1) = true := by
        intro a b c d e; simp [tagOk, *]
      have gp : 0 < (i.1 : Int) → _ := fun h => tg_prev (ts := ts) (i := i.1) (by omega) hi hl
      have gi : 0 < (i.1 : Int) → IntKind.i64.wrap ((i.1 : Int) - 1) = ((i.1 - 1 : Nat) : Int) := fun h => prev_idx (by omega) (by omega)
      conv => whnf
      refine DrawG.of mixed tab_ok ?_
      conv => whnf
      refine ⟨by simp; omega, ?_⟩
      conv => whnf
      refine ⟨_, tg_get hb, ?_⟩
      conv => whnf
      refine ⟨fun hh1 => ?_, fun hh1 => ?_⟩
      · simp only [decide_eq_true_eq, decide_eq_false_iff_not] at hh1
        conv => whnf
        refine ⟨by kernel_rfl, ?_⟩
        conv => whnf
        refine .same ?_
        conv => whnf
        exact bool_e (bad (tf (by omega))).symm
      · simp only [decide_eq_true_eq, decide_eq_false_iff_not] at hh1
        conv => whnf
        refine ⟨by simp; omega, ?_⟩
        conv => whnf
        refine ⟨_, tg_get hb, ?_⟩
        conv => whnf
        refine ⟨fun hh3 => ?_, fun hh3 => ?_⟩
        · simp only [decide_eq_true_eq, decide_eq_false_iff_not] at hh3
          conv => whnf
          refine ⟨by kernel_rfl, ?_⟩
          conv => whnf
          refine .same ?_
          conv => whnf
          exact bool_e (bad (tf (by omega))).symm
        · simp only [decide_eq_true_eq, decide_eq_false_iff_not] at hh3
          conv => whnf
          refine ⟨fun hh4 => ?_, fun hh4 => ?_⟩
          · simp only [decide_eq_true_eq, decide_eq_false_iff_not] at hh4
            conv => whnf
            refine ⟨by simp; omega, ?_⟩
            conv => whnf
            refine ⟨_, tg_get hb, ?_⟩
            conv => whnf
            refine ⟨by simp; omega, ?_⟩
            conv => whnf
            refine ⟨_, gp (by omega), ?_⟩
            conv => whnf
            refine ⟨fun hh7 => ?_, fun hh7 => ?_⟩
            · simp only [decide_eq_true_eq, decide_eq_false_iff_not] at hh7
              conv => whnf
              refine ⟨by kernel_rfl, ?_⟩
              conv => whnf
              refine .same ?_
              conv => whnf
              exact bool_e (bad (tf (by omega))).symm
            · simp only [decide_eq_true_eq, decide_eq_false_iff_not] at hh7
              conv => whnf
              refine ⟨by simp; omega, ?_⟩
              conv => whnf
              refine ⟨_, tg_get hb, ?_⟩
              conv => whnf
              refine (goodWeight_s _).calld ?_
              conv => whnf
              refine ⟨fun hh19 => ?_, fun hh19 => ?_⟩
              · simp only [decide_eq_true_eq, decide_eq_false_iff_not, Bool.not_eq_true, Bool.not_eq_false, Bool.not_eq_true', Bool.not_eq_false', Bool.and_eq_true, Bool.and_eq_false_iff, Int.not_lt, Int.not_le, Decidable.not_not, beq_iff_eq, Bool.not_eq_eq_eq_not, Bool.not_true, Bool.not_false, beq_eq_false_iff_ne, ne_eq, decide_eq_decide] at hh19
                conv => whnf
                refine ⟨by kernel_rfl, ?_⟩
                conv => whnf
                refine .same ?_
                conv => whnf
                exact bool_e (bad (tf (.inr (.inr (.inl (by assumption)))))).symm
              · simp only [decide_eq_true_eq, decide_eq_false_iff_not, Bool.not_eq_true, Bool.not_eq_false, Bool.not_eq_true', Bool.not_eq_false', Bool.and_eq_true, Bool.and_eq_false_iff, Int.not_lt, Int.not_le, Decidable.not_not, beq_iff_eq, Bool.not_eq_eq_eq_not, Bool.not_true, Bool.not_false, beq_eq_false_iff_ne, ne_eq, decide_eq_decide] at hh19
                conv => whnf
                refine ⟨by simp; omega, ?_⟩
                conv => whnf
                refine ⟨_, tg_get hb, ?_⟩
                conv => whnf
                refine ⟨fun hh21 => ?_, fun hh21 => ?_⟩
                · simp only [decide_eq_true_eq, decide_eq_false_iff_not] at hh21
                  conv => whnf
                  refine ⟨by kernel_rfl, ?_⟩
                  conv => whnf
                  refine .same ?_
                  conv => whnf
                  exact bool_e (bad (tf (by omega))).symm
                · simp only [decide_eq_true_eq, decide_eq_false_iff_not] at hh21
                  conv => whnf
                  refine ⟨by simp; omega, ?_⟩
                  conv => whnf
                  refine ⟨_, tg_get hb, ?_⟩
                  conv => whnf
                  refine ⟨by kernel_rfl, ?_⟩
                  conv => whnf
                  refine ⟨fun hh23 => ?_, fun hh23 => ?_⟩
                  · simp only [decide_eq_true_eq, decide_eq_false_iff_not] at hh23
                    conv => whnf
                    refine .same ?_
                    conv => whnf
                    exact bool_e (bad (tf (by omega))).symm
                  · simp only [decide_eq_true_eq, decide_eq_false_iff_not] at hh23
                    conv => whnf
                    refine ⟨⟨i.1 + 1, by omega, good (tt (by omega) (by omega) (by assumption) (by omega) (by omega)), by omega⟩, by show ts.length - (i.1 + 1) < ts.length - i.1; omega, .of [] (by decide) ?_⟩
                    conv => whnf
                    refine ⟨by rfl, ?_⟩
                    conv => whnf
                    refine ⟨by exact (w64 _ (by omega) (by omega)).trans (by simp), ?_⟩
                    conv => whnf
                    exact trivial
          · simp only [decide_eq_true_eq, decide_eq_false_iff_not] at hh4
            conv => whnf
            refine ⟨by simp; omega, ?_⟩
            conv => whnf
            refine ⟨_, tg_get hb, ?_⟩
            conv => whnf
            refine (goodWeight_s _).calld ?_
            conv => whnf
            refine ⟨fun hh36 => ?_, fun hh36 => ?_⟩
            · simp only [decide_eq_true_eq, decide_eq_false_iff_not, Bool.not_eq_true, Bool.not_eq_false, Bool.not_eq_true', Bool.not_eq_false', Bool.and_eq_true, Bool.and_eq_false_iff, Int.not_lt, Int.not_le, Decidable.not_not, beq_iff_eq, Bool.not_eq_eq_eq_not, Bool.not_true, Bool.not_false, beq_eq_false_iff_ne, ne_eq, decide_eq_decide] at hh36
              conv => whnf
              refine ⟨by kernel_rfl, ?_⟩
              conv => whnf
              refine .same ?_
              conv => whnf
              exact bool_e (bad (tf (.inr (.inr (.inl (by assumption)))))).symm
            · simp only [decide_eq_true_eq, decide_eq_false_iff_not, Bool.not_eq_true, Bool.not_eq_false, Bool.not_eq_true', Bool.not_eq_false', Bool.and_eq_true, Bool.and_eq_false_iff, Int.not_lt, Int.not_le, Decidable.not_not, beq_iff_eq, Bool.not_eq_eq_eq_not, Bool.not_true, Bool.not_false, beq_eq_false_iff_ne, ne_eq, decide_eq_decide] at hh36
              conv => whnf
              refine ⟨by simp; omega, ?_⟩
              conv => whnf
              refine ⟨_, tg_get hb, ?_⟩
              conv => whnf
              refine ⟨fun hh38 => ?_, fun hh38 => ?_⟩
              · simp only [decide_eq_true_eq, decide_eq_false_iff_not] at hh38
                conv => whnf
                refine ⟨by kernel_rfl, ?_⟩
                conv => whnf
                refine .same ?_
                conv => whnf
                exact bool_e (bad (tf (by omega))).symm
              · simp only [decide_eq_true_eq, decide_eq_false_iff_not] at hh38
                conv => whnf
                refine ⟨by simp; omega, ?_⟩
                conv => whnf
                refine ⟨_, tg_get hb, ?_⟩
                conv => whnf
                refine ⟨by kernel_rfl, ?_⟩
                conv => whnf
                refine ⟨fun hh40 => ?_, fun hh40 => ?_⟩
                · simp only [decide_eq_true_eq, decide_eq_false_iff_not] at hh40
                  conv => whnf
                  refine .same ?_
                  conv => whnf
                  exact bool_e (bad (tf (by omega))).symm
                · simp only [decide_eq_true_eq, decide_eq_false_iff_not] at hh40
                  conv => whnf
                  refine ⟨⟨i.1 + 1, by omega, good (tt (by omega) (by omega) (by assumption) (by omega) (by omega)), by omega⟩, by show ts.length - (i.1 + 1) < ts.length - i.1; omega, .of [] (by decide) ?_⟩
                  conv => whnf
                  refine ⟨by rfl, ?_⟩
                  conv => whnf
                  refine ⟨by exact (w64 _ (by omega) (by omega)).trans (by simp), ?_⟩
                  conv => whnf
                  exact trivial
    · have hb : ¬ i.1 < ts.length := by simpa using hb
      rw [List.drop_eq_nil_of_le (by omega)] at hv
      conv => whnf
      refine .same ?_
      conv => whnf
      exact bool_e hv.symm
end Go.Proofs.Ythlomoacacebeab

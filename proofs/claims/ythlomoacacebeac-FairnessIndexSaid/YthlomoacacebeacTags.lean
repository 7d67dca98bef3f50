/- Contracts of package tags. No statement of the seat is proved here. -/
import Derived.Test.YthlomoacacebeacGen
import Derived.Test.YthlomoacacebeacAux
namespace Go.Proofs.Ythlomoacacebeac
open Go.Sx
set_option linter.unusedSimpArgs false
set_option linter.unusedVariables false
def wty (w : Int) : Bool := decide (1 ≤ w) && decide (w ≤ 16)
theorem wty_iff (w : Int) : wty w = true ↔ 1 ≤ w ∧ w ≤ 16 := by simp [wty]
theorem wty_not (w : Int) : wty w = false ↔ ¬ (1 ≤ w ∧ w ≤ 16) := by rw [← wty_iff]; simp
theorem weighty_s (w : Int) : PSpec Try.prog 62 [.int .i64 w] (· = .bool (wty w)) := by
  refine .of_code' tab_ok Try.func62 (by rfl) rfl trivial ?_
  conv => whnf
  refine ⟨fun hh0 => ?_, fun hh0 => ?_⟩
  · simp only [decide_eq_true_eq, decide_eq_false_iff_not] at hh0
    conv => whnf
    simp [wty, *]
  · simp only [decide_eq_true_eq, decide_eq_false_iff_not] at hh0
    conv => whnf
    simp [wty, *]
/-- Units of service of a byte. -/
def unit (w : Int) : Int := 720720 / w
theorem unit_rng {w : Int} (h : 1 ≤ w ∧ w ≤ 16) : (Int.tdiv 720720 w) = unit w ∧ 45045 ≤ unit w ∧ unit w ≤ 720720 := by
  have key : ∀ k : Nat, k < 17 → 1 ≤ k → (Int.tdiv 720720 (k : Int)) = unit k ∧ 45045 ≤ unit k ∧ unit k ≤ 720720 := by decide
  obtain ⟨k, rfl⟩ := Int.eq_ofNat_of_zero_le (show 0 ≤ w by omega)
  exact key k (by omega) (by omega)
def cov (l w : Int) : Int := if 1 ≤ l ∧ l ≤ 4096 ∧ wty w = true then l * unit w else 0
def coe (l w : Int) : Int := if 1 ≤ l ∧ l ≤ 4096 ∧ wty w = true then 0 else 1
theorem cov_rng (l w : Int) : 0 ≤ cov l w ∧ cov l w ≤ 2952069120 := by
  unfold cov
  split
  · rename_i h
    obtain ⟨_, h1, h2⟩ := unit_rng ((wty_iff w).1 h.2.2)
    have h3 := Int.mul_nonneg (show 0 ≤ l by omega) (show 0 ≤ unit w by omega)
    have h4 := Int.mul_le_mul (show l ≤ 4096 by omega) h2 (show 0 ≤ unit w by omega) (by decide)
    omega
  · omega
theorem cost_s (l w : Int) : PSpec Try.prog 18 [.int .i64 l, .int .i64 w] (· = .tup [.int .i64 (cov l w), .int .i64 (coe l w)]) := by
  refine .of_code' tab_ok Try.func18 (by rfl) rfl trivial ?_
  by_cases hw : wty w = true
  · have hr := (wty_iff w).1 hw
    obtain ⟨u0, u1, u2⟩ := unit_rng hr
    have e1 : 1 ≤ l → l ≤ 4096 → IntKind.i64.wrap (l * IntKind.i64.wrap (Int.tdiv 720720 w)) = cov l w ∧ coe l w = 0 := by
      intro h1 h2
      have hc := cov_rng l w
      have e : cov l w = l * unit w := by unfold cov; rw [if_pos ⟨h1, h2, hw⟩]
      rw [e] at hc
      rw [u0, w64 (unit w) (by omega) (by omega), w64 _ (by omega) (by omega), e]
      exact ⟨rfl, by unfold coe; rw [if_pos ⟨h1, h2, hw⟩]⟩
    have e2 : ¬ (1 ≤ l ∧ l ≤ 4096) → cov l w = 0 ∧ coe l w = 1 := by
      intro h; unfold cov coe; rw [if_neg (by omega), if_neg (by omega)]; exact ⟨rfl, rfl⟩
    conv => whnf
    refine ⟨fun hh0 => ?_, fun hh0 => ?_⟩
    · simp only [decide_eq_true_eq, decide_eq_false_iff_not] at hh0
      conv => whnf
      (rw [(e2 (by omega)).1, (e2 (by omega)).2])
    · simp only [decide_eq_true_eq, decide_eq_false_iff_not] at hh0
      conv => whnf
      refine ⟨fun hh1 => ?_, fun hh1 => ?_⟩
      · simp only [decide_eq_true_eq, decide_eq_false_iff_not] at hh1
        conv => whnf
        (rw [(e2 (by omega)).1, (e2 (by omega)).2])
      · simp only [decide_eq_true_eq, decide_eq_false_iff_not] at hh1
        conv => whnf
        refine (weighty_s _).call ?_
        rintro _ rfl
        conv => whnf
        refine both_f (by simp; omega) ?_
        conv => whnf
        refine ⟨by omega, ?_⟩
        conv => whnf
        (rw [(e1 (by omega) (by omega)).1, (e1 (by omega) (by omega)).2])
  · have e2 : cov l w = 0 ∧ coe l w = 1 := by
      unfold cov coe; rw [if_neg (by simp [hw]), if_neg (by simp [hw])]; exact ⟨rfl, rfl⟩
    conv => whnf
    refine ⟨fun hh0 => ?_, fun hh0 => ?_⟩
    · simp only [decide_eq_true_eq, decide_eq_false_iff_not] at hh0
      conv => whnf
      (rw [e2.1, e2.2])
    · simp only [decide_eq_true_eq, decide_eq_false_iff_not] at hh0
      conv => whnf
      refine ⟨fun hh1 => ?_, fun hh1 => ?_⟩
      · simp only [decide_eq_true_eq, decide_eq_false_iff_not] at hh1
        conv => whnf
        (rw [e2.1, e2.2])
      · simp only [decide_eq_true_eq, decide_eq_false_iff_not] at hh1
        conv => whnf
        refine (weighty_s _).call ?_
        rintro _ rfl
        conv => whnf
        refine both_t (by simp [*]) ?_
        conv => whnf
        (rw [e2.1, e2.2])
def nov (b w : Int) : Int := if -1099511627776 ≤ b ∧ b ≤ 1099511627776 ∧ wty w = true then b * unit w else 0
def noe (b w : Int) : Int := if -1099511627776 ≤ b ∧ b ≤ 1099511627776 ∧ wty w = true then 0 else 1
theorem nov_rng (b w : Int) : -792440020370718720 ≤ nov b w ∧ nov b w ≤ 792440020370718720 := by
  unfold nov
  split
  · rename_i h
    obtain ⟨_, h1, h2⟩ := unit_rng ((wty_iff w).1 h.2.2)
    rcases Int.lt_or_le b 0 with hb | hb
    · have h3 := Int.mul_le_mul (show -b ≤ 1099511627776 by omega) h2 (show 0 ≤ unit w by omega) (by decide)
      have h4 := Int.mul_nonneg (show 0 ≤ -b by omega) (show 0 ≤ unit w by omega)
      rw [Int.neg_mul] at h3 h4
      omega
    · have h3 := Int.mul_le_mul (show b ≤ 1099511627776 by omega) h2 (show 0 ≤ unit w by omega) (by decide)
      have h4 := Int.mul_nonneg hb (show 0 ≤ unit w by omega)
      omega
  · omega
theorem normalized_s (b w : Int) : PSpec Try.prog 19 [.int .i64 b, .int .i64 w] (· = .tup [.int .i64 (nov b w), .int .i64 (noe b w)]) := by
  refine .of_code' tab_ok Try.func19 (by rfl) rfl trivial ?_
  by_cases hw : wty w = true
  · have hr := (wty_iff w).1 hw
    obtain ⟨u0, u1, u2⟩ := unit_rng hr
    have e1 : -1099511627776 ≤ b → b ≤ 1099511627776 → IntKind.i64.wrap (b * IntKind.i64.wrap (Int.tdiv 720720 w)) = nov b w ∧ noe b w = 0 := by
      intro h1 h2
      have hc := nov_rng b w
      have e : nov b w = b * unit w := by unfold nov; rw [if_pos ⟨h1, h2, hw⟩]
      rw [e] at hc
      rw [u0, w64 (unit w) (by omega) (by omega), w64 _ (by omega) (by omega), e]
      exact ⟨rfl, by unfold noe; rw [if_pos ⟨h1, h2, hw⟩]⟩
    have e2 : ¬ (-1099511627776 ≤ b ∧ b ≤ 1099511627776) → nov b w = 0 ∧ noe b w = 1 := by
      intro h; unfold nov noe; rw [if_neg (by omega), if_neg (by omega)]; exact ⟨rfl, rfl⟩
    conv => whnf
    refine ⟨fun hh0 => ?_, fun hh0 => ?_⟩
    · simp only [decide_eq_true_eq, decide_eq_false_iff_not] at hh0
      conv => whnf
      (rw [(e2 (by omega)).1, (e2 (by omega)).2])
    · simp only [decide_eq_true_eq, decide_eq_false_iff_not] at hh0
      conv => whnf
      refine ⟨fun hh1 => ?_, fun hh1 => ?_⟩
      · simp only [decide_eq_true_eq, decide_eq_false_iff_not] at hh1
        conv => whnf
        (rw [(e2 (by omega)).1, (e2 (by omega)).2])
      · simp only [decide_eq_true_eq, decide_eq_false_iff_not] at hh1
        conv => whnf
        refine (weighty_s _).call ?_
        rintro _ rfl
        conv => whnf
        refine both_f (by simp; omega) ?_
        conv => whnf
        refine ⟨by omega, ?_⟩
        conv => whnf
        (rw [(e1 (by omega) (by omega)).1, (e1 (by omega) (by omega)).2])
  · have e2 : nov b w = 0 ∧ noe b w = 1 := by
      unfold nov noe; rw [if_neg (by simp [hw]), if_neg (by simp [hw])]; exact ⟨rfl, rfl⟩
    conv => whnf
    refine ⟨fun hh0 => ?_, fun hh0 => ?_⟩
    · simp only [decide_eq_true_eq, decide_eq_false_iff_not] at hh0
      conv => whnf
      (rw [e2.1, e2.2])
    · simp only [decide_eq_true_eq, decide_eq_false_iff_not] at hh0
      conv => whnf
      refine ⟨fun hh1 => ?_, fun hh1 => ?_⟩
      · simp only [decide_eq_true_eq, decide_eq_false_iff_not] at hh1
        conv => whnf
        (rw [e2.1, e2.2])
      · simp only [decide_eq_true_eq, decide_eq_false_iff_not] at hh1
        conv => whnf
        refine (weighty_s _).call ?_
        rintro _ rfl
        conv => whnf
        refine both_t (by simp [*]) ?_
        conv => whnf
        (rw [e2.1, e2.2])
structure Tg where
  f : Int
  w : Int
  s : Int
def tagE (t : Tg) : List SV := [.int .i64 t.f, .int .i64 t.w, .int .i64 t.s]
def tagOk (last : Int) (t : Tg) : Bool := decide (last < t.f) && decide (t.f < 32) && wty t.w && decide (0 ≤ t.s) && decide (t.s ≤ 1099511627776)
def tagsOk : Int → List Tg → Bool
  | _, [] => true
  | last, t :: ts => tagOk last t && tagsOk t.f ts
def lastOf (ts : List Tg) (i : Nat) : Int := match i with | 0 => -1 | i + 1 => match ts[i]? with | some t => t.f | none => -1
theorem drop_at {α : Type} {ts : List α} {i : Nat} {x : α} (h : ts[(i : Int).toNat]? = some x) : ts.drop i = x :: ts.drop (i + 1) := by
  rw [Int.toNat_natCast] at h
  obtain ⟨h1, h2⟩ := List.getElem?_eq_some_iff.1 h
  rw [List.drop_eq_getElem_cons h1, h2]
theorem lastOf_succ {ts : List Tg} {i : Nat} {x : Tg} (h : ts[(i : Int).toNat]? = some x) : lastOf ts (i + 1) = x.f := by
  rw [Int.toNat_natCast] at h
  simp [lastOf, h]
theorem nextV {ts : List Tg} {i : Nat} {x : Tg} (hv : tagsOk (-1) ts = tagsOk (lastOf ts i) (ts.drop i)) (h : ts[(i : Int).toNat]? = some x) (ho : tagOk (lastOf ts i) x = true) : tagsOk (-1) ts = tagsOk (lastOf ts (i + 1)) (ts.drop (i + 1)) := by
  rw [hv, drop_at h, tagsOk, ho, lastOf_succ h, Bool.true_and]
theorem valid_s (ts : List Tg) (hl : ts.length ≤ 4611686018427387903) : PSpec Try.prog 64 [.rs 3 (ts.map tagE)] (· = .bool (tagsOk (-1) ts)) := by
  refine .of_code' tab_ok Try.func64 (by rfl) rfl trivial ?_
  conv => whnf
  refine LoopG.inv tab_ok 40 (fun i : { i : Nat // i ≤ ts.length ∧ tagsOk (-1) ts = tagsOk (lastOf ts i) (ts.drop i) } => [(2, .ff), (3, .int .i64 (lastOf ts i.1)), (6, .rs 3 (ts.map tagE)), (7, .int .i64 ((ts.map tagE).length : Int)), (8, .int .i64 (i.1 : Int))])
    (fun _ => []) (fun i => ts.length - i.1) ⟨0, by simp [lastOf]⟩ (.of [] (by decide) ?_) ?_
  · conv => whnf
    refine ⟨by rfl, ?_⟩
    conv => whnf
    refine ⟨by rfl, ?_⟩
    conv => whnf
    refine ⟨by rfl, ?_⟩
    conv => whnf
    refine ⟨by rfl, ?_⟩
    conv => whnf
    exact trivial
  · intro i
    obtain ⟨hi, hv⟩ := i.2
    conv => whnf
    refine ⟨fun hb => ?_, fun hb => ?_⟩
    · have hb : i.1 < ts.length := by simpa using hb
      conv => whnf
      refine ⟨by simp; omega, ?_⟩
      conv => whnf
      refine el_map (by omega) fun x0 hx0 => ?_
      conv => whnf
      refine ⟨fun hh1 => ?_, fun hh1 => ?_⟩
      · simp only [decide_eq_true_eq, decide_eq_false_iff_not] at hh1
        conv => whnf
        refine .same ?_
        conv => whnf
        (rw [hv, drop_at hx0, tagsOk, show tagOk (lastOf ts i.1) x0 = false by simp [tagOk, *]; omega]; rfl)
      · simp only [decide_eq_true_eq, decide_eq_false_iff_not] at hh1
        conv => whnf
        refine ⟨fun hh2 => ?_, fun hh2 => ?_⟩
        · simp only [decide_eq_true_eq, decide_eq_false_iff_not] at hh2
          conv => whnf
          refine .same ?_
          conv => whnf
          (rw [hv, drop_at hx0, tagsOk, show tagOk (lastOf ts i.1) x0 = false by simp [tagOk, *]; omega]; rfl)
        · simp only [decide_eq_true_eq, decide_eq_false_iff_not] at hh2
          conv => whnf
          refine (weighty_s _).call ?_
          rintro _ rfl
          conv => whnf
          refine ⟨fun hh13 => ?_, fun hh13 => ?_⟩
          · simp only [decide_eq_true_eq, decide_eq_false_iff_not, Bool.not_eq_true, Bool.not_eq_false, Bool.not_eq_true', Bool.not_eq_false', Bool.and_eq_true, Bool.and_eq_false_iff, Int.not_lt, Int.not_le, Decidable.not_not, beq_iff_eq, Bool.not_eq_eq_eq_not, Bool.not_true, Bool.not_false, beq_eq_false_iff_ne, ne_eq, decide_eq_decide] at hh13
            conv => whnf
            refine .same ?_
            conv => whnf
            (rw [hv, drop_at hx0, tagsOk, show tagOk (lastOf ts i.1) x0 = false by simp [tagOk, *]]; rfl)
          · simp only [decide_eq_true_eq, decide_eq_false_iff_not, Bool.not_eq_true, Bool.not_eq_false, Bool.not_eq_true', Bool.not_eq_false', Bool.and_eq_true, Bool.and_eq_false_iff, Int.not_lt, Int.not_le, Decidable.not_not, beq_iff_eq, Bool.not_eq_eq_eq_not, Bool.not_true, Bool.not_false, beq_eq_false_iff_ne, ne_eq, decide_eq_decide] at hh13
            conv => whnf
            refine ⟨fun hh14 => ?_, fun hh14 => ?_⟩
            · simp only [decide_eq_true_eq, decide_eq_false_iff_not] at hh14
              conv => whnf
              refine .same ?_
              conv => whnf
              (rw [hv, drop_at hx0, tagsOk, show tagOk (lastOf ts i.1) x0 = false by simp [tagOk, *]; omega]; rfl)
            · simp only [decide_eq_true_eq, decide_eq_false_iff_not] at hh14
              conv => whnf
              refine ⟨fun hh15 => ?_, fun hh15 => ?_⟩
              · simp only [decide_eq_true_eq, decide_eq_false_iff_not] at hh15
                conv => whnf
                refine .same ?_
                conv => whnf
                (rw [hv, drop_at hx0, tagsOk, show tagOk (lastOf ts i.1) x0 = false by simp [tagOk, *]]; rfl)
              · simp only [decide_eq_true_eq, decide_eq_false_iff_not] at hh15
                conv => whnf
                refine ⟨⟨i.1 + 1, by omega, nextV hv hx0 (by simp [tagOk, *]; omega)⟩, by show ts.length - (i.1 + 1) < ts.length - i.1; omega, .of [] (by decide) ?_⟩
                conv => whnf
                refine ⟨by exact (lastOf_succ hx0).symm, ?_⟩
                conv => whnf
                refine ⟨by rfl, ?_⟩
                conv => whnf
                refine ⟨by rfl, ?_⟩
                conv => whnf
                refine ⟨by exact (w64 _ (by omega) (by omega)).trans (by simp), ?_⟩
                conv => whnf
                exact trivial
    · have hb : ¬ i.1 < ts.length := by simpa using hb
      rw [List.drop_eq_nil_of_le (by omega)] at hv
      conv => whnf
      refine .same ?_
      conv => whnf
      exact bool_e hv.symm
end Go.Proofs.Ythlomoacacebeac

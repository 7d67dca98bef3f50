/- Contracts of package aggregate and of its reference. No statement of the seat is proved here. -/
import Derived.Test.YthlomoacacebeadAir2
namespace Go.Proofs.Ythlomoacacebead
open Go.Sx
set_option linter.unusedSimpArgs false
set_option linter.unusedVariables false
abbrev cpE (p b t : Int) : SV := .agg [.int .i64 p, .int .i64 b, .int .i64 t]
def cpOk (p b t : Int) : Bool := decide (1 ≤ p) && decide (p ≤ 32) && decide (1 ≤ b) && decide (b ≤ 262144) && decide (1 ≤ t) && decide (t ≤ 1048576)
theorem cpOk_iff (p b t : Int) : cpOk p b t = true ↔ (1 ≤ p ∧ p ≤ 32) ∧ (1 ≤ b ∧ b ≤ 262144) ∧ 1 ≤ t ∧ t ≤ 1048576 := by simp [cpOk]; omega
theorem gvalid_s (p b t : Int) : PSpec Try.prog 46 [cpE p b t] (· = .bool (cpOk p b t)) := by
  refine .of_code' tab_ok Try.func46 (by rfl) rfl trivial ?_
  conv => whnf
  refine ⟨fun hh0 => ?_, fun hh0 => ?_⟩
  · simp only [decide_eq_true_eq, decide_eq_false_iff_not] at hh0
    conv => whnf
    refine ⟨fun hh1 => ?_, fun hh1 => ?_⟩
    · simp only [decide_eq_true_eq, decide_eq_false_iff_not] at hh1
      conv => whnf
      refine ⟨fun hh2 => ?_, fun hh2 => ?_⟩
      · simp only [decide_eq_true_eq, decide_eq_false_iff_not] at hh2
        conv => whnf
        refine ⟨fun hh3 => ?_, fun hh3 => ?_⟩
        · simp only [decide_eq_true_eq, decide_eq_false_iff_not] at hh3
          conv => whnf
          refine ⟨fun hh4 => ?_, fun hh4 => ?_⟩
          · simp only [decide_eq_true_eq, decide_eq_false_iff_not] at hh4
            conv => whnf
            simp [cpOk, *]
          · simp only [decide_eq_true_eq, decide_eq_false_iff_not] at hh4
            conv => whnf
            simp [cpOk, *]
        · simp only [decide_eq_true_eq, decide_eq_false_iff_not] at hh3
          conv => whnf
          simp [cpOk, *]
      · simp only [decide_eq_true_eq, decide_eq_false_iff_not] at hh2
        conv => whnf
        simp [cpOk, *]
    · simp only [decide_eq_true_eq, decide_eq_false_iff_not] at hh1
      conv => whnf
      simp [cpOk, *]
  · simp only [decide_eq_true_eq, decide_eq_false_iff_not] at hh0
    conv => whnf
    simp [cpOk, *]
theorem rcaps_s (p b t : Int) : PSpec Try.prog 47 [cpE p b t] (· = .bool (cpOk p b t)) := by
  refine .of_code' tab_ok Try.func47 (by rfl) rfl trivial ?_
  conv => whnf
  refine ⟨fun hh0 => ?_, fun hh0 => ?_⟩
  · simp only [decide_eq_true_eq, decide_eq_false_iff_not] at hh0
    conv => whnf
    refine ⟨fun hh1 => ?_, fun hh1 => ?_⟩
    · simp only [decide_eq_true_eq, decide_eq_false_iff_not] at hh1
      conv => whnf
      refine ⟨fun hh2 => ?_, fun hh2 => ?_⟩
      · simp only [decide_eq_true_eq, decide_eq_false_iff_not] at hh2
        conv => whnf
        refine ⟨fun hh3 => ?_, fun hh3 => ?_⟩
        · simp only [decide_eq_true_eq, decide_eq_false_iff_not] at hh3
          conv => whnf
          refine ⟨fun hh4 => ?_, fun hh4 => ?_⟩
          · simp only [decide_eq_true_eq, decide_eq_false_iff_not] at hh4
            conv => whnf
            simp [cpOk, *]
          · simp only [decide_eq_true_eq, decide_eq_false_iff_not] at hh4
            conv => whnf
            simp [cpOk, *]
        · simp only [decide_eq_true_eq, decide_eq_false_iff_not] at hh3
          conv => whnf
          simp [cpOk, *]
      · simp only [decide_eq_true_eq, decide_eq_false_iff_not] at hh2
        conv => whnf
        simp [cpOk, *]
    · simp only [decide_eq_true_eq, decide_eq_false_iff_not] at hh1
      conv => whnf
      simp [cpOk, *]
  · simp only [decide_eq_true_eq, decide_eq_false_iff_not] at hh0
    conv => whnf
    simp [cpOk, *]
theorem ng_get {ls : List Int} {i : Nat} (h : i < ls.length) : (nums ls)[(i : Int).toNat]? = some [SV.int .i64 (ls.getD i 0)] := by
  have := lit_get (l := ls) (k := .i64) (i := (i : Int)) (by omega) (by omega)
  rw [Int.toNat_natCast] at *
  exact this
/-- All lengths are those of packets. -/
def lnO (ls : List Int) : Prop := ∀ i, i < ls.length → 1 ≤ ls.getD i 0 ∧ ls.getD i 0 ≤ 4096
open Classical in
noncomputable def lnB (ls : List Int) : Bool := decide (lnO ls)
theorem lnB_yes {ls : List Int} (h : lnO ls) : lnB ls = true := by simp [lnB, h]
theorem lnB_no {ls : List Int} (h : ¬ lnO ls) : lnB ls = false := by simp [lnB, h]
theorem sound_s (ls : List Int) (hlen : ls.length ≤ 1000000) : PSpec Try.prog 84 [.rs 1 (nums ls)] (· = .bool (lnB ls)) := by
  refine .of_code' tab_ok Try.func84 (by rfl) rfl trivial ?_
  have hl := nums_len ls
  conv => whnf
  refine LoopG.inv tab_ok 18 (fun i : { i : Nat // i ≤ ls.length ∧ ∀ j, j < i → 1 ≤ ls.getD j 0 ∧ ls.getD j 0 ≤ 4096 } => [(5, .rs 1 (nums ls)), (6, .int .i64 ((nums ls).length : Int)), (7, .int .i64 (i.1 : Int))])
    (fun _ => []) (fun i => ls.length - i.1) ⟨0, by omega, by intro j hj; omega⟩ (.of [] (by decide) ?_) ?_
  · conv => whnf
    refine ⟨by rfl, ?_⟩
    conv => whnf
    refine ⟨by rfl, ?_⟩
    conv => whnf
    refine ⟨by rfl, ?_⟩
    conv => whnf
    exact trivial
  · intro i
    obtain ⟨hi, hg⟩ := i.2
    conv => whnf
    refine ⟨fun hb => ?_, fun hb => ?_⟩
    · have hb : i.1 < ls.length := by simpa [hl] using hb
      conv => whnf
      refine ⟨by omega, ?_⟩
      conv => whnf
      refine ⟨_, ng_get hb, ?_⟩
      conv => whnf
      refine ⟨fun hh1 => ?_, fun hh1 => ?_⟩
      · simp only [decide_eq_true_eq, decide_eq_false_iff_not] at hh1
        conv => whnf
        refine .same ?_
        conv => whnf
        exact bool_e (lnB_no fun h => by have := h i.1 hb; omega).symm
      · simp only [decide_eq_true_eq, decide_eq_false_iff_not] at hh1
        conv => whnf
        refine ⟨fun hh2 => ?_, fun hh2 => ?_⟩
        · simp only [decide_eq_true_eq, decide_eq_false_iff_not] at hh2
          conv => whnf
          refine .same ?_
          conv => whnf
          exact bool_e (lnB_no fun h => by have := h i.1 hb; omega).symm
        · simp only [decide_eq_true_eq, decide_eq_false_iff_not] at hh2
          conv => whnf
          refine ⟨⟨i.1 + 1, by omega, fun j hj => (by rcases Nat.lt_succ_iff_lt_or_eq.1 hj with h | h; exact hg j h; (subst h; omega))⟩, by show ls.length - (i.1 + 1) < ls.length - i.1; omega, .of [] (by decide) ?_⟩
          conv => whnf
          refine ⟨by rfl, ?_⟩
          conv => whnf
          refine ⟨by rfl, ?_⟩
          conv => whnf
          refine ⟨by exact (w64 _ (by omega) (by omega)).trans (by simp), ?_⟩
          conv => whnf
          exact trivial
    · have hb : i.1 = ls.length := by simp [hl] at hb; omega
      conv => whnf
      refine .same ?_
      conv => whnf
      exact bool_e (lnB_yes fun j hj => hg j (by omega)).symm
theorem lengthsOK_s (ls : List Int) (hlen : ls.length ≤ 1000000) (most : Int) : PSpec Try.prog 99 [.rs 1 (nums ls), .int .i64 most] (· = .bool (lnB ls && decide ((ls.length : Int) ≤ most))) := by
  refine .of_code' tab_ok Try.func99 (by rfl) rfl trivial ?_
  have hl := nums_len ls
  conv => whnf
  refine LoopG.inv tab_ok 28 (fun i : { i : Nat // i ≤ ls.length ∧ ∀ j, j < i → 1 ≤ ls.getD j 0 ∧ ls.getD j 0 ≤ 4096 } => [(0, .rs 1 (nums ls)), (1, .int .i64 most), (5, .int .i64 (i.1 : Int))])
    (fun _ => []) (fun i => ls.length - i.1) ⟨0, by omega, by intro j hj; omega⟩ (.of [] (by decide) ?_) ?_
  · conv => whnf
    refine ⟨by rfl, ?_⟩
    conv => whnf
    refine ⟨by rfl, ?_⟩
    conv => whnf
    refine ⟨by rfl, ?_⟩
    conv => whnf
    exact trivial
  · intro i
    obtain ⟨hi, hg⟩ := i.2
    conv => whnf
    refine ⟨fun hb => ?_, fun hb => ?_⟩
    · have hb : i.1 < ls.length := by simpa [hl] using hb
      conv => whnf
      refine ⟨by omega, ?_⟩
      conv => whnf
      refine ⟨_, ng_get hb, ?_⟩
      conv => whnf
      refine ⟨fun hh1 => ?_, fun hh1 => ?_⟩
      · simp only [decide_eq_true_eq, decide_eq_false_iff_not] at hh1
        conv => whnf
        refine .same ?_
        conv => whnf
        (rw [lnB_no fun h => by have := h i.1 hb; omega]; rfl)
      · simp only [decide_eq_true_eq, decide_eq_false_iff_not] at hh1
        conv => whnf
        refine ⟨by omega, ?_⟩
        conv => whnf
        refine ⟨_, ng_get hb, ?_⟩
        conv => whnf
        refine ⟨fun hh3 => ?_, fun hh3 => ?_⟩
        · simp only [decide_eq_true_eq, decide_eq_false_iff_not] at hh3
          conv => whnf
          refine .same ?_
          conv => whnf
          (rw [lnB_no fun h => by have := h i.1 hb; omega]; rfl)
        · simp only [decide_eq_true_eq, decide_eq_false_iff_not] at hh3
          conv => whnf
          refine ⟨⟨i.1 + 1, by omega, fun j hj => (by rcases Nat.lt_succ_iff_lt_or_eq.1 hj with h | h; exact hg j h; (subst h; omega))⟩, by show ls.length - (i.1 + 1) < ls.length - i.1; omega, .of [] (by decide) ?_⟩
          conv => whnf
          refine ⟨by rfl, ?_⟩
          conv => whnf
          refine ⟨by rfl, ?_⟩
          conv => whnf
          refine ⟨by exact (w64 _ (by omega) (by omega)).trans (by simp), ?_⟩
          conv => whnf
          exact trivial
    · have hb : i.1 = ls.length := by simp [hl] at hb; omega
      conv => whnf
      refine .same ?_
      conv => whnf
      (rw [lnB_yes fun j hj => hg j (by omega), hl]; simp)
/-! ### Size -/
def szS (ls : List Int) : Nat → Int
  | 0 => -4
  | i + 1 => szS ls i + 4 + ls.getD i 0
def szO (ls : List Int) : Prop := ls.length ≤ 32 ∧ lnO ls
open Classical in
noncomputable def szv (ls : List Int) : Int := if szO ls ∧ ls.length ≠ 0 then szS ls ls.length else 0
open Classical in
noncomputable def sze (ls : List Int) : Int := if szO ls then (if ls.length = 0 then 5 else 0) else 1
theorem sz_no {ls : List Int} (h : ¬ szO ls) : szv ls = 0 ∧ sze ls = 1 := by simp [szv, sze, h]
theorem sz_nil {ls : List Int} (h : szO ls) (h0 : ls.length = 0) : szv ls = 0 ∧ sze ls = 5 := by simp [szv, sze, h, h0]
theorem sz_yes {ls : List Int} (h : szO ls) (h0 : ls.length ≠ 0) : szv ls = szS ls ls.length ∧ sze ls = 0 := by simp [szv, sze, h, h0]
theorem szS_rng {ls : List Int} (h : lnO ls) : ∀ i, i ≤ ls.length → -4 + 5 * (i : Int) ≤ szS ls i ∧ szS ls i ≤ 4100 * (i : Int) := by
  intro i
  induction i with
  | zero => intro _; simp [szS]
  | succ i ih =>
    intro hi
    have := ih (by omega)
    have := h i (by omega)
    simp only [szS]; omega
theorem sze_zero {ls : List Int} (h : sze ls = 0) : szO ls ∧ ls.length ≠ 0 := by
  by_cases hO : szO ls
  · by_cases h0 : ls.length = 0
    · rw [(sz_nil hO h0).2] at h; omega
    · exact ⟨hO, h0⟩
  · rw [(sz_no hO).2] at h; omega
theorem size_s20 (ls : List Int) (hlen : ls.length ≤ 1000000) : PSpec Try.prog 80 [.rs 1 (nums ls)] (· = .tup [.int .i64 (szv ls), .int .i64 (sze ls)]) := by
  refine .of_code' tab_ok Try.func80 (by rfl) rfl trivial ?_
  have hl := nums_len ls
  by_cases hO : szO ls
  · have o1 := hO.1
    have o2 := lnB_yes hO.2
    by_cases h0 : ls.length = 0
    · have h0' : ls = [] := List.eq_nil_of_length_eq_zero h0
      obtain ⟨z1, z2⟩ := sz_nil hO h0
      conv => whnf
      refine both_f (by simp; omega) ?_
      conv => whnf
      refine (sound_s _ (by first | omega | assumption | decide | simp)).call ?_
      rintro _ rfl
      conv => whnf
      refine both_f (by simp; omega) ?_
      conv => whnf
      refine both_t (by rw [hl]; exact decide_eq_true (by omega)) ?_
      conv => whnf
      exact tup_ii z1.symm z2.symm
    · obtain ⟨z1, z2⟩ := sz_yes hO h0
      conv => whnf
      refine both_f (by rw [hl]; exact decide_eq_false (by omega)) ?_
      conv => whnf
      refine (sound_s _ (by first | omega | assumption | decide | simp)).call ?_
      rintro _ rfl
      conv => whnf
      refine both_f (by rw [o2]; rfl) ?_
      conv => whnf
      refine both_f (by rw [hl]; exact decide_eq_false (by omega)) ?_
      conv => whnf
      refine LoopG.inv tab_ok 32 (fun i : { i : Nat // i ≤ ls.length } => [(4, .int .i64 (szS ls i.1)), (20, .rs 1 (nums ls)), (21, .int .i64 ((nums ls).length : Int)), (22, .int .i64 (i.1 : Int))])
        (fun _ => []) (fun i => ls.length - i.1) ⟨0, by omega⟩ (.of [] (by decide) ?_) ?_
      · conv => whnf
        refine ⟨by rfl, ?_⟩
        conv => whnf
        refine ⟨by rfl, ?_⟩
        conv => whnf
        refine ⟨by rfl, ?_⟩
        conv => whnf
        refine ⟨by rfl, ?_⟩
        conv => whnf
        exact trivial
      · intro i
        have hi := i.2
        have sr := szS_rng hO.2 i.1 hi
        conv => whnf
        refine ⟨fun hb => ?_, fun hb => ?_⟩
        · have hb : i.1 < ls.length := by simpa [hl] using hb
          have hw := hO.2 i.1 hb
          conv => whnf
          refine ⟨by omega, ?_⟩
          conv => whnf
          refine ⟨_, ng_get hb, ?_⟩
          conv => whnf
          refine ⟨⟨i.1 + 1, by omega⟩, by show ls.length - (i.1 + 1) < ls.length - i.1; omega, .of [] (by decide) ?_⟩
          conv => whnf
          refine ⟨by (rw [w64 (4 + _) (by omega) (by omega), w64 _ (by omega) (by omega)]; simp only [szS]; omega), ?_⟩
          conv => whnf
          refine ⟨by rfl, ?_⟩
          conv => whnf
          refine ⟨by rfl, ?_⟩
          conv => whnf
          refine ⟨by exact (w64 _ (by omega) (by omega)).trans (by simp), ?_⟩
          conv => whnf
          exact trivial
        · have hb : i.1 = ls.length := by simp [hl] at hb; omega
          conv => whnf
          refine .same ?_
          conv => whnf
          exact tup_ii (by rw [z1, hb]) z2.symm
  · obtain ⟨z1, z2⟩ := sz_no hO
    by_cases h1 : ls.length ≤ 32
    · have o2 : lnB ls = false := lnB_no fun h => hO ⟨h1, h⟩
      conv => whnf
      refine both_f (by simp; omega) ?_
      conv => whnf
      refine (sound_s _ (by first | omega | assumption | decide | simp)).call ?_
      rintro _ rfl
      conv => whnf
      refine both_t (by simp; omega) ?_
      conv => whnf
      exact tup_ii z1.symm z2.symm
    · conv => whnf
      refine both_t (by simp; omega) ?_
      conv => whnf
      exact tup_ii z1.symm z2.symm
theorem rsize_s (ls : List Int) (hlen : ls.length ≤ 1000000) : PSpec Try.prog 81 [.rs 1 (nums ls)] (· = .tup [.int .i64 (szv ls), .int .i64 (sze ls)]) := by
  refine .of_code' tab_ok Try.func81 (by rfl) rfl trivial ?_
  have hl := nums_len ls
  by_cases hO : szO ls
  · have o1 := hO.1
    have o2 : (lnB ls && decide ((ls.length : Int) ≤ 32)) = true := by rw [lnB_yes hO.2]; simp; omega
    by_cases h0 : ls.length = 0
    · obtain ⟨z1, z2⟩ := sz_nil hO h0
      conv => whnf
      refine (lengthsOK_s _ (by first | omega | assumption | decide | simp) _).call ?_
      rintro _ rfl
      conv => whnf
      refine both_f (by rw [o2]; rfl) ?_
      conv => whnf
      refine both_t (by simp [*]) ?_
      conv => whnf
      exact tup_ii z1.symm z2.symm
    · obtain ⟨z1, z2⟩ := sz_yes hO h0
      conv => whnf
      refine (lengthsOK_s _ (by first | omega | assumption | decide | simp) _).call ?_
      rintro _ rfl
      conv => whnf
      refine both_f (by rw [o2]; rfl) ?_
      conv => whnf
      refine both_f (by rw [hl]; exact decide_eq_false (by omega)) ?_
      conv => whnf
      refine LoopG.inv tab_ok 29 (fun i : { i : Nat // i ≤ ls.length } => [(0, .rs 1 (nums ls)), (4, .int .i64 (szS ls i.1 + 4 * ((ls.length : Int) - i.1))), (5, .int .i64 (i.1 : Int))])
        (fun _ => []) (fun i => ls.length - i.1) ⟨0, by omega⟩ (.of [] (by decide) ?_) ?_
      · conv => whnf
        refine ⟨by rfl, ?_⟩
        conv => whnf
        refine ⟨by (rw [hl, w64 ((ls.length : Int) - 1) (by omega) (by omega), w64 _ (by omega) (by omega)]; simp only [szS]; omega), ?_⟩
        conv => whnf
        refine ⟨by rfl, ?_⟩
        conv => whnf
        exact trivial
      · intro i
        have hi := i.2
        have sr := szS_rng hO.2 i.1 hi
        conv => whnf
        refine ⟨fun hb => ?_, fun hb => ?_⟩
        · have hb : i.1 < ls.length := by simpa [hl] using hb
          have hw := hO.2 i.1 hb
          conv => whnf
          refine ⟨by omega, ?_⟩
          conv => whnf
          refine ⟨_, ng_get hb, ?_⟩
          conv => whnf
          refine ⟨⟨i.1 + 1, by omega⟩, by show ls.length - (i.1 + 1) < ls.length - i.1; omega, .of [] (by decide) ?_⟩
          conv => whnf
          refine ⟨by rfl, ?_⟩
          conv => whnf
          refine ⟨by (rw [w64 _ (by omega) (by omega)]; simp only [szS]; omega), ?_⟩
          conv => whnf
          refine ⟨by exact (w64 _ (by omega) (by omega)).trans (by simp), ?_⟩
          conv => whnf
          exact trivial
        · have hb : i.1 = ls.length := by simp [hl] at hb; omega
          conv => whnf
          refine .same ?_
          conv => whnf
          exact tup_ii (by rw [z1, hb]; omega) z2.symm
  · obtain ⟨z1, z2⟩ := sz_no hO
    have o2 : (lnB ls && decide ((ls.length : Int) ≤ 32)) = false := by
      by_cases h1 : ls.length ≤ 32
      · rw [lnB_no fun h => hO ⟨h1, h⟩]; rfl
      · rw [decide_eq_false (show ¬ (ls.length : Int) ≤ 32 by omega)]; simp
    conv => whnf
    refine (lengthsOK_s _ (by first | omega | assumption | decide | simp) _).call ?_
    rintro _ rfl
    conv => whnf
    refine both_t (by simp [*]) ?_
    conv => whnf
    exact tup_ii z1.symm z2.symm
theorem lsize_s (ls : List Int) (hlen : ls.length ≤ 1000000) : PSpec Try.prog 44 [.rs 1 (nums ls)] (· = .bool true) := by
  refine .of_code' tab_ok Try.func44 (by rfl) rfl trivial ?_
  conv => whnf
  refine (size_s20 _ (by first | omega | assumption | decide | simp)).call ?_
  rintro _ rfl
  conv => whnf
  refine (rsize_s _ (by first | omega | assumption | decide | simp)).call ?_
  rintro _ rfl
  conv => whnf
  refine both_t (by simp) ?_
  conv => whnf
  simp
/-! ### Permitted -/
def pmO (ls : List Int) (p b t k o : Int) : Prop := szO ls ∧ ls.length ≠ 0 ∧ (ls.length : Int) ≤ p ∧ szS ls ls.length ≤ b ∧ tmq k o (szS ls ls.length) ≤ t
open Classical in
noncomputable def fgv (ls : List Int) (p b t k o : Int) : Int := if szO ls ∧ ls.length ≠ 0 ∧ (ls.length : Int) ≤ p ∧ szS ls ls.length ≤ b then tmq k o (szS ls ls.length) else 0
open Classical in
noncomputable def fgb (ls : List Int) (p b t k o : Int) : Bool := decide (pmO ls p b t k o)
theorem tup_ib' {k : IntKind} {a c : Int} {b d : Bool} (h1 : a = c) (h2 : b = d) : SV.tup [.int k a, .bool b] = .tup [.int k c, .bool d] := by rw [h1, h2]
def fgO (ls : List Int) (p b : Int) : Prop := szO ls ∧ ls.length ≠ 0 ∧ (ls.length : Int) ≤ p ∧ szS ls ls.length ≤ b
theorem fg_yes {ls : List Int} {p b : Int} (t k o : Int) (h : fgO ls p b) : fgv ls p b t k o = tmq k o (szS ls ls.length) ∧ fgb ls p b t k o = decide (tmq k o (szS ls ls.length) ≤ t) := by
  have h' := h
  obtain ⟨h1, h2, h3, h4⟩ := h'
  refine ⟨by unfold fgv; rw [if_pos ⟨h1, h2, h3, h4⟩], ?_⟩
  unfold fgb pmO
  rw [decide_eq_decide]
  exact ⟨fun q => q.2.2.2.2, fun q => ⟨h1, h2, h3, h4, q⟩⟩
theorem fg_no {ls : List Int} {p b : Int} (t k o : Int) (h : ¬ fgO ls p b) : fgv ls p b t k o = 0 ∧ fgb ls p b t k o = false := by
  have hp : ¬ pmO ls p b t k o := fun q => h ⟨q.1, q.2.1, q.2.2.1, q.2.2.2.1⟩
  exact ⟨by unfold fgv; exact if_neg h, by simp [fgb, hp]⟩
theorem tm_at' {k o b : Int} (h : rtOk k o = true) (h0 : 0 ≤ b) (h1 : b ≤ 262144) : tmv k o b = tmq k o b ∧ tme k o b = 0 := tm_yes ((tmO_iff _ _ _).2 ⟨(rtOk_iff k o).1 h, h0, h1⟩)
theorem fitting_s (ls : List Int) (hlen : ls.length ≤ 1000000) (p b t k o : Int) (hr : rtOk k o = true) (hb : b ≤ 262144) : PSpec Try.prog 85 [.rs 1 (nums ls), cpE p b t, rtE k o] (· = .tup [.int .i64 (fgv ls p b t k o), .bool (fgb ls p b t k o)]) := by
  refine .of_code' tab_ok Try.func85 (by rfl) rfl trivial ?_
  have hl := nums_len ls
  by_cases hG : fgO ls p b
  · obtain ⟨y1, y2⟩ := fg_yes t k o hG
    obtain ⟨h1, h2, h3, h4⟩ := hG
    obtain ⟨z1, z2⟩ := sz_yes h1 h2
    have sr := szS_rng h1.2 ls.length (Nat.le_refl _)
    obtain ⟨m1, m2⟩ := tm_at' hr (b := szS ls ls.length) (by omega) (by omega)
    conv => whnf
    refine (size_s20 _ (by first | omega | assumption | decide | simp)).call ?_
    rintro _ rfl
    conv => whnf
    refine both_f (by simp; omega) ?_
    conv => whnf
    refine both_f (by simp; omega) ?_
    conv => whnf
    refine both_f (by simp; omega) ?_
    conv => whnf
    refine (time_s _ _ _).call ?_
    rintro _ rfl
    conv => whnf
    refine DrawG.of mixed tab_ok ?_
    conv => whnf
    refine both_t (by simp [*]) ?_
    conv => whnf
    refine ⟨by kernel_rfl, ?_⟩
    conv => whnf
    exact tup_ib' (by rw [z1, m1, y1]) (by rw [z1, m1, y2])
  · obtain ⟨y1, y2⟩ := fg_no t k o hG
    have h' : sze ls = 0 → (ls.length : Int) ≤ p → szv ls ≤ b → False := fun q1 q2 q3 => by
      obtain ⟨u1, u2⟩ := sze_zero q1
      rw [(sz_yes u1 u2).1] at q3
      exact hG ⟨u1, u2, q2, q3⟩
    conv => whnf
    refine (size_s20 _ (by first | omega | assumption | decide | simp)).call ?_
    rintro _ rfl
    conv => whnf
    refine ⟨fun hh10 => ?_, fun hh10 => ?_⟩
    · simp only [decide_eq_true_eq, decide_eq_false_iff_not] at hh10
      conv => whnf
      exact tup_ib' y1.symm y2.symm
    · simp only [decide_eq_true_eq, decide_eq_false_iff_not] at hh10
      conv => whnf
      refine ⟨fun hh11 => ?_, fun hh11 => ?_⟩
      · simp only [decide_eq_true_eq, decide_eq_false_iff_not] at hh11
        conv => whnf
        exact tup_ib' y1.symm y2.symm
      · simp only [decide_eq_true_eq, decide_eq_false_iff_not] at hh11
        conv => whnf
        refine ⟨fun hh12 => ?_, fun hh12 => ?_⟩
        · simp only [decide_eq_true_eq, decide_eq_false_iff_not] at hh12
          conv => whnf
          exact tup_ib' y1.symm y2.symm
        · simp only [decide_eq_true_eq, decide_eq_false_iff_not] at hh12
          conv => whnf
          exact (h' (by omega) (by omega) (by omega)).elim
open Classical in
noncomputable def pmB (ls : List Int) (p b t k o : Int) : Bool := cpOk p b t && rtOk k o && decide (pmO ls p b t k o)
theorem pm_fg {ls : List Int} {p b t k o : Int} (h : cpOk p b t = true) (hr : rtOk k o = true) : fgb ls p b t k o = pmB ls p b t k o := by simp [pmB, fgb, h, hr]
theorem pm_c {ls : List Int} {p b t k o : Int} (h : cpOk p b t = false) : false = pmB ls p b t k o := by simp [pmB, h]
theorem pm_r {ls : List Int} {p b t k o : Int} (h : rtOk k o = false) : false = pmB ls p b t k o := by simp [pmB, h]
theorem permitted_s (ls : List Int) (hlen : ls.length ≤ 1000000) (p b t k o : Int) : PSpec Try.prog 53 [.rs 1 (nums ls), cpE p b t, rtE k o] (· = .bool (pmB ls p b t k o)) := by
  refine .of_code' tab_ok Try.func53 (by rfl) rfl trivial ?_
  by_cases h : cpOk p b t = true
  · have hb : b ≤ 262144 := ((cpOk_iff _ _ _).1 h).2.1.2
    by_cases hr : rtOk k o = true
    · conv => whnf
      refine (gvalid_s _ _ _).call ?_
      rintro _ rfl
      conv => whnf
      refine both_f (by simp; omega) ?_
      conv => whnf
      refine (avalid_s _ _).call ?_
      rintro _ rfl
      conv => whnf
      refine both_f (by simp; omega) ?_
      conv => whnf
      refine (fitting_s _ (by first | omega | assumption | decide | simp) _ _ _ _ _ (by first | omega | assumption | decide | simp) (by first | omega | assumption | decide | simp)).call ?_
      rintro _ rfl
      conv => whnf
      exact bool_e (pm_fg h hr)
    · have hr : rtOk k o = false := by simpa using hr
      conv => whnf
      refine (gvalid_s _ _ _).call ?_
      rintro _ rfl
      conv => whnf
      refine both_f (by simp; omega) ?_
      conv => whnf
      refine (avalid_s _ _).call ?_
      rintro _ rfl
      conv => whnf
      refine both_t (by simp; omega) ?_
      conv => whnf
      exact bool_e (pm_r hr)
  · have h : cpOk p b t = false := by simpa using h
    conv => whnf
    refine (gvalid_s _ _ _).call ?_
    rintro _ rfl
    conv => whnf
    refine both_t (by simp; omega) ?_
    conv => whnf
    exact bool_e (pm_c h)
theorem rpermitted_s (ls : List Int) (hlen : ls.length ≤ 1000000) (p b t k o : Int) : PSpec Try.prog 83 [.rs 1 (nums ls), cpE p b t, rtE k o] (· = .bool (pmB ls p b t k o)) := by
  refine .of_code' tab_ok Try.func83 (by rfl) rfl trivial ?_
  have hl := nums_len ls
  by_cases h : cpOk p b t = true
  · have hb : b ≤ 262144 := ((cpOk_iff _ _ _).1 h).2.1.2
    by_cases hr : rtOk k o = true
    · by_cases hG : fgO ls p b
      · obtain ⟨y1, y2⟩ := fg_yes t k o hG
        rw [← pm_fg h hr, y2]
        obtain ⟨h1, h2, h3, h4⟩ := hG
        obtain ⟨z1, z2⟩ := sz_yes h1 h2
        have sr := szS_rng h1.2 ls.length (Nat.le_refl _)
        obtain ⟨m1, m2⟩ := tm_at' hr (b := szS ls ls.length) (by omega) (by omega)
        conv => whnf
        refine (rsize_s _ (by first | omega | assumption | decide | simp)).call ?_
        rintro _ rfl
        conv => whnf
        refine both_f (by simp; omega) ?_
        conv => whnf
        refine (rcaps_s _ _ _).call ?_
        rintro _ rfl
        conv => whnf
        refine both_f (by simp; omega) ?_
        conv => whnf
        refine (rvalid_s _ _).call ?_
        rintro _ rfl
        conv => whnf
        refine both_f (by simp; omega) ?_
        conv => whnf
        refine both_f (by simp; omega) ?_
        conv => whnf
        refine both_f (by simp; omega) ?_
        conv => whnf
        refine (rtime_s _ _ _).call ?_
        rintro _ rfl
        conv => whnf
        exact bool_e (by rw [z1, m1])
      · obtain ⟨y1, y2⟩ := fg_no t k o hG
        rw [← pm_fg h hr, y2]
        have h' : sze ls = 0 → (ls.length : Int) ≤ p → szv ls ≤ b → False := fun q1 q2 q3 => by
          obtain ⟨u1, u2⟩ := sze_zero q1
          rw [(sz_yes u1 u2).1] at q3
          exact hG ⟨u1, u2, q2, q3⟩
        conv => whnf
        refine (rsize_s _ (by first | omega | assumption | decide | simp)).call ?_
        rintro _ rfl
        conv => whnf
        refine ⟨fun hh10 => ?_, fun hh10 => ?_⟩
        · simp only [decide_eq_true_eq, decide_eq_false_iff_not] at hh10
          conv => whnf
        · simp only [decide_eq_true_eq, decide_eq_false_iff_not] at hh10
          conv => whnf
          refine (rcaps_s _ _ _).call ?_
          rintro _ rfl
          conv => whnf
          refine both_f (by simp; omega) ?_
          conv => whnf
          refine (rvalid_s _ _).call ?_
          rintro _ rfl
          conv => whnf
          refine both_f (by simp; omega) ?_
          conv => whnf
          refine ⟨fun hh31 => ?_, fun hh31 => ?_⟩
          · simp only [decide_eq_true_eq, decide_eq_false_iff_not] at hh31
            conv => whnf
          · simp only [decide_eq_true_eq, decide_eq_false_iff_not] at hh31
            conv => whnf
            refine ⟨fun hh32 => ?_, fun hh32 => ?_⟩
            · simp only [decide_eq_true_eq, decide_eq_false_iff_not] at hh32
              conv => whnf
            · simp only [decide_eq_true_eq, decide_eq_false_iff_not] at hh32
              conv => whnf
              exact (h' (by omega) (by omega) (by omega)).elim
    · have hr : rtOk k o = false := by simpa using hr
      rw [← pm_r hr]
      conv => whnf
      refine (rsize_s _ (by first | omega | assumption | decide | simp)).call ?_
      rintro _ rfl
      conv => whnf
      refine ⟨fun hh10 => ?_, fun hh10 => ?_⟩
      · simp only [decide_eq_true_eq, decide_eq_false_iff_not] at hh10
        conv => whnf
      · simp only [decide_eq_true_eq, decide_eq_false_iff_not] at hh10
        conv => whnf
        refine (rcaps_s _ _ _).call ?_
        rintro _ rfl
        conv => whnf
        refine both_f (by simp; omega) ?_
        conv => whnf
        refine (rvalid_s _ _).call ?_
        rintro _ rfl
        conv => whnf
        refine both_t (by simp; omega) ?_
        conv => whnf
  · have h : cpOk p b t = false := by simpa using h
    rw [← pm_c h]
    conv => whnf
    refine (rsize_s _ (by first | omega | assumption | decide | simp)).call ?_
    rintro _ rfl
    conv => whnf
    refine ⟨fun hh10 => ?_, fun hh10 => ?_⟩
    · simp only [decide_eq_true_eq, decide_eq_false_iff_not] at hh10
      conv => whnf
    · simp only [decide_eq_true_eq, decide_eq_false_iff_not] at hh10
      conv => whnf
      refine (rcaps_s _ _ _).call ?_
      rintro _ rfl
      conv => whnf
      refine both_t (by simp; omega) ?_
      conv => whnf
end Go.Proofs.Ythlomoacacebead

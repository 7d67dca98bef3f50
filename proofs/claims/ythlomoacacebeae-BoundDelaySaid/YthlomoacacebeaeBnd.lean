/- Contracts of package bound, as far as the example of chapter 26 needs them; Keep in full. No statement of the seat is proved here. -/
import Derived.Test.YthlomoacacebeaeGenW
import Derived.Test.YthlomoacacebeaeAux
namespace Go.Proofs.Ythlomoacacebeae
open Go.Sx
set_option linter.unusedSimpArgs false
set_option linter.unusedVariables false
abbrev alpE (a b : Int) : SV := .agg [.int .i64 a, .int .i64 b]
def alpOk (a b : Int) : Bool := decide (0 < a) && decide (a < b) && decide (b ≤ 1048576)
theorem alpOk_iff (a b : Int) : alpOk a b = true ↔ 0 < a ∧ a < b ∧ b ≤ 1048576 := by simp [alpOk]; omega
def kpv (a b : Int) : Int := if alpOk a b = true then a / (b - a) + 1 else 0
def kpe (a b : Int) : Int := if alpOk a b = true then 0 else 1
theorem kpv_ok {a b : Int} (h : alpOk a b = true) : (b - a ≠ 0) ∧ IntKind.i64.wrap (b - a) = b - a ∧ IntKind.i64.wrap (IntKind.i64.wrap (Int.tdiv a (b - a)) + 1) = kpv a b ∧ kpe a b = 0 := by
  have h' := (alpOk_iff a b).1 h
  have e : Int.tdiv a (b - a) = a / (b - a) := Int.tdiv_eq_ediv_of_nonneg (by omega)
  have h1 : 0 ≤ a / (b - a) := Int.ediv_nonneg (by omega) (by omega)
  have h2 : a / (b - a) ≤ a := Int.ediv_le_self _ (by omega)
  refine ⟨by omega, w64 _ (by omega) (by omega), ?_, by simp [kpe, h]⟩
  rw [e, w64 (a / (b - a)) (by omega) (by omega), w64 _ (by omega) (by omega), kpv, if_pos h]
theorem validAlpha_s (a b : Int) : PSpec Try.prog 49 [alpE a b] (· = .bool (alpOk a b)) := by
  refine .of_code' tab_ok Try.func49 (by rfl) rfl trivial ?_
  conv => whnf
  refine ⟨fun hh0 => ?_, fun hh0 => ?_⟩
  · simp only [decide_eq_true_eq, decide_eq_false_iff_not] at hh0
    conv => whnf
    refine ⟨fun hh1 => ?_, fun hh1 => ?_⟩
    · simp only [decide_eq_true_eq, decide_eq_false_iff_not] at hh1
      conv => whnf
      simp [alpOk, *]
    · simp only [decide_eq_true_eq, decide_eq_false_iff_not] at hh1
      conv => whnf
      simp [alpOk, *]
  · simp only [decide_eq_true_eq, decide_eq_false_iff_not] at hh0
    conv => whnf
    simp [alpOk, *]
theorem rvalidAlpha_s (a b : Int) : PSpec Try.prog 51 [alpE a b] (· = .bool (alpOk a b)) := by
  refine .of_code' tab_ok Try.func51 (by rfl) rfl trivial ?_
  conv => whnf
  refine ⟨fun hh0 => ?_, fun hh0 => ?_⟩
  · simp only [decide_eq_true_eq, decide_eq_false_iff_not] at hh0
    conv => whnf
    refine ⟨fun hh1 => ?_, fun hh1 => ?_⟩
    · simp only [decide_eq_true_eq, decide_eq_false_iff_not] at hh1
      conv => whnf
      simp [alpOk, *]
    · simp only [decide_eq_true_eq, decide_eq_false_iff_not] at hh1
      conv => whnf
      simp [alpOk, *]
  · simp only [decide_eq_true_eq, decide_eq_false_iff_not] at hh0
    conv => whnf
    simp [alpOk, *]
theorem keep_s (a b : Int) : PSpec Try.prog 44 [alpE a b] (· = .tup [.int .i64 (kpv a b), .int .i64 (kpe a b)]) := by
  refine .of_code' tab_ok Try.func44 (by rfl) rfl trivial ?_
  have f0 : alpOk a b = false → kpv a b = 0 ∧ kpe a b = 1 := fun h => by simp [kpv, kpe, h]
  by_cases h : alpOk a b = true
  · obtain ⟨k1, k2, k3, k4⟩ := kpv_ok h
    conv => whnf
    refine (validAlpha_s _ _).call ?_
    rintro _ rfl
    conv => whnf
    refine both_f (by simp; omega) ?_
    conv => whnf
    refine ⟨by omega, ?_⟩
    conv => whnf
    exact tup_ii (by rw [k2]; exact k3) k4.symm
  · have h : alpOk a b = false := by simpa using h
    conv => whnf
    refine (validAlpha_s _ _).call ?_
    rintro _ rfl
    conv => whnf
    refine both_t (by simp; omega) ?_
    conv => whnf
    exact tup_ii (f0 h).1.symm (f0 h).2.symm
theorem rkeep_s (a b : Int) : PSpec Try.prog 78 [alpE a b] (· = .tup [.int .i64 (kpv a b), .int .i64 (kpe a b)]) := by
  refine .of_code' tab_ok Try.func78 (by rfl) rfl trivial ?_
  have f0 : alpOk a b = false → kpv a b = 0 ∧ kpe a b = 1 := fun h => by simp [kpv, kpe, h]
  by_cases h : alpOk a b = true
  · obtain ⟨k1, k2, k3, k4⟩ := kpv_ok h
    conv => whnf
    refine (rvalidAlpha_s _ _).call ?_
    rintro _ rfl
    conv => whnf
    refine both_f (by simp; omega) ?_
    conv => whnf
    refine ⟨by omega, ?_⟩
    conv => whnf
    exact tup_ii (by rw [k2]; exact k3) k4.symm
  · have h : alpOk a b = false := by simpa using h
    conv => whnf
    refine (rvalidAlpha_s _ _).call ?_
    rintro _ rfl
    conv => whnf
    refine both_t (by simp; omega) ?_
    conv => whnf
    exact tup_ii (f0 h).1.symm (f0 h).2.symm
/-- A list of weights. -/
def wOk (ls : List Int) : Prop := 1 ≤ ls.length ∧ ls.length ≤ 32 ∧ ∀ i, i < ls.length → 1 ≤ ls.getD i 0 ∧ ls.getD i 0 ≤ 16
theorem num_get {ls : List Int} {i : Nat} (h : i < ls.length) : (nums ls)[(i : Int).toNat]? = some [SV.int .i64 (ls.getD i 0)] := by
  have := lit_get (l := ls) (k := .i64) (i := (i : Int)) (by omega) (by omega)
  rw [Int.toNat_natCast] at *
  exact this
theorem bvalid_t (ls : List Int) (h : wOk ls) : PSpec Try.prog 46 [.rs 1 (nums ls)] (· = .bool true) := by
  refine .of_code' tab_ok Try.func46 (by rfl) rfl trivial ?_
  obtain ⟨h1, h2, h3⟩ := h
  have hl := nums_len ls
  conv => whnf
  refine LoopG.inv tab_ok 26 (fun i : { i : Nat // i ≤ ls.length } => [(0, .rs 1 (nums ls)), (2, .ff), (5, .rs 1 (nums ls)), (6, .int .i64 ((nums ls).length : Int)), (7, .int .i64 (i.1 : Int))])
    (fun _ => []) (fun i => ls.length - i.1) ⟨0, by omega⟩ (.of [] (by decide) ?_) ?_
  · conv => whnf
    refine ⟨by rfl, ?_⟩
    conv => whnf
    refine ⟨by rfl, ?_⟩
    conv => whnf
    refine ⟨by rfl, ?_⟩
    conv => whnf
    refine ⟨by rfl, ?_⟩
    conv => whnf
    exact trivial
  · intro i
    have hi := i.2
    conv => whnf
    refine ⟨fun hb => ?_, fun hb => ?_⟩
    · have hb : i.1 < ls.length := by simpa [hl] using hb
      have hw := h3 i.1 hb
      conv => whnf
      refine ⟨by omega, ?_⟩
      conv => whnf
      refine ⟨_, num_get hb, ?_⟩
      conv => whnf
      refine ⟨fun hh1 => ?_, fun hh1 => ?_⟩
      · simp only [decide_eq_true_eq, decide_eq_false_iff_not] at hh1
        conv => whnf
        refine .same ?_
        conv => whnf
        (simp; omega)
      · simp only [decide_eq_true_eq, decide_eq_false_iff_not] at hh1
        conv => whnf
        refine ⟨fun hh2 => ?_, fun hh2 => ?_⟩
        · simp only [decide_eq_true_eq, decide_eq_false_iff_not] at hh2
          conv => whnf
          refine .same ?_
          conv => whnf
          (simp; omega)
        · simp only [decide_eq_true_eq, decide_eq_false_iff_not] at hh2
          conv => whnf
          refine ⟨⟨i.1 + 1, by omega⟩, by show ls.length - (i.1 + 1) < ls.length - i.1; omega, .of [] (by decide) ?_⟩
          conv => whnf
          refine ⟨by rfl, ?_⟩
          conv => whnf
          refine ⟨by rfl, ?_⟩
          conv => whnf
          refine ⟨by rfl, ?_⟩
          conv => whnf
          refine ⟨by exact (w64 _ (by omega) (by omega)).trans (by simp), ?_⟩
          conv => whnf
          exact trivial
    · conv => whnf
      refine .same ?_
      conv => whnf
      refine both_t (by simp; omega) ?_
      conv => whnf
      (simp [hl]; omega)
def tsum (ls : List Int) (i : Nat) : Nat → Int
  | 0 => 1
  | k + 1 => if k ≠ i then tsum ls i k + (ls.getD k 0 / ls.getD i 0 + 1) else tsum ls i k
theorem tsum_rng {ls : List Int} (h : wOk ls) {i : Nat} (hi : i < ls.length) : ∀ k, k ≤ ls.length → 1 ≤ tsum ls i k ∧ tsum ls i k ≤ 1 + 17 * k := by
  intro k
  induction k with
  | zero => intro _; simp [tsum]
  | succ k ih =>
    intro hk
    have q := ih (by omega)
    have hw := h.2.2 k (by omega)
    have hv := h.2.2 i hi
    have d0 : 0 ≤ ls.getD k 0 / ls.getD i 0 := Int.ediv_nonneg (by omega) (by omega)
    have d1 : ls.getD k 0 / ls.getD i 0 ≤ ls.getD k 0 := Int.ediv_le_self _ (by omega)
    simp only [tsum]
    split <;> omega
theorem turn_t (ls : List Int) (h : wOk ls) (i : Nat) (hi : i < ls.length) : PSpec Try.prog 20 [.rs 1 (nums ls), .int .i64 (i : Int)] (· = .tup [.int .i64 (tsum ls i ls.length), .int .i64 0]) := by
  refine .of_code' tab_ok Try.func20 (by rfl) rfl trivial ?_
  have hl := nums_len ls
  have h' := h
  obtain ⟨h1, h2, h3⟩ := h'
  conv => whnf
  refine (bvalid_t ls h).call ?_
  rintro _ rfl
  conv => whnf
  refine both_f rfl ?_
  conv => whnf
  refine both_f (by simp) ?_
  conv => whnf
  refine both_f (by rw [hl]; simp; omega) ?_
  conv => whnf
  refine LoopG.inv tab_ok 43 (fun k : { k : Nat // k ≤ ls.length } => [(0, .rs 1 (nums ls)), (1, .int .i64 (i : Int)), (6, .int .i64 (tsum ls i k.1)), (22, .rs 1 (nums ls)), (23, .int .i64 ((nums ls).length : Int)), (24, .int .i64 (k.1 : Int))])
    (fun _ => []) (fun k => ls.length - k.1) ⟨0, by omega⟩ (.of [] (by decide) ?_) ?_
  · conv => whnf
    refine ⟨by rfl, ?_⟩
    conv => whnf
    refine ⟨by rfl, ?_⟩
    conv => whnf
    refine ⟨by rfl, ?_⟩
    conv => whnf
    refine ⟨by rfl, ?_⟩
    conv => whnf
    refine ⟨by rfl, ?_⟩
    conv => whnf
    refine ⟨by rfl, ?_⟩
    conv => whnf
    exact trivial
  · intro k
    have hk := k.2
    conv => whnf
    refine ⟨fun hb => ?_, fun hb => ?_⟩
    · have hb : k.1 < ls.length := by simpa [hl] using hb
      have hw := h3 k.1 hb
      have hv := h3 i hi
      have hr := tsum_rng h hi k.1 hk
      have d0 : 0 ≤ ls.getD k.1 0 / ls.getD i 0 := Int.ediv_nonneg (by omega) (by omega)
      have d1 : ls.getD k.1 0 / ls.getD i 0 ≤ ls.getD k.1 0 := Int.ediv_le_self _ (by omega)
      have e : Int.tdiv (ls.getD k.1 0) (ls.getD i 0) = ls.getD k.1 0 / ls.getD i 0 := Int.tdiv_eq_ediv_of_nonneg (by omega)
      have e2 : k.1 ≠ i → IntKind.i64.wrap (tsum ls i k.1 + IntKind.i64.wrap (IntKind.i64.wrap (Int.tdiv (ls.getD k.1 0) (ls.getD i 0)) + 1)) = tsum ls i (k.1 + 1) := by
        intro hne
        rw [e, w64 (ls.getD k.1 0 / ls.getD i 0) (by omega) (by omega), w64 (_ + 1) (by omega) (by omega), w64 _ (by omega) (by omega)]
        simp only [tsum, if_pos hne]
      have e3 : k.1 = i → tsum ls i k.1 = tsum ls i (k.1 + 1) := by intro he; simp [tsum, he]
      conv => whnf
      refine ⟨by omega, ?_⟩
      conv => whnf
      refine ⟨_, num_get hb, ?_⟩
      conv => whnf
      refine ⟨fun hh1 => ?_, fun hh1 => ?_⟩
      · simp only [decide_eq_true_eq, decide_eq_false_iff_not] at hh1
        conv => whnf
        refine ⟨by omega, ?_⟩
        conv => whnf
        refine ⟨_, num_get hi, ?_⟩
        conv => whnf
        refine ⟨by omega, ?_⟩
        conv => whnf
        refine ⟨⟨k.1 + 1, by omega⟩, by show ls.length - (k.1 + 1) < ls.length - k.1; omega, .of [] (by decide) ?_⟩
        conv => whnf
        refine ⟨by rfl, ?_⟩
        conv => whnf
        refine ⟨by rfl, ?_⟩
        conv => whnf
        refine ⟨by exact e2 (by omega), ?_⟩
        conv => whnf
        refine ⟨by rfl, ?_⟩
        conv => whnf
        refine ⟨by rfl, ?_⟩
        conv => whnf
        refine ⟨by exact (w64 _ (by omega) (by omega)).trans (by simp), ?_⟩
        conv => whnf
        exact trivial
      · simp only [decide_eq_true_eq, decide_eq_false_iff_not] at hh1
        conv => whnf
        refine ⟨⟨k.1 + 1, by omega⟩, by show ls.length - (k.1 + 1) < ls.length - k.1; omega, .of [] (by decide) ?_⟩
        conv => whnf
        refine ⟨by rfl, ?_⟩
        conv => whnf
        refine ⟨by rfl, ?_⟩
        conv => whnf
        refine ⟨by simp; omega, ?_⟩
        conv => whnf
        refine ⟨by rfl, ?_⟩
        conv => whnf
        refine ⟨by rfl, ?_⟩
        conv => whnf
        refine ⟨by exact (w64 _ (by omega) (by omega)).trans (by simp), ?_⟩
        conv => whnf
        exact trivial
    · have hb : k.1 = ls.length := by simp [hl] at hb; omega
      conv => whnf
      refine .same ?_
      conv => whnf
      (rw [hb])
end Go.Proofs.Ythlomoacacebeae

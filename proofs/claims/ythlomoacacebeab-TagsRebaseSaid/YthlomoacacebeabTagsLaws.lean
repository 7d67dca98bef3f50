/- The statements of chapter 12 as contracts. -/
import Derived.Test.YthlomoacacebeabLaws12
namespace Go.Proofs.Ythlomoacacebeab
open Go.Sx
set_option linter.unusedSimpArgs false
set_option linter.unusedVariables false
theorem getD_lo (l : List Int) (i : Nat) (h : ∀ z ∈ l, -9223372036854775808 ≤ z) : -9223372036854775808 ≤ l.getD i 0 := by
  by_cases hi : i < l.length
  · simp only [List.getD, List.getElem?_eq_getElem hi, Option.getD_some]; exact h _ (List.getElem_mem hi)
  · simp only [List.getD, List.getElem?_eq_none (Nat.le_of_not_lt hi), Option.getD_none]; decide
theorem getD_hi (l : List Int) (i : Nat) (h : ∀ z ∈ l, z ≤ 9223372036854775807) : l.getD i 0 ≤ 9223372036854775807 := by
  by_cases hi : i < l.length
  · simp only [List.getD, List.getElem?_eq_getElem hi, Option.getD_some]; exact h _ (List.getElem_mem hi)
  · simp only [List.getD, List.getElem?_eq_none (Nat.le_of_not_lt hi), Option.getD_none]; decide
theorem tagsNormalized_s (ls : List Int) (b w : Int) (hb0 : -9223372036854775808 ≤ b) (hb1 : b ≤ 9223372036854775807) (hw0 : -9223372036854775808 ≤ w) (hw1 : w ≤ 9223372036854775807) :
    PSpec Try.prog 11 [.rs 1 (nums ls), .int .i64 b, .int .i64 w] TrueS := by
  refine .of_code' tab_ok Try.func11 (by rfl) rfl trivial ?_
  conv => whnf
  refine CallG.of_code tab_ok Try.func15 (by rfl) rfl ?_
  conv => whnf
  refine LoopG.inv tab_ok 40 (fun i : { i : Nat // i ≤ 5 } => [(0, .rs 1 (nums ls)), (1, .int .i64 b), (2, .int .i64 w), (6, .ff), (7, .ptr 0 0), (8, .int .i64 (i.1 : Int))])
    (fun i => [chs ls (3 * (i.1 : Int))]) (fun i => 5 - i.1) ⟨0, by decide⟩ (.of [some 0] (by decide) ?_) ?_
  · conv => whnf
    refine ⟨by rfl, ?_⟩
    conv => whnf
    refine ⟨by rfl, ?_⟩
    conv => whnf
    refine ⟨by rfl, ?_⟩
    conv => whnf
    refine ⟨by rfl, ?_⟩
    conv => whnf
    refine ⟨by rfl, ?_⟩
    conv => whnf
    refine ⟨by rfl, ?_⟩
    conv => whnf
    exact trivial
  · intro i
    have hi := i.2
    conv => whnf
    refine ⟨fun hb => ?_, fun hb => ?_⟩
    · have hb : (i.1 : Int) < 5 := by simpa using hb
      have n2 := nxt_lo ls (3 * (i.1 : Int) + 1 + 1) 16
      have n3 := nxt_hi ls (3 * (i.1 : Int) + 1 + 1) 16 (by omega)
      conv => whnf
      refine (next_s _ _ _ (by first | omega | assumption | decide | simp) (by first | omega | assumption | decide | simp) (by first | omega | assumption | decide | simp)).call [0] (by decide) (And.intro rfl trivial) (And.intro rfl trivial) ?_
      rintro _ _ ⟨rfl, rfl⟩
      conv => whnf
      refine ⟨by exact ⟨nxt_lo _ _ _, nxt_hi _ _ _ (by omega)⟩, ?_⟩
      conv => whnf
      refine ⟨_, lit_get (l := [0, 1, -1, 1099511627776, -1099511627776, 1099511627777, 1500]) (nxt_lo _ _ _) (nxt_hi _ _ _ (by decide)), ?_⟩
      conv => whnf
      refine (next_s _ _ _ (by first | omega | assumption | decide | simp) (by first | omega | assumption | decide | simp) (by first | omega | assumption | decide | simp)).call [0] (by decide) (And.intro rfl trivial) (And.intro rfl trivial) ?_
      rintro _ _ ⟨rfl, rfl⟩
      conv => whnf
      refine (normal12_s _ _).call ?_
      rintro _ rfl
      conv => whnf
      refine both_f rfl ?_
      conv => whnf
      refine (next_s _ _ _ (by first | omega | assumption | decide | simp) (by first | omega | assumption | decide | simp) (by first | omega | assumption | decide | simp)).call [0] (by decide) (And.intro rfl trivial) (And.intro rfl trivial) ?_
      rintro _ _ ⟨rfl, rfl⟩
      conv => whnf
      refine (normal12_s _ _).call ?_
      rintro _ rfl
      conv => whnf
      refine both_f rfl ?_
      conv => whnf
      refine ⟨⟨i.1 + 1, by omega⟩, by show 5 - (i.1 + 1) < 5 - i.1; omega, .of [some 0] (by decide) ?_⟩
      conv => whnf
      refine ⟨by rfl, ?_⟩
      conv => whnf
      refine ⟨by rfl, ?_⟩
      conv => whnf
      refine ⟨by rfl, ?_⟩
      conv => whnf
      refine ⟨by exact (w64 _ (by omega) (by omega)).trans (by simp), ?_⟩
      conv => whnf
      refine ⟨by rfl, ?_⟩
      conv => whnf
      refine ⟨by rfl, ?_⟩
      conv => whnf
      exact trivial
    · conv => whnf
      refine .same ?_
      conv => whnf
      refine (normal12_s _ _).call ?_
      rintro _ rfl
      conv => whnf
      refine both_t rfl ?_
      conv => whnf
      refine (awake12_s).call ?_
      rintro _ rfl
      conv => whnf
theorem tagsCost_s (ls : List Int) (s l w : Int) (hs0 : -9223372036854775808 ≤ s) (hs1 : s ≤ 9223372036854775807) (hl0 : -9223372036854775808 ≤ l) (hl1 : l ≤ 9223372036854775807) (hw0 : -9223372036854775808 ≤ w) (hw1 : w ≤ 9223372036854775807) :
    PSpec Try.prog 12 [.rs 1 (nums ls), .int .i64 s, .int .i64 l, .int .i64 w] TrueS := by
  refine .of_code' tab_ok Try.func12 (by rfl) rfl trivial ?_
  conv => whnf
  refine CallG.of_code tab_ok Try.func15 (by rfl) rfl ?_
  conv => whnf
  refine LoopG.inv tab_ok 55 (fun i : { i : Nat // i ≤ 5 } => [(0, .rs 1 (nums ls)), (1, .int .i64 s), (2, .int .i64 l), (3, .int .i64 w), (8, .ff), (9, .ptr 0 0), (10, .int .i64 (i.1 : Int))])
    (fun i => [chs ls (5 * (i.1 : Int))]) (fun i => 5 - i.1) ⟨0, by decide⟩ (.of [some 0] (by decide) ?_) ?_
  · conv => whnf
    refine ⟨by rfl, ?_⟩
    conv => whnf
    refine ⟨by rfl, ?_⟩
    conv => whnf
    refine ⟨by rfl, ?_⟩
    conv => whnf
    refine ⟨by rfl, ?_⟩
    conv => whnf
    refine ⟨by rfl, ?_⟩
    conv => whnf
    refine ⟨by rfl, ?_⟩
    conv => whnf
    refine ⟨by rfl, ?_⟩
    conv => whnf
    exact trivial
  · intro i
    have hi := i.2
    conv => whnf
    refine ⟨fun hb => ?_, fun hb => ?_⟩
    · have hb : (i.1 : Int) < 5 := by simpa using hb
      conv => whnf
      refine (next_s _ _ _ (by first | omega | exact getD_lo _ _ (by decide) | exact getD_hi _ _ (by decide) | assumption | decide | simp) (by first | omega | exact getD_lo _ _ (by decide) | exact getD_hi _ _ (by decide) | assumption | decide | simp) (by first | omega | exact getD_lo _ _ (by decide) | exact getD_hi _ _ (by decide) | assumption | decide | simp)).call [0] (by decide) (And.intro rfl trivial) (And.intro rfl trivial) ?_
      rintro _ _ ⟨rfl, rfl⟩
      conv => whnf
      refine ⟨by exact ⟨nxt_lo _ _ _, nxt_hi _ _ _ (by omega)⟩, ?_⟩
      conv => whnf
      refine ⟨_, lit_get (l := [0, 1, 1099511627776, 1099510907056, 12345, -1, 1099511627777]) (nxt_lo _ _ _) (nxt_hi _ _ _ (by decide)), ?_⟩
      conv => whnf
      refine DrawG.of mixed tab_ok ?_
      conv => whnf
      refine (next_s _ _ _ (by first | omega | exact getD_lo _ _ (by decide) | exact getD_hi _ _ (by decide) | assumption | decide | simp) (by first | omega | exact getD_lo _ _ (by decide) | exact getD_hi _ _ (by decide) | assumption | decide | simp) (by first | omega | exact getD_lo _ _ (by decide) | exact getD_hi _ _ (by decide) | assumption | decide | simp)).calld [0] (by decide) rfl (And.intro rfl trivial) (And.intro rfl trivial) ?_
      conv => whnf
      refine ⟨by exact ⟨nxt_lo _ _ _, nxt_hi _ _ _ (by omega)⟩, ?_⟩
      conv => whnf
      refine ⟨_, lit_get (l := [0, 1, 100, 4096, 4097]) (nxt_lo _ _ _) (nxt_hi _ _ _ (by decide)), ?_⟩
      conv => whnf
      refine (next_s _ _ _ (by first | omega | exact getD_lo _ _ (by decide) | exact getD_hi _ _ (by decide) | assumption | decide | simp) (by first | omega | exact getD_lo _ _ (by decide) | exact getD_hi _ _ (by decide) | assumption | decide | simp) (by first | omega | exact getD_lo _ _ (by decide) | exact getD_hi _ _ (by decide) | assumption | decide | simp)).calld [0] (by decide) rfl (And.intro rfl trivial) (And.intro rfl trivial) ?_
      conv => whnf
      refine ⟨by kernel_rfl, ?_⟩
      conv => whnf
      refine (costs12_s _ _ _ (by first | omega | exact getD_lo _ _ (by decide) | exact getD_hi _ _ (by decide) | assumption | decide | simp) (by first | omega | exact getD_lo _ _ (by decide) | exact getD_hi _ _ (by decide) | assumption | decide | simp)).call ?_
      rintro _ rfl
      conv => whnf
      refine both_f rfl ?_
      conv => whnf
      refine (next_s _ _ _ (by first | omega | exact getD_lo _ _ (by decide) | exact getD_hi _ _ (by decide) | assumption | decide | simp) (by first | omega | exact getD_lo _ _ (by decide) | exact getD_hi _ _ (by decide) | assumption | decide | simp) (by first | omega | exact getD_lo _ _ (by decide) | exact getD_hi _ _ (by decide) | assumption | decide | simp)).call [0] (by decide) (And.intro rfl trivial) (And.intro rfl trivial) ?_
      rintro _ _ ⟨rfl, rfl⟩
      conv => whnf
      refine (next_s _ _ _ (by first | omega | exact getD_lo _ _ (by decide) | exact getD_hi _ _ (by decide) | assumption | decide | simp) (by first | omega | exact getD_lo _ _ (by decide) | exact getD_hi _ _ (by decide) | assumption | decide | simp) (by first | omega | exact getD_lo _ _ (by decide) | exact getD_hi _ _ (by decide) | assumption | decide | simp)).call [0] (by decide) (And.intro rfl trivial) (And.intro rfl trivial) ?_
      rintro _ _ ⟨rfl, rfl⟩
      conv => whnf
      refine (costs12_s _ _ _ (by first | omega | exact getD_lo _ _ (by decide) | exact getD_hi _ _ (by decide) | assumption | decide | simp) (by first | omega | exact getD_lo _ _ (by decide) | exact getD_hi _ _ (by decide) | assumption | decide | simp)).call ?_
      rintro _ rfl
      conv => whnf
      refine both_f rfl ?_
      conv => whnf
      refine ⟨⟨i.1 + 1, by omega⟩, by show 5 - (i.1 + 1) < 5 - i.1; omega, .of [some 0] (by decide) ?_⟩
      conv => whnf
      refine ⟨by rfl, ?_⟩
      conv => whnf
      refine ⟨by rfl, ?_⟩
      conv => whnf
      refine ⟨by rfl, ?_⟩
      conv => whnf
      refine ⟨by rfl, ?_⟩
      conv => whnf
      refine ⟨by exact (w64 _ (by omega) (by omega)).trans (by simp), ?_⟩
      conv => whnf
      refine ⟨by rfl, ?_⟩
      conv => whnf
      refine ⟨by rfl, ?_⟩
      conv => whnf
      exact trivial
    · conv => whnf
      refine .same ?_
      conv => whnf
      refine (costs12_s _ _ _ (by first | omega | assumption | decide | simp) (by first | omega | assumption | decide | simp)).call ?_
      rintro _ rfl
      conv => whnf
      refine both_t rfl ?_
      conv => whnf
      refine (awake12_s).call ?_
      rintro _ rfl
      conv => whnf
theorem tagsLeast_s (ls : List Int) (ts : List Tg) :
    PSpec Try.prog 13 [.rs 1 (nums ls), .rs 3 (ts.map tagE)] TrueS := by
  refine .of_code' tab_ok Try.func13 (by rfl) rfl trivial ?_
  conv => whnf
  refine CallG.of_code tab_ok Try.func15 (by rfl) rfl ?_
  conv => whnf
  refine LoopG.inv tab_ok 48 (fun x : { x : Nat × Int // x.1 ≤ 6 ∧ 0 ≤ x.2 ∧ x.2 ≤ 30 * x.1 } => [(0, .rs 1 (nums ls)), (1, .rs 3 (ts.map tagE)), (4, .ff), (5, .ptr 0 0), (6, .int .i64 (x.1.1 : Int))])
    (fun x => [chs ls x.1.2]) (fun x => 6 - x.1.1) ⟨(0, 0), by decide⟩ (.of [some 0] (by decide) ?_) ?_
  · conv => whnf
    refine ⟨by rfl, ?_⟩
    conv => whnf
    refine ⟨by rfl, ?_⟩
    conv => whnf
    refine ⟨by rfl, ?_⟩
    conv => whnf
    refine ⟨by rfl, ?_⟩
    conv => whnf
    refine ⟨by rfl, ?_⟩
    conv => whnf
    exact trivial
  · intro x
    obtain ⟨hx1, hx2, hx3⟩ := x.2
    conv => whnf
    refine ⟨fun hb => ?_, fun hb => ?_⟩
    · have hb : (x.1.1 : Int) < 6 := by simpa using hb
      conv => whnf
      refine (list_s ls x.1.2 hx2 (by omega)).call [0] (by decide) trivial (And.intro rfl trivial) ?_
      rintro _ _ ⟨us, a2, rfl, rfl, hu1, hu2, hu3, hu4⟩
      conv => whnf
      refine (valid_s _ (by first | omega | assumption | decide | simp)).call ?_
      rintro _ rfl
      conv => whnf
      refine (rvalid_s _ (by first | omega | assumption | decide | simp)).call ?_
      rintro _ rfl
      conv => whnf
      refine both_f (by simp) ?_
      conv => whnf
      refine (least_s _ (by first | omega | assumption | decide | simp)).call ?_
      rintro _ rfl
      conv => whnf
      refine (rleast_s _ (by first | omega | assumption | decide | simp)).call ?_
      rintro _ rfl
      conv => whnf
      refine both_f (by simp) ?_
      conv => whnf
      refine ⟨⟨(x.1.1 + 1, a2), by show x.1.1 + 1 ≤ 6; omega, by show 0 ≤ a2; omega, by show a2 ≤ 30 * ((x.1.1 + 1 : Nat) : Int); omega⟩, by show 6 - (x.1.1 + 1) < 6 - x.1.1; omega, .of [some 0] (by decide) ?_⟩
      conv => whnf
      refine ⟨by rfl, ?_⟩
      conv => whnf
      refine ⟨by rfl, ?_⟩
      conv => whnf
      refine ⟨by exact (w64 _ (by omega) (by omega)).trans (by simp), ?_⟩
      conv => whnf
      refine ⟨by rfl, ?_⟩
      conv => whnf
      refine ⟨by rfl, ?_⟩
      conv => whnf
      exact trivial
    · conv => whnf
      refine .same ?_
      conv => whnf
      refine ⟨fun hc => ?_, fun hc => ?_⟩
      · conv => whnf
        refine (awake12_s).call ?_
        rintro _ rfl
        conv => whnf
      · have hc : (ts.length : Int) ≤ 60 := by simpa using hc
        conv => whnf
        refine (valid_s _ (by first | omega | assumption | decide | simp)).call ?_
        rintro _ rfl
        conv => whnf
        refine (rvalid_s _ (by first | omega | assumption | decide | simp)).call ?_
        rintro _ rfl
        conv => whnf
        refine both_t (by simp) ?_
        conv => whnf
        refine (least_s _ (by first | omega | assumption | decide | simp)).call ?_
        rintro _ rfl
        conv => whnf
        refine (rleast_s _ (by first | omega | assumption | decide | simp)).call ?_
        rintro _ rfl
        conv => whnf
        refine both_t (by simp) ?_
        conv => whnf
        refine (awake12_s).call ?_
        rintro _ rfl
        conv => whnf
theorem tagsRebase_s (ls : List Int) (ts : List Tg) (b : Int) (hb0 : -9223372036854775808 ≤ b) (hb1 : b ≤ 9223372036854775807) :
    PSpec Try.prog 14 [.rs 1 (nums ls), .rs 3 (ts.map tagE), .int .i64 b] TrueS := by
  refine .of_code' tab_ok Try.func14 (by rfl) rfl trivial ?_
  conv => whnf
  refine CallG.of_code tab_ok Try.func15 (by rfl) rfl ?_
  conv => whnf
  refine LoopG.inv tab_ok 41 (fun x : { x : Nat × Int // x.1 ≤ 6 ∧ 0 ≤ x.2 ∧ x.2 ≤ 61 * x.1 } => [(0, .rs 1 (nums ls)), (1, .rs 3 (ts.map tagE)), (2, .int .i64 b), (6, .ff), (7, .ptr 0 0), (8, .int .i64 (x.1.1 : Int))])
    (fun x => [chs ls x.1.2]) (fun x => 6 - x.1.1) ⟨(0, 0), by decide⟩ (.of [some 0] (by decide) ?_) ?_
  · conv => whnf
    refine ⟨by rfl, ?_⟩
    conv => whnf
    refine ⟨by rfl, ?_⟩
    conv => whnf
    refine ⟨by rfl, ?_⟩
    conv => whnf
    refine ⟨by rfl, ?_⟩
    conv => whnf
    refine ⟨by rfl, ?_⟩
    conv => whnf
    refine ⟨by rfl, ?_⟩
    conv => whnf
    exact trivial
  · intro x
    obtain ⟨hx1, hx2, hx3⟩ := x.2
    conv => whnf
    refine ⟨fun hb => ?_, fun hb => ?_⟩
    · have hb : (x.1.1 : Int) < 6 := by simpa using hb
      conv => whnf
      refine (list_s ls x.1.2 hx2 (by omega)).call [0] (by decide) trivial (And.intro rfl trivial) ?_
      rintro _ _ ⟨us, a2, rfl, rfl, hu1, hu2, hu3, hu4⟩
      have n0 := nxt_lo ls a2 5
      have n1 := nxt_hi ls a2 5 (by omega)
      have e1 : IntKind.i64.wrap (nxt ls a2 5 * 1000) = nxt ls a2 5 * 1000 := w64 _ (by omega) (by omega)
      have e2 : IntKind.i64.wrap (nxt ls a2 5 * 1000 - 1000) = nxt ls a2 5 * 1000 - 1000 := w64 _ (by omega) (by omega)
      conv => whnf
      refine (next_s ls a2 5 (by omega) (by omega) (by omega)).call [0] (by decide) (And.intro rfl trivial) (And.intro rfl trivial) ?_
      rintro _ _ ⟨rfl, rfl⟩
      conv => whnf
      refine (rebases12_s us _ (by omega) (by rw [e1, e2]; omega) (by rw [e1, e2]; omega)).call ?_
      rintro _ rfl
      conv => whnf
      refine both_f rfl ?_
      conv => whnf
      refine (list_s ls (a2 + 1) (by omega) (by omega)).call [0] (by decide) trivial (And.intro rfl trivial) ?_
      rintro _ _ ⟨vs, a3, rfl, rfl, hv1, hv2, hv3, hv4⟩
      conv => whnf
      refine (rebases12_s vs _ (by omega) hb0 hb1).call ?_
      rintro _ rfl
      conv => whnf
      refine both_f rfl ?_
      conv => whnf
      refine ⟨⟨(x.1.1 + 1, a3), by show x.1.1 + 1 ≤ 6; omega, by show 0 ≤ a3; omega, by show a3 ≤ 61 * ((x.1.1 + 1 : Nat) : Int); omega⟩, by show 6 - (x.1.1 + 1) < 6 - x.1.1; omega, .of [some 0] (by decide) ?_⟩
      conv => whnf
      refine ⟨by rfl, ?_⟩
      conv => whnf
      refine ⟨by rfl, ?_⟩
      conv => whnf
      refine ⟨by rfl, ?_⟩
      conv => whnf
      refine ⟨by exact (w64 _ (by omega) (by omega)).trans (by simp), ?_⟩
      conv => whnf
      refine ⟨by rfl, ?_⟩
      conv => whnf
      refine ⟨by rfl, ?_⟩
      conv => whnf
      exact trivial
    · conv => whnf
      refine .same ?_
      conv => whnf
      refine ⟨fun hc => ?_, fun hc => ?_⟩
      · conv => whnf
        refine (awake12_s).call ?_
        rintro _ rfl
        conv => whnf
      · have hc : (ts.length : Int) ≤ 60 := by simpa using hc
        conv => whnf
        refine (rebases12_s _ _ (by first | omega | assumption | decide | simp) (by first | omega | assumption | decide | simp) (by first | omega | assumption | decide | simp)).call ?_
        rintro _ rfl
        conv => whnf
        refine both_t rfl ?_
        conv => whnf
        refine (awake12_s).call ?_
        rintro _ rfl
        conv => whnf
end Go.Proofs.Ythlomoacacebeab

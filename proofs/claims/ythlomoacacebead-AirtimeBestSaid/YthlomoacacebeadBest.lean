/- Best over drawn lists: the contract of the code of AirtimeBest. -/
import Derived.Test.YthlomoacacebeadAir2
namespace Go.Proofs.Ythlomoacacebead
open Go.Sx
set_option linter.unusedSimpArgs false
set_option linter.unusedVariables false
theorem lbestA_s (l : List (Int × Int)) (hlen : l.length ≤ 1000) (b : Int) : PSpec Try.prog 36 [.rs 2 (l.map pairS ++ List.replicate 13 [.int .i64 0, .int .i64 0]), .int .i64 b] (· = .bool true) := by
  have e : l.map pairS ++ List.replicate 13 [SV.int .i64 0, SV.int .i64 0] = (l ++ List.replicate 13 (0, 0)).map pairS := by simp
  rw [e]; exact lbest_s _ (by simp; omega) b
theorem airtimeBest_s (ls : List Int) (raw : List (Int × Int)) (b : Int) : PSpec Try.prog 5 [.rs 1 (nums ls), .rs 2 (raw.map pairS), .int .i64 b] TrueS := by
  refine .of_code' tab_ok Try.func5 (by rfl) rfl trivial ?_
  conv => whnf
  refine CallG.of_code tab_ok Try.func15 (by rfl) rfl ?_
  conv => whnf
  refine LoopG.inv tab_ok 52 (fun x : { x : Nat × Int // x.1 ≤ 5 ∧ 0 ≤ x.2 ∧ x.2 ≤ 100 * x.1 } => [(1, .rs 2 (raw.map pairS)), (2, .int .i64 b), (6, .ff), (7, .ptr 0 0), (8, .int .i64 (x.1.1 : Int))])
    (fun x => [chs ls x.1.2]) (fun x => 5 - x.1.1) ⟨(0, 0), by decide⟩ (.of [some 0] (by rfl) ?_) ?_
  · conv => whnf
    refine ⟨by rfl, ?_⟩
    conv => whnf
    refine ⟨by rfl, ?_⟩
    conv => whnf
    refine ⟨by rfl, ?_⟩
    conv => whnf
    refine ⟨by rfl, ?_⟩
    conv => whnf
    refine ⟨by rfl, ?_⟩
    conv => whnf
    exact trivial
  · intro x
    obtain ⟨hx1, hx2, hx3⟩ := x.2
    conv => whnf
    refine ⟨fun hb => ?_, fun hb => ?_⟩
    · have hb : (x.1.1 : Int) < 5 := by simpa using hb
      have n0 := nxt_lo ls x.1.2 5
      have n1 := nxt_hi ls x.1.2 5 (by omega)
      conv => whnf
      refine (next_s _ _ _ (by first | omega | assumption | decide | simp) (by first | omega | assumption | decide | simp) (by first | omega | assumption | decide | simp)).call [0] (by decide) (And.intro rfl trivial) (And.intro rfl trivial) ?_
      rintro _ _ ⟨rfl, rfl⟩
      conv => whnf
      refine LoopG.inv tab_ok 52 (fun y : { y : List (Int × Int) × Nat × Int // y.1.length + y.2.1 ≤ 4 ∧ 0 ≤ y.2.2 ∧ y.2.2 ≤ 100 * (x.1.1 : Int) + 13 - 3 * y.2.1 } => [(1, .rs 2 (raw.map pairS)), (2, .int .i64 b), (6, .ff), (7, .ptr 0 0), (8, .int .i64 (x.1.1 : Int)), (9, .sl 1), (10, .int .i64 (y.1.2.1 : Int))])
        (fun y => [chs ls y.1.2.2, .row 52 2 (y.1.1.map pairS)]) (fun y => y.1.2.1) ⟨([], (nxt ls x.1.2 5).toNat, x.1.2 + 1), by simp; omega, by show 0 ≤ x.1.2 + 1; omega, by show x.1.2 + 1 ≤ 100 * (x.1.1 : Int) + 13 - 3 * ((nxt ls x.1.2 5).toNat : Int); omega⟩ (.of [some 0, none] (by rfl) ?_) ?_
      · conv => whnf
        refine ⟨by rfl, ?_⟩
        conv => whnf
        refine ⟨by rfl, ?_⟩
        conv => whnf
        refine ⟨by rfl, ?_⟩
        conv => whnf
        refine ⟨by simp; omega, ?_⟩
        conv => whnf
        refine ⟨by rfl, ?_⟩
        conv => whnf
        refine ⟨by rfl, ?_⟩
        conv => whnf
        refine ⟨by rfl, ?_⟩
        conv => whnf
        exact trivial
      · intro y
        obtain ⟨hy1, hy2, hy3⟩ := y.2
        conv => whnf
        refine ⟨fun hc => ?_, fun hc => ?_⟩
        · have hc : (0 : Int) < (y.1.2.1 : Int) := by simpa using hc
          have e3 : IntKind.i64.wrap ((y.1.2.1 : Int) - 1) = ((y.1.2.1 - 1 : Nat) : Int) := by rw [w64 _ (by omega) (by omega)]; omega
          have r1 := rta_rng ls y.1.2.2
          conv => whnf
          refine (lrate_s _ _ (by first | omega | assumption | decide | simp) (by first | omega | assumption | decide | simp)).call [0] (by decide) trivial (And.intro rfl trivial) ?_
          rintro _ _ ⟨rfl, rfl⟩
          conv => whnf
          refine ⟨by simp; omega, ?_⟩
          conv => whnf
          refine ⟨⟨(y.1.1 ++ [rty ls y.1.2.2], y.1.2.1 - 1, rta ls y.1.2.2), by simp; omega, by show 0 ≤ rta ls y.1.2.2; omega, by show rta ls y.1.2.2 ≤ 100 * (x.1.1 : Int) + 13 - 3 * ((y.1.2.1 - 1 : Nat) : Int); omega⟩, by show y.1.2.1 - 1 < y.1.2.1; omega, .of [some 0, some 3] (by rfl) ?_⟩
          conv => whnf
          refine ⟨by rfl, ?_⟩
          conv => whnf
          refine ⟨by rfl, ?_⟩
          conv => whnf
          refine ⟨by rfl, ?_⟩
          conv => whnf
          refine ⟨by omega, ?_⟩
          conv => whnf
          refine ⟨by rfl, ?_⟩
          conv => whnf
          refine ⟨by rfl, ?_⟩
          conv => whnf
          refine ⟨by simp, ?_⟩
          conv => whnf
          exact trivial
        · have hc : ¬ (0 : Int) < (y.1.2.1 : Int) := by simpa using hc
          have lb : y.1.1.length ≤ 1000000 := by omega
          have lc : y.1.1.length ≤ 1000 := by omega
          conv => whnf
          refine .same ?_
          conv => whnf
          refine (next_s _ _ _ (by first | omega | assumption | decide | simp) (by first | omega | assumption | decide | simp) (by first | omega | assumption | decide | simp)).call [0] (by decide) (And.intro rfl trivial) (And.intro rfl trivial) ?_
          rintro _ _ ⟨rfl, rfl⟩
          conv => whnf
          refine ⟨fun hh10 => ?_, fun hh10 => ?_⟩
          · simp only [decide_eq_true_eq, decide_eq_false_iff_not] at hh10
            conv => whnf
            refine ⟨by omega, ?_⟩
            conv => whnf
            refine ⟨by simp; omega, ?_⟩
            conv => whnf
            refine (next_s _ _ _ (by first | omega | assumption | decide | simp) (by first | omega | assumption | decide | simp) (by first | omega | assumption | decide | simp)).call [0] (by decide) (And.intro rfl trivial) (And.intro rfl trivial) ?_
            rintro _ _ ⟨rfl, rfl⟩
            conv => whnf
            refine ⟨by exact ⟨nxt_lo _ _ _, nxt_hi _ _ _ (by omega)⟩, ?_⟩
            conv => whnf
            refine ⟨_, lit_get (l := [0, 100, 5000, 262144, 262145]) (nxt_lo _ _ _) (nxt_hi _ _ _ (by decide)), ?_⟩
            conv => whnf
            -- CALL f=36 args=[SV.sl 2, SV.int IntKind.i64 ([0, 100, 5000, 262144, 262145].getD (nxt ls (y.val.snd.snd + 1) 5).toNat 0)] heap=[chs ls (y.val.snd.snd + 1 + 1), (1, Blk.dead).snd, (2, Blk.row 52 { ti := TI.struct [(0, 2, 1), (1, 2, 1)], size := 2, bytes := 16, zero := [SV.int IntKind.i64 0, SV.int IntKind.i64 0], flat := true }.size (List.map pairS y.val.fst ++ List.replicate (Int.toNat 13) [SV.int IntKind.i64 0, SV.int IntKind.i64 0])).snd, (3, Blk.row 3 { ti := TI.int IntKind.i64, size := 1, bytes := 8, zero := [SV.int IntKind.i64 0], flat := false }.size [[SV.int IntKind.i64 0], [SV.int IntKind.i64 100], [SV.int IntKind.i64 5000], [SV.int IntKind.i64 262144], [SV.int IntKind.i64 262145]]).snd]
            refine PSpec.lend (lbestA_s y.1.1 lc ([0, 100, 5000, 262144, 262145].getD (nxt ls (y.1.2.2 + 1) 5).toNat 0)) ?_ ?_
            · conv => whnf
              refine ⟨rfl, ?_⟩
              conv => whnf
              refine ⟨rfl, ?_⟩
              conv => whnf
              exact trivial
            rintro _ rfl
            conv => whnf
            refine both_f rfl ?_
            conv => whnf
            refine ⟨⟨(x.1.1 + 1, y.1.2.2 + 1 + 1), by show x.1.1 + 1 ≤ 5; omega, by show 0 ≤ y.1.2.2 + 1 + 1; omega, by show y.1.2.2 + 1 + 1 ≤ 100 * ((x.1.1 + 1 : Nat) : Int); omega⟩, by show 5 - (x.1.1 + 1) < 5 - x.1.1; omega, .of [some 0] (by rfl) ?_⟩
            conv => whnf
            refine ⟨by rfl, ?_⟩
            conv => whnf
            refine ⟨by rfl, ?_⟩
            conv => whnf
            refine ⟨by exact (w64 _ (by omega) (by omega)).trans (by simp), ?_⟩
            conv => whnf
            refine ⟨by rfl, ?_⟩
            conv => whnf
            refine ⟨by rfl, ?_⟩
            conv => whnf
            exact trivial
          · simp only [decide_eq_true_eq, decide_eq_false_iff_not] at hh10
            conv => whnf
            refine (next_s _ _ _ (by first | omega | assumption | decide | simp) (by first | omega | assumption | decide | simp) (by first | omega | assumption | decide | simp)).call [0] (by decide) (And.intro rfl trivial) (And.intro rfl trivial) ?_
            rintro _ _ ⟨rfl, rfl⟩
            conv => whnf
            refine ⟨by exact ⟨nxt_lo _ _ _, nxt_hi _ _ _ (by omega)⟩, ?_⟩
            conv => whnf
            refine ⟨_, lit_get (l := [0, 100, 5000, 262144, 262145]) (nxt_lo _ _ _) (nxt_hi _ _ _ (by decide)), ?_⟩
            conv => whnf
            -- CALL f=36 args=[(9, SV.sl 1).snd, SV.int IntKind.i64 ([0, 100, 5000, 262144, 262145].getD (nxt ls (y.val.snd.snd + 1) 5).toNat 0)] heap=[chs ls (y.val.snd.snd + 1 + 1), Blk.row 52 2 (List.map pairS y.val.fst), (2, Blk.row 3 { ti := TI.int IntKind.i64, size := 1, bytes := 8, zero := [SV.int IntKind.i64 0], flat := false }.size [[SV.int IntKind.i64 0], [SV.int IntKind.i64 100], [SV.int IntKind.i64 5000], [SV.int IntKind.i64 262144], [SV.int IntKind.i64 262145]]).snd]
            refine PSpec.lend (lbest_s y.1.1 lb ([0, 100, 5000, 262144, 262145].getD (nxt ls (y.1.2.2 + 1) 5).toNat 0)) ?_ ?_
            · conv => whnf
              refine ⟨rfl, ?_⟩
              conv => whnf
              refine ⟨rfl, ?_⟩
              conv => whnf
              exact trivial
            rintro _ rfl
            conv => whnf
            refine both_f rfl ?_
            conv => whnf
            refine ⟨⟨(x.1.1 + 1, y.1.2.2 + 1 + 1), by show x.1.1 + 1 ≤ 5; omega, by show 0 ≤ y.1.2.2 + 1 + 1; omega, by show y.1.2.2 + 1 + 1 ≤ 100 * ((x.1.1 + 1 : Nat) : Int); omega⟩, by show 5 - (x.1.1 + 1) < 5 - x.1.1; omega, .of [some 0] (by rfl) ?_⟩
            conv => whnf
            refine ⟨by rfl, ?_⟩
            conv => whnf
            refine ⟨by rfl, ?_⟩
            conv => whnf
            refine ⟨by exact (w64 _ (by omega) (by omega)).trans (by simp), ?_⟩
            conv => whnf
            refine ⟨by rfl, ?_⟩
            conv => whnf
            refine ⟨by rfl, ?_⟩
            conv => whnf
            exact trivial
    · conv => whnf
      refine .same ?_
      conv => whnf
      refine ⟨fun hh0 => ?_, fun hh0 => ?_⟩
      · simp only [decide_eq_true_eq, decide_eq_false_iff_not] at hh0
        conv => whnf
        refine (awake19_s).call ?_
        rintro _ rfl
        conv => whnf
      · simp only [decide_eq_true_eq, decide_eq_false_iff_not] at hh0
        conv => whnf
        -- CALL f=36 args=[(1, SV.rs 2 (List.map pairS raw)).snd, (2, SV.int IntKind.i64 b).snd] heap=[chs ls x.val.snd]
        have q : raw.length ≤ 1000000 := by simp at hh0; omega
        refine (lbest_s raw q _).call ?_
        rintro _ rfl
        conv => whnf
        refine both_t rfl ?_
        conv => whnf
        refine (awake19_s).call ?_
        rintro _ rfl
        conv => whnf

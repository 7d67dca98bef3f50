/- Chapter 18: the contract of the code of LifeOrder. -/
import Derived.Test.YthlomoacacebeadOrd4
import Derived.Test.YthlomoacacebeadCut2
namespace Go.Proofs.Ythlomoacacebead
open Go.Sx
set_option linter.unusedSimpArgs false
set_option linter.unusedVariables false
def c0 : Nat → Int := fun _ => 0
theorem ord_nil (f : Int) : ordO [] f [] := ⟨List.Pairwise.nil, (fun x hx => by cases hx), rfl⟩
theorem lifeOrder_s (ls : List Int) : PSpec Try.prog 3 [.rs 1 (nums ls)] TrueS := by
  refine .of_cut tab_ok 9 Try.func3 (by rfl) rfl trivial ?_
  have n0 := nxt_lo ls 0 12
  have n1 := nxt_hi ls 0 12 (by omega)
  obtain ⟨n, hn⟩ : ∃ n : Nat, nxt ls 0 12 = (n : Int) := ⟨(nxt ls 0 12).toNat, by omega⟩
  have ew : IntKind.i64.wrap (1 + nxt ls 0 12) = ((n + 1 : Nat) : Int) := by rw [w64 _ (by omega) (by omega)]; omega
  conv => whnf
  refine CallG.of_code tab_ok Try.func15 (by rfl) rfl ?_
  conv => whnf
  refine CallG.of_code tab_ok Try.func16 (by rfl) rfl ?_
  conv => whnf
  refine (next_s _ _ _ (by first | omega | assumption | decide | simp) (by first | omega | assumption | decide | simp) (by first | omega | assumption | decide | simp)).call [0] (by decide) (And.intro rfl trivial) (And.intro rfl trivial) ?_
  rintro _ _ ⟨rfl, rfl⟩
  conv => whnf
  refine LoopG.inv tab_ok 84 (fun y : { y : LSt × Nat × Int // LOk y.1 ∧ y.1.P.length = y.2.1 ∧ y.2.1 ≤ n + 1 ∧ 0 ≤ y.2.2 ∧ y.2.2 ≤ 1 + (y.2.1 : Int) } => [(2, .ff), (3, .ptr 0 0), (4, .ptr 1 0), (5, .int .i64 ((n + 1 : Nat) : Int)), (6, .int .i64 (y.1.2.1 : Int))])
    (fun y => [chs ls y.1.2.2, lgT 2 3 4 y.1.1.c, lgP y.1.1.P, lgO y.1.1.a, lgO y.1.1.b]) (fun y => n + 1 - y.1.2.1)
    ⟨(⟨[], c0, [], []⟩, 0, 0 + 1), ⟨by show 0 ≤ 1000; omega, (fun i hi => by simp at hi), ord_nil 0, ord_nil 1⟩, rfl, by show 0 ≤ n + 1; omega, by decide, by decide⟩ (.of [some 0, some 1, none, none, none] (by rfl) ?_) ?_
  · conv => whnf
    refine ⟨by omega, ?_⟩
    conv => whnf
    refine ⟨by rfl, ?_⟩
    conv => whnf
    refine ⟨by rfl, ?_⟩
    conv => whnf
    refine ⟨by rfl, ?_⟩
    conv => whnf
    refine ⟨by rfl, ?_⟩
    conv => whnf
    refine ⟨by rfl, ?_⟩
    conv => whnf
    refine ⟨by rfl, ?_⟩
    conv => whnf
    refine ⟨by rfl, ?_⟩
    conv => whnf
    refine ⟨by rfl, ?_⟩
    conv => whnf
    refine ⟨by rfl, ?_⟩
    conv => whnf
    refine ⟨by rfl, ?_⟩
    conv => whnf
    refine ⟨by rfl, ?_⟩
    conv => whnf
    refine ⟨by rfl, ?_⟩
    conv => whnf
    refine ⟨by rfl, ?_⟩
    conv => whnf
    refine ⟨by rfl, ?_⟩
    conv => whnf
    refine ⟨by rfl, ?_⟩
    conv => whnf
    refine ⟨by rfl, ?_⟩
    conv => whnf
    refine ⟨by rfl, ?_⟩
    conv => whnf
    refine ⟨by rfl, ?_⟩
    conv => whnf
    refine ⟨by rfl, ?_⟩
    conv => whnf
    refine ⟨by rfl, ?_⟩
    conv => whnf
    refine ⟨by rfl, ?_⟩
    conv => whnf
    refine ⟨by rfl, ?_⟩
    conv => whnf
    refine ⟨by rfl, ?_⟩
    conv => whnf
    refine ⟨by rfl, ?_⟩
    conv => whnf
    refine ⟨by rfl, ?_⟩
    conv => whnf
    refine ⟨by rfl, ?_⟩
    conv => whnf
    refine ⟨by rfl, ?_⟩
    conv => whnf
    refine ⟨by rfl, ?_⟩
    conv => whnf
    refine ⟨by rfl, ?_⟩
    conv => whnf
    refine ⟨by rfl, ?_⟩
    conv => whnf
    refine ⟨by rfl, ?_⟩
    conv => whnf
    refine ⟨by rfl, ?_⟩
    conv => whnf
    refine ⟨by rfl, ?_⟩
    conv => whnf
    refine ⟨by rfl, ?_⟩
    conv => whnf
    refine ⟨by rfl, ?_⟩
    conv => whnf
    refine ⟨by rfl, ?_⟩
    conv => whnf
    refine ⟨by rfl, ?_⟩
    conv => whnf
    refine ⟨by rfl, ?_⟩
    conv => whnf
    refine ⟨by rfl, ?_⟩
    conv => whnf
    refine ⟨by rfl, ?_⟩
    conv => whnf
    refine ⟨by rfl, ?_⟩
    conv => whnf
    refine ⟨by rfl, ?_⟩
    conv => whnf
    refine ⟨by rfl, ?_⟩
    conv => whnf
    refine ⟨by rfl, ?_⟩
    conv => whnf
    refine ⟨by rfl, ?_⟩
    conv => whnf
    refine ⟨by rfl, ?_⟩
    conv => whnf
    refine ⟨by rfl, ?_⟩
    conv => whnf
    refine ⟨by rfl, ?_⟩
    conv => whnf
    refine ⟨by rfl, ?_⟩
    conv => whnf
    refine ⟨by rfl, ?_⟩
    conv => whnf
    refine ⟨by rfl, ?_⟩
    conv => whnf
    refine ⟨by rfl, ?_⟩
    conv => whnf
    refine ⟨by rfl, ?_⟩
    conv => whnf
    refine ⟨by rfl, ?_⟩
    conv => whnf
    refine ⟨by rfl, ?_⟩
    conv => whnf
    refine ⟨by rfl, ?_⟩
    conv => whnf
    refine ⟨by rfl, ?_⟩
    conv => whnf
    refine ⟨by rfl, ?_⟩
    conv => whnf
    refine ⟨by rfl, ?_⟩
    conv => whnf
    refine ⟨by rfl, ?_⟩
    conv => whnf
    refine ⟨by rfl, ?_⟩
    conv => whnf
    refine ⟨by rfl, ?_⟩
    conv => whnf
    refine ⟨by rfl, ?_⟩
    conv => whnf
    refine ⟨by rfl, ?_⟩
    conv => whnf
    refine ⟨by rfl, ?_⟩
    conv => whnf
    refine ⟨by rfl, ?_⟩
    conv => whnf
    refine ⟨by rfl, ?_⟩
    conv => whnf
    refine ⟨by rfl, ?_⟩
    conv => whnf
    refine ⟨by rfl, ?_⟩
    conv => whnf
    refine ⟨by rfl, ?_⟩
    conv => whnf
    refine ⟨by rfl, ?_⟩
    conv => whnf
    refine ⟨by rfl, ?_⟩
    conv => whnf
    refine ⟨by rfl, ?_⟩
    conv => whnf
    refine ⟨by rfl, ?_⟩
    conv => whnf
    refine ⟨by rfl, ?_⟩
    conv => whnf
    refine ⟨by rfl, ?_⟩
    conv => whnf
    refine ⟨by rfl, ?_⟩
    conv => whnf
    refine ⟨by rfl, ?_⟩
    conv => whnf
    refine ⟨by rfl, ?_⟩
    conv => whnf
    refine ⟨by rfl, ?_⟩
    conv => whnf
    refine ⟨by rfl, ?_⟩
    conv => whnf
    refine ⟨by rfl, ?_⟩
    conv => whnf
    refine ⟨by rfl, ?_⟩
    conv => whnf
    refine ⟨by rfl, ?_⟩
    conv => whnf
    refine ⟨by rfl, ?_⟩
    conv => whnf
    refine ⟨by rfl, ?_⟩
    conv => whnf
    refine ⟨by rfl, ?_⟩
    conv => whnf
    refine ⟨by rfl, ?_⟩
    conv => whnf
    refine ⟨by rfl, ?_⟩
    conv => whnf
    refine ⟨by rfl, ?_⟩
    conv => whnf
    refine ⟨by rfl, ?_⟩
    conv => whnf
    refine ⟨by rfl, ?_⟩
    conv => whnf
    refine ⟨by rfl, ?_⟩
    conv => whnf
    refine ⟨by rfl, ?_⟩
    conv => whnf
    refine ⟨by rfl, ?_⟩
    conv => whnf
    refine ⟨by rfl, ?_⟩
    conv => whnf
    refine ⟨by rfl, ?_⟩
    conv => whnf
    refine ⟨by rfl, ?_⟩
    conv => whnf
    refine ⟨by rfl, ?_⟩
    conv => whnf
    refine ⟨by rfl, ?_⟩
    conv => whnf
    refine ⟨by rfl, ?_⟩
    conv => whnf
    refine ⟨by rfl, ?_⟩
    conv => whnf
    refine ⟨by rfl, ?_⟩
    conv => whnf
    refine ⟨by rfl, ?_⟩
    conv => whnf
    refine ⟨by rfl, ?_⟩
    conv => whnf
    refine ⟨by rfl, ?_⟩
    conv => whnf
    refine ⟨by rfl, ?_⟩
    conv => whnf
    refine ⟨by rfl, ?_⟩
    conv => whnf
    refine ⟨by rfl, ?_⟩
    conv => whnf
    refine ⟨by rfl, ?_⟩
    conv => whnf
    refine ⟨by rfl, ?_⟩
    conv => whnf
    refine ⟨by rfl, ?_⟩
    conv => whnf
    refine ⟨by rfl, ?_⟩
    conv => whnf
    refine ⟨by rfl, ?_⟩
    conv => whnf
    refine ⟨by rfl, ?_⟩
    conv => whnf
    refine ⟨by rfl, ?_⟩
    conv => whnf
    refine ⟨by rfl, ?_⟩
    conv => whnf
    refine ⟨by rfl, ?_⟩
    conv => whnf
    refine ⟨by rfl, ?_⟩
    conv => whnf
    refine ⟨by rfl, ?_⟩
    conv => whnf
    refine ⟨by rfl, ?_⟩
    conv => whnf
    refine ⟨by rfl, ?_⟩
    conv => whnf
    refine ⟨by rfl, ?_⟩
    conv => whnf
    refine ⟨by rfl, ?_⟩
    conv => whnf
    refine ⟨by rfl, ?_⟩
    conv => whnf
    refine ⟨by rfl, ?_⟩
    conv => whnf
    refine ⟨by rfl, ?_⟩
    conv => whnf
    refine ⟨by rfl, ?_⟩
    conv => whnf
    refine ⟨by rfl, ?_⟩
    conv => whnf
    refine ⟨by rfl, ?_⟩
    conv => whnf
    refine ⟨by rfl, ?_⟩
    conv => whnf
    refine ⟨by rfl, ?_⟩
    conv => whnf
    refine ⟨by rfl, ?_⟩
    conv => whnf
    refine ⟨by rfl, ?_⟩
    conv => whnf
    refine ⟨by rfl, ?_⟩
    conv => whnf
    refine ⟨by rfl, ?_⟩
    conv => whnf
    refine ⟨by rfl, ?_⟩
    conv => whnf
    refine ⟨by rfl, ?_⟩
    conv => whnf
    refine ⟨by rfl, ?_⟩
    conv => whnf
    refine ⟨by rfl, ?_⟩
    conv => whnf
    refine ⟨by rfl, ?_⟩
    conv => whnf
    refine ⟨by rfl, ?_⟩
    conv => whnf
    refine ⟨by rfl, ?_⟩
    conv => whnf
    refine ⟨by rfl, ?_⟩
    conv => whnf
    refine ⟨by rfl, ?_⟩
    conv => whnf
    refine ⟨by rfl, ?_⟩
    conv => whnf
    refine ⟨by rfl, ?_⟩
    conv => whnf
    refine ⟨by rfl, ?_⟩
    conv => whnf
    refine ⟨by rfl, ?_⟩
    conv => whnf
    refine ⟨by rfl, ?_⟩
    conv => whnf
    refine ⟨by rfl, ?_⟩
    conv => whnf
    refine ⟨by rfl, ?_⟩
    conv => whnf
    refine ⟨by rfl, ?_⟩
    conv => whnf
    refine ⟨by rfl, ?_⟩
    conv => whnf
    refine ⟨by rfl, ?_⟩
    conv => whnf
    refine ⟨by rfl, ?_⟩
    conv => whnf
    refine ⟨by rfl, ?_⟩
    conv => whnf
    refine ⟨by rfl, ?_⟩
    conv => whnf
    refine ⟨by rfl, ?_⟩
    conv => whnf
    refine ⟨by rfl, ?_⟩
    conv => whnf
    refine ⟨by rfl, ?_⟩
    conv => whnf
    refine ⟨by rfl, ?_⟩
    conv => whnf
    refine ⟨by rfl, ?_⟩
    conv => whnf
    refine ⟨by rfl, ?_⟩
    conv => whnf
    refine ⟨by rfl, ?_⟩
    conv => whnf
    refine ⟨by rfl, ?_⟩
    conv => whnf
    refine ⟨by rfl, ?_⟩
    conv => whnf
    refine ⟨by rfl, ?_⟩
    conv => whnf
    refine ⟨by rfl, ?_⟩
    conv => whnf
    refine ⟨by rfl, ?_⟩
    conv => whnf
    refine ⟨by rfl, ?_⟩
    conv => whnf
    refine ⟨by rfl, ?_⟩
    conv => whnf
    refine ⟨by rfl, ?_⟩
    conv => whnf
    refine ⟨by rfl, ?_⟩
    conv => whnf
    refine ⟨by rfl, ?_⟩
    conv => whnf
    refine ⟨by rfl, ?_⟩
    conv => whnf
    refine ⟨by rfl, ?_⟩
    conv => whnf
    refine ⟨by rfl, ?_⟩
    conv => whnf
    refine ⟨by rfl, ?_⟩
    conv => whnf
    refine ⟨by rfl, ?_⟩
    conv => whnf
    refine ⟨by rfl, ?_⟩
    conv => whnf
    refine ⟨by rfl, ?_⟩
    conv => whnf
    refine ⟨by rfl, ?_⟩
    conv => whnf
    refine ⟨by rfl, ?_⟩
    conv => whnf
    refine ⟨by rfl, ?_⟩
    conv => whnf
    refine ⟨by rfl, ?_⟩
    conv => whnf
    refine ⟨by rfl, ?_⟩
    conv => whnf
    refine ⟨by rfl, ?_⟩
    conv => whnf
    refine ⟨by rfl, ?_⟩
    conv => whnf
    refine ⟨by rfl, ?_⟩
    conv => whnf
    refine ⟨by rfl, ?_⟩
    conv => whnf
    refine ⟨by rfl, ?_⟩
    conv => whnf
    refine ⟨by rfl, ?_⟩
    conv => whnf
    refine ⟨by rfl, ?_⟩
    conv => whnf
    refine ⟨by rfl, ?_⟩
    conv => whnf
    refine ⟨by rfl, ?_⟩
    conv => whnf
    refine ⟨by rfl, ?_⟩
    conv => whnf
    refine ⟨by rfl, ?_⟩
    conv => whnf
    exact trivial
  · intro y
    obtain ⟨y1, y2, y3, y4, y5⟩ := y.2
    conv => whnf
    refine ⟨fun hb => ?_, fun hb => ?_⟩
    · have hb : y.1.2.1 < n + 1 := by simp only [decide_eq_true_eq] at hb; omega
      have m0 := nxt_lo ls y.1.2.2 2
      have m1 := nxt_hi ls y.1.2.2 2 (by omega)
      have fx : nxt ls y.1.2.2 2 = 0 ∨ nxt ls y.1.2.2 2 = 1 := by omega
      conv => whnf
      refine (next_s _ _ _ (by first | omega | assumption | decide | simp) (by first | omega | assumption | decide | simp) (by first | omega | assumption | decide | simp)).call [0] (by decide) (And.intro rfl trivial) (And.intro rfl trivial) ?_
      rintro _ _ ⟨rfl, rfl⟩
      conv => whnf
      refine (accL_s y.1.1 y1 (by omega) _ fx).call [1, 2, 3, 4, 5] (by rfl) (by repeat' (first | exact trivial | exact rfl | apply And.intro)) (by repeat' (first | exact trivial | exact rfl | apply And.intro)) ?_
      rintro _ _ ⟨⟨u, v, rfl⟩, s', rfl, ok', len'⟩
      conv => whnf
      refine ⟨⟨(s', y.1.2.1 + 1, y.1.2.2 + 1), ok', by show s'.P.length = y.1.2.1 + 1; omega, by show y.1.2.1 + 1 ≤ n + 1; omega, by show 0 ≤ y.1.2.2 + 1; omega, by show y.1.2.2 + 1 ≤ 1 + ((y.1.2.1 + 1 : Nat) : Int); omega⟩, by show n + 1 - (y.1.2.1 + 1) < n + 1 - y.1.2.1; omega, .of [some 0, some 1, some 5, some 3, some 4] (by rfl) ?_⟩
      conv => whnf
      refine ⟨by rfl, ?_⟩
      conv => whnf
      refine ⟨by exact (w64 _ (by omega) (by omega)).trans (by simp), ?_⟩
      conv => whnf
      refine ⟨by rfl, ?_⟩
      conv => whnf
      refine ⟨by rfl, ?_⟩
      conv => whnf
      refine ⟨by rfl, ?_⟩
      conv => whnf
      refine ⟨by rfl, ?_⟩
      conv => whnf
      refine ⟨by rfl, ?_⟩
      conv => whnf
      refine ⟨by rfl, ?_⟩
      conv => whnf
      refine ⟨by rfl, ?_⟩
      conv => whnf
      refine ⟨by rfl, ?_⟩
      conv => whnf
      refine ⟨by rfl, ?_⟩
      conv => whnf
      refine ⟨by rfl, ?_⟩
      conv => whnf
      refine ⟨by rfl, ?_⟩
      conv => whnf
      refine ⟨by rfl, ?_⟩
      conv => whnf
      refine ⟨by rfl, ?_⟩
      conv => whnf
      refine ⟨by rfl, ?_⟩
      conv => whnf
      refine ⟨by rfl, ?_⟩
      conv => whnf
      refine ⟨by rfl, ?_⟩
      conv => whnf
      refine ⟨by rfl, ?_⟩
      conv => whnf
      refine ⟨by rfl, ?_⟩
      conv => whnf
      refine ⟨by rfl, ?_⟩
      conv => whnf
      refine ⟨by rfl, ?_⟩
      conv => whnf
      refine ⟨by rfl, ?_⟩
      conv => whnf
      refine ⟨by rfl, ?_⟩
      conv => whnf
      refine ⟨by rfl, ?_⟩
      conv => whnf
      refine ⟨by rfl, ?_⟩
      conv => whnf
      refine ⟨by rfl, ?_⟩
      conv => whnf
      refine ⟨by rfl, ?_⟩
      conv => whnf
      refine ⟨by rfl, ?_⟩
      conv => whnf
      refine ⟨by rfl, ?_⟩
      conv => whnf
      refine ⟨by rfl, ?_⟩
      conv => whnf
      refine ⟨by rfl, ?_⟩
      conv => whnf
      refine ⟨by rfl, ?_⟩
      conv => whnf
      refine ⟨by rfl, ?_⟩
      conv => whnf
      refine ⟨by rfl, ?_⟩
      conv => whnf
      refine ⟨by rfl, ?_⟩
      conv => whnf
      refine ⟨by rfl, ?_⟩
      conv => whnf
      refine ⟨by rfl, ?_⟩
      conv => whnf
      refine ⟨by rfl, ?_⟩
      conv => whnf
      refine ⟨by rfl, ?_⟩
      conv => whnf
      refine ⟨by rfl, ?_⟩
      conv => whnf
      refine ⟨by rfl, ?_⟩
      conv => whnf
      refine ⟨by rfl, ?_⟩
      conv => whnf
      refine ⟨by rfl, ?_⟩
      conv => whnf
      refine ⟨by rfl, ?_⟩
      conv => whnf
      refine ⟨by rfl, ?_⟩
      conv => whnf
      refine ⟨by rfl, ?_⟩
      conv => whnf
      refine ⟨by rfl, ?_⟩
      conv => whnf
      refine ⟨by rfl, ?_⟩
      conv => whnf
      refine ⟨by rfl, ?_⟩
      conv => whnf
      refine ⟨by rfl, ?_⟩
      conv => whnf
      refine ⟨by rfl, ?_⟩
      conv => whnf
      refine ⟨by rfl, ?_⟩
      conv => whnf
      refine ⟨by rfl, ?_⟩
      conv => whnf
      refine ⟨by rfl, ?_⟩
      conv => whnf
      refine ⟨by rfl, ?_⟩
      conv => whnf
      refine ⟨by rfl, ?_⟩
      conv => whnf
      refine ⟨by rfl, ?_⟩
      conv => whnf
      refine ⟨by rfl, ?_⟩
      conv => whnf
      refine ⟨by rfl, ?_⟩
      conv => whnf
      refine ⟨by rfl, ?_⟩
      conv => whnf
      refine ⟨by rfl, ?_⟩
      conv => whnf
      refine ⟨by rfl, ?_⟩
      conv => whnf
      refine ⟨by rfl, ?_⟩
      conv => whnf
      refine ⟨by rfl, ?_⟩
      conv => whnf
      refine ⟨by rfl, ?_⟩
      conv => whnf
      refine ⟨by rfl, ?_⟩
      conv => whnf
      refine ⟨by rfl, ?_⟩
      conv => whnf
      refine ⟨by rfl, ?_⟩
      conv => whnf
      refine ⟨by rfl, ?_⟩
      conv => whnf
      refine ⟨by rfl, ?_⟩
      conv => whnf
      refine ⟨by rfl, ?_⟩
      conv => whnf
      refine ⟨by rfl, ?_⟩
      conv => whnf
      refine ⟨by rfl, ?_⟩
      conv => whnf
      refine ⟨by rfl, ?_⟩
      conv => whnf
      refine ⟨by rfl, ?_⟩
      conv => whnf
      refine ⟨by rfl, ?_⟩
      conv => whnf
      refine ⟨by rfl, ?_⟩
      conv => whnf
      refine ⟨by rfl, ?_⟩
      conv => whnf
      refine ⟨by rfl, ?_⟩
      conv => whnf
      refine ⟨by rfl, ?_⟩
      conv => whnf
      refine ⟨by rfl, ?_⟩
      conv => whnf
      refine ⟨by rfl, ?_⟩
      conv => whnf
      refine ⟨by rfl, ?_⟩
      conv => whnf
      refine ⟨by rfl, ?_⟩
      conv => whnf
      refine ⟨by rfl, ?_⟩
      conv => whnf
      refine ⟨by rfl, ?_⟩
      conv => whnf
      refine ⟨by rfl, ?_⟩
      conv => whnf
      refine ⟨by rfl, ?_⟩
      conv => whnf
      refine ⟨by rfl, ?_⟩
      conv => whnf
      refine ⟨by rfl, ?_⟩
      conv => whnf
      refine ⟨by rfl, ?_⟩
      conv => whnf
      refine ⟨by rfl, ?_⟩
      conv => whnf
      refine ⟨by rfl, ?_⟩
      conv => whnf
      refine ⟨by rfl, ?_⟩
      conv => whnf
      refine ⟨by rfl, ?_⟩
      conv => whnf
      refine ⟨by rfl, ?_⟩
      conv => whnf
      refine ⟨by rfl, ?_⟩
      conv => whnf
      refine ⟨by rfl, ?_⟩
      conv => whnf
      refine ⟨by rfl, ?_⟩
      conv => whnf
      refine ⟨by rfl, ?_⟩
      conv => whnf
      refine ⟨by rfl, ?_⟩
      conv => whnf
      refine ⟨by rfl, ?_⟩
      conv => whnf
      refine ⟨by rfl, ?_⟩
      conv => whnf
      refine ⟨by rfl, ?_⟩
      conv => whnf
      refine ⟨by rfl, ?_⟩
      conv => whnf
      refine ⟨by rfl, ?_⟩
      conv => whnf
      refine ⟨by rfl, ?_⟩
      conv => whnf
      refine ⟨by rfl, ?_⟩
      conv => whnf
      refine ⟨by rfl, ?_⟩
      conv => whnf
      refine ⟨by rfl, ?_⟩
      conv => whnf
      refine ⟨by rfl, ?_⟩
      conv => whnf
      refine ⟨by rfl, ?_⟩
      conv => whnf
      refine ⟨by rfl, ?_⟩
      conv => whnf
      refine ⟨by rfl, ?_⟩
      conv => whnf
      refine ⟨by rfl, ?_⟩
      conv => whnf
      refine ⟨by rfl, ?_⟩
      conv => whnf
      refine ⟨by rfl, ?_⟩
      conv => whnf
      refine ⟨by rfl, ?_⟩
      conv => whnf
      refine ⟨by rfl, ?_⟩
      conv => whnf
      refine ⟨by rfl, ?_⟩
      conv => whnf
      refine ⟨by rfl, ?_⟩
      conv => whnf
      refine ⟨by rfl, ?_⟩
      conv => whnf
      refine ⟨by rfl, ?_⟩
      conv => whnf
      refine ⟨by rfl, ?_⟩
      conv => whnf
      refine ⟨by rfl, ?_⟩
      conv => whnf
      refine ⟨by rfl, ?_⟩
      conv => whnf
      refine ⟨by rfl, ?_⟩
      conv => whnf
      refine ⟨by rfl, ?_⟩
      conv => whnf
      refine ⟨by rfl, ?_⟩
      conv => whnf
      refine ⟨by rfl, ?_⟩
      conv => whnf
      refine ⟨by rfl, ?_⟩
      conv => whnf
      refine ⟨by rfl, ?_⟩
      conv => whnf
      refine ⟨by rfl, ?_⟩
      conv => whnf
      refine ⟨by rfl, ?_⟩
      conv => whnf
      refine ⟨by rfl, ?_⟩
      conv => whnf
      refine ⟨by rfl, ?_⟩
      conv => whnf
      refine ⟨by rfl, ?_⟩
      conv => whnf
      refine ⟨by rfl, ?_⟩
      conv => whnf
      refine ⟨by rfl, ?_⟩
      conv => whnf
      refine ⟨by rfl, ?_⟩
      conv => whnf
      refine ⟨by rfl, ?_⟩
      conv => whnf
      refine ⟨by rfl, ?_⟩
      conv => whnf
      refine ⟨by rfl, ?_⟩
      conv => whnf
      refine ⟨by rfl, ?_⟩
      conv => whnf
      refine ⟨by rfl, ?_⟩
      conv => whnf
      refine ⟨by rfl, ?_⟩
      conv => whnf
      refine ⟨by rfl, ?_⟩
      conv => whnf
      refine ⟨by rfl, ?_⟩
      conv => whnf
      refine ⟨by rfl, ?_⟩
      conv => whnf
      refine ⟨by rfl, ?_⟩
      conv => whnf
      refine ⟨by rfl, ?_⟩
      conv => whnf
      refine ⟨by rfl, ?_⟩
      conv => whnf
      refine ⟨by rfl, ?_⟩
      conv => whnf
      refine ⟨by rfl, ?_⟩
      conv => whnf
      refine ⟨by rfl, ?_⟩
      conv => whnf
      refine ⟨by rfl, ?_⟩
      conv => whnf
      refine ⟨by rfl, ?_⟩
      conv => whnf
      refine ⟨by rfl, ?_⟩
      conv => whnf
      refine ⟨by rfl, ?_⟩
      conv => whnf
      refine ⟨by rfl, ?_⟩
      conv => whnf
      refine ⟨by rfl, ?_⟩
      conv => whnf
      refine ⟨by rfl, ?_⟩
      conv => whnf
      refine ⟨by rfl, ?_⟩
      conv => whnf
      refine ⟨by rfl, ?_⟩
      conv => whnf
      refine ⟨by rfl, ?_⟩
      conv => whnf
      refine ⟨by rfl, ?_⟩
      conv => whnf
      refine ⟨by rfl, ?_⟩
      conv => whnf
      refine ⟨by rfl, ?_⟩
      conv => whnf
      refine ⟨by rfl, ?_⟩
      conv => whnf
      refine ⟨by rfl, ?_⟩
      conv => whnf
      refine ⟨by rfl, ?_⟩
      conv => whnf
      refine ⟨by rfl, ?_⟩
      conv => whnf
      refine ⟨by rfl, ?_⟩
      conv => whnf
      refine ⟨by rfl, ?_⟩
      conv => whnf
      refine ⟨by rfl, ?_⟩
      conv => whnf
      refine ⟨by rfl, ?_⟩
      conv => whnf
      refine ⟨by rfl, ?_⟩
      conv => whnf
      refine ⟨by rfl, ?_⟩
      conv => whnf
      refine ⟨by rfl, ?_⟩
      conv => whnf
      refine ⟨by rfl, ?_⟩
      conv => whnf
      refine ⟨by rfl, ?_⟩
      conv => whnf
      refine ⟨by rfl, ?_⟩
      conv => whnf
      refine ⟨by rfl, ?_⟩
      conv => whnf
      refine ⟨by rfl, ?_⟩
      conv => whnf
      refine ⟨by rfl, ?_⟩
      conv => whnf
      refine ⟨by rfl, ?_⟩
      conv => whnf
      refine ⟨by rfl, ?_⟩
      conv => whnf
      refine ⟨by rfl, ?_⟩
      conv => whnf
      refine ⟨by rfl, ?_⟩
      conv => whnf
      refine ⟨by rfl, ?_⟩
      conv => whnf
      refine ⟨by rfl, ?_⟩
      conv => whnf
      refine ⟨by rfl, ?_⟩
      conv => whnf
      refine ⟨by rfl, ?_⟩
      conv => whnf
      refine ⟨by rfl, ?_⟩
      conv => whnf
      refine ⟨by rfl, ?_⟩
      conv => whnf
      refine ⟨by rfl, ?_⟩
      conv => whnf
      refine ⟨by rfl, ?_⟩
      conv => whnf
      refine ⟨by rfl, ?_⟩
      conv => whnf
      exact trivial
    · have hb : y.1.2.1 = n + 1 := by simp only [decide_eq_false_iff_not] at hb; omega
      conv => whnf
      refine .same ?_
      conv => whnf
      refine LoopG.inv tab_ok 84 (fun z : { z : LSt × Nat × Int // LOk z.1 ∧ z.1.P.length = n + 1 ∧ z.2.1 ≤ 60 ∧ 0 ≤ z.2.2 ∧ z.2.2 ≤ 20 + 2 * (z.2.1 : Int) } => [(2, .ff), (3, .ptr 0 0), (4, .ptr 1 0), (5, .int .i64 ((n + 1 : Nat) : Int)), (7, .int .i64 (z.1.2.1 : Int))])
        (fun z => [chs ls z.1.2.2, lgT 2 3 4 z.1.1.c, lgP z.1.1.P, lgO z.1.1.a, lgO z.1.1.b]) (fun z => 60 - z.1.2.1)
        ⟨(y.1.1, 0, y.1.2.2), y1, by show y.1.1.P.length = n + 1; omega, by show 0 ≤ 60; omega, y4, by show y.1.2.2 ≤ 20 + 2 * ((0 : Nat) : Int); omega⟩ (.of [some 0, some 1, some 2, some 3, some 4] (by rfl) ?_) ?_
      · conv => whnf
        refine ⟨by rfl, ?_⟩
        conv => whnf
        refine ⟨by rfl, ?_⟩
        conv => whnf
        refine ⟨by rfl, ?_⟩
        conv => whnf
        refine ⟨by rfl, ?_⟩
        conv => whnf
        refine ⟨by rfl, ?_⟩
        conv => whnf
        refine ⟨by rfl, ?_⟩
        conv => whnf
        refine ⟨by rfl, ?_⟩
        conv => whnf
        refine ⟨by rfl, ?_⟩
        conv => whnf
        refine ⟨by rfl, ?_⟩
        conv => whnf
        refine ⟨by rfl, ?_⟩
        conv => whnf
        refine ⟨by rfl, ?_⟩
        conv => whnf
        refine ⟨by rfl, ?_⟩
        conv => whnf
        refine ⟨by rfl, ?_⟩
        conv => whnf
        refine ⟨by rfl, ?_⟩
        conv => whnf
        refine ⟨by rfl, ?_⟩
        conv => whnf
        refine ⟨by rfl, ?_⟩
        conv => whnf
        refine ⟨by rfl, ?_⟩
        conv => whnf
        refine ⟨by rfl, ?_⟩
        conv => whnf
        refine ⟨by rfl, ?_⟩
        conv => whnf
        refine ⟨by rfl, ?_⟩
        conv => whnf
        refine ⟨by rfl, ?_⟩
        conv => whnf
        refine ⟨by rfl, ?_⟩
        conv => whnf
        refine ⟨by rfl, ?_⟩
        conv => whnf
        refine ⟨by rfl, ?_⟩
        conv => whnf
        refine ⟨by rfl, ?_⟩
        conv => whnf
        refine ⟨by rfl, ?_⟩
        conv => whnf
        refine ⟨by rfl, ?_⟩
        conv => whnf
        refine ⟨by rfl, ?_⟩
        conv => whnf
        refine ⟨by rfl, ?_⟩
        conv => whnf
        refine ⟨by rfl, ?_⟩
        conv => whnf
        refine ⟨by rfl, ?_⟩
        conv => whnf
        refine ⟨by rfl, ?_⟩
        conv => whnf
        refine ⟨by rfl, ?_⟩
        conv => whnf
        refine ⟨by rfl, ?_⟩
        conv => whnf
        refine ⟨by rfl, ?_⟩
        conv => whnf
        refine ⟨by rfl, ?_⟩
        conv => whnf
        refine ⟨by rfl, ?_⟩
        conv => whnf
        refine ⟨by rfl, ?_⟩
        conv => whnf
        refine ⟨by rfl, ?_⟩
        conv => whnf
        refine ⟨by rfl, ?_⟩
        conv => whnf
        refine ⟨by rfl, ?_⟩
        conv => whnf
        refine ⟨by rfl, ?_⟩
        conv => whnf
        refine ⟨by rfl, ?_⟩
        conv => whnf
        refine ⟨by rfl, ?_⟩
        conv => whnf
        refine ⟨by rfl, ?_⟩
        conv => whnf
        refine ⟨by rfl, ?_⟩
        conv => whnf
        refine ⟨by rfl, ?_⟩
        conv => whnf
        refine ⟨by rfl, ?_⟩
        conv => whnf
        refine ⟨by rfl, ?_⟩
        conv => whnf
        refine ⟨by rfl, ?_⟩
        conv => whnf
        refine ⟨by rfl, ?_⟩
        conv => whnf
        refine ⟨by rfl, ?_⟩
        conv => whnf
        refine ⟨by rfl, ?_⟩
        conv => whnf
        refine ⟨by rfl, ?_⟩
        conv => whnf
        refine ⟨by rfl, ?_⟩
        conv => whnf
        refine ⟨by rfl, ?_⟩
        conv => whnf
        refine ⟨by rfl, ?_⟩
        conv => whnf
        refine ⟨by rfl, ?_⟩
        conv => whnf
        refine ⟨by rfl, ?_⟩
        conv => whnf
        refine ⟨by rfl, ?_⟩
        conv => whnf
        refine ⟨by rfl, ?_⟩
        conv => whnf
        refine ⟨by rfl, ?_⟩
        conv => whnf
        refine ⟨by rfl, ?_⟩
        conv => whnf
        refine ⟨by rfl, ?_⟩
        conv => whnf
        refine ⟨by rfl, ?_⟩
        conv => whnf
        refine ⟨by rfl, ?_⟩
        conv => whnf
        refine ⟨by rfl, ?_⟩
        conv => whnf
        refine ⟨by rfl, ?_⟩
        conv => whnf
        refine ⟨by rfl, ?_⟩
        conv => whnf
        refine ⟨by rfl, ?_⟩
        conv => whnf
        refine ⟨by rfl, ?_⟩
        conv => whnf
        refine ⟨by rfl, ?_⟩
        conv => whnf
        refine ⟨by rfl, ?_⟩
        conv => whnf
        refine ⟨by rfl, ?_⟩
        conv => whnf
        refine ⟨by rfl, ?_⟩
        conv => whnf
        refine ⟨by rfl, ?_⟩
        conv => whnf
        refine ⟨by rfl, ?_⟩
        conv => whnf
        refine ⟨by rfl, ?_⟩
        conv => whnf
        refine ⟨by rfl, ?_⟩
        conv => whnf
        refine ⟨by rfl, ?_⟩
        conv => whnf
        refine ⟨by rfl, ?_⟩
        conv => whnf
        refine ⟨by rfl, ?_⟩
        conv => whnf
        refine ⟨by rfl, ?_⟩
        conv => whnf
        refine ⟨by rfl, ?_⟩
        conv => whnf
        refine ⟨by rfl, ?_⟩
        conv => whnf
        refine ⟨by rfl, ?_⟩
        conv => whnf
        refine ⟨by rfl, ?_⟩
        conv => whnf
        refine ⟨by rfl, ?_⟩
        conv => whnf
        refine ⟨by rfl, ?_⟩
        conv => whnf
        refine ⟨by rfl, ?_⟩
        conv => whnf
        refine ⟨by rfl, ?_⟩
        conv => whnf
        refine ⟨by rfl, ?_⟩
        conv => whnf
        refine ⟨by rfl, ?_⟩
        conv => whnf
        refine ⟨by rfl, ?_⟩
        conv => whnf
        refine ⟨by rfl, ?_⟩
        conv => whnf
        refine ⟨by rfl, ?_⟩
        conv => whnf
        refine ⟨by rfl, ?_⟩
        conv => whnf
        refine ⟨by rfl, ?_⟩
        conv => whnf
        refine ⟨by rfl, ?_⟩
        conv => whnf
        refine ⟨by rfl, ?_⟩
        conv => whnf
        refine ⟨by rfl, ?_⟩
        conv => whnf
        refine ⟨by rfl, ?_⟩
        conv => whnf
        refine ⟨by rfl, ?_⟩
        conv => whnf
        refine ⟨by rfl, ?_⟩
        conv => whnf
        refine ⟨by rfl, ?_⟩
        conv => whnf
        refine ⟨by rfl, ?_⟩
        conv => whnf
        refine ⟨by rfl, ?_⟩
        conv => whnf
        refine ⟨by rfl, ?_⟩
        conv => whnf
        refine ⟨by rfl, ?_⟩
        conv => whnf
        refine ⟨by rfl, ?_⟩
        conv => whnf
        refine ⟨by rfl, ?_⟩
        conv => whnf
        refine ⟨by rfl, ?_⟩
        conv => whnf
        refine ⟨by rfl, ?_⟩
        conv => whnf
        refine ⟨by rfl, ?_⟩
        conv => whnf
        refine ⟨by rfl, ?_⟩
        conv => whnf
        refine ⟨by rfl, ?_⟩
        conv => whnf
        refine ⟨by rfl, ?_⟩
        conv => whnf
        refine ⟨by rfl, ?_⟩
        conv => whnf
        refine ⟨by rfl, ?_⟩
        conv => whnf
        refine ⟨by rfl, ?_⟩
        conv => whnf
        refine ⟨by rfl, ?_⟩
        conv => whnf
        refine ⟨by rfl, ?_⟩
        conv => whnf
        refine ⟨by rfl, ?_⟩
        conv => whnf
        refine ⟨by rfl, ?_⟩
        conv => whnf
        refine ⟨by rfl, ?_⟩
        conv => whnf
        refine ⟨by rfl, ?_⟩
        conv => whnf
        refine ⟨by rfl, ?_⟩
        conv => whnf
        refine ⟨by rfl, ?_⟩
        conv => whnf
        refine ⟨by rfl, ?_⟩
        conv => whnf
        refine ⟨by rfl, ?_⟩
        conv => whnf
        refine ⟨by rfl, ?_⟩
        conv => whnf
        refine ⟨by rfl, ?_⟩
        conv => whnf
        refine ⟨by rfl, ?_⟩
        conv => whnf
        refine ⟨by rfl, ?_⟩
        conv => whnf
        refine ⟨by rfl, ?_⟩
        conv => whnf
        refine ⟨by rfl, ?_⟩
        conv => whnf
        refine ⟨by rfl, ?_⟩
        conv => whnf
        refine ⟨by rfl, ?_⟩
        conv => whnf
        refine ⟨by rfl, ?_⟩
        conv => whnf
        refine ⟨by rfl, ?_⟩
        conv => whnf
        refine ⟨by rfl, ?_⟩
        conv => whnf
        refine ⟨by rfl, ?_⟩
        conv => whnf
        refine ⟨by rfl, ?_⟩
        conv => whnf
        refine ⟨by rfl, ?_⟩
        conv => whnf
        refine ⟨by rfl, ?_⟩
        conv => whnf
        refine ⟨by rfl, ?_⟩
        conv => whnf
        refine ⟨by rfl, ?_⟩
        conv => whnf
        refine ⟨by rfl, ?_⟩
        conv => whnf
        refine ⟨by rfl, ?_⟩
        conv => whnf
        refine ⟨by rfl, ?_⟩
        conv => whnf
        refine ⟨by rfl, ?_⟩
        conv => whnf
        refine ⟨by rfl, ?_⟩
        conv => whnf
        refine ⟨by rfl, ?_⟩
        conv => whnf
        refine ⟨by rfl, ?_⟩
        conv => whnf
        refine ⟨by rfl, ?_⟩
        conv => whnf
        refine ⟨by rfl, ?_⟩
        conv => whnf
        refine ⟨by rfl, ?_⟩
        conv => whnf
        refine ⟨by rfl, ?_⟩
        conv => whnf
        refine ⟨by rfl, ?_⟩
        conv => whnf
        refine ⟨by rfl, ?_⟩
        conv => whnf
        refine ⟨by rfl, ?_⟩
        conv => whnf
        refine ⟨by rfl, ?_⟩
        conv => whnf
        refine ⟨by rfl, ?_⟩
        conv => whnf
        refine ⟨by rfl, ?_⟩
        conv => whnf
        refine ⟨by rfl, ?_⟩
        conv => whnf
        refine ⟨by rfl, ?_⟩
        conv => whnf
        refine ⟨by rfl, ?_⟩
        conv => whnf
        refine ⟨by rfl, ?_⟩
        conv => whnf
        refine ⟨by rfl, ?_⟩
        conv => whnf
        refine ⟨by rfl, ?_⟩
        conv => whnf
        refine ⟨by rfl, ?_⟩
        conv => whnf
        refine ⟨by rfl, ?_⟩
        conv => whnf
        refine ⟨by rfl, ?_⟩
        conv => whnf
        refine ⟨by rfl, ?_⟩
        conv => whnf
        refine ⟨by rfl, ?_⟩
        conv => whnf
        refine ⟨by rfl, ?_⟩
        conv => whnf
        refine ⟨by rfl, ?_⟩
        conv => whnf
        refine ⟨by rfl, ?_⟩
        conv => whnf
        refine ⟨by rfl, ?_⟩
        conv => whnf
        refine ⟨by rfl, ?_⟩
        conv => whnf
        refine ⟨by rfl, ?_⟩
        conv => whnf
        refine ⟨by rfl, ?_⟩
        conv => whnf
        refine ⟨by rfl, ?_⟩
        conv => whnf
        refine ⟨by rfl, ?_⟩
        conv => whnf
        refine ⟨by rfl, ?_⟩
        conv => whnf
        refine ⟨by rfl, ?_⟩
        conv => whnf
        refine ⟨by rfl, ?_⟩
        conv => whnf
        refine ⟨by rfl, ?_⟩
        conv => whnf
        refine ⟨by rfl, ?_⟩
        conv => whnf
        refine ⟨by rfl, ?_⟩
        conv => whnf
        refine ⟨by rfl, ?_⟩
        conv => whnf
        refine ⟨by rfl, ?_⟩
        conv => whnf
        refine ⟨by rfl, ?_⟩
        conv => whnf
        refine ⟨by rfl, ?_⟩
        conv => whnf
        refine ⟨by rfl, ?_⟩
        conv => whnf
        refine ⟨by rfl, ?_⟩
        conv => whnf
        refine ⟨by rfl, ?_⟩
        conv => whnf
        refine ⟨by rfl, ?_⟩
        conv => whnf
        refine ⟨by rfl, ?_⟩
        conv => whnf
        exact trivial
      · intro z
        obtain ⟨z1, z2, z3, z4, z5⟩ := z.2
        conv => whnf
        refine ⟨fun hd => ?_, fun hd => ?_⟩
        · have hd : z.1.2.1 < 60 := by simp only [decide_eq_true_eq] at hd; omega
          have m0 := nxt_lo ls z.1.2.2 ((n + 1 : Nat) : Int)
          have m1 := nxt_hi ls z.1.2.2 ((n + 1 : Nat) : Int) (by omega)
          have e1 : IntKind.i64.wrap (1 + nxt ls z.1.2.2 ((n + 1 : Nat) : Int)) = 1 + nxt ls z.1.2.2 ((n + 1 : Nat) : Int) := w64 _ (by omega) (by omega)
          have hx1 : 1 ≤ IntKind.i64.wrap (1 + nxt ls z.1.2.2 ((n + 1 : Nat) : Int)) := by omega
          have hx2 : IntKind.i64.wrap (1 + nxt ls z.1.2.2 ((n + 1 : Nat) : Int)) ≤ (z.1.1.P.length : Int) := by omega
          conv => whnf
          refine (next_s _ _ _ (by first | omega | assumption | decide | simp) (by first | omega | assumption | decide | simp) (by first | omega | assumption | decide | simp)).call [0] (by decide) (And.intro rfl trivial) (And.intro rfl trivial) ?_
          rintro _ _ ⟨rfl, rfl⟩
          conv => whnf
          refine (next_s _ _ _ (by first | omega | assumption | decide | simp) (by first | omega | assumption | decide | simp) (by first | omega | assumption | decide | simp)).call [0] (by decide) (And.intro rfl trivial) (And.intro rfl trivial) ?_
          rintro _ _ ⟨rfl, rfl⟩
          conv => whnf
          refine ⟨fun q0 => ?_, fun q0 => ?_⟩
          · conv => whnf
            refine (sendL_s z.1.1 z1 _ hx1 hx2).call [1, 2, 3, 4] (by rfl) (by repeat' (first | exact trivial | exact rfl | apply And.intro)) (by repeat' (first | exact trivial | exact rfl | apply And.intro)) ?_
            rintro _ _ ⟨⟨u, rfl⟩, s', rfl, ok', len'⟩
            conv => whnf
            refine ⟨⟨(s', z.1.2.1 + 1, z.1.2.2 + 1 + 1), ok', by show s'.P.length = n + 1; omega, by show z.1.2.1 + 1 ≤ 60; omega, by show 0 ≤ z.1.2.2 + 1 + 1; omega, by show z.1.2.2 + 1 + 1 ≤ 20 + 2 * ((z.1.2.1 + 1 : Nat) : Int); omega⟩, by show 60 - (z.1.2.1 + 1) < 60 - z.1.2.1; omega, .of [some 0, some 1, some 2, some 3, some 4] (by rfl) ?_⟩
            conv => whnf
            refine ⟨by rfl, ?_⟩
            conv => whnf
            refine ⟨by exact (w64 _ (by omega) (by omega)).trans (by simp), ?_⟩
            conv => whnf
            refine ⟨by rfl, ?_⟩
            conv => whnf
            refine ⟨by rfl, ?_⟩
            conv => whnf
            refine ⟨by rfl, ?_⟩
            conv => whnf
            refine ⟨by rfl, ?_⟩
            conv => whnf
            refine ⟨by rfl, ?_⟩
            conv => whnf
            refine ⟨by rfl, ?_⟩
            conv => whnf
            refine ⟨by rfl, ?_⟩
            conv => whnf
            refine ⟨by rfl, ?_⟩
            conv => whnf
            refine ⟨by rfl, ?_⟩
            conv => whnf
            refine ⟨by rfl, ?_⟩
            conv => whnf
            refine ⟨by rfl, ?_⟩
            conv => whnf
            refine ⟨by rfl, ?_⟩
            conv => whnf
            refine ⟨by rfl, ?_⟩
            conv => whnf
            refine ⟨by rfl, ?_⟩
            conv => whnf
            refine ⟨by rfl, ?_⟩
            conv => whnf
            refine ⟨by rfl, ?_⟩
            conv => whnf
            refine ⟨by rfl, ?_⟩
            conv => whnf
            refine ⟨by rfl, ?_⟩
            conv => whnf
            refine ⟨by rfl, ?_⟩
            conv => whnf
            refine ⟨by rfl, ?_⟩
            conv => whnf
            refine ⟨by rfl, ?_⟩
            conv => whnf
            refine ⟨by rfl, ?_⟩
            conv => whnf
            refine ⟨by rfl, ?_⟩
            conv => whnf
            refine ⟨by rfl, ?_⟩
            conv => whnf
            refine ⟨by rfl, ?_⟩
            conv => whnf
            refine ⟨by rfl, ?_⟩
            conv => whnf
            refine ⟨by rfl, ?_⟩
            conv => whnf
            refine ⟨by rfl, ?_⟩
            conv => whnf
            refine ⟨by rfl, ?_⟩
            conv => whnf
            refine ⟨by rfl, ?_⟩
            conv => whnf
            refine ⟨by rfl, ?_⟩
            conv => whnf
            refine ⟨by rfl, ?_⟩
            conv => whnf
            refine ⟨by rfl, ?_⟩
            conv => whnf
            refine ⟨by rfl, ?_⟩
            conv => whnf
            refine ⟨by rfl, ?_⟩
            conv => whnf
            refine ⟨by rfl, ?_⟩
            conv => whnf
            refine ⟨by rfl, ?_⟩
            conv => whnf
            refine ⟨by rfl, ?_⟩
            conv => whnf
            refine ⟨by rfl, ?_⟩
            conv => whnf
            refine ⟨by rfl, ?_⟩
            conv => whnf
            refine ⟨by rfl, ?_⟩
            conv => whnf
            refine ⟨by rfl, ?_⟩
            conv => whnf
            refine ⟨by rfl, ?_⟩
            conv => whnf
            refine ⟨by rfl, ?_⟩
            conv => whnf
            refine ⟨by rfl, ?_⟩
            conv => whnf
            refine ⟨by rfl, ?_⟩
            conv => whnf
            refine ⟨by rfl, ?_⟩
            conv => whnf
            refine ⟨by rfl, ?_⟩
            conv => whnf
            refine ⟨by rfl, ?_⟩
            conv => whnf
            refine ⟨by rfl, ?_⟩
            conv => whnf
            refine ⟨by rfl, ?_⟩
            conv => whnf
            refine ⟨by rfl, ?_⟩
            conv => whnf
            refine ⟨by rfl, ?_⟩
            conv => whnf
            refine ⟨by rfl, ?_⟩
            conv => whnf
            refine ⟨by rfl, ?_⟩
            conv => whnf
            refine ⟨by rfl, ?_⟩
            conv => whnf
            refine ⟨by rfl, ?_⟩
            conv => whnf
            refine ⟨by rfl, ?_⟩
            conv => whnf
            refine ⟨by rfl, ?_⟩
            conv => whnf
            refine ⟨by rfl, ?_⟩
            conv => whnf
            refine ⟨by rfl, ?_⟩
            conv => whnf
            refine ⟨by rfl, ?_⟩
            conv => whnf
            refine ⟨by rfl, ?_⟩
            conv => whnf
            refine ⟨by rfl, ?_⟩
            conv => whnf
            refine ⟨by rfl, ?_⟩
            conv => whnf
            refine ⟨by rfl, ?_⟩
            conv => whnf
            refine ⟨by rfl, ?_⟩
            conv => whnf
            refine ⟨by rfl, ?_⟩
            conv => whnf
            refine ⟨by rfl, ?_⟩
            conv => whnf
            refine ⟨by rfl, ?_⟩
            conv => whnf
            refine ⟨by rfl, ?_⟩
            conv => whnf
            refine ⟨by rfl, ?_⟩
            conv => whnf
            refine ⟨by rfl, ?_⟩
            conv => whnf
            refine ⟨by rfl, ?_⟩
            conv => whnf
            refine ⟨by rfl, ?_⟩
            conv => whnf
            refine ⟨by rfl, ?_⟩
            conv => whnf
            refine ⟨by rfl, ?_⟩
            conv => whnf
            refine ⟨by rfl, ?_⟩
            conv => whnf
            refine ⟨by rfl, ?_⟩
            conv => whnf
            refine ⟨by rfl, ?_⟩
            conv => whnf
            refine ⟨by rfl, ?_⟩
            conv => whnf
            refine ⟨by rfl, ?_⟩
            conv => whnf
            refine ⟨by rfl, ?_⟩
            conv => whnf
            refine ⟨by rfl, ?_⟩
            conv => whnf
            refine ⟨by rfl, ?_⟩
            conv => whnf
            refine ⟨by rfl, ?_⟩
            conv => whnf
            refine ⟨by rfl, ?_⟩
            conv => whnf
            refine ⟨by rfl, ?_⟩
            conv => whnf
            refine ⟨by rfl, ?_⟩
            conv => whnf
            refine ⟨by rfl, ?_⟩
            conv => whnf
            refine ⟨by rfl, ?_⟩
            conv => whnf
            refine ⟨by rfl, ?_⟩
            conv => whnf
            refine ⟨by rfl, ?_⟩
            conv => whnf
            refine ⟨by rfl, ?_⟩
            conv => whnf
            refine ⟨by rfl, ?_⟩
            conv => whnf
            refine ⟨by rfl, ?_⟩
            conv => whnf
            refine ⟨by rfl, ?_⟩
            conv => whnf
            refine ⟨by rfl, ?_⟩
            conv => whnf
            refine ⟨by rfl, ?_⟩
            conv => whnf
            refine ⟨by rfl, ?_⟩
            conv => whnf
            refine ⟨by rfl, ?_⟩
            conv => whnf
            refine ⟨by rfl, ?_⟩
            conv => whnf
            refine ⟨by rfl, ?_⟩
            conv => whnf
            refine ⟨by rfl, ?_⟩
            conv => whnf
            refine ⟨by rfl, ?_⟩
            conv => whnf
            refine ⟨by rfl, ?_⟩
            conv => whnf
            refine ⟨by rfl, ?_⟩
            conv => whnf
            refine ⟨by rfl, ?_⟩
            conv => whnf
            refine ⟨by rfl, ?_⟩
            conv => whnf
            refine ⟨by rfl, ?_⟩
            conv => whnf
            refine ⟨by rfl, ?_⟩
            conv => whnf
            refine ⟨by rfl, ?_⟩
            conv => whnf
            refine ⟨by rfl, ?_⟩
            conv => whnf
            refine ⟨by rfl, ?_⟩
            conv => whnf
            refine ⟨by rfl, ?_⟩
            conv => whnf
            refine ⟨by rfl, ?_⟩
            conv => whnf
            refine ⟨by rfl, ?_⟩
            conv => whnf
            refine ⟨by rfl, ?_⟩
            conv => whnf
            refine ⟨by rfl, ?_⟩
            conv => whnf
            refine ⟨by rfl, ?_⟩
            conv => whnf
            refine ⟨by rfl, ?_⟩
            conv => whnf
            refine ⟨by rfl, ?_⟩
            conv => whnf
            refine ⟨by rfl, ?_⟩
            conv => whnf
            refine ⟨by rfl, ?_⟩
            conv => whnf
            refine ⟨by rfl, ?_⟩
            conv => whnf
            refine ⟨by rfl, ?_⟩
            conv => whnf
            refine ⟨by rfl, ?_⟩
            conv => whnf
            refine ⟨by rfl, ?_⟩
            conv => whnf
            refine ⟨by rfl, ?_⟩
            conv => whnf
            refine ⟨by rfl, ?_⟩
            conv => whnf
            refine ⟨by rfl, ?_⟩
            conv => whnf
            refine ⟨by rfl, ?_⟩
            conv => whnf
            refine ⟨by rfl, ?_⟩
            conv => whnf
            refine ⟨by rfl, ?_⟩
            conv => whnf
            refine ⟨by rfl, ?_⟩
            conv => whnf
            refine ⟨by rfl, ?_⟩
            conv => whnf
            refine ⟨by rfl, ?_⟩
            conv => whnf
            refine ⟨by rfl, ?_⟩
            conv => whnf
            refine ⟨by rfl, ?_⟩
            conv => whnf
            refine ⟨by rfl, ?_⟩
            conv => whnf
            refine ⟨by rfl, ?_⟩
            conv => whnf
            refine ⟨by rfl, ?_⟩
            conv => whnf
            refine ⟨by rfl, ?_⟩
            conv => whnf
            refine ⟨by rfl, ?_⟩
            conv => whnf
            refine ⟨by rfl, ?_⟩
            conv => whnf
            refine ⟨by rfl, ?_⟩
            conv => whnf
            refine ⟨by rfl, ?_⟩
            conv => whnf
            refine ⟨by rfl, ?_⟩
            conv => whnf
            refine ⟨by rfl, ?_⟩
            conv => whnf
            refine ⟨by rfl, ?_⟩
            conv => whnf
            refine ⟨by rfl, ?_⟩
            conv => whnf
            refine ⟨by rfl, ?_⟩
            conv => whnf
            refine ⟨by rfl, ?_⟩
            conv => whnf
            refine ⟨by rfl, ?_⟩
            conv => whnf
            refine ⟨by rfl, ?_⟩
            conv => whnf
            refine ⟨by rfl, ?_⟩
            conv => whnf
            refine ⟨by rfl, ?_⟩
            conv => whnf
            refine ⟨by rfl, ?_⟩
            conv => whnf
            refine ⟨by rfl, ?_⟩
            conv => whnf
            refine ⟨by rfl, ?_⟩
            conv => whnf
            refine ⟨by rfl, ?_⟩
            conv => whnf
            refine ⟨by rfl, ?_⟩
            conv => whnf
            refine ⟨by rfl, ?_⟩
            conv => whnf
            refine ⟨by rfl, ?_⟩
            conv => whnf
            refine ⟨by rfl, ?_⟩
            conv => whnf
            refine ⟨by rfl, ?_⟩
            conv => whnf
            refine ⟨by rfl, ?_⟩
            conv => whnf
            refine ⟨by rfl, ?_⟩
            conv => whnf
            refine ⟨by rfl, ?_⟩
            conv => whnf
            refine ⟨by rfl, ?_⟩
            conv => whnf
            refine ⟨by rfl, ?_⟩
            conv => whnf
            refine ⟨by rfl, ?_⟩
            conv => whnf
            refine ⟨by rfl, ?_⟩
            conv => whnf
            refine ⟨by rfl, ?_⟩
            conv => whnf
            refine ⟨by rfl, ?_⟩
            conv => whnf
            refine ⟨by rfl, ?_⟩
            conv => whnf
            refine ⟨by rfl, ?_⟩
            conv => whnf
            refine ⟨by rfl, ?_⟩
            conv => whnf
            refine ⟨by rfl, ?_⟩
            conv => whnf
            refine ⟨by rfl, ?_⟩
            conv => whnf
            refine ⟨by rfl, ?_⟩
            conv => whnf
            refine ⟨by rfl, ?_⟩
            conv => whnf
            refine ⟨by rfl, ?_⟩
            conv => whnf
            refine ⟨by rfl, ?_⟩
            conv => whnf
            refine ⟨by rfl, ?_⟩
            conv => whnf
            refine ⟨by rfl, ?_⟩
            conv => whnf
            refine ⟨by rfl, ?_⟩
            conv => whnf
            refine ⟨by rfl, ?_⟩
            conv => whnf
            refine ⟨by rfl, ?_⟩
            conv => whnf
            refine ⟨by rfl, ?_⟩
            conv => whnf
            refine ⟨by rfl, ?_⟩
            conv => whnf
            refine ⟨by rfl, ?_⟩
            conv => whnf
            refine ⟨by rfl, ?_⟩
            conv => whnf
            refine ⟨by rfl, ?_⟩
            conv => whnf
            refine ⟨by rfl, ?_⟩
            conv => whnf
            refine ⟨by rfl, ?_⟩
            conv => whnf
            refine ⟨by rfl, ?_⟩
            conv => whnf
            exact trivial
          · conv => whnf
            refine ⟨fun q1 => ?_, fun q1 => ?_⟩
            · conv => whnf
              refine (dropL_s z.1.1 z1 _ hx1 hx2).call [1, 2, 3, 4] (by rfl) (by repeat' (first | exact trivial | exact rfl | apply And.intro)) (by repeat' (first | exact trivial | exact rfl | apply And.intro)) ?_
              rintro _ _ ⟨⟨u, rfl⟩, s', rfl, ok', len'⟩
              conv => whnf
              refine ⟨⟨(s', z.1.2.1 + 1, z.1.2.2 + 1 + 1), ok', by show s'.P.length = n + 1; omega, by show z.1.2.1 + 1 ≤ 60; omega, by show 0 ≤ z.1.2.2 + 1 + 1; omega, by show z.1.2.2 + 1 + 1 ≤ 20 + 2 * ((z.1.2.1 + 1 : Nat) : Int); omega⟩, by show 60 - (z.1.2.1 + 1) < 60 - z.1.2.1; omega, .of [some 0, some 1, some 2, some 3, some 4] (by rfl) ?_⟩
              conv => whnf
              refine ⟨by rfl, ?_⟩
              conv => whnf
              refine ⟨by exact (w64 _ (by omega) (by omega)).trans (by simp), ?_⟩
              conv => whnf
              refine ⟨by rfl, ?_⟩
              conv => whnf
              refine ⟨by rfl, ?_⟩
              conv => whnf
              refine ⟨by rfl, ?_⟩
              conv => whnf
              refine ⟨by rfl, ?_⟩
              conv => whnf
              refine ⟨by rfl, ?_⟩
              conv => whnf
              refine ⟨by rfl, ?_⟩
              conv => whnf
              refine ⟨by rfl, ?_⟩
              conv => whnf
              refine ⟨by rfl, ?_⟩
              conv => whnf
              refine ⟨by rfl, ?_⟩
              conv => whnf
              refine ⟨by rfl, ?_⟩
              conv => whnf
              refine ⟨by rfl, ?_⟩
              conv => whnf
              refine ⟨by rfl, ?_⟩
              conv => whnf
              refine ⟨by rfl, ?_⟩
              conv => whnf
              refine ⟨by rfl, ?_⟩
              conv => whnf
              refine ⟨by rfl, ?_⟩
              conv => whnf
              refine ⟨by rfl, ?_⟩
              conv => whnf
              refine ⟨by rfl, ?_⟩
              conv => whnf
              refine ⟨by rfl, ?_⟩
              conv => whnf
              refine ⟨by rfl, ?_⟩
              conv => whnf
              refine ⟨by rfl, ?_⟩
              conv => whnf
              refine ⟨by rfl, ?_⟩
              conv => whnf
              refine ⟨by rfl, ?_⟩
              conv => whnf
              refine ⟨by rfl, ?_⟩
              conv => whnf
              refine ⟨by rfl, ?_⟩
              conv => whnf
              refine ⟨by rfl, ?_⟩
              conv => whnf
              refine ⟨by rfl, ?_⟩
              conv => whnf
              refine ⟨by rfl, ?_⟩
              conv => whnf
              refine ⟨by rfl, ?_⟩
              conv => whnf
              refine ⟨by rfl, ?_⟩
              conv => whnf
              refine ⟨by rfl, ?_⟩
              conv => whnf
              refine ⟨by rfl, ?_⟩
              conv => whnf
              refine ⟨by rfl, ?_⟩
              conv => whnf
              refine ⟨by rfl, ?_⟩
              conv => whnf
              refine ⟨by rfl, ?_⟩
              conv => whnf
              refine ⟨by rfl, ?_⟩
              conv => whnf
              refine ⟨by rfl, ?_⟩
              conv => whnf
              refine ⟨by rfl, ?_⟩
              conv => whnf
              refine ⟨by rfl, ?_⟩
              conv => whnf
              refine ⟨by rfl, ?_⟩
              conv => whnf
              refine ⟨by rfl, ?_⟩
              conv => whnf
              refine ⟨by rfl, ?_⟩
              conv => whnf
              refine ⟨by rfl, ?_⟩
              conv => whnf
              refine ⟨by rfl, ?_⟩
              conv => whnf
              refine ⟨by rfl, ?_⟩
              conv => whnf
              refine ⟨by rfl, ?_⟩
              conv => whnf
              refine ⟨by rfl, ?_⟩
              conv => whnf
              refine ⟨by rfl, ?_⟩
              conv => whnf
              refine ⟨by rfl, ?_⟩
              conv => whnf
              refine ⟨by rfl, ?_⟩
              conv => whnf
              refine ⟨by rfl, ?_⟩
              conv => whnf
              refine ⟨by rfl, ?_⟩
              conv => whnf
              refine ⟨by rfl, ?_⟩
              conv => whnf
              refine ⟨by rfl, ?_⟩
              conv => whnf
              refine ⟨by rfl, ?_⟩
              conv => whnf
              refine ⟨by rfl, ?_⟩
              conv => whnf
              refine ⟨by rfl, ?_⟩
              conv => whnf
              refine ⟨by rfl, ?_⟩
              conv => whnf
              refine ⟨by rfl, ?_⟩
              conv => whnf
              refine ⟨by rfl, ?_⟩
              conv => whnf
              refine ⟨by rfl, ?_⟩
              conv => whnf
              refine ⟨by rfl, ?_⟩
              conv => whnf
              refine ⟨by rfl, ?_⟩
              conv => whnf
              refine ⟨by rfl, ?_⟩
              conv => whnf
              refine ⟨by rfl, ?_⟩
              conv => whnf
              refine ⟨by rfl, ?_⟩
              conv => whnf
              refine ⟨by rfl, ?_⟩
              conv => whnf
              refine ⟨by rfl, ?_⟩
              conv => whnf
              refine ⟨by rfl, ?_⟩
              conv => whnf
              refine ⟨by rfl, ?_⟩
              conv => whnf
              refine ⟨by rfl, ?_⟩
              conv => whnf
              refine ⟨by rfl, ?_⟩
              conv => whnf
              refine ⟨by rfl, ?_⟩
              conv => whnf
              refine ⟨by rfl, ?_⟩
              conv => whnf
              refine ⟨by rfl, ?_⟩
              conv => whnf
              refine ⟨by rfl, ?_⟩
              conv => whnf
              refine ⟨by rfl, ?_⟩
              conv => whnf
              refine ⟨by rfl, ?_⟩
              conv => whnf
              refine ⟨by rfl, ?_⟩
              conv => whnf
              refine ⟨by rfl, ?_⟩
              conv => whnf
              refine ⟨by rfl, ?_⟩
              conv => whnf
              refine ⟨by rfl, ?_⟩
              conv => whnf
              refine ⟨by rfl, ?_⟩
              conv => whnf
              refine ⟨by rfl, ?_⟩
              conv => whnf
              refine ⟨by rfl, ?_⟩
              conv => whnf
              refine ⟨by rfl, ?_⟩
              conv => whnf
              refine ⟨by rfl, ?_⟩
              conv => whnf
              refine ⟨by rfl, ?_⟩
              conv => whnf
              refine ⟨by rfl, ?_⟩
              conv => whnf
              refine ⟨by rfl, ?_⟩
              conv => whnf
              refine ⟨by rfl, ?_⟩
              conv => whnf
              refine ⟨by rfl, ?_⟩
              conv => whnf
              refine ⟨by rfl, ?_⟩
              conv => whnf
              refine ⟨by rfl, ?_⟩
              conv => whnf
              refine ⟨by rfl, ?_⟩
              conv => whnf
              refine ⟨by rfl, ?_⟩
              conv => whnf
              refine ⟨by rfl, ?_⟩
              conv => whnf
              refine ⟨by rfl, ?_⟩
              conv => whnf
              refine ⟨by rfl, ?_⟩
              conv => whnf
              refine ⟨by rfl, ?_⟩
              conv => whnf
              refine ⟨by rfl, ?_⟩
              conv => whnf
              refine ⟨by rfl, ?_⟩
              conv => whnf
              refine ⟨by rfl, ?_⟩
              conv => whnf
              refine ⟨by rfl, ?_⟩
              conv => whnf
              refine ⟨by rfl, ?_⟩
              conv => whnf
              refine ⟨by rfl, ?_⟩
              conv => whnf
              refine ⟨by rfl, ?_⟩
              conv => whnf
              refine ⟨by rfl, ?_⟩
              conv => whnf
              refine ⟨by rfl, ?_⟩
              conv => whnf
              refine ⟨by rfl, ?_⟩
              conv => whnf
              refine ⟨by rfl, ?_⟩
              conv => whnf
              refine ⟨by rfl, ?_⟩
              conv => whnf
              refine ⟨by rfl, ?_⟩
              conv => whnf
              refine ⟨by rfl, ?_⟩
              conv => whnf
              refine ⟨by rfl, ?_⟩
              conv => whnf
              refine ⟨by rfl, ?_⟩
              conv => whnf
              refine ⟨by rfl, ?_⟩
              conv => whnf
              refine ⟨by rfl, ?_⟩
              conv => whnf
              refine ⟨by rfl, ?_⟩
              conv => whnf
              refine ⟨by rfl, ?_⟩
              conv => whnf
              refine ⟨by rfl, ?_⟩
              conv => whnf
              refine ⟨by rfl, ?_⟩
              conv => whnf
              refine ⟨by rfl, ?_⟩
              conv => whnf
              refine ⟨by rfl, ?_⟩
              conv => whnf
              refine ⟨by rfl, ?_⟩
              conv => whnf
              refine ⟨by rfl, ?_⟩
              conv => whnf
              refine ⟨by rfl, ?_⟩
              conv => whnf
              refine ⟨by rfl, ?_⟩
              conv => whnf
              refine ⟨by rfl, ?_⟩
              conv => whnf
              refine ⟨by rfl, ?_⟩
              conv => whnf
              refine ⟨by rfl, ?_⟩
              conv => whnf
              refine ⟨by rfl, ?_⟩
              conv => whnf
              refine ⟨by rfl, ?_⟩
              conv => whnf
              refine ⟨by rfl, ?_⟩
              conv => whnf
              refine ⟨by rfl, ?_⟩
              conv => whnf
              refine ⟨by rfl, ?_⟩
              conv => whnf
              refine ⟨by rfl, ?_⟩
              conv => whnf
              refine ⟨by rfl, ?_⟩
              conv => whnf
              refine ⟨by rfl, ?_⟩
              conv => whnf
              refine ⟨by rfl, ?_⟩
              conv => whnf
              refine ⟨by rfl, ?_⟩
              conv => whnf
              refine ⟨by rfl, ?_⟩
              conv => whnf
              refine ⟨by rfl, ?_⟩
              conv => whnf
              refine ⟨by rfl, ?_⟩
              conv => whnf
              refine ⟨by rfl, ?_⟩
              conv => whnf
              refine ⟨by rfl, ?_⟩
              conv => whnf
              refine ⟨by rfl, ?_⟩
              conv => whnf
              refine ⟨by rfl, ?_⟩
              conv => whnf
              refine ⟨by rfl, ?_⟩
              conv => whnf
              refine ⟨by rfl, ?_⟩
              conv => whnf
              refine ⟨by rfl, ?_⟩
              conv => whnf
              refine ⟨by rfl, ?_⟩
              conv => whnf
              refine ⟨by rfl, ?_⟩
              conv => whnf
              refine ⟨by rfl, ?_⟩
              conv => whnf
              refine ⟨by rfl, ?_⟩
              conv => whnf
              refine ⟨by rfl, ?_⟩
              conv => whnf
              refine ⟨by rfl, ?_⟩
              conv => whnf
              refine ⟨by rfl, ?_⟩
              conv => whnf
              refine ⟨by rfl, ?_⟩
              conv => whnf
              refine ⟨by rfl, ?_⟩
              conv => whnf
              refine ⟨by rfl, ?_⟩
              conv => whnf
              refine ⟨by rfl, ?_⟩
              conv => whnf
              refine ⟨by rfl, ?_⟩
              conv => whnf
              refine ⟨by rfl, ?_⟩
              conv => whnf
              refine ⟨by rfl, ?_⟩
              conv => whnf
              refine ⟨by rfl, ?_⟩
              conv => whnf
              refine ⟨by rfl, ?_⟩
              conv => whnf
              refine ⟨by rfl, ?_⟩
              conv => whnf
              refine ⟨by rfl, ?_⟩
              conv => whnf
              refine ⟨by rfl, ?_⟩
              conv => whnf
              refine ⟨by rfl, ?_⟩
              conv => whnf
              refine ⟨by rfl, ?_⟩
              conv => whnf
              refine ⟨by rfl, ?_⟩
              conv => whnf
              refine ⟨by rfl, ?_⟩
              conv => whnf
              refine ⟨by rfl, ?_⟩
              conv => whnf
              refine ⟨by rfl, ?_⟩
              conv => whnf
              refine ⟨by rfl, ?_⟩
              conv => whnf
              refine ⟨by rfl, ?_⟩
              conv => whnf
              refine ⟨by rfl, ?_⟩
              conv => whnf
              refine ⟨by rfl, ?_⟩
              conv => whnf
              refine ⟨by rfl, ?_⟩
              conv => whnf
              refine ⟨by rfl, ?_⟩
              conv => whnf
              refine ⟨by rfl, ?_⟩
              conv => whnf
              refine ⟨by rfl, ?_⟩
              conv => whnf
              refine ⟨by rfl, ?_⟩
              conv => whnf
              refine ⟨by rfl, ?_⟩
              conv => whnf
              refine ⟨by rfl, ?_⟩
              conv => whnf
              refine ⟨by rfl, ?_⟩
              conv => whnf
              refine ⟨by rfl, ?_⟩
              conv => whnf
              refine ⟨by rfl, ?_⟩
              conv => whnf
              refine ⟨by rfl, ?_⟩
              conv => whnf
              refine ⟨by rfl, ?_⟩
              conv => whnf
              refine ⟨by rfl, ?_⟩
              conv => whnf
              refine ⟨by rfl, ?_⟩
              conv => whnf
              refine ⟨by rfl, ?_⟩
              conv => whnf
              refine ⟨by rfl, ?_⟩
              conv => whnf
              refine ⟨by rfl, ?_⟩
              conv => whnf
              refine ⟨by rfl, ?_⟩
              conv => whnf
              exact trivial
            · conv => whnf
              refine (delL_s z.1.1 z1 _ hx1 hx2).call [1, 2, 3, 4, 5] (by rfl) (by repeat' (first | exact trivial | exact rfl | apply And.intro)) (by repeat' (first | exact trivial | exact rfl | apply And.intro)) ?_
              rintro _ _ ⟨⟨u, rfl⟩, (⟨s', rfl, ok', len'⟩ | ⟨s', rfl, ok', len'⟩ | ⟨s', rfl, ok', len'⟩)⟩
              · conv => whnf
                refine ⟨⟨(s', z.1.2.1 + 1, z.1.2.2 + 1 + 1), ok', by show s'.P.length = n + 1; omega, by show z.1.2.1 + 1 ≤ 60; omega, by show 0 ≤ z.1.2.2 + 1 + 1; omega, by show z.1.2.2 + 1 + 1 ≤ 20 + 2 * ((z.1.2.1 + 1 : Nat) : Int); omega⟩, by show 60 - (z.1.2.1 + 1) < 60 - z.1.2.1; omega, .of [some 0, some 1, some 2, some 3, some 4] (by rfl) ?_⟩
                conv => whnf
                refine ⟨by rfl, ?_⟩
                conv => whnf
                refine ⟨by exact (w64 _ (by omega) (by omega)).trans (by simp), ?_⟩
                conv => whnf
                refine ⟨by rfl, ?_⟩
                conv => whnf
                refine ⟨by rfl, ?_⟩
                conv => whnf
                refine ⟨by rfl, ?_⟩
                conv => whnf
                refine ⟨by rfl, ?_⟩
                conv => whnf
                refine ⟨by rfl, ?_⟩
                conv => whnf
                refine ⟨by rfl, ?_⟩
                conv => whnf
                refine ⟨by rfl, ?_⟩
                conv => whnf
                refine ⟨by rfl, ?_⟩
                conv => whnf
                refine ⟨by rfl, ?_⟩
                conv => whnf
                refine ⟨by rfl, ?_⟩
                conv => whnf
                refine ⟨by rfl, ?_⟩
                conv => whnf
                refine ⟨by rfl, ?_⟩
                conv => whnf
                refine ⟨by rfl, ?_⟩
                conv => whnf
                refine ⟨by rfl, ?_⟩
                conv => whnf
                refine ⟨by rfl, ?_⟩
                conv => whnf
                refine ⟨by rfl, ?_⟩
                conv => whnf
                refine ⟨by rfl, ?_⟩
                conv => whnf
                refine ⟨by rfl, ?_⟩
                conv => whnf
                refine ⟨by rfl, ?_⟩
                conv => whnf
                refine ⟨by rfl, ?_⟩
                conv => whnf
                refine ⟨by rfl, ?_⟩
                conv => whnf
                refine ⟨by rfl, ?_⟩
                conv => whnf
                refine ⟨by rfl, ?_⟩
                conv => whnf
                refine ⟨by rfl, ?_⟩
                conv => whnf
                refine ⟨by rfl, ?_⟩
                conv => whnf
                refine ⟨by rfl, ?_⟩
                conv => whnf
                refine ⟨by rfl, ?_⟩
                conv => whnf
                refine ⟨by rfl, ?_⟩
                conv => whnf
                refine ⟨by rfl, ?_⟩
                conv => whnf
                refine ⟨by rfl, ?_⟩
                conv => whnf
                refine ⟨by rfl, ?_⟩
                conv => whnf
                refine ⟨by rfl, ?_⟩
                conv => whnf
                refine ⟨by rfl, ?_⟩
                conv => whnf
                refine ⟨by rfl, ?_⟩
                conv => whnf
                refine ⟨by rfl, ?_⟩
                conv => whnf
                refine ⟨by rfl, ?_⟩
                conv => whnf
                refine ⟨by rfl, ?_⟩
                conv => whnf
                refine ⟨by rfl, ?_⟩
                conv => whnf
                refine ⟨by rfl, ?_⟩
                conv => whnf
                refine ⟨by rfl, ?_⟩
                conv => whnf
                refine ⟨by rfl, ?_⟩
                conv => whnf
                refine ⟨by rfl, ?_⟩
                conv => whnf
                refine ⟨by rfl, ?_⟩
                conv => whnf
                refine ⟨by rfl, ?_⟩
                conv => whnf
                refine ⟨by rfl, ?_⟩
                conv => whnf
                refine ⟨by rfl, ?_⟩
                conv => whnf
                refine ⟨by rfl, ?_⟩
                conv => whnf
                refine ⟨by rfl, ?_⟩
                conv => whnf
                refine ⟨by rfl, ?_⟩
                conv => whnf
                refine ⟨by rfl, ?_⟩
                conv => whnf
                refine ⟨by rfl, ?_⟩
                conv => whnf
                refine ⟨by rfl, ?_⟩
                conv => whnf
                refine ⟨by rfl, ?_⟩
                conv => whnf
                refine ⟨by rfl, ?_⟩
                conv => whnf
                refine ⟨by rfl, ?_⟩
                conv => whnf
                refine ⟨by rfl, ?_⟩
                conv => whnf
                refine ⟨by rfl, ?_⟩
                conv => whnf
                refine ⟨by rfl, ?_⟩
                conv => whnf
                refine ⟨by rfl, ?_⟩
                conv => whnf
                refine ⟨by rfl, ?_⟩
                conv => whnf
                refine ⟨by rfl, ?_⟩
                conv => whnf
                refine ⟨by rfl, ?_⟩
                conv => whnf
                refine ⟨by rfl, ?_⟩
                conv => whnf
                refine ⟨by rfl, ?_⟩
                conv => whnf
                refine ⟨by rfl, ?_⟩
                conv => whnf
                refine ⟨by rfl, ?_⟩
                conv => whnf
                refine ⟨by rfl, ?_⟩
                conv => whnf
                refine ⟨by rfl, ?_⟩
                conv => whnf
                refine ⟨by rfl, ?_⟩
                conv => whnf
                refine ⟨by rfl, ?_⟩
                conv => whnf
                refine ⟨by rfl, ?_⟩
                conv => whnf
                refine ⟨by rfl, ?_⟩
                conv => whnf
                refine ⟨by rfl, ?_⟩
                conv => whnf
                refine ⟨by rfl, ?_⟩
                conv => whnf
                refine ⟨by rfl, ?_⟩
                conv => whnf
                refine ⟨by rfl, ?_⟩
                conv => whnf
                refine ⟨by rfl, ?_⟩
                conv => whnf
                refine ⟨by rfl, ?_⟩
                conv => whnf
                refine ⟨by rfl, ?_⟩
                conv => whnf
                refine ⟨by rfl, ?_⟩
                conv => whnf
                refine ⟨by rfl, ?_⟩
                conv => whnf
                refine ⟨by rfl, ?_⟩
                conv => whnf
                refine ⟨by rfl, ?_⟩
                conv => whnf
                refine ⟨by rfl, ?_⟩
                conv => whnf
                refine ⟨by rfl, ?_⟩
                conv => whnf
                refine ⟨by rfl, ?_⟩
                conv => whnf
                refine ⟨by rfl, ?_⟩
                conv => whnf
                refine ⟨by rfl, ?_⟩
                conv => whnf
                refine ⟨by rfl, ?_⟩
                conv => whnf
                refine ⟨by rfl, ?_⟩
                conv => whnf
                refine ⟨by rfl, ?_⟩
                conv => whnf
                refine ⟨by rfl, ?_⟩
                conv => whnf
                refine ⟨by rfl, ?_⟩
                conv => whnf
                refine ⟨by rfl, ?_⟩
                conv => whnf
                refine ⟨by rfl, ?_⟩
                conv => whnf
                refine ⟨by rfl, ?_⟩
                conv => whnf
                refine ⟨by rfl, ?_⟩
                conv => whnf
                refine ⟨by rfl, ?_⟩
                conv => whnf
                refine ⟨by rfl, ?_⟩
                conv => whnf
                refine ⟨by rfl, ?_⟩
                conv => whnf
                refine ⟨by rfl, ?_⟩
                conv => whnf
                refine ⟨by rfl, ?_⟩
                conv => whnf
                refine ⟨by rfl, ?_⟩
                conv => whnf
                refine ⟨by rfl, ?_⟩
                conv => whnf
                refine ⟨by rfl, ?_⟩
                conv => whnf
                refine ⟨by rfl, ?_⟩
                conv => whnf
                refine ⟨by rfl, ?_⟩
                conv => whnf
                refine ⟨by rfl, ?_⟩
                conv => whnf
                refine ⟨by rfl, ?_⟩
                conv => whnf
                refine ⟨by rfl, ?_⟩
                conv => whnf
                refine ⟨by rfl, ?_⟩
                conv => whnf
                refine ⟨by rfl, ?_⟩
                conv => whnf
                refine ⟨by rfl, ?_⟩
                conv => whnf
                refine ⟨by rfl, ?_⟩
                conv => whnf
                refine ⟨by rfl, ?_⟩
                conv => whnf
                refine ⟨by rfl, ?_⟩
                conv => whnf
                refine ⟨by rfl, ?_⟩
                conv => whnf
                refine ⟨by rfl, ?_⟩
                conv => whnf
                refine ⟨by rfl, ?_⟩
                conv => whnf
                refine ⟨by rfl, ?_⟩
                conv => whnf
                refine ⟨by rfl, ?_⟩
                conv => whnf
                refine ⟨by rfl, ?_⟩
                conv => whnf
                refine ⟨by rfl, ?_⟩
                conv => whnf
                refine ⟨by rfl, ?_⟩
                conv => whnf
                refine ⟨by rfl, ?_⟩
                conv => whnf
                refine ⟨by rfl, ?_⟩
                conv => whnf
                refine ⟨by rfl, ?_⟩
                conv => whnf
                refine ⟨by rfl, ?_⟩
                conv => whnf
                refine ⟨by rfl, ?_⟩
                conv => whnf
                refine ⟨by rfl, ?_⟩
                conv => whnf
                refine ⟨by rfl, ?_⟩
                conv => whnf
                refine ⟨by rfl, ?_⟩
                conv => whnf
                refine ⟨by rfl, ?_⟩
                conv => whnf
                refine ⟨by rfl, ?_⟩
                conv => whnf
                refine ⟨by rfl, ?_⟩
                conv => whnf
                refine ⟨by rfl, ?_⟩
                conv => whnf
                refine ⟨by rfl, ?_⟩
                conv => whnf
                refine ⟨by rfl, ?_⟩
                conv => whnf
                refine ⟨by rfl, ?_⟩
                conv => whnf
                refine ⟨by rfl, ?_⟩
                conv => whnf
                refine ⟨by rfl, ?_⟩
                conv => whnf
                refine ⟨by rfl, ?_⟩
                conv => whnf
                refine ⟨by rfl, ?_⟩
                conv => whnf
                refine ⟨by rfl, ?_⟩
                conv => whnf
                refine ⟨by rfl, ?_⟩
                conv => whnf
                refine ⟨by rfl, ?_⟩
                conv => whnf
                refine ⟨by rfl, ?_⟩
                conv => whnf
                refine ⟨by rfl, ?_⟩
                conv => whnf
                refine ⟨by rfl, ?_⟩
                conv => whnf
                refine ⟨by rfl, ?_⟩
                conv => whnf
                refine ⟨by rfl, ?_⟩
                conv => whnf
                refine ⟨by rfl, ?_⟩
                conv => whnf
                refine ⟨by rfl, ?_⟩
                conv => whnf
                refine ⟨by rfl, ?_⟩
                conv => whnf
                refine ⟨by rfl, ?_⟩
                conv => whnf
                refine ⟨by rfl, ?_⟩
                conv => whnf
                refine ⟨by rfl, ?_⟩
                conv => whnf
                refine ⟨by rfl, ?_⟩
                conv => whnf
                refine ⟨by rfl, ?_⟩
                conv => whnf
                refine ⟨by rfl, ?_⟩
                conv => whnf
                refine ⟨by rfl, ?_⟩
                conv => whnf
                refine ⟨by rfl, ?_⟩
                conv => whnf
                refine ⟨by rfl, ?_⟩
                conv => whnf
                refine ⟨by rfl, ?_⟩
                conv => whnf
                refine ⟨by rfl, ?_⟩
                conv => whnf
                refine ⟨by rfl, ?_⟩
                conv => whnf
                refine ⟨by rfl, ?_⟩
                conv => whnf
                refine ⟨by rfl, ?_⟩
                conv => whnf
                refine ⟨by rfl, ?_⟩
                conv => whnf
                refine ⟨by rfl, ?_⟩
                conv => whnf
                refine ⟨by rfl, ?_⟩
                conv => whnf
                refine ⟨by rfl, ?_⟩
                conv => whnf
                refine ⟨by rfl, ?_⟩
                conv => whnf
                refine ⟨by rfl, ?_⟩
                conv => whnf
                refine ⟨by rfl, ?_⟩
                conv => whnf
                refine ⟨by rfl, ?_⟩
                conv => whnf
                refine ⟨by rfl, ?_⟩
                conv => whnf
                refine ⟨by rfl, ?_⟩
                conv => whnf
                refine ⟨by rfl, ?_⟩
                conv => whnf
                refine ⟨by rfl, ?_⟩
                conv => whnf
                refine ⟨by rfl, ?_⟩
                conv => whnf
                refine ⟨by rfl, ?_⟩
                conv => whnf
                refine ⟨by rfl, ?_⟩
                conv => whnf
                refine ⟨by rfl, ?_⟩
                conv => whnf
                refine ⟨by rfl, ?_⟩
                conv => whnf
                refine ⟨by rfl, ?_⟩
                conv => whnf
                refine ⟨by rfl, ?_⟩
                conv => whnf
                refine ⟨by rfl, ?_⟩
                conv => whnf
                refine ⟨by rfl, ?_⟩
                conv => whnf
                refine ⟨by rfl, ?_⟩
                conv => whnf
                refine ⟨by rfl, ?_⟩
                conv => whnf
                refine ⟨by rfl, ?_⟩
                conv => whnf
                refine ⟨by rfl, ?_⟩
                conv => whnf
                refine ⟨by rfl, ?_⟩
                conv => whnf
                refine ⟨by rfl, ?_⟩
                conv => whnf
                refine ⟨by rfl, ?_⟩
                conv => whnf
                refine ⟨by rfl, ?_⟩
                conv => whnf
                exact trivial
              · conv => whnf
                refine ⟨⟨(s', z.1.2.1 + 1, z.1.2.2 + 1 + 1), ok', by show s'.P.length = n + 1; omega, by show z.1.2.1 + 1 ≤ 60; omega, by show 0 ≤ z.1.2.2 + 1 + 1; omega, by show z.1.2.2 + 1 + 1 ≤ 20 + 2 * ((z.1.2.1 + 1 : Nat) : Int); omega⟩, by show 60 - (z.1.2.1 + 1) < 60 - z.1.2.1; omega, .of [some 0, some 1, some 2, some 5, some 4] (by rfl) ?_⟩
                conv => whnf
                refine ⟨by rfl, ?_⟩
                conv => whnf
                refine ⟨by exact (w64 _ (by omega) (by omega)).trans (by simp), ?_⟩
                conv => whnf
                refine ⟨by rfl, ?_⟩
                conv => whnf
                refine ⟨by rfl, ?_⟩
                conv => whnf
                refine ⟨by rfl, ?_⟩
                conv => whnf
                refine ⟨by rfl, ?_⟩
                conv => whnf
                refine ⟨by rfl, ?_⟩
                conv => whnf
                refine ⟨by rfl, ?_⟩
                conv => whnf
                refine ⟨by rfl, ?_⟩
                conv => whnf
                refine ⟨by rfl, ?_⟩
                conv => whnf
                refine ⟨by rfl, ?_⟩
                conv => whnf
                refine ⟨by rfl, ?_⟩
                conv => whnf
                refine ⟨by rfl, ?_⟩
                conv => whnf
                refine ⟨by rfl, ?_⟩
                conv => whnf
                refine ⟨by rfl, ?_⟩
                conv => whnf
                refine ⟨by rfl, ?_⟩
                conv => whnf
                refine ⟨by rfl, ?_⟩
                conv => whnf
                refine ⟨by rfl, ?_⟩
                conv => whnf
                refine ⟨by rfl, ?_⟩
                conv => whnf
                refine ⟨by rfl, ?_⟩
                conv => whnf
                refine ⟨by rfl, ?_⟩
                conv => whnf
                refine ⟨by rfl, ?_⟩
                conv => whnf
                refine ⟨by rfl, ?_⟩
                conv => whnf
                refine ⟨by rfl, ?_⟩
                conv => whnf
                refine ⟨by rfl, ?_⟩
                conv => whnf
                refine ⟨by rfl, ?_⟩
                conv => whnf
                refine ⟨by rfl, ?_⟩
                conv => whnf
                refine ⟨by rfl, ?_⟩
                conv => whnf
                refine ⟨by rfl, ?_⟩
                conv => whnf
                refine ⟨by rfl, ?_⟩
                conv => whnf
                refine ⟨by rfl, ?_⟩
                conv => whnf
                refine ⟨by rfl, ?_⟩
                conv => whnf
                refine ⟨by rfl, ?_⟩
                conv => whnf
                refine ⟨by rfl, ?_⟩
                conv => whnf
                refine ⟨by rfl, ?_⟩
                conv => whnf
                refine ⟨by rfl, ?_⟩
                conv => whnf
                refine ⟨by rfl, ?_⟩
                conv => whnf
                refine ⟨by rfl, ?_⟩
                conv => whnf
                refine ⟨by rfl, ?_⟩
                conv => whnf
                refine ⟨by rfl, ?_⟩
                conv => whnf
                refine ⟨by rfl, ?_⟩
                conv => whnf
                refine ⟨by rfl, ?_⟩
                conv => whnf
                refine ⟨by rfl, ?_⟩
                conv => whnf
                refine ⟨by rfl, ?_⟩
                conv => whnf
                refine ⟨by rfl, ?_⟩
                conv => whnf
                refine ⟨by rfl, ?_⟩
                conv => whnf
                refine ⟨by rfl, ?_⟩
                conv => whnf
                refine ⟨by rfl, ?_⟩
                conv => whnf
                refine ⟨by rfl, ?_⟩
                conv => whnf
                refine ⟨by rfl, ?_⟩
                conv => whnf
                refine ⟨by rfl, ?_⟩
                conv => whnf
                refine ⟨by rfl, ?_⟩
                conv => whnf
                refine ⟨by rfl, ?_⟩
                conv => whnf
                refine ⟨by rfl, ?_⟩
                conv => whnf
                refine ⟨by rfl, ?_⟩
                conv => whnf
                refine ⟨by rfl, ?_⟩
                conv => whnf
                refine ⟨by rfl, ?_⟩
                conv => whnf
                refine ⟨by rfl, ?_⟩
                conv => whnf
                refine ⟨by rfl, ?_⟩
                conv => whnf
                refine ⟨by rfl, ?_⟩
                conv => whnf
                refine ⟨by rfl, ?_⟩
                conv => whnf
                refine ⟨by rfl, ?_⟩
                conv => whnf
                refine ⟨by rfl, ?_⟩
                conv => whnf
                refine ⟨by rfl, ?_⟩
                conv => whnf
                refine ⟨by rfl, ?_⟩
                conv => whnf
                refine ⟨by rfl, ?_⟩
                conv => whnf
                refine ⟨by rfl, ?_⟩
                conv => whnf
                refine ⟨by rfl, ?_⟩
                conv => whnf
                refine ⟨by rfl, ?_⟩
                conv => whnf
                refine ⟨by rfl, ?_⟩
                conv => whnf
                refine ⟨by rfl, ?_⟩
                conv => whnf
                refine ⟨by rfl, ?_⟩
                conv => whnf
                refine ⟨by rfl, ?_⟩
                conv => whnf
                refine ⟨by rfl, ?_⟩
                conv => whnf
                refine ⟨by rfl, ?_⟩
                conv => whnf
                refine ⟨by rfl, ?_⟩
                conv => whnf
                refine ⟨by rfl, ?_⟩
                conv => whnf
                refine ⟨by rfl, ?_⟩
                conv => whnf
                refine ⟨by rfl, ?_⟩
                conv => whnf
                refine ⟨by rfl, ?_⟩
                conv => whnf
                refine ⟨by rfl, ?_⟩
                conv => whnf
                refine ⟨by rfl, ?_⟩
                conv => whnf
                refine ⟨by rfl, ?_⟩
                conv => whnf
                refine ⟨by rfl, ?_⟩
                conv => whnf
                refine ⟨by rfl, ?_⟩
                conv => whnf
                refine ⟨by rfl, ?_⟩
                conv => whnf
                refine ⟨by rfl, ?_⟩
                conv => whnf
                refine ⟨by rfl, ?_⟩
                conv => whnf
                refine ⟨by rfl, ?_⟩
                conv => whnf
                refine ⟨by rfl, ?_⟩
                conv => whnf
                refine ⟨by rfl, ?_⟩
                conv => whnf
                refine ⟨by rfl, ?_⟩
                conv => whnf
                refine ⟨by rfl, ?_⟩
                conv => whnf
                refine ⟨by rfl, ?_⟩
                conv => whnf
                refine ⟨by rfl, ?_⟩
                conv => whnf
                refine ⟨by rfl, ?_⟩
                conv => whnf
                refine ⟨by rfl, ?_⟩
                conv => whnf
                refine ⟨by rfl, ?_⟩
                conv => whnf
                refine ⟨by rfl, ?_⟩
                conv => whnf
                refine ⟨by rfl, ?_⟩
                conv => whnf
                refine ⟨by rfl, ?_⟩
                conv => whnf
                refine ⟨by rfl, ?_⟩
                conv => whnf
                refine ⟨by rfl, ?_⟩
                conv => whnf
                refine ⟨by rfl, ?_⟩
                conv => whnf
                refine ⟨by rfl, ?_⟩
                conv => whnf
                refine ⟨by rfl, ?_⟩
                conv => whnf
                refine ⟨by rfl, ?_⟩
                conv => whnf
                refine ⟨by rfl, ?_⟩
                conv => whnf
                refine ⟨by rfl, ?_⟩
                conv => whnf
                refine ⟨by rfl, ?_⟩
                conv => whnf
                refine ⟨by rfl, ?_⟩
                conv => whnf
                refine ⟨by rfl, ?_⟩
                conv => whnf
                refine ⟨by rfl, ?_⟩
                conv => whnf
                refine ⟨by rfl, ?_⟩
                conv => whnf
                refine ⟨by rfl, ?_⟩
                conv => whnf
                refine ⟨by rfl, ?_⟩
                conv => whnf
                refine ⟨by rfl, ?_⟩
                conv => whnf
                refine ⟨by rfl, ?_⟩
                conv => whnf
                refine ⟨by rfl, ?_⟩
                conv => whnf
                refine ⟨by rfl, ?_⟩
                conv => whnf
                refine ⟨by rfl, ?_⟩
                conv => whnf
                refine ⟨by rfl, ?_⟩
                conv => whnf
                refine ⟨by rfl, ?_⟩
                conv => whnf
                refine ⟨by rfl, ?_⟩
                conv => whnf
                refine ⟨by rfl, ?_⟩
                conv => whnf
                refine ⟨by rfl, ?_⟩
                conv => whnf
                refine ⟨by rfl, ?_⟩
                conv => whnf
                refine ⟨by rfl, ?_⟩
                conv => whnf
                refine ⟨by rfl, ?_⟩
                conv => whnf
                refine ⟨by rfl, ?_⟩
                conv => whnf
                refine ⟨by rfl, ?_⟩
                conv => whnf
                refine ⟨by rfl, ?_⟩
                conv => whnf
                refine ⟨by rfl, ?_⟩
                conv => whnf
                refine ⟨by rfl, ?_⟩
                conv => whnf
                refine ⟨by rfl, ?_⟩
                conv => whnf
                refine ⟨by rfl, ?_⟩
                conv => whnf
                refine ⟨by rfl, ?_⟩
                conv => whnf
                refine ⟨by rfl, ?_⟩
                conv => whnf
                refine ⟨by rfl, ?_⟩
                conv => whnf
                refine ⟨by rfl, ?_⟩
                conv => whnf
                refine ⟨by rfl, ?_⟩
                conv => whnf
                refine ⟨by rfl, ?_⟩
                conv => whnf
                refine ⟨by rfl, ?_⟩
                conv => whnf
                refine ⟨by rfl, ?_⟩
                conv => whnf
                refine ⟨by rfl, ?_⟩
                conv => whnf
                refine ⟨by rfl, ?_⟩
                conv => whnf
                refine ⟨by rfl, ?_⟩
                conv => whnf
                refine ⟨by rfl, ?_⟩
                conv => whnf
                refine ⟨by rfl, ?_⟩
                conv => whnf
                refine ⟨by rfl, ?_⟩
                conv => whnf
                refine ⟨by rfl, ?_⟩
                conv => whnf
                refine ⟨by rfl, ?_⟩
                conv => whnf
                refine ⟨by rfl, ?_⟩
                conv => whnf
                refine ⟨by rfl, ?_⟩
                conv => whnf
                refine ⟨by rfl, ?_⟩
                conv => whnf
                refine ⟨by rfl, ?_⟩
                conv => whnf
                refine ⟨by rfl, ?_⟩
                conv => whnf
                refine ⟨by rfl, ?_⟩
                conv => whnf
                refine ⟨by rfl, ?_⟩
                conv => whnf
                refine ⟨by rfl, ?_⟩
                conv => whnf
                refine ⟨by rfl, ?_⟩
                conv => whnf
                refine ⟨by rfl, ?_⟩
                conv => whnf
                refine ⟨by rfl, ?_⟩
                conv => whnf
                refine ⟨by rfl, ?_⟩
                conv => whnf
                refine ⟨by rfl, ?_⟩
                conv => whnf
                refine ⟨by rfl, ?_⟩
                conv => whnf
                refine ⟨by rfl, ?_⟩
                conv => whnf
                refine ⟨by rfl, ?_⟩
                conv => whnf
                refine ⟨by rfl, ?_⟩
                conv => whnf
                refine ⟨by rfl, ?_⟩
                conv => whnf
                refine ⟨by rfl, ?_⟩
                conv => whnf
                refine ⟨by rfl, ?_⟩
                conv => whnf
                refine ⟨by rfl, ?_⟩
                conv => whnf
                refine ⟨by rfl, ?_⟩
                conv => whnf
                refine ⟨by rfl, ?_⟩
                conv => whnf
                refine ⟨by rfl, ?_⟩
                conv => whnf
                refine ⟨by rfl, ?_⟩
                conv => whnf
                refine ⟨by rfl, ?_⟩
                conv => whnf
                refine ⟨by rfl, ?_⟩
                conv => whnf
                refine ⟨by rfl, ?_⟩
                conv => whnf
                refine ⟨by rfl, ?_⟩
                conv => whnf
                refine ⟨by rfl, ?_⟩
                conv => whnf
                refine ⟨by rfl, ?_⟩
                conv => whnf
                refine ⟨by rfl, ?_⟩
                conv => whnf
                refine ⟨by rfl, ?_⟩
                conv => whnf
                refine ⟨by rfl, ?_⟩
                conv => whnf
                refine ⟨by rfl, ?_⟩
                conv => whnf
                refine ⟨by rfl, ?_⟩
                conv => whnf
                refine ⟨by rfl, ?_⟩
                conv => whnf
                refine ⟨by rfl, ?_⟩
                conv => whnf
                refine ⟨by rfl, ?_⟩
                conv => whnf
                refine ⟨by rfl, ?_⟩
                conv => whnf
                refine ⟨by rfl, ?_⟩
                conv => whnf
                refine ⟨by rfl, ?_⟩
                conv => whnf
                refine ⟨by rfl, ?_⟩
                conv => whnf
                refine ⟨by rfl, ?_⟩
                conv => whnf
                refine ⟨by rfl, ?_⟩
                conv => whnf
                refine ⟨by rfl, ?_⟩
                conv => whnf
                refine ⟨by rfl, ?_⟩
                conv => whnf
                exact trivial
              · conv => whnf
                refine ⟨⟨(s', z.1.2.1 + 1, z.1.2.2 + 1 + 1), ok', by show s'.P.length = n + 1; omega, by show z.1.2.1 + 1 ≤ 60; omega, by show 0 ≤ z.1.2.2 + 1 + 1; omega, by show z.1.2.2 + 1 + 1 ≤ 20 + 2 * ((z.1.2.1 + 1 : Nat) : Int); omega⟩, by show 60 - (z.1.2.1 + 1) < 60 - z.1.2.1; omega, .of [some 0, some 1, some 2, some 3, some 5] (by rfl) ?_⟩
                conv => whnf
                refine ⟨by rfl, ?_⟩
                conv => whnf
                refine ⟨by exact (w64 _ (by omega) (by omega)).trans (by simp), ?_⟩
                conv => whnf
                refine ⟨by rfl, ?_⟩
                conv => whnf
                refine ⟨by rfl, ?_⟩
                conv => whnf
                refine ⟨by rfl, ?_⟩
                conv => whnf
                refine ⟨by rfl, ?_⟩
                conv => whnf
                refine ⟨by rfl, ?_⟩
                conv => whnf
                refine ⟨by rfl, ?_⟩
                conv => whnf
                refine ⟨by rfl, ?_⟩
                conv => whnf
                refine ⟨by rfl, ?_⟩
                conv => whnf
                refine ⟨by rfl, ?_⟩
                conv => whnf
                refine ⟨by rfl, ?_⟩
                conv => whnf
                refine ⟨by rfl, ?_⟩
                conv => whnf
                refine ⟨by rfl, ?_⟩
                conv => whnf
                refine ⟨by rfl, ?_⟩
                conv => whnf
                refine ⟨by rfl, ?_⟩
                conv => whnf
                refine ⟨by rfl, ?_⟩
                conv => whnf
                refine ⟨by rfl, ?_⟩
                conv => whnf
                refine ⟨by rfl, ?_⟩
                conv => whnf
                refine ⟨by rfl, ?_⟩
                conv => whnf
                refine ⟨by rfl, ?_⟩
                conv => whnf
                refine ⟨by rfl, ?_⟩
                conv => whnf
                refine ⟨by rfl, ?_⟩
                conv => whnf
                refine ⟨by rfl, ?_⟩
                conv => whnf
                refine ⟨by rfl, ?_⟩
                conv => whnf
                refine ⟨by rfl, ?_⟩
                conv => whnf
                refine ⟨by rfl, ?_⟩
                conv => whnf
                refine ⟨by rfl, ?_⟩
                conv => whnf
                refine ⟨by rfl, ?_⟩
                conv => whnf
                refine ⟨by rfl, ?_⟩
                conv => whnf
                refine ⟨by rfl, ?_⟩
                conv => whnf
                refine ⟨by rfl, ?_⟩
                conv => whnf
                refine ⟨by rfl, ?_⟩
                conv => whnf
                refine ⟨by rfl, ?_⟩
                conv => whnf
                refine ⟨by rfl, ?_⟩
                conv => whnf
                refine ⟨by rfl, ?_⟩
                conv => whnf
                refine ⟨by rfl, ?_⟩
                conv => whnf
                refine ⟨by rfl, ?_⟩
                conv => whnf
                refine ⟨by rfl, ?_⟩
                conv => whnf
                refine ⟨by rfl, ?_⟩
                conv => whnf
                refine ⟨by rfl, ?_⟩
                conv => whnf
                refine ⟨by rfl, ?_⟩
                conv => whnf
                refine ⟨by rfl, ?_⟩
                conv => whnf
                refine ⟨by rfl, ?_⟩
                conv => whnf
                refine ⟨by rfl, ?_⟩
                conv => whnf
                refine ⟨by rfl, ?_⟩
                conv => whnf
                refine ⟨by rfl, ?_⟩
                conv => whnf
                refine ⟨by rfl, ?_⟩
                conv => whnf
                refine ⟨by rfl, ?_⟩
                conv => whnf
                refine ⟨by rfl, ?_⟩
                conv => whnf
                refine ⟨by rfl, ?_⟩
                conv => whnf
                refine ⟨by rfl, ?_⟩
                conv => whnf
                refine ⟨by rfl, ?_⟩
                conv => whnf
                refine ⟨by rfl, ?_⟩
                conv => whnf
                refine ⟨by rfl, ?_⟩
                conv => whnf
                refine ⟨by rfl, ?_⟩
                conv => whnf
                refine ⟨by rfl, ?_⟩
                conv => whnf
                refine ⟨by rfl, ?_⟩
                conv => whnf
                refine ⟨by rfl, ?_⟩
                conv => whnf
                refine ⟨by rfl, ?_⟩
                conv => whnf
                refine ⟨by rfl, ?_⟩
                conv => whnf
                refine ⟨by rfl, ?_⟩
                conv => whnf
                refine ⟨by rfl, ?_⟩
                conv => whnf
                refine ⟨by rfl, ?_⟩
                conv => whnf
                refine ⟨by rfl, ?_⟩
                conv => whnf
                refine ⟨by rfl, ?_⟩
                conv => whnf
                refine ⟨by rfl, ?_⟩
                conv => whnf
                refine ⟨by rfl, ?_⟩
                conv => whnf
                refine ⟨by rfl, ?_⟩
                conv => whnf
                refine ⟨by rfl, ?_⟩
                conv => whnf
                refine ⟨by rfl, ?_⟩
                conv => whnf
                refine ⟨by rfl, ?_⟩
                conv => whnf
                refine ⟨by rfl, ?_⟩
                conv => whnf
                refine ⟨by rfl, ?_⟩
                conv => whnf
                refine ⟨by rfl, ?_⟩
                conv => whnf
                refine ⟨by rfl, ?_⟩
                conv => whnf
                refine ⟨by rfl, ?_⟩
                conv => whnf
                refine ⟨by rfl, ?_⟩
                conv => whnf
                refine ⟨by rfl, ?_⟩
                conv => whnf
                refine ⟨by rfl, ?_⟩
                conv => whnf
                refine ⟨by rfl, ?_⟩
                conv => whnf
                refine ⟨by rfl, ?_⟩
                conv => whnf
                refine ⟨by rfl, ?_⟩
                conv => whnf
                refine ⟨by rfl, ?_⟩
                conv => whnf
                refine ⟨by rfl, ?_⟩
                conv => whnf
                refine ⟨by rfl, ?_⟩
                conv => whnf
                refine ⟨by rfl, ?_⟩
                conv => whnf
                refine ⟨by rfl, ?_⟩
                conv => whnf
                refine ⟨by rfl, ?_⟩
                conv => whnf
                refine ⟨by rfl, ?_⟩
                conv => whnf
                refine ⟨by rfl, ?_⟩
                conv => whnf
                refine ⟨by rfl, ?_⟩
                conv => whnf
                refine ⟨by rfl, ?_⟩
                conv => whnf
                refine ⟨by rfl, ?_⟩
                conv => whnf
                refine ⟨by rfl, ?_⟩
                conv => whnf
                refine ⟨by rfl, ?_⟩
                conv => whnf
                refine ⟨by rfl, ?_⟩
                conv => whnf
                refine ⟨by rfl, ?_⟩
                conv => whnf
                refine ⟨by rfl, ?_⟩
                conv => whnf
                refine ⟨by rfl, ?_⟩
                conv => whnf
                refine ⟨by rfl, ?_⟩
                conv => whnf
                refine ⟨by rfl, ?_⟩
                conv => whnf
                refine ⟨by rfl, ?_⟩
                conv => whnf
                refine ⟨by rfl, ?_⟩
                conv => whnf
                refine ⟨by rfl, ?_⟩
                conv => whnf
                refine ⟨by rfl, ?_⟩
                conv => whnf
                refine ⟨by rfl, ?_⟩
                conv => whnf
                refine ⟨by rfl, ?_⟩
                conv => whnf
                refine ⟨by rfl, ?_⟩
                conv => whnf
                refine ⟨by rfl, ?_⟩
                conv => whnf
                refine ⟨by rfl, ?_⟩
                conv => whnf
                refine ⟨by rfl, ?_⟩
                conv => whnf
                refine ⟨by rfl, ?_⟩
                conv => whnf
                refine ⟨by rfl, ?_⟩
                conv => whnf
                refine ⟨by rfl, ?_⟩
                conv => whnf
                refine ⟨by rfl, ?_⟩
                conv => whnf
                refine ⟨by rfl, ?_⟩
                conv => whnf
                refine ⟨by rfl, ?_⟩
                conv => whnf
                refine ⟨by rfl, ?_⟩
                conv => whnf
                refine ⟨by rfl, ?_⟩
                conv => whnf
                refine ⟨by rfl, ?_⟩
                conv => whnf
                refine ⟨by rfl, ?_⟩
                conv => whnf
                refine ⟨by rfl, ?_⟩
                conv => whnf
                refine ⟨by rfl, ?_⟩
                conv => whnf
                refine ⟨by rfl, ?_⟩
                conv => whnf
                refine ⟨by rfl, ?_⟩
                conv => whnf
                refine ⟨by rfl, ?_⟩
                conv => whnf
                refine ⟨by rfl, ?_⟩
                conv => whnf
                refine ⟨by rfl, ?_⟩
                conv => whnf
                refine ⟨by rfl, ?_⟩
                conv => whnf
                refine ⟨by rfl, ?_⟩
                conv => whnf
                refine ⟨by rfl, ?_⟩
                conv => whnf
                refine ⟨by rfl, ?_⟩
                conv => whnf
                refine ⟨by rfl, ?_⟩
                conv => whnf
                refine ⟨by rfl, ?_⟩
                conv => whnf
                refine ⟨by rfl, ?_⟩
                conv => whnf
                refine ⟨by rfl, ?_⟩
                conv => whnf
                refine ⟨by rfl, ?_⟩
                conv => whnf
                refine ⟨by rfl, ?_⟩
                conv => whnf
                refine ⟨by rfl, ?_⟩
                conv => whnf
                refine ⟨by rfl, ?_⟩
                conv => whnf
                refine ⟨by rfl, ?_⟩
                conv => whnf
                refine ⟨by rfl, ?_⟩
                conv => whnf
                refine ⟨by rfl, ?_⟩
                conv => whnf
                refine ⟨by rfl, ?_⟩
                conv => whnf
                refine ⟨by rfl, ?_⟩
                conv => whnf
                refine ⟨by rfl, ?_⟩
                conv => whnf
                refine ⟨by rfl, ?_⟩
                conv => whnf
                refine ⟨by rfl, ?_⟩
                conv => whnf
                refine ⟨by rfl, ?_⟩
                conv => whnf
                refine ⟨by rfl, ?_⟩
                conv => whnf
                refine ⟨by rfl, ?_⟩
                conv => whnf
                refine ⟨by rfl, ?_⟩
                conv => whnf
                refine ⟨by rfl, ?_⟩
                conv => whnf
                refine ⟨by rfl, ?_⟩
                conv => whnf
                refine ⟨by rfl, ?_⟩
                conv => whnf
                refine ⟨by rfl, ?_⟩
                conv => whnf
                refine ⟨by rfl, ?_⟩
                conv => whnf
                refine ⟨by rfl, ?_⟩
                conv => whnf
                refine ⟨by rfl, ?_⟩
                conv => whnf
                refine ⟨by rfl, ?_⟩
                conv => whnf
                refine ⟨by rfl, ?_⟩
                conv => whnf
                refine ⟨by rfl, ?_⟩
                conv => whnf
                refine ⟨by rfl, ?_⟩
                conv => whnf
                refine ⟨by rfl, ?_⟩
                conv => whnf
                refine ⟨by rfl, ?_⟩
                conv => whnf
                refine ⟨by rfl, ?_⟩
                conv => whnf
                refine ⟨by rfl, ?_⟩
                conv => whnf
                refine ⟨by rfl, ?_⟩
                conv => whnf
                refine ⟨by rfl, ?_⟩
                conv => whnf
                refine ⟨by rfl, ?_⟩
                conv => whnf
                refine ⟨by rfl, ?_⟩
                conv => whnf
                refine ⟨by rfl, ?_⟩
                conv => whnf
                refine ⟨by rfl, ?_⟩
                conv => whnf
                refine ⟨by rfl, ?_⟩
                conv => whnf
                refine ⟨by rfl, ?_⟩
                conv => whnf
                refine ⟨by rfl, ?_⟩
                conv => whnf
                refine ⟨by rfl, ?_⟩
                conv => whnf
                refine ⟨by rfl, ?_⟩
                conv => whnf
                refine ⟨by rfl, ?_⟩
                conv => whnf
                refine ⟨by rfl, ?_⟩
                conv => whnf
                refine ⟨by rfl, ?_⟩
                conv => whnf
                refine ⟨by rfl, ?_⟩
                conv => whnf
                refine ⟨by rfl, ?_⟩
                conv => whnf
                refine ⟨by rfl, ?_⟩
                conv => whnf
                refine ⟨by rfl, ?_⟩
                conv => whnf
                refine ⟨by rfl, ?_⟩
                conv => whnf
                refine ⟨by rfl, ?_⟩
                conv => whnf
                refine ⟨by rfl, ?_⟩
                conv => whnf
                refine ⟨by rfl, ?_⟩
                conv => whnf
                refine ⟨by rfl, ?_⟩
                conv => whnf
                refine ⟨by rfl, ?_⟩
                conv => whnf
                refine ⟨by rfl, ?_⟩
                conv => whnf
                refine ⟨by rfl, ?_⟩
                conv => whnf
                refine ⟨by rfl, ?_⟩
                conv => whnf
                refine ⟨by rfl, ?_⟩
                conv => whnf
                refine ⟨by rfl, ?_⟩
                conv => whnf
                refine ⟨by rfl, ?_⟩
                conv => whnf
                refine ⟨by rfl, ?_⟩
                conv => whnf
                exact trivial
        · conv => whnf
          refine XG.freezeH 2 ?_
          conv => whnf
          refine XG.freezeH 3 ?_
          conv => whnf
          refine XG.freezeH 4 ?_
          conv => whnf
          refine .same ?_
          conv => whnf
          refine LoopG.inv tab_ok 84 (fun f : { f : Nat // f ≤ 2 } => [(2, .ff), (4, .ptr 0 0), (9, .int .i64 (f.1 : Int))])
            (fun _ => [lgZ z.1.1]) (fun f => 2 - f.1) ⟨0, by omega⟩ (.of [some 1] (by rfl) ?_) ?_
          · conv => whnf
            refine ⟨by rfl, ?_⟩
            conv => whnf
            refine ⟨by rfl, ?_⟩
            conv => whnf
            refine ⟨by rfl, ?_⟩
            conv => whnf
            refine ⟨by rfl, ?_⟩
            conv => whnf
            refine ⟨by rfl, ?_⟩
            conv => whnf
            refine ⟨by rfl, ?_⟩
            conv => whnf
            refine ⟨by rfl, ?_⟩
            conv => whnf
            refine ⟨by rfl, ?_⟩
            conv => whnf
            refine ⟨by rfl, ?_⟩
            conv => whnf
            refine ⟨by rfl, ?_⟩
            conv => whnf
            refine ⟨by rfl, ?_⟩
            conv => whnf
            refine ⟨by rfl, ?_⟩
            conv => whnf
            refine ⟨by rfl, ?_⟩
            conv => whnf
            refine ⟨by rfl, ?_⟩
            conv => whnf
            refine ⟨by rfl, ?_⟩
            conv => whnf
            refine ⟨by rfl, ?_⟩
            conv => whnf
            refine ⟨by rfl, ?_⟩
            conv => whnf
            refine ⟨by rfl, ?_⟩
            conv => whnf
            refine ⟨by rfl, ?_⟩
            conv => whnf
            refine ⟨by rfl, ?_⟩
            conv => whnf
            refine ⟨by rfl, ?_⟩
            conv => whnf
            refine ⟨by rfl, ?_⟩
            conv => whnf
            refine ⟨by rfl, ?_⟩
            conv => whnf
            refine ⟨by rfl, ?_⟩
            conv => whnf
            refine ⟨by rfl, ?_⟩
            conv => whnf
            refine ⟨by rfl, ?_⟩
            conv => whnf
            refine ⟨by rfl, ?_⟩
            conv => whnf
            refine ⟨by rfl, ?_⟩
            conv => whnf
            refine ⟨by rfl, ?_⟩
            conv => whnf
            refine ⟨by rfl, ?_⟩
            conv => whnf
            refine ⟨by rfl, ?_⟩
            conv => whnf
            refine ⟨by rfl, ?_⟩
            conv => whnf
            refine ⟨by rfl, ?_⟩
            conv => whnf
            refine ⟨by rfl, ?_⟩
            conv => whnf
            refine ⟨by rfl, ?_⟩
            conv => whnf
            refine ⟨by rfl, ?_⟩
            conv => whnf
            refine ⟨by rfl, ?_⟩
            conv => whnf
            refine ⟨by rfl, ?_⟩
            conv => whnf
            refine ⟨by rfl, ?_⟩
            conv => whnf
            refine ⟨by rfl, ?_⟩
            conv => whnf
            refine ⟨by rfl, ?_⟩
            conv => whnf
            refine ⟨by rfl, ?_⟩
            conv => whnf
            refine ⟨by rfl, ?_⟩
            conv => whnf
            refine ⟨by rfl, ?_⟩
            conv => whnf
            refine ⟨by rfl, ?_⟩
            conv => whnf
            refine ⟨by rfl, ?_⟩
            conv => whnf
            refine ⟨by rfl, ?_⟩
            conv => whnf
            refine ⟨by rfl, ?_⟩
            conv => whnf
            refine ⟨by rfl, ?_⟩
            conv => whnf
            refine ⟨by rfl, ?_⟩
            conv => whnf
            refine ⟨by rfl, ?_⟩
            conv => whnf
            refine ⟨by rfl, ?_⟩
            conv => whnf
            refine ⟨by rfl, ?_⟩
            conv => whnf
            refine ⟨by rfl, ?_⟩
            conv => whnf
            refine ⟨by rfl, ?_⟩
            conv => whnf
            refine ⟨by rfl, ?_⟩
            conv => whnf
            refine ⟨by rfl, ?_⟩
            conv => whnf
            refine ⟨by rfl, ?_⟩
            conv => whnf
            refine ⟨by rfl, ?_⟩
            conv => whnf
            refine ⟨by rfl, ?_⟩
            conv => whnf
            refine ⟨by rfl, ?_⟩
            conv => whnf
            refine ⟨by rfl, ?_⟩
            conv => whnf
            refine ⟨by rfl, ?_⟩
            conv => whnf
            refine ⟨by rfl, ?_⟩
            conv => whnf
            refine ⟨by rfl, ?_⟩
            conv => whnf
            refine ⟨by rfl, ?_⟩
            conv => whnf
            refine ⟨by rfl, ?_⟩
            conv => whnf
            refine ⟨by rfl, ?_⟩
            conv => whnf
            refine ⟨by rfl, ?_⟩
            conv => whnf
            refine ⟨by rfl, ?_⟩
            conv => whnf
            refine ⟨by rfl, ?_⟩
            conv => whnf
            refine ⟨by rfl, ?_⟩
            conv => whnf
            refine ⟨by rfl, ?_⟩
            conv => whnf
            refine ⟨by rfl, ?_⟩
            conv => whnf
            refine ⟨by rfl, ?_⟩
            conv => whnf
            refine ⟨by rfl, ?_⟩
            conv => whnf
            refine ⟨by rfl, ?_⟩
            conv => whnf
            refine ⟨by rfl, ?_⟩
            conv => whnf
            refine ⟨by rfl, ?_⟩
            conv => whnf
            refine ⟨by rfl, ?_⟩
            conv => whnf
            refine ⟨by rfl, ?_⟩
            conv => whnf
            refine ⟨by rfl, ?_⟩
            conv => whnf
            refine ⟨by rfl, ?_⟩
            conv => whnf
            refine ⟨by rfl, ?_⟩
            conv => whnf
            refine ⟨by rfl, ?_⟩
            conv => whnf
            refine ⟨by rfl, ?_⟩
            conv => whnf
            refine ⟨by rfl, ?_⟩
            conv => whnf
            refine ⟨by rfl, ?_⟩
            conv => whnf
            refine ⟨by rfl, ?_⟩
            conv => whnf
            refine ⟨by rfl, ?_⟩
            conv => whnf
            refine ⟨by rfl, ?_⟩
            conv => whnf
            refine ⟨by rfl, ?_⟩
            conv => whnf
            refine ⟨by rfl, ?_⟩
            conv => whnf
            refine ⟨by rfl, ?_⟩
            conv => whnf
            refine ⟨by rfl, ?_⟩
            conv => whnf
            refine ⟨by rfl, ?_⟩
            conv => whnf
            refine ⟨by rfl, ?_⟩
            conv => whnf
            refine ⟨by rfl, ?_⟩
            conv => whnf
            refine ⟨by rfl, ?_⟩
            conv => whnf
            refine ⟨by rfl, ?_⟩
            conv => whnf
            refine ⟨by rfl, ?_⟩
            conv => whnf
            refine ⟨by rfl, ?_⟩
            conv => whnf
            refine ⟨by rfl, ?_⟩
            conv => whnf
            refine ⟨by rfl, ?_⟩
            conv => whnf
            refine ⟨by rfl, ?_⟩
            conv => whnf
            refine ⟨by rfl, ?_⟩
            conv => whnf
            refine ⟨by rfl, ?_⟩
            conv => whnf
            refine ⟨by rfl, ?_⟩
            conv => whnf
            refine ⟨by rfl, ?_⟩
            conv => whnf
            refine ⟨by rfl, ?_⟩
            conv => whnf
            refine ⟨by rfl, ?_⟩
            conv => whnf
            refine ⟨by rfl, ?_⟩
            conv => whnf
            refine ⟨by rfl, ?_⟩
            conv => whnf
            refine ⟨by rfl, ?_⟩
            conv => whnf
            refine ⟨by rfl, ?_⟩
            conv => whnf
            refine ⟨by rfl, ?_⟩
            conv => whnf
            refine ⟨by rfl, ?_⟩
            conv => whnf
            refine ⟨by rfl, ?_⟩
            conv => whnf
            refine ⟨by rfl, ?_⟩
            conv => whnf
            refine ⟨by rfl, ?_⟩
            conv => whnf
            refine ⟨by rfl, ?_⟩
            conv => whnf
            refine ⟨by rfl, ?_⟩
            conv => whnf
            refine ⟨by rfl, ?_⟩
            conv => whnf
            refine ⟨by rfl, ?_⟩
            conv => whnf
            refine ⟨by rfl, ?_⟩
            conv => whnf
            refine ⟨by rfl, ?_⟩
            conv => whnf
            refine ⟨by rfl, ?_⟩
            conv => whnf
            refine ⟨by rfl, ?_⟩
            conv => whnf
            refine ⟨by rfl, ?_⟩
            conv => whnf
            refine ⟨by rfl, ?_⟩
            conv => whnf
            refine ⟨by rfl, ?_⟩
            conv => whnf
            refine ⟨by rfl, ?_⟩
            conv => whnf
            refine ⟨by rfl, ?_⟩
            conv => whnf
            refine ⟨by rfl, ?_⟩
            conv => whnf
            refine ⟨by rfl, ?_⟩
            conv => whnf
            refine ⟨by rfl, ?_⟩
            conv => whnf
            refine ⟨by rfl, ?_⟩
            conv => whnf
            refine ⟨by rfl, ?_⟩
            conv => whnf
            refine ⟨by rfl, ?_⟩
            conv => whnf
            refine ⟨by rfl, ?_⟩
            conv => whnf
            refine ⟨by rfl, ?_⟩
            conv => whnf
            refine ⟨by rfl, ?_⟩
            conv => whnf
            refine ⟨by rfl, ?_⟩
            conv => whnf
            refine ⟨by rfl, ?_⟩
            conv => whnf
            refine ⟨by rfl, ?_⟩
            conv => whnf
            refine ⟨by rfl, ?_⟩
            conv => whnf
            refine ⟨by rfl, ?_⟩
            conv => whnf
            refine ⟨by rfl, ?_⟩
            conv => whnf
            refine ⟨by rfl, ?_⟩
            conv => whnf
            refine ⟨by rfl, ?_⟩
            conv => whnf
            refine ⟨by rfl, ?_⟩
            conv => whnf
            refine ⟨by rfl, ?_⟩
            conv => whnf
            refine ⟨by rfl, ?_⟩
            conv => whnf
            refine ⟨by rfl, ?_⟩
            conv => whnf
            refine ⟨by rfl, ?_⟩
            conv => whnf
            refine ⟨by rfl, ?_⟩
            conv => whnf
            refine ⟨by rfl, ?_⟩
            conv => whnf
            refine ⟨by rfl, ?_⟩
            conv => whnf
            refine ⟨by rfl, ?_⟩
            conv => whnf
            refine ⟨by rfl, ?_⟩
            conv => whnf
            refine ⟨by rfl, ?_⟩
            conv => whnf
            refine ⟨by rfl, ?_⟩
            conv => whnf
            refine ⟨by rfl, ?_⟩
            conv => whnf
            refine ⟨by rfl, ?_⟩
            conv => whnf
            refine ⟨by rfl, ?_⟩
            conv => whnf
            refine ⟨by rfl, ?_⟩
            conv => whnf
            refine ⟨by rfl, ?_⟩
            conv => whnf
            refine ⟨by rfl, ?_⟩
            conv => whnf
            refine ⟨by rfl, ?_⟩
            conv => whnf
            refine ⟨by rfl, ?_⟩
            conv => whnf
            refine ⟨by rfl, ?_⟩
            conv => whnf
            refine ⟨by rfl, ?_⟩
            conv => whnf
            refine ⟨by rfl, ?_⟩
            conv => whnf
            refine ⟨by rfl, ?_⟩
            conv => whnf
            refine ⟨by rfl, ?_⟩
            conv => whnf
            refine ⟨by rfl, ?_⟩
            conv => whnf
            refine ⟨by rfl, ?_⟩
            conv => whnf
            refine ⟨by rfl, ?_⟩
            conv => whnf
            refine ⟨by rfl, ?_⟩
            conv => whnf
            refine ⟨by rfl, ?_⟩
            conv => whnf
            refine ⟨by rfl, ?_⟩
            conv => whnf
            refine ⟨by rfl, ?_⟩
            conv => whnf
            refine ⟨by rfl, ?_⟩
            conv => whnf
            refine ⟨by rfl, ?_⟩
            conv => whnf
            refine ⟨by rfl, ?_⟩
            conv => whnf
            refine ⟨by rfl, ?_⟩
            conv => whnf
            refine ⟨by rfl, ?_⟩
            conv => whnf
            refine ⟨by rfl, ?_⟩
            conv => whnf
            refine ⟨by rfl, ?_⟩
            conv => whnf
            refine ⟨by rfl, ?_⟩
            conv => whnf
            refine ⟨by rfl, ?_⟩
            conv => whnf
            refine ⟨by rfl, ?_⟩
            conv => whnf
            refine ⟨by rfl, ?_⟩
            conv => whnf
            refine ⟨by rfl, ?_⟩
            conv => whnf
            refine ⟨by rfl, ?_⟩
            conv => whnf
            refine ⟨by rfl, ?_⟩
            conv => whnf
            exact trivial
          · intro f
            have hf := f.2
            conv => whnf
            refine ⟨fun he => ?_, fun he => ?_⟩
            · have he : f.1 < 2 := by simp only [decide_eq_true_eq] at he; omega
              have hfx : (f.1 : Int) = 0 ∨ (f.1 : Int) = 1 := by omega
              have ol : ordO z.1.1.P (f.1 : Int) (if (f.1 : Int) = 0 then z.1.1.a else z.1.1.b) := by
                rcases hfx with q | q
                · rw [q, if_pos rfl]; exact z1.2.2.1
                · rw [q, if_neg (by decide)]; exact z1.2.2.2
              have hzp := z1.1
              have lo := ord_len ol
              conv => whnf
              refine (orderL_s z.1.1 z1 _ hfx).call [0] (by decide) (And.intro rfl trivial) (by repeat' (first | exact trivial | exact rfl | apply And.intro)) ?_
              rintro _ _ ⟨rfl, rfl⟩
              generalize (if (f.1 : Int) = 0 then z.1.1.a else z.1.1.b) = l at *
              obtain ⟨o1, o2, o3⟩ := ol
              have hl := nums_len l
              have hcl : ((nums l).length : Int) = (lcnt z.1.1.P (f.1 : Int) : Int) := by rw [hl, o3]
              conv => whnf
              refine (rising_s l (by omega) o1).call ?_
              rintro _ rfl
              conv => whnf
              refine both_f rfl ?_
              conv => whnf
              refine (countL_s _ (by first | omega | assumption | decide | simp) _).call [0] (by decide) (And.intro rfl (And.intro rfl trivial)) (And.intro rfl trivial) ?_
              rintro _ _ ⟨rfl, rfl⟩
              conv => whnf
              refine both_f (by simp; omega) ?_
              conv => whnf
              refine LoopG.inv tab_ok 84 (fun i : { i : Nat // i ≤ l.length } => [(2, .ff), (4, .ptr 0 0), (9, .int .i64 (f.1 : Int)), (10, .rs 1 (nums l)), (11, .int .i64 (i.1 : Int))])
                (fun _ => [lgZ z.1.1]) (fun i => l.length - i.1) ⟨0, by omega⟩ (.of [some 0] (by rfl) ?_) ?_
              · conv => whnf
                refine ⟨by rfl, ?_⟩
                conv => whnf
                refine ⟨by rfl, ?_⟩
                conv => whnf
                refine ⟨by rfl, ?_⟩
                conv => whnf
                refine ⟨by rfl, ?_⟩
                conv => whnf
                refine ⟨by rfl, ?_⟩
                conv => whnf
                refine ⟨by rfl, ?_⟩
                conv => whnf
                refine ⟨by rfl, ?_⟩
                conv => whnf
                refine ⟨by rfl, ?_⟩
                conv => whnf
                refine ⟨by rfl, ?_⟩
                conv => whnf
                refine ⟨by rfl, ?_⟩
                conv => whnf
                refine ⟨by rfl, ?_⟩
                conv => whnf
                refine ⟨by rfl, ?_⟩
                conv => whnf
                refine ⟨by rfl, ?_⟩
                conv => whnf
                refine ⟨by rfl, ?_⟩
                conv => whnf
                refine ⟨by rfl, ?_⟩
                conv => whnf
                refine ⟨by rfl, ?_⟩
                conv => whnf
                refine ⟨by rfl, ?_⟩
                conv => whnf
                refine ⟨by rfl, ?_⟩
                conv => whnf
                refine ⟨by rfl, ?_⟩
                conv => whnf
                refine ⟨by rfl, ?_⟩
                conv => whnf
                refine ⟨by rfl, ?_⟩
                conv => whnf
                refine ⟨by rfl, ?_⟩
                conv => whnf
                refine ⟨by rfl, ?_⟩
                conv => whnf
                refine ⟨by rfl, ?_⟩
                conv => whnf
                refine ⟨by rfl, ?_⟩
                conv => whnf
                refine ⟨by rfl, ?_⟩
                conv => whnf
                refine ⟨by rfl, ?_⟩
                conv => whnf
                refine ⟨by rfl, ?_⟩
                conv => whnf
                refine ⟨by rfl, ?_⟩
                conv => whnf
                refine ⟨by rfl, ?_⟩
                conv => whnf
                refine ⟨by rfl, ?_⟩
                conv => whnf
                refine ⟨by rfl, ?_⟩
                conv => whnf
                refine ⟨by rfl, ?_⟩
                conv => whnf
                refine ⟨by rfl, ?_⟩
                conv => whnf
                refine ⟨by rfl, ?_⟩
                conv => whnf
                refine ⟨by rfl, ?_⟩
                conv => whnf
                refine ⟨by rfl, ?_⟩
                conv => whnf
                refine ⟨by rfl, ?_⟩
                conv => whnf
                refine ⟨by rfl, ?_⟩
                conv => whnf
                refine ⟨by rfl, ?_⟩
                conv => whnf
                refine ⟨by rfl, ?_⟩
                conv => whnf
                refine ⟨by rfl, ?_⟩
                conv => whnf
                refine ⟨by rfl, ?_⟩
                conv => whnf
                refine ⟨by rfl, ?_⟩
                conv => whnf
                refine ⟨by rfl, ?_⟩
                conv => whnf
                refine ⟨by rfl, ?_⟩
                conv => whnf
                refine ⟨by rfl, ?_⟩
                conv => whnf
                refine ⟨by rfl, ?_⟩
                conv => whnf
                refine ⟨by rfl, ?_⟩
                conv => whnf
                refine ⟨by rfl, ?_⟩
                conv => whnf
                refine ⟨by rfl, ?_⟩
                conv => whnf
                refine ⟨by rfl, ?_⟩
                conv => whnf
                refine ⟨by rfl, ?_⟩
                conv => whnf
                refine ⟨by rfl, ?_⟩
                conv => whnf
                refine ⟨by rfl, ?_⟩
                conv => whnf
                refine ⟨by rfl, ?_⟩
                conv => whnf
                refine ⟨by rfl, ?_⟩
                conv => whnf
                refine ⟨by rfl, ?_⟩
                conv => whnf
                refine ⟨by rfl, ?_⟩
                conv => whnf
                refine ⟨by rfl, ?_⟩
                conv => whnf
                refine ⟨by rfl, ?_⟩
                conv => whnf
                refine ⟨by rfl, ?_⟩
                conv => whnf
                refine ⟨by rfl, ?_⟩
                conv => whnf
                refine ⟨by rfl, ?_⟩
                conv => whnf
                refine ⟨by rfl, ?_⟩
                conv => whnf
                refine ⟨by rfl, ?_⟩
                conv => whnf
                refine ⟨by rfl, ?_⟩
                conv => whnf
                refine ⟨by rfl, ?_⟩
                conv => whnf
                refine ⟨by rfl, ?_⟩
                conv => whnf
                refine ⟨by rfl, ?_⟩
                conv => whnf
                refine ⟨by rfl, ?_⟩
                conv => whnf
                refine ⟨by rfl, ?_⟩
                conv => whnf
                refine ⟨by rfl, ?_⟩
                conv => whnf
                refine ⟨by rfl, ?_⟩
                conv => whnf
                refine ⟨by rfl, ?_⟩
                conv => whnf
                refine ⟨by rfl, ?_⟩
                conv => whnf
                refine ⟨by rfl, ?_⟩
                conv => whnf
                refine ⟨by rfl, ?_⟩
                conv => whnf
                refine ⟨by rfl, ?_⟩
                conv => whnf
                refine ⟨by rfl, ?_⟩
                conv => whnf
                refine ⟨by rfl, ?_⟩
                conv => whnf
                refine ⟨by rfl, ?_⟩
                conv => whnf
                refine ⟨by rfl, ?_⟩
                conv => whnf
                refine ⟨by rfl, ?_⟩
                conv => whnf
                refine ⟨by rfl, ?_⟩
                conv => whnf
                refine ⟨by rfl, ?_⟩
                conv => whnf
                refine ⟨by rfl, ?_⟩
                conv => whnf
                refine ⟨by rfl, ?_⟩
                conv => whnf
                refine ⟨by rfl, ?_⟩
                conv => whnf
                refine ⟨by rfl, ?_⟩
                conv => whnf
                refine ⟨by rfl, ?_⟩
                conv => whnf
                refine ⟨by rfl, ?_⟩
                conv => whnf
                refine ⟨by rfl, ?_⟩
                conv => whnf
                refine ⟨by rfl, ?_⟩
                conv => whnf
                refine ⟨by rfl, ?_⟩
                conv => whnf
                refine ⟨by rfl, ?_⟩
                conv => whnf
                refine ⟨by rfl, ?_⟩
                conv => whnf
                refine ⟨by rfl, ?_⟩
                conv => whnf
                refine ⟨by rfl, ?_⟩
                conv => whnf
                refine ⟨by rfl, ?_⟩
                conv => whnf
                refine ⟨by rfl, ?_⟩
                conv => whnf
                refine ⟨by rfl, ?_⟩
                conv => whnf
                refine ⟨by rfl, ?_⟩
                conv => whnf
                refine ⟨by rfl, ?_⟩
                conv => whnf
                refine ⟨by rfl, ?_⟩
                conv => whnf
                refine ⟨by rfl, ?_⟩
                conv => whnf
                refine ⟨by rfl, ?_⟩
                conv => whnf
                refine ⟨by rfl, ?_⟩
                conv => whnf
                refine ⟨by rfl, ?_⟩
                conv => whnf
                refine ⟨by rfl, ?_⟩
                conv => whnf
                refine ⟨by rfl, ?_⟩
                conv => whnf
                refine ⟨by rfl, ?_⟩
                conv => whnf
                refine ⟨by rfl, ?_⟩
                conv => whnf
                refine ⟨by rfl, ?_⟩
                conv => whnf
                refine ⟨by rfl, ?_⟩
                conv => whnf
                refine ⟨by rfl, ?_⟩
                conv => whnf
                refine ⟨by rfl, ?_⟩
                conv => whnf
                refine ⟨by rfl, ?_⟩
                conv => whnf
                refine ⟨by rfl, ?_⟩
                conv => whnf
                refine ⟨by rfl, ?_⟩
                conv => whnf
                refine ⟨by rfl, ?_⟩
                conv => whnf
                refine ⟨by rfl, ?_⟩
                conv => whnf
                refine ⟨by rfl, ?_⟩
                conv => whnf
                refine ⟨by rfl, ?_⟩
                conv => whnf
                refine ⟨by rfl, ?_⟩
                conv => whnf
                refine ⟨by rfl, ?_⟩
                conv => whnf
                refine ⟨by rfl, ?_⟩
                conv => whnf
                refine ⟨by rfl, ?_⟩
                conv => whnf
                refine ⟨by rfl, ?_⟩
                conv => whnf
                refine ⟨by rfl, ?_⟩
                conv => whnf
                refine ⟨by rfl, ?_⟩
                conv => whnf
                refine ⟨by rfl, ?_⟩
                conv => whnf
                refine ⟨by rfl, ?_⟩
                conv => whnf
                refine ⟨by rfl, ?_⟩
                conv => whnf
                refine ⟨by rfl, ?_⟩
                conv => whnf
                refine ⟨by rfl, ?_⟩
                conv => whnf
                refine ⟨by rfl, ?_⟩
                conv => whnf
                refine ⟨by rfl, ?_⟩
                conv => whnf
                refine ⟨by rfl, ?_⟩
                conv => whnf
                refine ⟨by rfl, ?_⟩
                conv => whnf
                refine ⟨by rfl, ?_⟩
                conv => whnf
                refine ⟨by rfl, ?_⟩
                conv => whnf
                refine ⟨by rfl, ?_⟩
                conv => whnf
                refine ⟨by rfl, ?_⟩
                conv => whnf
                refine ⟨by rfl, ?_⟩
                conv => whnf
                refine ⟨by rfl, ?_⟩
                conv => whnf
                refine ⟨by rfl, ?_⟩
                conv => whnf
                refine ⟨by rfl, ?_⟩
                conv => whnf
                refine ⟨by rfl, ?_⟩
                conv => whnf
                refine ⟨by rfl, ?_⟩
                conv => whnf
                refine ⟨by rfl, ?_⟩
                conv => whnf
                refine ⟨by rfl, ?_⟩
                conv => whnf
                refine ⟨by rfl, ?_⟩
                conv => whnf
                refine ⟨by rfl, ?_⟩
                conv => whnf
                refine ⟨by rfl, ?_⟩
                conv => whnf
                refine ⟨by rfl, ?_⟩
                conv => whnf
                refine ⟨by rfl, ?_⟩
                conv => whnf
                refine ⟨by rfl, ?_⟩
                conv => whnf
                refine ⟨by rfl, ?_⟩
                conv => whnf
                refine ⟨by rfl, ?_⟩
                conv => whnf
                refine ⟨by rfl, ?_⟩
                conv => whnf
                refine ⟨by rfl, ?_⟩
                conv => whnf
                refine ⟨by rfl, ?_⟩
                conv => whnf
                refine ⟨by rfl, ?_⟩
                conv => whnf
                refine ⟨by rfl, ?_⟩
                conv => whnf
                refine ⟨by rfl, ?_⟩
                conv => whnf
                refine ⟨by rfl, ?_⟩
                conv => whnf
                refine ⟨by rfl, ?_⟩
                conv => whnf
                refine ⟨by rfl, ?_⟩
                conv => whnf
                refine ⟨by rfl, ?_⟩
                conv => whnf
                refine ⟨by rfl, ?_⟩
                conv => whnf
                refine ⟨by rfl, ?_⟩
                conv => whnf
                refine ⟨by rfl, ?_⟩
                conv => whnf
                refine ⟨by rfl, ?_⟩
                conv => whnf
                refine ⟨by rfl, ?_⟩
                conv => whnf
                refine ⟨by rfl, ?_⟩
                conv => whnf
                refine ⟨by rfl, ?_⟩
                conv => whnf
                refine ⟨by rfl, ?_⟩
                conv => whnf
                refine ⟨by rfl, ?_⟩
                conv => whnf
                refine ⟨by rfl, ?_⟩
                conv => whnf
                refine ⟨by rfl, ?_⟩
                conv => whnf
                refine ⟨by rfl, ?_⟩
                conv => whnf
                refine ⟨by rfl, ?_⟩
                conv => whnf
                refine ⟨by rfl, ?_⟩
                conv => whnf
                refine ⟨by rfl, ?_⟩
                conv => whnf
                refine ⟨by rfl, ?_⟩
                conv => whnf
                refine ⟨by rfl, ?_⟩
                conv => whnf
                refine ⟨by rfl, ?_⟩
                conv => whnf
                refine ⟨by rfl, ?_⟩
                conv => whnf
                refine ⟨by rfl, ?_⟩
                conv => whnf
                refine ⟨by rfl, ?_⟩
                conv => whnf
                refine ⟨by rfl, ?_⟩
                conv => whnf
                refine ⟨by rfl, ?_⟩
                conv => whnf
                refine ⟨by rfl, ?_⟩
                conv => whnf
                refine ⟨by rfl, ?_⟩
                conv => whnf
                refine ⟨by rfl, ?_⟩
                conv => whnf
                refine ⟨by rfl, ?_⟩
                conv => whnf
                refine ⟨by rfl, ?_⟩
                conv => whnf
                exact trivial
              · intro i
                have hi := i.2
                conv => whnf
                refine ⟨fun hj => ?_, fun hj => ?_⟩
                · have hj : i.1 < l.length := by rw [hl] at hj; simp only [decide_eq_true_eq] at hj; omega
                  have hm : l.getD i.1 0 ∈ l := by
                    have : l.getD i.1 0 = l[i.1] := by simp [List.getD, List.getElem?_eq_getElem hj]
                    rw [this]; exact List.getElem_mem hj
                  obtain ⟨s1, s2, s3, s4⟩ := o2 _ hm
                  have og := og_get hj
                  have en : (i.1 : Int) + 1 = ((i.1 + 1 : Nat) : Int) := by omega
                  conv => whnf
                  refine ⟨by omega, ?_⟩
                  conv => whnf
                  refine ⟨_, og, ?_⟩
                  conv => whnf
                  refine (stateZ_s _ (by first | omega | assumption | decide | simp) _ (by first | omega | assumption | decide | simp) (by first | omega | assumption | decide | simp) (by first | omega | assumption | decide | simp)).call [0] (by decide) (And.intro rfl trivial) (And.intro rfl trivial) ?_
                  rintro _ _ ⟨rfl, rfl⟩
                  conv => whnf
                  refine both_f rfl ?_
                  conv => whnf
                  refine ⟨⟨i.1 + 1, by omega⟩, by show l.length - (i.1 + 1) < l.length - i.1; omega, .of [some 0] (by rfl) ?_⟩
                  conv => whnf
                  refine ⟨by rfl, ?_⟩
                  conv => whnf
                  refine ⟨by rfl, ?_⟩
                  conv => whnf
                  refine ⟨by exact (w64 _ (by omega) (by omega)).trans (by omega), ?_⟩
                  conv => whnf
                  refine ⟨by rfl, ?_⟩
                  conv => whnf
                  refine ⟨by rfl, ?_⟩
                  conv => whnf
                  refine ⟨by rfl, ?_⟩
                  conv => whnf
                  refine ⟨by rfl, ?_⟩
                  conv => whnf
                  refine ⟨by rfl, ?_⟩
                  conv => whnf
                  refine ⟨by rfl, ?_⟩
                  conv => whnf
                  refine ⟨by rfl, ?_⟩
                  conv => whnf
                  refine ⟨by rfl, ?_⟩
                  conv => whnf
                  refine ⟨by rfl, ?_⟩
                  conv => whnf
                  refine ⟨by rfl, ?_⟩
                  conv => whnf
                  refine ⟨by rfl, ?_⟩
                  conv => whnf
                  refine ⟨by rfl, ?_⟩
                  conv => whnf
                  refine ⟨by rfl, ?_⟩
                  conv => whnf
                  refine ⟨by rfl, ?_⟩
                  conv => whnf
                  refine ⟨by rfl, ?_⟩
                  conv => whnf
                  refine ⟨by rfl, ?_⟩
                  conv => whnf
                  refine ⟨by rfl, ?_⟩
                  conv => whnf
                  refine ⟨by rfl, ?_⟩
                  conv => whnf
                  refine ⟨by rfl, ?_⟩
                  conv => whnf
                  refine ⟨by rfl, ?_⟩
                  conv => whnf
                  refine ⟨by rfl, ?_⟩
                  conv => whnf
                  refine ⟨by rfl, ?_⟩
                  conv => whnf
                  refine ⟨by rfl, ?_⟩
                  conv => whnf
                  refine ⟨by rfl, ?_⟩
                  conv => whnf
                  refine ⟨by rfl, ?_⟩
                  conv => whnf
                  refine ⟨by rfl, ?_⟩
                  conv => whnf
                  refine ⟨by rfl, ?_⟩
                  conv => whnf
                  refine ⟨by rfl, ?_⟩
                  conv => whnf
                  refine ⟨by rfl, ?_⟩
                  conv => whnf
                  refine ⟨by rfl, ?_⟩
                  conv => whnf
                  refine ⟨by rfl, ?_⟩
                  conv => whnf
                  refine ⟨by rfl, ?_⟩
                  conv => whnf
                  refine ⟨by rfl, ?_⟩
                  conv => whnf
                  refine ⟨by rfl, ?_⟩
                  conv => whnf
                  refine ⟨by rfl, ?_⟩
                  conv => whnf
                  refine ⟨by rfl, ?_⟩
                  conv => whnf
                  refine ⟨by rfl, ?_⟩
                  conv => whnf
                  refine ⟨by rfl, ?_⟩
                  conv => whnf
                  refine ⟨by rfl, ?_⟩
                  conv => whnf
                  refine ⟨by rfl, ?_⟩
                  conv => whnf
                  refine ⟨by rfl, ?_⟩
                  conv => whnf
                  refine ⟨by rfl, ?_⟩
                  conv => whnf
                  refine ⟨by rfl, ?_⟩
                  conv => whnf
                  refine ⟨by rfl, ?_⟩
                  conv => whnf
                  refine ⟨by rfl, ?_⟩
                  conv => whnf
                  refine ⟨by rfl, ?_⟩
                  conv => whnf
                  refine ⟨by rfl, ?_⟩
                  conv => whnf
                  refine ⟨by rfl, ?_⟩
                  conv => whnf
                  refine ⟨by rfl, ?_⟩
                  conv => whnf
                  refine ⟨by rfl, ?_⟩
                  conv => whnf
                  refine ⟨by rfl, ?_⟩
                  conv => whnf
                  refine ⟨by rfl, ?_⟩
                  conv => whnf
                  refine ⟨by rfl, ?_⟩
                  conv => whnf
                  refine ⟨by rfl, ?_⟩
                  conv => whnf
                  refine ⟨by rfl, ?_⟩
                  conv => whnf
                  refine ⟨by rfl, ?_⟩
                  conv => whnf
                  refine ⟨by rfl, ?_⟩
                  conv => whnf
                  refine ⟨by rfl, ?_⟩
                  conv => whnf
                  refine ⟨by rfl, ?_⟩
                  conv => whnf
                  refine ⟨by rfl, ?_⟩
                  conv => whnf
                  refine ⟨by rfl, ?_⟩
                  conv => whnf
                  refine ⟨by rfl, ?_⟩
                  conv => whnf
                  refine ⟨by rfl, ?_⟩
                  conv => whnf
                  refine ⟨by rfl, ?_⟩
                  conv => whnf
                  refine ⟨by rfl, ?_⟩
                  conv => whnf
                  refine ⟨by rfl, ?_⟩
                  conv => whnf
                  refine ⟨by rfl, ?_⟩
                  conv => whnf
                  refine ⟨by rfl, ?_⟩
                  conv => whnf
                  refine ⟨by rfl, ?_⟩
                  conv => whnf
                  refine ⟨by rfl, ?_⟩
                  conv => whnf
                  refine ⟨by rfl, ?_⟩
                  conv => whnf
                  refine ⟨by rfl, ?_⟩
                  conv => whnf
                  refine ⟨by rfl, ?_⟩
                  conv => whnf
                  refine ⟨by rfl, ?_⟩
                  conv => whnf
                  refine ⟨by rfl, ?_⟩
                  conv => whnf
                  refine ⟨by rfl, ?_⟩
                  conv => whnf
                  refine ⟨by rfl, ?_⟩
                  conv => whnf
                  refine ⟨by rfl, ?_⟩
                  conv => whnf
                  refine ⟨by rfl, ?_⟩
                  conv => whnf
                  refine ⟨by rfl, ?_⟩
                  conv => whnf
                  refine ⟨by rfl, ?_⟩
                  conv => whnf
                  refine ⟨by rfl, ?_⟩
                  conv => whnf
                  refine ⟨by rfl, ?_⟩
                  conv => whnf
                  refine ⟨by rfl, ?_⟩
                  conv => whnf
                  refine ⟨by rfl, ?_⟩
                  conv => whnf
                  refine ⟨by rfl, ?_⟩
                  conv => whnf
                  refine ⟨by rfl, ?_⟩
                  conv => whnf
                  refine ⟨by rfl, ?_⟩
                  conv => whnf
                  refine ⟨by rfl, ?_⟩
                  conv => whnf
                  refine ⟨by rfl, ?_⟩
                  conv => whnf
                  refine ⟨by rfl, ?_⟩
                  conv => whnf
                  refine ⟨by rfl, ?_⟩
                  conv => whnf
                  refine ⟨by rfl, ?_⟩
                  conv => whnf
                  refine ⟨by rfl, ?_⟩
                  conv => whnf
                  refine ⟨by rfl, ?_⟩
                  conv => whnf
                  refine ⟨by rfl, ?_⟩
                  conv => whnf
                  refine ⟨by rfl, ?_⟩
                  conv => whnf
                  refine ⟨by rfl, ?_⟩
                  conv => whnf
                  refine ⟨by rfl, ?_⟩
                  conv => whnf
                  refine ⟨by rfl, ?_⟩
                  conv => whnf
                  refine ⟨by rfl, ?_⟩
                  conv => whnf
                  refine ⟨by rfl, ?_⟩
                  conv => whnf
                  refine ⟨by rfl, ?_⟩
                  conv => whnf
                  refine ⟨by rfl, ?_⟩
                  conv => whnf
                  refine ⟨by rfl, ?_⟩
                  conv => whnf
                  refine ⟨by rfl, ?_⟩
                  conv => whnf
                  refine ⟨by rfl, ?_⟩
                  conv => whnf
                  refine ⟨by rfl, ?_⟩
                  conv => whnf
                  refine ⟨by rfl, ?_⟩
                  conv => whnf
                  refine ⟨by rfl, ?_⟩
                  conv => whnf
                  refine ⟨by rfl, ?_⟩
                  conv => whnf
                  refine ⟨by rfl, ?_⟩
                  conv => whnf
                  refine ⟨by rfl, ?_⟩
                  conv => whnf
                  refine ⟨by rfl, ?_⟩
                  conv => whnf
                  refine ⟨by rfl, ?_⟩
                  conv => whnf
                  refine ⟨by rfl, ?_⟩
                  conv => whnf
                  refine ⟨by rfl, ?_⟩
                  conv => whnf
                  refine ⟨by rfl, ?_⟩
                  conv => whnf
                  refine ⟨by rfl, ?_⟩
                  conv => whnf
                  refine ⟨by rfl, ?_⟩
                  conv => whnf
                  refine ⟨by rfl, ?_⟩
                  conv => whnf
                  refine ⟨by rfl, ?_⟩
                  conv => whnf
                  refine ⟨by rfl, ?_⟩
                  conv => whnf
                  refine ⟨by rfl, ?_⟩
                  conv => whnf
                  refine ⟨by rfl, ?_⟩
                  conv => whnf
                  refine ⟨by rfl, ?_⟩
                  conv => whnf
                  refine ⟨by rfl, ?_⟩
                  conv => whnf
                  refine ⟨by rfl, ?_⟩
                  conv => whnf
                  refine ⟨by rfl, ?_⟩
                  conv => whnf
                  refine ⟨by rfl, ?_⟩
                  conv => whnf
                  refine ⟨by rfl, ?_⟩
                  conv => whnf
                  refine ⟨by rfl, ?_⟩
                  conv => whnf
                  refine ⟨by rfl, ?_⟩
                  conv => whnf
                  refine ⟨by rfl, ?_⟩
                  conv => whnf
                  refine ⟨by rfl, ?_⟩
                  conv => whnf
                  refine ⟨by rfl, ?_⟩
                  conv => whnf
                  refine ⟨by rfl, ?_⟩
                  conv => whnf
                  refine ⟨by rfl, ?_⟩
                  conv => whnf
                  refine ⟨by rfl, ?_⟩
                  conv => whnf
                  refine ⟨by rfl, ?_⟩
                  conv => whnf
                  refine ⟨by rfl, ?_⟩
                  conv => whnf
                  refine ⟨by rfl, ?_⟩
                  conv => whnf
                  refine ⟨by rfl, ?_⟩
                  conv => whnf
                  refine ⟨by rfl, ?_⟩
                  conv => whnf
                  refine ⟨by rfl, ?_⟩
                  conv => whnf
                  refine ⟨by rfl, ?_⟩
                  conv => whnf
                  refine ⟨by rfl, ?_⟩
                  conv => whnf
                  refine ⟨by rfl, ?_⟩
                  conv => whnf
                  refine ⟨by rfl, ?_⟩
                  conv => whnf
                  refine ⟨by rfl, ?_⟩
                  conv => whnf
                  refine ⟨by rfl, ?_⟩
                  conv => whnf
                  refine ⟨by rfl, ?_⟩
                  conv => whnf
                  refine ⟨by rfl, ?_⟩
                  conv => whnf
                  refine ⟨by rfl, ?_⟩
                  conv => whnf
                  refine ⟨by rfl, ?_⟩
                  conv => whnf
                  refine ⟨by rfl, ?_⟩
                  conv => whnf
                  refine ⟨by rfl, ?_⟩
                  conv => whnf
                  refine ⟨by rfl, ?_⟩
                  conv => whnf
                  refine ⟨by rfl, ?_⟩
                  conv => whnf
                  refine ⟨by rfl, ?_⟩
                  conv => whnf
                  refine ⟨by rfl, ?_⟩
                  conv => whnf
                  refine ⟨by rfl, ?_⟩
                  conv => whnf
                  refine ⟨by rfl, ?_⟩
                  conv => whnf
                  refine ⟨by rfl, ?_⟩
                  conv => whnf
                  refine ⟨by rfl, ?_⟩
                  conv => whnf
                  refine ⟨by rfl, ?_⟩
                  conv => whnf
                  refine ⟨by rfl, ?_⟩
                  conv => whnf
                  refine ⟨by rfl, ?_⟩
                  conv => whnf
                  refine ⟨by rfl, ?_⟩
                  conv => whnf
                  refine ⟨by rfl, ?_⟩
                  conv => whnf
                  refine ⟨by rfl, ?_⟩
                  conv => whnf
                  refine ⟨by rfl, ?_⟩
                  conv => whnf
                  refine ⟨by rfl, ?_⟩
                  conv => whnf
                  refine ⟨by rfl, ?_⟩
                  conv => whnf
                  refine ⟨by rfl, ?_⟩
                  conv => whnf
                  refine ⟨by rfl, ?_⟩
                  conv => whnf
                  refine ⟨by rfl, ?_⟩
                  conv => whnf
                  refine ⟨by rfl, ?_⟩
                  conv => whnf
                  refine ⟨by rfl, ?_⟩
                  conv => whnf
                  refine ⟨by rfl, ?_⟩
                  conv => whnf
                  refine ⟨by rfl, ?_⟩
                  conv => whnf
                  refine ⟨by rfl, ?_⟩
                  conv => whnf
                  refine ⟨by rfl, ?_⟩
                  conv => whnf
                  refine ⟨by rfl, ?_⟩
                  conv => whnf
                  refine ⟨by rfl, ?_⟩
                  conv => whnf
                  refine ⟨by rfl, ?_⟩
                  conv => whnf
                  refine ⟨by rfl, ?_⟩
                  conv => whnf
                  refine ⟨by rfl, ?_⟩
                  conv => whnf
                  refine ⟨by rfl, ?_⟩
                  conv => whnf
                  refine ⟨by rfl, ?_⟩
                  conv => whnf
                  refine ⟨by rfl, ?_⟩
                  conv => whnf
                  refine ⟨by rfl, ?_⟩
                  conv => whnf
                  refine ⟨by rfl, ?_⟩
                  conv => whnf
                  refine ⟨by rfl, ?_⟩
                  conv => whnf
                  refine ⟨by rfl, ?_⟩
                  conv => whnf
                  exact trivial
                · conv => whnf
                  refine .same ?_
                  conv => whnf
                  refine ⟨⟨f.1 + 1, by omega⟩, by show 2 - (f.1 + 1) < 2 - f.1; omega, .of [some 0] (by rfl) ?_⟩
                  conv => whnf
                  refine ⟨by exact (w64 _ (by omega) (by omega)).trans (by simp), ?_⟩
                  conv => whnf
                  refine ⟨by rfl, ?_⟩
                  conv => whnf
                  refine ⟨by rfl, ?_⟩
                  conv => whnf
                  refine ⟨by rfl, ?_⟩
                  conv => whnf
                  refine ⟨by rfl, ?_⟩
                  conv => whnf
                  refine ⟨by rfl, ?_⟩
                  conv => whnf
                  refine ⟨by rfl, ?_⟩
                  conv => whnf
                  refine ⟨by rfl, ?_⟩
                  conv => whnf
                  refine ⟨by rfl, ?_⟩
                  conv => whnf
                  refine ⟨by rfl, ?_⟩
                  conv => whnf
                  refine ⟨by rfl, ?_⟩
                  conv => whnf
                  refine ⟨by rfl, ?_⟩
                  conv => whnf
                  refine ⟨by rfl, ?_⟩
                  conv => whnf
                  refine ⟨by rfl, ?_⟩
                  conv => whnf
                  refine ⟨by rfl, ?_⟩
                  conv => whnf
                  refine ⟨by rfl, ?_⟩
                  conv => whnf
                  refine ⟨by rfl, ?_⟩
                  conv => whnf
                  refine ⟨by rfl, ?_⟩
                  conv => whnf
                  refine ⟨by rfl, ?_⟩
                  conv => whnf
                  refine ⟨by rfl, ?_⟩
                  conv => whnf
                  refine ⟨by rfl, ?_⟩
                  conv => whnf
                  refine ⟨by rfl, ?_⟩
                  conv => whnf
                  refine ⟨by rfl, ?_⟩
                  conv => whnf
                  refine ⟨by rfl, ?_⟩
                  conv => whnf
                  refine ⟨by rfl, ?_⟩
                  conv => whnf
                  refine ⟨by rfl, ?_⟩
                  conv => whnf
                  refine ⟨by rfl, ?_⟩
                  conv => whnf
                  refine ⟨by rfl, ?_⟩
                  conv => whnf
                  refine ⟨by rfl, ?_⟩
                  conv => whnf
                  refine ⟨by rfl, ?_⟩
                  conv => whnf
                  refine ⟨by rfl, ?_⟩
                  conv => whnf
                  refine ⟨by rfl, ?_⟩
                  conv => whnf
                  refine ⟨by rfl, ?_⟩
                  conv => whnf
                  refine ⟨by rfl, ?_⟩
                  conv => whnf
                  refine ⟨by rfl, ?_⟩
                  conv => whnf
                  refine ⟨by rfl, ?_⟩
                  conv => whnf
                  refine ⟨by rfl, ?_⟩
                  conv => whnf
                  refine ⟨by rfl, ?_⟩
                  conv => whnf
                  refine ⟨by rfl, ?_⟩
                  conv => whnf
                  refine ⟨by rfl, ?_⟩
                  conv => whnf
                  refine ⟨by rfl, ?_⟩
                  conv => whnf
                  refine ⟨by rfl, ?_⟩
                  conv => whnf
                  refine ⟨by rfl, ?_⟩
                  conv => whnf
                  refine ⟨by rfl, ?_⟩
                  conv => whnf
                  refine ⟨by rfl, ?_⟩
                  conv => whnf
                  refine ⟨by rfl, ?_⟩
                  conv => whnf
                  refine ⟨by rfl, ?_⟩
                  conv => whnf
                  refine ⟨by rfl, ?_⟩
                  conv => whnf
                  refine ⟨by rfl, ?_⟩
                  conv => whnf
                  refine ⟨by rfl, ?_⟩
                  conv => whnf
                  refine ⟨by rfl, ?_⟩
                  conv => whnf
                  refine ⟨by rfl, ?_⟩
                  conv => whnf
                  refine ⟨by rfl, ?_⟩
                  conv => whnf
                  refine ⟨by rfl, ?_⟩
                  conv => whnf
                  refine ⟨by rfl, ?_⟩
                  conv => whnf
                  refine ⟨by rfl, ?_⟩
                  conv => whnf
                  refine ⟨by rfl, ?_⟩
                  conv => whnf
                  refine ⟨by rfl, ?_⟩
                  conv => whnf
                  refine ⟨by rfl, ?_⟩
                  conv => whnf
                  refine ⟨by rfl, ?_⟩
                  conv => whnf
                  refine ⟨by rfl, ?_⟩
                  conv => whnf
                  refine ⟨by rfl, ?_⟩
                  conv => whnf
                  refine ⟨by rfl, ?_⟩
                  conv => whnf
                  refine ⟨by rfl, ?_⟩
                  conv => whnf
                  refine ⟨by rfl, ?_⟩
                  conv => whnf
                  refine ⟨by rfl, ?_⟩
                  conv => whnf
                  refine ⟨by rfl, ?_⟩
                  conv => whnf
                  refine ⟨by rfl, ?_⟩
                  conv => whnf
                  refine ⟨by rfl, ?_⟩
                  conv => whnf
                  refine ⟨by rfl, ?_⟩
                  conv => whnf
                  refine ⟨by rfl, ?_⟩
                  conv => whnf
                  refine ⟨by rfl, ?_⟩
                  conv => whnf
                  refine ⟨by rfl, ?_⟩
                  conv => whnf
                  refine ⟨by rfl, ?_⟩
                  conv => whnf
                  refine ⟨by rfl, ?_⟩
                  conv => whnf
                  refine ⟨by rfl, ?_⟩
                  conv => whnf
                  refine ⟨by rfl, ?_⟩
                  conv => whnf
                  refine ⟨by rfl, ?_⟩
                  conv => whnf
                  refine ⟨by rfl, ?_⟩
                  conv => whnf
                  refine ⟨by rfl, ?_⟩
                  conv => whnf
                  refine ⟨by rfl, ?_⟩
                  conv => whnf
                  refine ⟨by rfl, ?_⟩
                  conv => whnf
                  refine ⟨by rfl, ?_⟩
                  conv => whnf
                  refine ⟨by rfl, ?_⟩
                  conv => whnf
                  refine ⟨by rfl, ?_⟩
                  conv => whnf
                  refine ⟨by rfl, ?_⟩
                  conv => whnf
                  refine ⟨by rfl, ?_⟩
                  conv => whnf
                  refine ⟨by rfl, ?_⟩
                  conv => whnf
                  refine ⟨by rfl, ?_⟩
                  conv => whnf
                  refine ⟨by rfl, ?_⟩
                  conv => whnf
                  refine ⟨by rfl, ?_⟩
                  conv => whnf
                  refine ⟨by rfl, ?_⟩
                  conv => whnf
                  refine ⟨by rfl, ?_⟩
                  conv => whnf
                  refine ⟨by rfl, ?_⟩
                  conv => whnf
                  refine ⟨by rfl, ?_⟩
                  conv => whnf
                  refine ⟨by rfl, ?_⟩
                  conv => whnf
                  refine ⟨by rfl, ?_⟩
                  conv => whnf
                  refine ⟨by rfl, ?_⟩
                  conv => whnf
                  refine ⟨by rfl, ?_⟩
                  conv => whnf
                  refine ⟨by rfl, ?_⟩
                  conv => whnf
                  refine ⟨by rfl, ?_⟩
                  conv => whnf
                  refine ⟨by rfl, ?_⟩
                  conv => whnf
                  refine ⟨by rfl, ?_⟩
                  conv => whnf
                  refine ⟨by rfl, ?_⟩
                  conv => whnf
                  refine ⟨by rfl, ?_⟩
                  conv => whnf
                  refine ⟨by rfl, ?_⟩
                  conv => whnf
                  refine ⟨by rfl, ?_⟩
                  conv => whnf
                  refine ⟨by rfl, ?_⟩
                  conv => whnf
                  refine ⟨by rfl, ?_⟩
                  conv => whnf
                  refine ⟨by rfl, ?_⟩
                  conv => whnf
                  refine ⟨by rfl, ?_⟩
                  conv => whnf
                  refine ⟨by rfl, ?_⟩
                  conv => whnf
                  refine ⟨by rfl, ?_⟩
                  conv => whnf
                  refine ⟨by rfl, ?_⟩
                  conv => whnf
                  refine ⟨by rfl, ?_⟩
                  conv => whnf
                  refine ⟨by rfl, ?_⟩
                  conv => whnf
                  refine ⟨by rfl, ?_⟩
                  conv => whnf
                  refine ⟨by rfl, ?_⟩
                  conv => whnf
                  refine ⟨by rfl, ?_⟩
                  conv => whnf
                  refine ⟨by rfl, ?_⟩
                  conv => whnf
                  refine ⟨by rfl, ?_⟩
                  conv => whnf
                  refine ⟨by rfl, ?_⟩
                  conv => whnf
                  refine ⟨by rfl, ?_⟩
                  conv => whnf
                  refine ⟨by rfl, ?_⟩
                  conv => whnf
                  refine ⟨by rfl, ?_⟩
                  conv => whnf
                  refine ⟨by rfl, ?_⟩
                  conv => whnf
                  refine ⟨by rfl, ?_⟩
                  conv => whnf
                  refine ⟨by rfl, ?_⟩
                  conv => whnf
                  refine ⟨by rfl, ?_⟩
                  conv => whnf
                  refine ⟨by rfl, ?_⟩
                  conv => whnf
                  refine ⟨by rfl, ?_⟩
                  conv => whnf
                  refine ⟨by rfl, ?_⟩
                  conv => whnf
                  refine ⟨by rfl, ?_⟩
                  conv => whnf
                  refine ⟨by rfl, ?_⟩
                  conv => whnf
                  refine ⟨by rfl, ?_⟩
                  conv => whnf
                  refine ⟨by rfl, ?_⟩
                  conv => whnf
                  refine ⟨by rfl, ?_⟩
                  conv => whnf
                  refine ⟨by rfl, ?_⟩
                  conv => whnf
                  refine ⟨by rfl, ?_⟩
                  conv => whnf
                  refine ⟨by rfl, ?_⟩
                  conv => whnf
                  refine ⟨by rfl, ?_⟩
                  conv => whnf
                  refine ⟨by rfl, ?_⟩
                  conv => whnf
                  refine ⟨by rfl, ?_⟩
                  conv => whnf
                  refine ⟨by rfl, ?_⟩
                  conv => whnf
                  refine ⟨by rfl, ?_⟩
                  conv => whnf
                  refine ⟨by rfl, ?_⟩
                  conv => whnf
                  refine ⟨by rfl, ?_⟩
                  conv => whnf
                  refine ⟨by rfl, ?_⟩
                  conv => whnf
                  refine ⟨by rfl, ?_⟩
                  conv => whnf
                  refine ⟨by rfl, ?_⟩
                  conv => whnf
                  refine ⟨by rfl, ?_⟩
                  conv => whnf
                  refine ⟨by rfl, ?_⟩
                  conv => whnf
                  refine ⟨by rfl, ?_⟩
                  conv => whnf
                  refine ⟨by rfl, ?_⟩
                  conv => whnf
                  refine ⟨by rfl, ?_⟩
                  conv => whnf
                  refine ⟨by rfl, ?_⟩
                  conv => whnf
                  refine ⟨by rfl, ?_⟩
                  conv => whnf
                  refine ⟨by rfl, ?_⟩
                  conv => whnf
                  refine ⟨by rfl, ?_⟩
                  conv => whnf
                  refine ⟨by rfl, ?_⟩
                  conv => whnf
                  refine ⟨by rfl, ?_⟩
                  conv => whnf
                  refine ⟨by rfl, ?_⟩
                  conv => whnf
                  refine ⟨by rfl, ?_⟩
                  conv => whnf
                  refine ⟨by rfl, ?_⟩
                  conv => whnf
                  refine ⟨by rfl, ?_⟩
                  conv => whnf
                  refine ⟨by rfl, ?_⟩
                  conv => whnf
                  refine ⟨by rfl, ?_⟩
                  conv => whnf
                  refine ⟨by rfl, ?_⟩
                  conv => whnf
                  refine ⟨by rfl, ?_⟩
                  conv => whnf
                  refine ⟨by rfl, ?_⟩
                  conv => whnf
                  refine ⟨by rfl, ?_⟩
                  conv => whnf
                  refine ⟨by rfl, ?_⟩
                  conv => whnf
                  refine ⟨by rfl, ?_⟩
                  conv => whnf
                  refine ⟨by rfl, ?_⟩
                  conv => whnf
                  refine ⟨by rfl, ?_⟩
                  conv => whnf
                  refine ⟨by rfl, ?_⟩
                  conv => whnf
                  refine ⟨by rfl, ?_⟩
                  conv => whnf
                  refine ⟨by rfl, ?_⟩
                  conv => whnf
                  refine ⟨by rfl, ?_⟩
                  conv => whnf
                  refine ⟨by rfl, ?_⟩
                  conv => whnf
                  refine ⟨by rfl, ?_⟩
                  conv => whnf
                  refine ⟨by rfl, ?_⟩
                  conv => whnf
                  refine ⟨by rfl, ?_⟩
                  conv => whnf
                  refine ⟨by rfl, ?_⟩
                  conv => whnf
                  refine ⟨by rfl, ?_⟩
                  conv => whnf
                  refine ⟨by rfl, ?_⟩
                  conv => whnf
                  refine ⟨by rfl, ?_⟩
                  conv => whnf
                  refine ⟨by rfl, ?_⟩
                  conv => whnf
                  refine ⟨by rfl, ?_⟩
                  conv => whnf
                  refine ⟨by rfl, ?_⟩
                  conv => whnf
                  refine ⟨by rfl, ?_⟩
                  conv => whnf
                  refine ⟨by rfl, ?_⟩
                  conv => whnf
                  refine ⟨by rfl, ?_⟩
                  conv => whnf
                  refine ⟨by rfl, ?_⟩
                  conv => whnf
                  refine ⟨by rfl, ?_⟩
                  conv => whnf
                  refine ⟨by rfl, ?_⟩
                  conv => whnf
                  exact trivial
            · conv => whnf
              refine .same ?_
              conv => whnf
              refine (awake18_s).call ?_
              rintro _ rfl
              conv => whnf
              refine .same ?_
              conv => whnf
end Go.Proofs.Ythlomoacacebead

/- Chapter 18: the results of a sequence of calls. -/
import Derived.Test.YtdommpfnoiemkaaLfM
namespace Go.Proofs.Ytdommpfnoiemkaa
open Go.Sx
set_option linter.unusedSimpArgs false
set_option linter.unusedVariables false
def sw (R : R3) (f : Int) (z : Int) : Int := if 0 ≤ f ∧ f < 32 then z else 0
abbrev swV (R : R3) (f : Int) : SV := .agg [.int .i64 (sw R f f), .int .i64 (sw R f (sumP (gF f) R.P)), .int .i64 (sw R f (sumP (gS f 3) R.P)), .int .i64 (sw R f (sumP (gS f 4) R.P + rrF R f)), .int .i64 (sw R f (sumP (gB f) R.P)), .int .i64 (sw R f 0)]
theorem stW_eq (R : R3) (f : Int) : stW R f = swV R f := by
  unfold stW swV sw
  by_cases h : 0 ≤ f ∧ f < 32
  · simp only [if_pos h]
  · simp only [if_neg h]
theorem free_rs1 (z : Nat) (es : List (List SV)) : FreeSV (.rs z es) := fun w E σ σ' v h => by cases h <;> constructor <;> assumption
section
variable {n m : Nat} {R : R3}
theorem statsY_s (h : IR n m R) (hn : n ≤ 200) (f : Int) :
    OSpec Try.prog 29 [.ptr 0 0, .int .i64 f] [lgZ R] fun r ho => r = swV R f ∧ ho = [lgZ R] := by
  have e := statsZ_s h hn f
  rw [stW_eq] at e
  exact e
theorem rstatsY_s (h : IR n m R) (hn : n ≤ 200) (hm : m ≤ 1000) (f : Int) :
    OSpec Try.prog 35 [.ptr 0 0, .int .i64 f] [rgZ R] fun r ho => r = swV R f ∧ ho = [rgZ R] := by
  have e := rstatsZ_s h hn hm f
  rw [stW_eq] at e
  exact e
theorem orderY_s (h : IR n m R) (hn : n ≤ 200) (f : Int) :
    OSpec Try.prog 37 [.ptr 0 0, .int .i64 f] [lgZ R] fun r ho => r = .rs 1 (nums (ordO R.P R.D f)) ∧ ho = [lgZ R] :=
  (orderZ_s h hn f).weak fun s ho ⟨a, b⟩ _ hf => ⟨_, ho, ⟨rfl, b⟩, fun w E σ v hr => a.to w E σ v hr, free_rs1 _ _, .refl _, hf⟩
theorem equalY_s (h : IR n m R) (hn : n ≤ 200) (f : Int) : PSpec Try.prog 36 [.rs 1 (nums (ordO R.P R.D f)), .rs 1 (nums (ordO R.P R.D f))] (· = .bool true) :=
  eqI_s _ (by have := ord_le R.P R.D f; have := h.dl; omega)
end
def fLs (flow : Int) : List Int := [0, 1, 2, -1, 32, flow]
set_option maxRecDepth 100000 in
set_option maxHeartbeats 8000000 in
theorem lifeScript_s (ls : List Int) (flow id : Int) : PSpec Try.prog 8 [.rs 1 (nums ls), .int .i64 flow, .int .i64 id] TrueS := by
  refine .of_code' tab_ok Try.func8 (by rfl) rfl trivial ?_
  conv => whnf
  refine CallG.of_code tab_ok Try.func14 (by rfl) rfl ?_
  conv => whnf
  refine CallG.of_code tab_ok Try.func25 (by rfl) rfl ?_
  conv => whnf
  refine LoopG.inv tab_ok 142 (fun y : { y : R3 × Nat × Int // IR y.2.1 y.2.1 y.1 ∧ y.2.1 ≤ 50 ∧ 0 ≤ y.2.2 ∧ y.2.2 ≤ 25 * (y.2.1 : Int) } => [(1, .int .i64 flow), (2, .int .i64 id), (7, .ptr 0 0), (8, .ptr 1 0), (9, .ptr 6 0), (10, .int .i64 (y.1.2.1 : Int))])
    (fun y => actH ls y.1.2.2 y.1.1) (fun y => 50 - y.1.2.1) ⟨(⟨[], [], r0⟩, 0, 0), ir_nil, by decide, by decide, by decide⟩
    (.of [some 0, some 1, none, none, none, none, some 2, none, none] (by rfl) ?_) ?_
  · conv => whnf
    (repeat (first | exact trivial | (refine ⟨rfl, ?_⟩; (conv => whnf)) | (refine ⟨(w64 _ (by omega) (by omega)).trans (by simp), ?_⟩; (conv => whnf))))
  · intro y
    obtain ⟨⟨R, i, a⟩, hIR, hi, a0, a1⟩ := y
    have hIR : IR i i R := hIR
    have hi : i ≤ 50 := hi
    have a0 : 0 ≤ a := a0
    have a1 : a ≤ 25 * (i : Int) := a1
    dsimp only
    conv => whnf
    refine ⟨fun hb => ?_, fun hb => ?_⟩
    · have hb : i < 50 := by simp only [decide_eq_true_eq] at hb; omega
      conv => whnf
      refine (act_s ls a a0 (by omega) hIR (by omega) (by omega)).call [0, 1, 2, 3, 4, 5, 6, 7, 8, 9, 10] (by rfl) (by repeat' (first | exact trivial | exact rfl | apply And.intro)) (by repeat' (first | exact trivial | exact rfl | apply And.intro)) ?_
      rintro _ _ ⟨R', a', rfl, i1, rle, b0, b1, hs⟩
      refine' once (sp := fun z : { z : R3 × Int // IR (i + 1) (i + 1) z.1 ∧ 0 ≤ z.2 ∧ z.2 ≤ 25 * (i + 1 : Int) } => [(1, .int .i64 flow), (2, .int .i64 id), (7, .ptr 0 0), (8, .ptr 1 0), (9, .ptr 6 0), (10, .int .i64 (i : Int)), (11, .int .i64 0)])
        (hx := fun z => actH ls z.1.2 z.1.1) (n := 142) (m := 0) (P := Try.prog) ?main ?inner
      case main =>
        intro inner
        unfold actQ at hs
        rcases hs with rfl | rfl | rfl | rfl | rfl
        · conv => whnf
          conv => whnf
          refine both_f rfl ?_
          conv => whnf
          exact LoopG.head (inner ⟨(R', a'), i1, by show 0 ≤ a'; omega, by show a' ≤ 25 * (i + 1 : Int); omega⟩) (.of [some 0, some 1, some 2, some 3, some 4, some 5, some 6, some 7, some 8] (by rfl) (by ((conv => whnf); (repeat (first | exact trivial | (refine ⟨rfl, ?_⟩; (conv => whnf)) | (refine ⟨(w64 _ (by omega) (by omega)).trans (by simp), ?_⟩; (conv => whnf)))))))
        · conv => whnf
          conv => whnf
          refine both_f rfl ?_
          conv => whnf
          exact LoopG.head (inner ⟨(R', a'), i1, by show 0 ≤ a'; omega, by show a' ≤ 25 * (i + 1 : Int); omega⟩) (.of [some 0, some 1, some 9, some 3, some 4, some 5, some 6, some 10, some 8] (by rfl) (by ((conv => whnf); (repeat (first | exact trivial | (refine ⟨rfl, ?_⟩; (conv => whnf)) | (refine ⟨(w64 _ (by omega) (by omega)).trans (by simp), ?_⟩; (conv => whnf)))))))
        · conv => whnf
          conv => whnf
          refine both_f rfl ?_
          conv => whnf
          exact LoopG.head (inner ⟨(R', a'), i1, by show 0 ≤ a'; omega, by show a' ≤ 25 * (i + 1 : Int); omega⟩) (.of [some 0, some 1, some 2, some 9, some 4, some 5, some 6, some 7, some 10] (by rfl) (by ((conv => whnf); (repeat (first | exact trivial | (refine ⟨rfl, ?_⟩; (conv => whnf)) | (refine ⟨(w64 _ (by omega) (by omega)).trans (by simp), ?_⟩; (conv => whnf)))))))
        · conv => whnf
          conv => whnf
          refine both_f rfl ?_
          conv => whnf
          exact LoopG.head (inner ⟨(R', a'), i1, by show 0 ≤ a'; omega, by show a' ≤ 25 * (i + 1 : Int); omega⟩) (.of [some 0, some 1, some 2, some 3, some 9, some 5, some 6, some 7, some 10] (by rfl) (by ((conv => whnf); (repeat (first | exact trivial | (refine ⟨rfl, ?_⟩; (conv => whnf)) | (refine ⟨(w64 _ (by omega) (by omega)).trans (by simp), ?_⟩; (conv => whnf)))))))
        · conv => whnf
          conv => whnf
          refine both_f rfl ?_
          conv => whnf
          exact LoopG.head (inner ⟨(R', a'), i1, by show 0 ≤ a'; omega, by show a' ≤ 25 * (i + 1 : Int); omega⟩) (.of [some 0, some 1, some 2, some 3, some 4, some 9, some 6, some 7, some 10] (by rfl) (by ((conv => whnf); (repeat (first | exact trivial | (refine ⟨rfl, ?_⟩; (conv => whnf)) | (refine ⟨(w64 _ (by omega) (by omega)).trans (by simp), ?_⟩; (conv => whnf)))))))
      case inner =>
        intro z
        obtain ⟨⟨R1, c⟩, hz0, hz1, hz2⟩ := z
        have hz0 : IR (i + 1) (i + 1) R1 := hz0
        have hz1 : 0 ≤ c := hz1
        have hz2 : c ≤ 25 * (i + 1 : Int) := hz2
        have hlen := hz0.pl
        have hs2 : R1.P.length ≤ 1000 := by omega
        have hl : (R1.P.map pkE).length = R1.P.length := List.length_map ..
        have wl : IntKind.i64.wrap (((R1.P.map pkE).length : Int) + 1) = (R1.P.length : Int) + 1 := by rw [hl, w64 _ (by omega) (by omega)]
        refine LoopG.inv tab_ok 142 (fun x : { x : Nat // x ≤ R1.P.length + 2 } => [(1, .int .i64 flow), (2, .int .i64 id), (7, .ptr 0 0), (8, .ptr 1 0), (9, .ptr 6 0), (10, .int .i64 (i : Int)), (11, .int .i64 (x.1 : Int))])
          (fun x => actH ls c R1) (fun x => R1.P.length + 2 - x.1) ⟨0, by omega⟩ (.of [some 0, some 1, some 2, some 3, some 4, some 5, some 6, some 7, some 8] (by rfl) ?_) ?_
        · conv => whnf
          (repeat (first | exact trivial | (refine ⟨rfl, ?_⟩; (conv => whnf)) | (refine ⟨(w64 _ (by omega) (by omega)).trans (by simp), ?_⟩; (conv => whnf))))
        · intro x
          obtain ⟨x, hx⟩ := x
          dsimp only
          conv => whnf
          rw [wl]
          refine ⟨fun hb => ?_, fun hb => ?_⟩
          · have hb : x ≤ R1.P.length + 1 := by simp only [decide_eq_true_eq] at hb; omega
            by_cases q : 1 ≤ (x : Int) ∧ (x : Int) ≤ (R1.P.length : Int)
            · have ew : whO R1.P (x : Int) = (gp R1.P ((x : Int).toNat - 1)).2.2.2 := if_pos q
              conv => whnf
              conv => whnf
              refine both_t (by simp; omega) ?_
              conv => whnf
              refine both_t (by simp; omega) ?_
              conv => whnf
              refine ⟨by (exact pk_at hs2 q.1 q.2), ?_⟩
              conv => whnf
              (refine ⟨_, pk_ld hs2 q.1 q.2, ?_⟩)
              conv => whnf
              refine (stateR_s (by first | omega | assumption | decide | simp) (by first | omega | assumption | decide | simp) _).call [1, 2, 3, 4, 5] (by rfl) (And.intro rfl trivial) (And.intro rfl (And.intro rfl (And.intro rfl (And.intro rfl (And.intro rfl (And.intro rfl (And.intro rfl (And.intro rfl (And.intro rfl (And.intro rfl (And.intro rfl (And.intro rfl (And.intro rfl (And.intro rfl (And.intro rfl (And.intro rfl (And.intro rfl (And.intro rfl (And.intro rfl (And.intro rfl (And.intro rfl (And.intro rfl (And.intro rfl (And.intro rfl (And.intro rfl (And.intro rfl (And.intro rfl (And.intro rfl (And.intro rfl (And.intro rfl (And.intro rfl (And.intro rfl (And.intro rfl (And.intro rfl (And.intro rfl (And.intro rfl (And.intro rfl (And.intro rfl (And.intro rfl (And.intro rfl (And.intro rfl (And.intro rfl (And.intro rfl (And.intro rfl (And.intro rfl (And.intro rfl (And.intro rfl (And.intro rfl (And.intro rfl (And.intro rfl (And.intro rfl (And.intro rfl (And.intro rfl (And.intro rfl (And.intro rfl (And.intro rfl (And.intro rfl (And.intro rfl (And.intro rfl (And.intro rfl (And.intro rfl (And.intro rfl (And.intro rfl (And.intro rfl (And.intro rfl (And.intro rfl (And.intro rfl (And.intro rfl (And.intro rfl (And.intro rfl (And.intro rfl (And.intro rfl (And.intro rfl (And.intro rfl (And.intro rfl (And.intro rfl (And.intro rfl (And.intro rfl (And.intro rfl (And.intro rfl (And.intro rfl (And.intro rfl (And.intro rfl (And.intro rfl (And.intro rfl (And.intro rfl (And.intro rfl (And.intro rfl (And.intro rfl (And.intro rfl (And.intro rfl (And.intro rfl (And.intro rfl (And.intro rfl (And.intro rfl (And.intro rfl (And.intro rfl (And.intro rfl (And.intro rfl (And.intro rfl (And.intro rfl (And.intro rfl (And.intro rfl (And.intro rfl (And.intro rfl (And.intro rfl (And.intro rfl (And.intro rfl (And.intro rfl (And.intro rfl (And.intro rfl (And.intro rfl (And.intro rfl (And.intro rfl (And.intro rfl (And.intro rfl (And.intro rfl (And.intro rfl (And.intro rfl (And.intro rfl (And.intro rfl (And.intro rfl (And.intro rfl (And.intro rfl (And.intro rfl (And.intro rfl (And.intro rfl (And.intro rfl (And.intro rfl (And.intro rfl (And.intro rfl (And.intro rfl (And.intro rfl (And.intro rfl (And.intro rfl (And.intro rfl (And.intro rfl (And.intro rfl (And.intro rfl (And.intro rfl (And.intro rfl (And.intro rfl (And.intro rfl (And.intro rfl (And.intro rfl (And.intro rfl (And.intro rfl (And.intro rfl (And.intro rfl (And.intro rfl (And.intro rfl (And.intro rfl (And.intro rfl (And.intro rfl (And.intro rfl (And.intro rfl (And.intro rfl (And.intro rfl (And.intro rfl (And.intro rfl (And.intro rfl (And.intro rfl (And.intro rfl (And.intro rfl (And.intro rfl (And.intro rfl (And.intro rfl (And.intro rfl (And.intro rfl (And.intro rfl (And.intro rfl (And.intro rfl (And.intro rfl (And.intro rfl (And.intro rfl (And.intro rfl (And.intro rfl (And.intro rfl (And.intro rfl (And.intro rfl (And.intro rfl (And.intro rfl (And.intro rfl (And.intro rfl (And.intro rfl (And.intro rfl (And.intro rfl (And.intro rfl (And.intro rfl (And.intro rfl (And.intro rfl (And.intro rfl (And.intro rfl (And.intro rfl (And.intro rfl (And.intro rfl trivial)))))))))))))))))))))))))))))))))))))))))))))))))))))))))))))))))))))))))))))))))))))))))))))))))))))))))))))))))))))))))))))))))))))))))))))))))))))))))))))))))))))))))))))))))))))))))))))))))))) ?_
              rintro _ _ ⟨rfl, rfl⟩
              conv => whnf
              refine (rstateR_s (by first | omega | assumption | decide | simp) (by first | omega | assumption | decide | simp) _).call [6, 7, 8] (by rfl) (And.intro rfl trivial) (And.intro rfl (And.intro rfl (And.intro rfl (And.intro rfl (And.intro rfl (And.intro rfl (And.intro rfl (And.intro rfl (And.intro rfl (And.intro rfl (And.intro rfl (And.intro rfl (And.intro rfl (And.intro rfl (And.intro rfl (And.intro rfl (And.intro rfl (And.intro rfl (And.intro rfl (And.intro rfl (And.intro rfl (And.intro rfl (And.intro rfl (And.intro rfl (And.intro rfl (And.intro rfl (And.intro rfl (And.intro rfl (And.intro rfl (And.intro rfl (And.intro rfl (And.intro rfl (And.intro rfl (And.intro rfl trivial)))))))))))))))))))))))))))))))))) ?_
              rintro _ _ ⟨rfl, rfl⟩
              conv => whnf
              refine both_f (by simp) ?_
              conv => whnf
              refine (reasonR_s (by first | omega | assumption | decide | simp) (by first | omega | assumption | decide | simp) _).call [1, 2, 3, 4, 5] (by rfl) (And.intro rfl trivial) (And.intro rfl (And.intro rfl (And.intro rfl (And.intro rfl (And.intro rfl (And.intro rfl (And.intro rfl (And.intro rfl (And.intro rfl (And.intro rfl (And.intro rfl (And.intro rfl (And.intro rfl (And.intro rfl (And.intro rfl (And.intro rfl (And.intro rfl (And.intro rfl (And.intro rfl (And.intro rfl (And.intro rfl (And.intro rfl (And.intro rfl (And.intro rfl (And.intro rfl (And.intro rfl (And.intro rfl (And.intro rfl (And.intro rfl (And.intro rfl (And.intro rfl (And.intro rfl (And.intro rfl (And.intro rfl (And.intro rfl (And.intro rfl (And.intro rfl (And.intro rfl (And.intro rfl (And.intro rfl (And.intro rfl (And.intro rfl (And.intro rfl (And.intro rfl (And.intro rfl (And.intro rfl (And.intro rfl (And.intro rfl (And.intro rfl (And.intro rfl (And.intro rfl (And.intro rfl (And.intro rfl (And.intro rfl (And.intro rfl (And.intro rfl (And.intro rfl (And.intro rfl (And.intro rfl (And.intro rfl (And.intro rfl (And.intro rfl (And.intro rfl (And.intro rfl (And.intro rfl (And.intro rfl (And.intro rfl (And.intro rfl (And.intro rfl (And.intro rfl (And.intro rfl (And.intro rfl (And.intro rfl (And.intro rfl (And.intro rfl (And.intro rfl (And.intro rfl (And.intro rfl (And.intro rfl (And.intro rfl (And.intro rfl (And.intro rfl (And.intro rfl (And.intro rfl (And.intro rfl (And.intro rfl (And.intro rfl (And.intro rfl (And.intro rfl (And.intro rfl (And.intro rfl (And.intro rfl (And.intro rfl (And.intro rfl (And.intro rfl (And.intro rfl (And.intro rfl (And.intro rfl (And.intro rfl (And.intro rfl (And.intro rfl (And.intro rfl (And.intro rfl (And.intro rfl (And.intro rfl (And.intro rfl (And.intro rfl (And.intro rfl (And.intro rfl (And.intro rfl (And.intro rfl (And.intro rfl (And.intro rfl (And.intro rfl (And.intro rfl (And.intro rfl (And.intro rfl (And.intro rfl (And.intro rfl (And.intro rfl (And.intro rfl (And.intro rfl (And.intro rfl (And.intro rfl (And.intro rfl (And.intro rfl (And.intro rfl (And.intro rfl (And.intro rfl (And.intro rfl (And.intro rfl (And.intro rfl (And.intro rfl (And.intro rfl (And.intro rfl (And.intro rfl (And.intro rfl (And.intro rfl (And.intro rfl (And.intro rfl (And.intro rfl (And.intro rfl (And.intro rfl (And.intro rfl (And.intro rfl (And.intro rfl (And.intro rfl (And.intro rfl (And.intro rfl (And.intro rfl (And.intro rfl (And.intro rfl (And.intro rfl (And.intro rfl (And.intro rfl (And.intro rfl (And.intro rfl (And.intro rfl (And.intro rfl (And.intro rfl (And.intro rfl (And.intro rfl (And.intro rfl (And.intro rfl (And.intro rfl (And.intro rfl (And.intro rfl (And.intro rfl (And.intro rfl (And.intro rfl (And.intro rfl (And.intro rfl (And.intro rfl (And.intro rfl (And.intro rfl (And.intro rfl (And.intro rfl (And.intro rfl (And.intro rfl (And.intro rfl (And.intro rfl (And.intro rfl (And.intro rfl (And.intro rfl (And.intro rfl (And.intro rfl (And.intro rfl (And.intro rfl (And.intro rfl (And.intro rfl (And.intro rfl (And.intro rfl (And.intro rfl (And.intro rfl (And.intro rfl (And.intro rfl trivial)))))))))))))))))))))))))))))))))))))))))))))))))))))))))))))))))))))))))))))))))))))))))))))))))))))))))))))))))))))))))))))))))))))))))))))))))))))))))))))))))))))))))))))))))))))))))))))))))))) ?_
              rintro _ _ ⟨rfl, rfl⟩
              conv => whnf
              refine both_f (by simp [*]) ?_
              conv => whnf
              (refine ⟨⟨x + 1, by omega⟩, by show R1.P.length + 2 - (x + 1) < R1.P.length + 2 - x; omega, .of [some 0, some 1, some 2, some 3, some 4, some 5, some 6, some 7, some 8] (by rfl) ?_⟩; (conv => whnf); (repeat (first | exact trivial | (refine ⟨rfl, ?_⟩; (conv => whnf)) | (refine ⟨(w64 _ (by omega) (by omega)).trans (by simp), ?_⟩; (conv => whnf)))); done)
            · have ew : whO R1.P (x : Int) = 0 := if_neg q
              conv => whnf
              conv => whnf
              refine ⟨fun hh0 => ?_, fun hh0 => ?_⟩
              · simp only [decide_eq_true_eq, decide_eq_false_iff_not] at hh0
                conv => whnf
                refine both_f (by simp; omega) ?_
                conv => whnf
                refine (stateR_s (by first | omega | assumption | decide | simp) (by first | omega | assumption | decide | simp) _).call [1, 2, 3, 4, 5] (by rfl) (And.intro rfl trivial) (And.intro rfl (And.intro rfl (And.intro rfl (And.intro rfl (And.intro rfl (And.intro rfl (And.intro rfl (And.intro rfl (And.intro rfl (And.intro rfl (And.intro rfl (And.intro rfl (And.intro rfl (And.intro rfl (And.intro rfl (And.intro rfl (And.intro rfl (And.intro rfl (And.intro rfl (And.intro rfl (And.intro rfl (And.intro rfl (And.intro rfl (And.intro rfl (And.intro rfl (And.intro rfl (And.intro rfl (And.intro rfl (And.intro rfl (And.intro rfl (And.intro rfl (And.intro rfl (And.intro rfl (And.intro rfl (And.intro rfl (And.intro rfl (And.intro rfl (And.intro rfl (And.intro rfl (And.intro rfl (And.intro rfl (And.intro rfl (And.intro rfl (And.intro rfl (And.intro rfl (And.intro rfl (And.intro rfl (And.intro rfl (And.intro rfl (And.intro rfl (And.intro rfl (And.intro rfl (And.intro rfl (And.intro rfl (And.intro rfl (And.intro rfl (And.intro rfl (And.intro rfl (And.intro rfl (And.intro rfl (And.intro rfl (And.intro rfl (And.intro rfl (And.intro rfl (And.intro rfl (And.intro rfl (And.intro rfl (And.intro rfl (And.intro rfl (And.intro rfl (And.intro rfl (And.intro rfl (And.intro rfl (And.intro rfl (And.intro rfl (And.intro rfl (And.intro rfl (And.intro rfl (And.intro rfl (And.intro rfl (And.intro rfl (And.intro rfl (And.intro rfl (And.intro rfl (And.intro rfl (And.intro rfl (And.intro rfl (And.intro rfl (And.intro rfl (And.intro rfl (And.intro rfl (And.intro rfl (And.intro rfl (And.intro rfl (And.intro rfl (And.intro rfl (And.intro rfl (And.intro rfl (And.intro rfl (And.intro rfl (And.intro rfl (And.intro rfl (And.intro rfl (And.intro rfl (And.intro rfl (And.intro rfl (And.intro rfl (And.intro rfl (And.intro rfl (And.intro rfl (And.intro rfl (And.intro rfl (And.intro rfl (And.intro rfl (And.intro rfl (And.intro rfl (And.intro rfl (And.intro rfl (And.intro rfl (And.intro rfl (And.intro rfl (And.intro rfl (And.intro rfl (And.intro rfl (And.intro rfl (And.intro rfl (And.intro rfl (And.intro rfl (And.intro rfl (And.intro rfl (And.intro rfl (And.intro rfl (And.intro rfl (And.intro rfl (And.intro rfl (And.intro rfl (And.intro rfl (And.intro rfl (And.intro rfl (And.intro rfl (And.intro rfl (And.intro rfl (And.intro rfl (And.intro rfl (And.intro rfl (And.intro rfl (And.intro rfl (And.intro rfl (And.intro rfl (And.intro rfl (And.intro rfl (And.intro rfl (And.intro rfl (And.intro rfl (And.intro rfl (And.intro rfl (And.intro rfl (And.intro rfl (And.intro rfl (And.intro rfl (And.intro rfl (And.intro rfl (And.intro rfl (And.intro rfl (And.intro rfl (And.intro rfl (And.intro rfl (And.intro rfl (And.intro rfl (And.intro rfl (And.intro rfl (And.intro rfl (And.intro rfl (And.intro rfl (And.intro rfl (And.intro rfl (And.intro rfl (And.intro rfl (And.intro rfl (And.intro rfl (And.intro rfl (And.intro rfl (And.intro rfl (And.intro rfl (And.intro rfl (And.intro rfl (And.intro rfl (And.intro rfl (And.intro rfl (And.intro rfl (And.intro rfl (And.intro rfl (And.intro rfl (And.intro rfl (And.intro rfl (And.intro rfl trivial)))))))))))))))))))))))))))))))))))))))))))))))))))))))))))))))))))))))))))))))))))))))))))))))))))))))))))))))))))))))))))))))))))))))))))))))))))))))))))))))))))))))))))))))))))))))))))))))))))) ?_
                rintro _ _ ⟨rfl, rfl⟩
                conv => whnf
                refine (rstateR_s (by first | omega | assumption | decide | simp) (by first | omega | assumption | decide | simp) _).call [6, 7, 8] (by rfl) (And.intro rfl trivial) (And.intro rfl (And.intro rfl (And.intro rfl (And.intro rfl (And.intro rfl (And.intro rfl (And.intro rfl (And.intro rfl (And.intro rfl (And.intro rfl (And.intro rfl (And.intro rfl (And.intro rfl (And.intro rfl (And.intro rfl (And.intro rfl (And.intro rfl (And.intro rfl (And.intro rfl (And.intro rfl (And.intro rfl (And.intro rfl (And.intro rfl (And.intro rfl (And.intro rfl (And.intro rfl (And.intro rfl (And.intro rfl (And.intro rfl (And.intro rfl (And.intro rfl (And.intro rfl (And.intro rfl (And.intro rfl trivial)))))))))))))))))))))))))))))))))) ?_
                rintro _ _ ⟨rfl, rfl⟩
                conv => whnf
                refine both_f (by simp) ?_
                conv => whnf
                refine (reasonR_s (by first | omega | assumption | decide | simp) (by first | omega | assumption | decide | simp) _).call [1, 2, 3, 4, 5] (by rfl) (And.intro rfl trivial) (And.intro rfl (And.intro rfl (And.intro rfl (And.intro rfl (And.intro rfl (And.intro rfl (And.intro rfl (And.intro rfl (And.intro rfl (And.intro rfl (And.intro rfl (And.intro rfl (And.intro rfl (And.intro rfl (And.intro rfl (And.intro rfl (And.intro rfl (And.intro rfl (And.intro rfl (And.intro rfl (And.intro rfl (And.intro rfl (And.intro rfl (And.intro rfl (And.intro rfl (And.intro rfl (And.intro rfl (And.intro rfl (And.intro rfl (And.intro rfl (And.intro rfl (And.intro rfl (And.intro rfl (And.intro rfl (And.intro rfl (And.intro rfl (And.intro rfl (And.intro rfl (And.intro rfl (And.intro rfl (And.intro rfl (And.intro rfl (And.intro rfl (And.intro rfl (And.intro rfl (And.intro rfl (And.intro rfl (And.intro rfl (And.intro rfl (And.intro rfl (And.intro rfl (And.intro rfl (And.intro rfl (And.intro rfl (And.intro rfl (And.intro rfl (And.intro rfl (And.intro rfl (And.intro rfl (And.intro rfl (And.intro rfl (And.intro rfl (And.intro rfl (And.intro rfl (And.intro rfl (And.intro rfl (And.intro rfl (And.intro rfl (And.intro rfl (And.intro rfl (And.intro rfl (And.intro rfl (And.intro rfl (And.intro rfl (And.intro rfl (And.intro rfl (And.intro rfl (And.intro rfl (And.intro rfl (And.intro rfl (And.intro rfl (And.intro rfl (And.intro rfl (And.intro rfl (And.intro rfl (And.intro rfl (And.intro rfl (And.intro rfl (And.intro rfl (And.intro rfl (And.intro rfl (And.intro rfl (And.intro rfl (And.intro rfl (And.intro rfl (And.intro rfl (And.intro rfl (And.intro rfl (And.intro rfl (And.intro rfl (And.intro rfl (And.intro rfl (And.intro rfl (And.intro rfl (And.intro rfl (And.intro rfl (And.intro rfl (And.intro rfl (And.intro rfl (And.intro rfl (And.intro rfl (And.intro rfl (And.intro rfl (And.intro rfl (And.intro rfl (And.intro rfl (And.intro rfl (And.intro rfl (And.intro rfl (And.intro rfl (And.intro rfl (And.intro rfl (And.intro rfl (And.intro rfl (And.intro rfl (And.intro rfl (And.intro rfl (And.intro rfl (And.intro rfl (And.intro rfl (And.intro rfl (And.intro rfl (And.intro rfl (And.intro rfl (And.intro rfl (And.intro rfl (And.intro rfl (And.intro rfl (And.intro rfl (And.intro rfl (And.intro rfl (And.intro rfl (And.intro rfl (And.intro rfl (And.intro rfl (And.intro rfl (And.intro rfl (And.intro rfl (And.intro rfl (And.intro rfl (And.intro rfl (And.intro rfl (And.intro rfl (And.intro rfl (And.intro rfl (And.intro rfl (And.intro rfl (And.intro rfl (And.intro rfl (And.intro rfl (And.intro rfl (And.intro rfl (And.intro rfl (And.intro rfl (And.intro rfl (And.intro rfl (And.intro rfl (And.intro rfl (And.intro rfl (And.intro rfl (And.intro rfl (And.intro rfl (And.intro rfl (And.intro rfl (And.intro rfl (And.intro rfl (And.intro rfl (And.intro rfl (And.intro rfl (And.intro rfl (And.intro rfl (And.intro rfl (And.intro rfl (And.intro rfl (And.intro rfl (And.intro rfl (And.intro rfl (And.intro rfl (And.intro rfl (And.intro rfl (And.intro rfl (And.intro rfl (And.intro rfl (And.intro rfl (And.intro rfl (And.intro rfl trivial)))))))))))))))))))))))))))))))))))))))))))))))))))))))))))))))))))))))))))))))))))))))))))))))))))))))))))))))))))))))))))))))))))))))))))))))))))))))))))))))))))))))))))))))))))))))))))))))))))) ?_
                rintro _ _ ⟨rfl, rfl⟩
                conv => whnf
                refine both_f (by simp; omega) ?_
                conv => whnf
                (refine ⟨⟨x + 1, by omega⟩, by show R1.P.length + 2 - (x + 1) < R1.P.length + 2 - x; omega, .of [some 0, some 1, some 2, some 3, some 4, some 5, some 6, some 7, some 8] (by rfl) ?_⟩; (conv => whnf); (repeat (first | exact trivial | (refine ⟨rfl, ?_⟩; (conv => whnf)) | (refine ⟨(w64 _ (by omega) (by omega)).trans (by simp), ?_⟩; (conv => whnf)))); done)
              · simp only [decide_eq_true_eq, decide_eq_false_iff_not] at hh0
                conv => whnf
                refine (stateR_s (by first | omega | assumption | decide | simp) (by first | omega | assumption | decide | simp) _).call [1, 2, 3, 4, 5] (by rfl) (And.intro rfl trivial) (And.intro rfl (And.intro rfl (And.intro rfl (And.intro rfl (And.intro rfl (And.intro rfl (And.intro rfl (And.intro rfl (And.intro rfl (And.intro rfl (And.intro rfl (And.intro rfl (And.intro rfl (And.intro rfl (And.intro rfl (And.intro rfl (And.intro rfl (And.intro rfl (And.intro rfl (And.intro rfl (And.intro rfl (And.intro rfl (And.intro rfl (And.intro rfl (And.intro rfl (And.intro rfl (And.intro rfl (And.intro rfl (And.intro rfl (And.intro rfl (And.intro rfl (And.intro rfl (And.intro rfl (And.intro rfl (And.intro rfl (And.intro rfl (And.intro rfl (And.intro rfl (And.intro rfl (And.intro rfl (And.intro rfl (And.intro rfl (And.intro rfl (And.intro rfl (And.intro rfl (And.intro rfl (And.intro rfl (And.intro rfl (And.intro rfl (And.intro rfl (And.intro rfl (And.intro rfl (And.intro rfl (And.intro rfl (And.intro rfl (And.intro rfl (And.intro rfl (And.intro rfl (And.intro rfl (And.intro rfl (And.intro rfl (And.intro rfl (And.intro rfl (And.intro rfl (And.intro rfl (And.intro rfl (And.intro rfl (And.intro rfl (And.intro rfl (And.intro rfl (And.intro rfl (And.intro rfl (And.intro rfl (And.intro rfl (And.intro rfl (And.intro rfl (And.intro rfl (And.intro rfl (And.intro rfl (And.intro rfl (And.intro rfl (And.intro rfl (And.intro rfl (And.intro rfl (And.intro rfl (And.intro rfl (And.intro rfl (And.intro rfl (And.intro rfl (And.intro rfl (And.intro rfl (And.intro rfl (And.intro rfl (And.intro rfl (And.intro rfl (And.intro rfl (And.intro rfl (And.intro rfl (And.intro rfl (And.intro rfl (And.intro rfl (And.intro rfl (And.intro rfl (And.intro rfl (And.intro rfl (And.intro rfl (And.intro rfl (And.intro rfl (And.intro rfl (And.intro rfl (And.intro rfl (And.intro rfl (And.intro rfl (And.intro rfl (And.intro rfl (And.intro rfl (And.intro rfl (And.intro rfl (And.intro rfl (And.intro rfl (And.intro rfl (And.intro rfl (And.intro rfl (And.intro rfl (And.intro rfl (And.intro rfl (And.intro rfl (And.intro rfl (And.intro rfl (And.intro rfl (And.intro rfl (And.intro rfl (And.intro rfl (And.intro rfl (And.intro rfl (And.intro rfl (And.intro rfl (And.intro rfl (And.intro rfl (And.intro rfl (And.intro rfl (And.intro rfl (And.intro rfl (And.intro rfl (And.intro rfl (And.intro rfl (And.intro rfl (And.intro rfl (And.intro rfl (And.intro rfl (And.intro rfl (And.intro rfl (And.intro rfl (And.intro rfl (And.intro rfl (And.intro rfl (And.intro rfl (And.intro rfl (And.intro rfl (And.intro rfl (And.intro rfl (And.intro rfl (And.intro rfl (And.intro rfl (And.intro rfl (And.intro rfl (And.intro rfl (And.intro rfl (And.intro rfl (And.intro rfl (And.intro rfl (And.intro rfl (And.intro rfl (And.intro rfl (And.intro rfl (And.intro rfl (And.intro rfl (And.intro rfl (And.intro rfl (And.intro rfl (And.intro rfl (And.intro rfl (And.intro rfl (And.intro rfl (And.intro rfl (And.intro rfl (And.intro rfl (And.intro rfl (And.intro rfl (And.intro rfl (And.intro rfl (And.intro rfl (And.intro rfl (And.intro rfl (And.intro rfl (And.intro rfl trivial)))))))))))))))))))))))))))))))))))))))))))))))))))))))))))))))))))))))))))))))))))))))))))))))))))))))))))))))))))))))))))))))))))))))))))))))))))))))))))))))))))))))))))))))))))))))))))))))))))) ?_
                rintro _ _ ⟨rfl, rfl⟩
                conv => whnf
                refine (rstateR_s (by first | omega | assumption | decide | simp) (by first | omega | assumption | decide | simp) _).call [6, 7, 8] (by rfl) (And.intro rfl trivial) (And.intro rfl (And.intro rfl (And.intro rfl (And.intro rfl (And.intro rfl (And.intro rfl (And.intro rfl (And.intro rfl (And.intro rfl (And.intro rfl (And.intro rfl (And.intro rfl (And.intro rfl (And.intro rfl (And.intro rfl (And.intro rfl (And.intro rfl (And.intro rfl (And.intro rfl (And.intro rfl (And.intro rfl (And.intro rfl (And.intro rfl (And.intro rfl (And.intro rfl (And.intro rfl (And.intro rfl (And.intro rfl (And.intro rfl (And.intro rfl (And.intro rfl (And.intro rfl (And.intro rfl (And.intro rfl trivial)))))))))))))))))))))))))))))))))) ?_
                rintro _ _ ⟨rfl, rfl⟩
                conv => whnf
                refine both_f (by simp) ?_
                conv => whnf
                refine (reasonR_s (by first | omega | assumption | decide | simp) (by first | omega | assumption | decide | simp) _).call [1, 2, 3, 4, 5] (by rfl) (And.intro rfl trivial) (And.intro rfl (And.intro rfl (And.intro rfl (And.intro rfl (And.intro rfl (And.intro rfl (And.intro rfl (And.intro rfl (And.intro rfl (And.intro rfl (And.intro rfl (And.intro rfl (And.intro rfl (And.intro rfl (And.intro rfl (And.intro rfl (And.intro rfl (And.intro rfl (And.intro rfl (And.intro rfl (And.intro rfl (And.intro rfl (And.intro rfl (And.intro rfl (And.intro rfl (And.intro rfl (And.intro rfl (And.intro rfl (And.intro rfl (And.intro rfl (And.intro rfl (And.intro rfl (And.intro rfl (And.intro rfl (And.intro rfl (And.intro rfl (And.intro rfl (And.intro rfl (And.intro rfl (And.intro rfl (And.intro rfl (And.intro rfl (And.intro rfl (And.intro rfl (And.intro rfl (And.intro rfl (And.intro rfl (And.intro rfl (And.intro rfl (And.intro rfl (And.intro rfl (And.intro rfl (And.intro rfl (And.intro rfl (And.intro rfl (And.intro rfl (And.intro rfl (And.intro rfl (And.intro rfl (And.intro rfl (And.intro rfl (And.intro rfl (And.intro rfl (And.intro rfl (And.intro rfl (And.intro rfl (And.intro rfl (And.intro rfl (And.intro rfl (And.intro rfl (And.intro rfl (And.intro rfl (And.intro rfl (And.intro rfl (And.intro rfl (And.intro rfl (And.intro rfl (And.intro rfl (And.intro rfl (And.intro rfl (And.intro rfl (And.intro rfl (And.intro rfl (And.intro rfl (And.intro rfl (And.intro rfl (And.intro rfl (And.intro rfl (And.intro rfl (And.intro rfl (And.intro rfl (And.intro rfl (And.intro rfl (And.intro rfl (And.intro rfl (And.intro rfl (And.intro rfl (And.intro rfl (And.intro rfl (And.intro rfl (And.intro rfl (And.intro rfl (And.intro rfl (And.intro rfl (And.intro rfl (And.intro rfl (And.intro rfl (And.intro rfl (And.intro rfl (And.intro rfl (And.intro rfl (And.intro rfl (And.intro rfl (And.intro rfl (And.intro rfl (And.intro rfl (And.intro rfl (And.intro rfl (And.intro rfl (And.intro rfl (And.intro rfl (And.intro rfl (And.intro rfl (And.intro rfl (And.intro rfl (And.intro rfl (And.intro rfl (And.intro rfl (And.intro rfl (And.intro rfl (And.intro rfl (And.intro rfl (And.intro rfl (And.intro rfl (And.intro rfl (And.intro rfl (And.intro rfl (And.intro rfl (And.intro rfl (And.intro rfl (And.intro rfl (And.intro rfl (And.intro rfl (And.intro rfl (And.intro rfl (And.intro rfl (And.intro rfl (And.intro rfl (And.intro rfl (And.intro rfl (And.intro rfl (And.intro rfl (And.intro rfl (And.intro rfl (And.intro rfl (And.intro rfl (And.intro rfl (And.intro rfl (And.intro rfl (And.intro rfl (And.intro rfl (And.intro rfl (And.intro rfl (And.intro rfl (And.intro rfl (And.intro rfl (And.intro rfl (And.intro rfl (And.intro rfl (And.intro rfl (And.intro rfl (And.intro rfl (And.intro rfl (And.intro rfl (And.intro rfl (And.intro rfl (And.intro rfl (And.intro rfl (And.intro rfl (And.intro rfl (And.intro rfl (And.intro rfl (And.intro rfl (And.intro rfl (And.intro rfl (And.intro rfl (And.intro rfl (And.intro rfl (And.intro rfl (And.intro rfl (And.intro rfl (And.intro rfl (And.intro rfl (And.intro rfl (And.intro rfl (And.intro rfl trivial)))))))))))))))))))))))))))))))))))))))))))))))))))))))))))))))))))))))))))))))))))))))))))))))))))))))))))))))))))))))))))))))))))))))))))))))))))))))))))))))))))))))))))))))))))))))))))))))))))) ?_
                rintro _ _ ⟨rfl, rfl⟩
                conv => whnf
                refine both_f (by simp; omega) ?_
                conv => whnf
                (refine ⟨⟨x + 1, by omega⟩, by show R1.P.length + 2 - (x + 1) < R1.P.length + 2 - x; omega, .of [some 0, some 1, some 2, some 3, some 4, some 5, some 6, some 7, some 8] (by rfl) ?_⟩; (conv => whnf); (repeat (first | exact trivial | (refine ⟨rfl, ?_⟩; (conv => whnf)) | (refine ⟨(w64 _ (by omega) (by omega)).trans (by simp), ?_⟩; (conv => whnf)))); done)
          · conv => whnf
            refine .same ?_
            conv => whnf
            refine ⟨⟨(R1, i + 1, c), hz0, by show i + 1 ≤ 50; omega, hz1, by show c ≤ 25 * ((i + 1 : Nat) : Int); omega⟩, by show 50 - (i + 1) < 50 - i; omega, .of [some 0, some 1, some 2, some 3, some 4, some 5, some 6, some 7, some 8] (by rfl) ?_⟩
            conv => whnf
            (repeat (first | exact trivial | (refine ⟨rfl, ?_⟩; (conv => whnf)) | (refine ⟨(w64 _ (by omega) (by omega)).trans (by simp), ?_⟩; (conv => whnf))))
    · conv => whnf
      refine XG.freezeH 2 ?_
      conv => whnf
      refine XG.freezeH 3 ?_
      conv => whnf
      refine XG.freezeH 4 ?_
      conv => whnf
      refine XG.freezeH 5 ?_
      conv => whnf
      refine XG.freezeH 7 ?_
      conv => whnf
      refine XG.freezeH 8 ?_
      conv => whnf
      refine XG.same ?_
      have hlen := hIR.pl
      have hn2 : i ≤ 200 := by omega
      have hm2 : i ≤ 1000 := by omega
      conv => whnf
      refine LoopG.inv tab_ok 142 (fun x : { x : Nat // x ≤ 6 } => [(2, .int .i64 id), (8, .ptr 0 0), (9, .ptr 1 0), (13, .sl 2), (14, .int .i64 (x.1 : Int))])
        (fun x => [lgZ R, rgZ R, lgO (fLs flow)]) (fun x => 6 - x.1) ⟨0, by omega⟩ (.of [some 1, some 6, some 9] (by rfl) ?_) ?_
      · conv => whnf
        (repeat (first | exact trivial | (refine ⟨rfl, ?_⟩; (conv => whnf)) | (refine ⟨(w64 _ (by omega) (by omega)).trans (by simp), ?_⟩; (conv => whnf))))
      · intro x
        obtain ⟨x, hx⟩ := x
        have hfl : (nums (fLs flow)).length = 6 := rfl
        dsimp only
        conv => whnf
        refine ⟨fun hb => ?_, fun hb => ?_⟩
        · have hb : x < 6 := by simp only [decide_eq_true_eq, hfl] at hb; omega
          have hg := nums_at (D := fLs flow) (show x < (fLs flow).length from hb)
          obtain ⟨f, ef⟩ : ∃ f, f = (fLs flow).getD x 0 := ⟨_, rfl⟩
          rw [← ef] at hg
          conv => whnf
          refine DrawG.of mixed tab_ok ?_
          conv => whnf
          refine ⟨by omega, ?_⟩
          conv => whnf
          (refine ⟨_, hg, ?_⟩)
          conv => whnf
          refine (statsY_s (by first | omega | exact hIR | assumption | decide | simp) (by first | omega | exact hIR | assumption | decide | simp) _).calld [0] (by decide) rfl (And.intro rfl trivial) (And.intro rfl trivial) ?_
          conv => whnf
          refine ⟨by omega, ?_⟩
          conv => whnf
          (refine ⟨_, hg, ?_⟩)
          conv => whnf
          refine (rstatsY_s (by first | omega | exact hIR | assumption | decide | simp) (by first | omega | exact hIR | assumption | decide | simp) (by first | omega | exact hIR | assumption | decide | simp) _).calld [1] (by decide) rfl (And.intro rfl trivial) (And.intro rfl trivial) ?_
          conv => whnf
          refine both_f (by simp) ?_
          conv => whnf
          refine ⟨by omega, ?_⟩
          conv => whnf
          (refine ⟨_, hg, ?_⟩)
          conv => whnf
          refine (orderY_s (by first | omega | exact hIR | assumption | decide | simp) (by first | omega | exact hIR | assumption | decide | simp) _).calld [0] (by decide) rfl (And.intro rfl trivial) (And.intro rfl trivial) ?_
          conv => whnf
          refine ⟨by omega, ?_⟩
          conv => whnf
          (refine ⟨_, hg, ?_⟩)
          conv => whnf
          refine (rorderZ_s (by first | omega | exact hIR | assumption | decide | simp) (by first | omega | exact hIR | assumption | decide | simp) _).calld [1] (by decide) rfl (And.intro rfl trivial) (And.intro rfl trivial) ?_
          conv => whnf
          refine (equalY_s (by first | omega | exact hIR | assumption | decide | simp) (by first | omega | exact hIR | assumption | decide | simp) _).calld ?_
          conv => whnf
          refine ⟨by kernel_rfl, ?_⟩
          conv => whnf
          refine both_f rfl ?_
          conv => whnf
          refine LoopG.inv tab_ok 142 (fun y : { y : Nat // y ≤ 7 } => [(2, .int .i64 id), (8, .ptr 0 0), (9, .ptr 1 0), (13, .sl 2), (14, .int .i64 (x : Int)), (15, .int .i64 ((y.1 : Int) - 1))])
            (fun y => [lgZ R, rgZ R, lgO (fLs flow)]) (fun y => 7 - y.1) ⟨0, by omega⟩ (.of [some 0, some 1, some 2] (by rfl) ?_) ?_
          · conv => whnf
            (repeat (first | exact trivial | (refine ⟨rfl, ?_⟩; (conv => whnf)) | (refine ⟨(by simp), ?_⟩; (conv => whnf))))
          · intro y
            obtain ⟨y, hy⟩ := y
            dsimp only
            conv => whnf
            refine ⟨fun hb2 => ?_, fun hb2 => ?_⟩
            · have hb2 : y < 7 := by simp only [decide_eq_true_eq] at hb2; omega
              conv => whnf
              refine DrawG.of mixed tab_ok ?_
              conv => whnf
              refine ⟨by omega, ?_⟩
              conv => whnf
              (refine ⟨_, hg, ?_⟩)
              conv => whnf
              refine (countZ_s (by first | omega | exact hIR | assumption | decide | simp) (by first | omega | exact hIR | assumption | decide | simp) _ _).calld [0] (by decide) rfl (And.intro rfl (And.intro rfl trivial)) (And.intro rfl trivial) ?_
              conv => whnf
              refine ⟨by omega, ?_⟩
              conv => whnf
              (refine ⟨_, hg, ?_⟩)
              conv => whnf
              refine (rcountZ_s (by first | omega | exact hIR | assumption | decide | simp) (by first | omega | exact hIR | assumption | decide | simp) _ _).calld [1] (by decide) rfl (And.intro rfl (And.intro rfl trivial)) (And.intro rfl trivial) ?_
              conv => whnf
              refine ⟨by kernel_rfl, ?_⟩
              conv => whnf
              refine both_f (by simp) ?_
              conv => whnf
              (refine ⟨⟨y + 1, by omega⟩, by show 7 - (y + 1) < 7 - y; omega, .of [some 0, some 1, some 2] (by rfl) ?_⟩; (conv => whnf); (repeat (first | exact trivial | (refine ⟨rfl, ?_⟩; (conv => whnf)) | (refine ⟨(w64 _ (by omega) (by omega)).trans (by simp; omega), ?_⟩; (conv => whnf)) | (refine ⟨(w64 _ (by omega) (by omega)).trans (by simp), ?_⟩; (conv => whnf)) | (refine ⟨(w64 _ (by omega) (by omega)).trans (by omega), ?_⟩; (conv => whnf)))); done)
            · conv => whnf
              refine .same ?_
              conv => whnf
              (refine ⟨⟨x + 1, by omega⟩, by show 6 - (x + 1) < 6 - x; omega, .of [some 0, some 1, some 2] (by rfl) ?_⟩; (conv => whnf); (repeat (first | exact trivial | (refine ⟨rfl, ?_⟩; (conv => whnf)) | (refine ⟨(w64 _ (by omega) (by omega)).trans (by simp), ?_⟩; (conv => whnf)))); done)
        · conv => whnf
          refine .same ?_
          conv => whnf
          refine (stateZ_s (by first | omega | exact hIR | assumption | decide | simp) (by first | omega | exact hIR | assumption | decide | simp) _).call [0] (by decide) (And.intro rfl trivial) (And.intro rfl trivial) ?_
          rintro _ _ ⟨rfl, rfl⟩
          conv => whnf
          refine (rstateZ_s (by first | omega | exact hIR | assumption | decide | simp) (by first | omega | exact hIR | assumption | decide | simp) _).call [1] (by decide) (And.intro rfl trivial) (And.intro rfl trivial) ?_
          rintro _ _ ⟨rfl, rfl⟩
          conv => whnf
          refine both_t (by simp) ?_
          conv => whnf
          refine (awake18_s).call ?_
          rintro _ rfl
          conv => whnf
theorem lifeScriptL (ls : List Int) (flow id : Int) (_ : -9223372036854775808 ≤ flow) (_ : flow ≤ 9223372036854775807) (_ : -9223372036854775808 ≤ id) (_ : id ≤ 9223372036854775807) : PSpec Try.prog 8 [.rs 1 (nums ls), .int .i64 flow, .int .i64 id] TrueS := lifeScript_s ls flow id
end Go.Proofs.Ytdommpfnoiemkaa

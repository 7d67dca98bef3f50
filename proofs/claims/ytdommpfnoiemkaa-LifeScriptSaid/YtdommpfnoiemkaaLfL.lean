/- Chapter 18: tables that nobody changes any more. -/
import Derived.Test.YtdommpfnoiemkaaLfK
import Derived.Test.YtdommpfnoiemkaaWeak
import Derived.Test.YtdommpfnoiemkaaCut2
namespace Go.Proofs.Ytdommpfnoiemkaa
open Go.Sx
set_option linter.unusedSimpArgs false
set_option linter.unusedVariables false
def lgZ (R : R3) : Blk := .fix 103 [.rs 4 (R.P.map pkE), .int .i64 (cel R.P R.r 0), .int .i64 (cel R.P R.r 1), .int .i64 (cel R.P R.r 2), .int .i64 (cel R.P R.r 3), .int .i64 (cel R.P R.r 4), .int .i64 (cel R.P R.r 5), .rs 1 (nums (ordO R.P R.D 0)), .int .i64 (cel R.P R.r 6), .int .i64 (cel R.P R.r 7), .int .i64 (cel R.P R.r 8), .int .i64 (cel R.P R.r 9), .int .i64 (cel R.P R.r 10), .int .i64 (cel R.P R.r 11), .rs 1 (nums (ordO R.P R.D 1)), .int .i64 (cel R.P R.r 12), .int .i64 (cel R.P R.r 13), .int .i64 (cel R.P R.r 14), .int .i64 (cel R.P R.r 15), .int .i64 (cel R.P R.r 16), .int .i64 (cel R.P R.r 17), .rs 1 (nums (ordO R.P R.D 2)), .int .i64 0, .int .i64 0, .int .i64 0, .int .i64 0, .int .i64 0, .int .i64 0, .nils, .int .i64 0, .int .i64 0, .int .i64 0, .int .i64 0, .int .i64 0, .int .i64 0, .nils, .int .i64 0, .int .i64 0, .int .i64 0, .int .i64 0, .int .i64 0, .int .i64 0, .nils, .int .i64 0, .int .i64 0, .int .i64 0, .int .i64 0, .int .i64 0, .int .i64 0, .nils, .int .i64 0, .int .i64 0, .int .i64 0, .int .i64 0, .int .i64 0, .int .i64 0, .nils, .int .i64 0, .int .i64 0, .int .i64 0, .int .i64 0, .int .i64 0, .int .i64 0, .nils, .int .i64 0, .int .i64 0, .int .i64 0, .int .i64 0, .int .i64 0, .int .i64 0, .nils, .int .i64 0, .int .i64 0, .int .i64 0, .int .i64 0, .int .i64 0, .int .i64 0, .nils, .int .i64 0, .int .i64 0, .int .i64 0, .int .i64 0, .int .i64 0, .int .i64 0, .nils, .int .i64 0, .int .i64 0, .int .i64 0, .int .i64 0, .int .i64 0, .int .i64 0, .nils, .int .i64 0, .int .i64 0, .int .i64 0, .int .i64 0, .int .i64 0, .int .i64 0, .nils, .int .i64 0, .int .i64 0, .int .i64 0, .int .i64 0, .int .i64 0, .int .i64 0, .nils, .int .i64 0, .int .i64 0, .int .i64 0, .int .i64 0, .int .i64 0, .int .i64 0, .nils, .int .i64 0, .int .i64 0, .int .i64 0, .int .i64 0, .int .i64 0, .int .i64 0, .nils, .int .i64 0, .int .i64 0, .int .i64 0, .int .i64 0, .int .i64 0, .int .i64 0, .nils, .int .i64 0, .int .i64 0, .int .i64 0, .int .i64 0, .int .i64 0, .int .i64 0, .nils, .int .i64 0, .int .i64 0, .int .i64 0, .int .i64 0, .int .i64 0, .int .i64 0, .nils, .int .i64 0, .int .i64 0, .int .i64 0, .int .i64 0, .int .i64 0, .int .i64 0, .nils, .int .i64 0, .int .i64 0, .int .i64 0, .int .i64 0, .int .i64 0, .int .i64 0, .nils, .int .i64 0, .int .i64 0, .int .i64 0, .int .i64 0, .int .i64 0, .int .i64 0, .nils, .int .i64 0, .int .i64 0, .int .i64 0, .int .i64 0, .int .i64 0, .int .i64 0, .nils, .int .i64 0, .int .i64 0, .int .i64 0, .int .i64 0, .int .i64 0, .int .i64 0, .nils, .int .i64 0, .int .i64 0, .int .i64 0, .int .i64 0, .int .i64 0, .int .i64 0, .nils, .int .i64 0, .int .i64 0, .int .i64 0, .int .i64 0, .int .i64 0, .int .i64 0, .nils, .int .i64 0, .int .i64 0, .int .i64 0, .int .i64 0, .int .i64 0, .int .i64 0, .nils, .int .i64 0, .int .i64 0, .int .i64 0, .int .i64 0, .int .i64 0, .int .i64 0, .nils, .int .i64 0, .int .i64 0, .int .i64 0, .int .i64 0, .int .i64 0, .int .i64 0, .nils, .int .i64 0, .int .i64 0, .int .i64 0, .int .i64 0, .int .i64 0, .int .i64 0, .nils, .int .i64 0, .int .i64 0, .int .i64 0, .int .i64 0, .int .i64 0, .int .i64 0, .nils]
def rgZ (R : R3) : Blk := .fix 49 [.rs 4 (R.P.map pkE), .rs 1 (nums R.D), .int .i64 (R.r 0), .int .i64 (R.r 1), .int .i64 (R.r 2), .int .i64 0, .int .i64 0, .int .i64 0, .int .i64 0, .int .i64 0, .int .i64 0, .int .i64 0, .int .i64 0, .int .i64 0, .int .i64 0, .int .i64 0, .int .i64 0, .int .i64 0, .int .i64 0, .int .i64 0, .int .i64 0, .int .i64 0, .int .i64 0, .int .i64 0, .int .i64 0, .int .i64 0, .int .i64 0, .int .i64 0, .int .i64 0, .int .i64 0, .int .i64 0, .int .i64 0, .int .i64 0, .int .i64 0]
theorem _root_.Go.Sx.PSpec.preN {P : Program} {f : FuncId} {args args' : List SV} {R : SV → Prop} (hs : PSpec P f args R) (hl : SLeL args' args) : PSpec P f args' R :=
  ⟨fun h K hk => ⟨fun w X σ vs hI hr => (hs.ok h K hk).ok w X σ vs hI ⟨by rw [← hl.1]; exact hr.1, fun i s v hs hv => by
    have hi : i < args'.length := by rw [hl.1]; exact (List.getElem?_eq_some_iff.1 hs).1
    exact hl.2 i _ s (List.getElem?_eq_getElem hi) hs _ _ _ _ (hr.2 i _ v (List.getElem?_eq_getElem hi) hv)⟩⟩⟩
theorem clone_s (xs : List Int) (hx : xs.length ≤ 1000000) : PSpec Try.prog 77 [.rs 1 (nums xs)] (RowIs 1 (nums xs)) := by
  refine .of_codeF tab_ok Try.func77 (by rfl) rfl trivial ?_
  have hl := nums_len xs
  conv => whnf
  refine ⟨fun hq0 => ?_, ?_⟩
  · skip
    conv => whnf
    (simp; omega)
  · skip
    conv => whnf
    refine ⟨by simp; omega, ?_⟩
    conv => whnf
    simp
theorem clone2_s (xs : List Int) (hx : xs.length ≤ 1000000) : PSpec Try.prog 77 [.rs 1 (nums xs)] (· = .rs 1 (nums xs)) :=
  (clone_s xs hx).row1
theorem clone3_s : PSpec Try.prog 77 [.nils] (· = .rs 1 []) := (clone2_s [] (by decide)).preN (.cons .nil .nil)
theorem eqI_s (xs : List Int) (hx : xs.length ≤ 1000000) : PSpec Try.prog 36 [.rs 1 (nums xs), .rs 1 (nums xs)] (· = .bool true) := by
  refine .of_code' tab_ok Try.func36 (by rfl) rfl trivial ?_
  have hl := nums_len xs
  conv => whnf
  refine both_f (by simp) ?_
  conv => whnf
  refine LoopG.inv tab_ok 26 (fun i : { i : Nat // i ≤ xs.length } => [(0, .rs 1 (nums xs)), (1, .rs 1 (nums xs)), (5, .int .i64 (i.1 : Int))])
    (fun _ => []) (fun i => xs.length - i.1) ⟨0, by omega⟩ (.of [] (by decide) ?_) ?_
  · conv => whnf
    refine ⟨by rfl, ?_⟩
    conv => whnf
    refine ⟨by rfl, ?_⟩
    conv => whnf
    refine ⟨by rfl, ?_⟩
    conv => whnf
    exact trivial
  · intro i
    have hi := i.2
    conv => whnf
    refine ⟨fun hb => ?_, fun hb => ?_⟩
    · have hb : i.1 < xs.length := by simpa [hl] using hb
      conv => whnf
      refine DrawG.of mixed tab_ok ?_
      conv => whnf
      refine ⟨by omega, ?_⟩
      conv => whnf
      refine ⟨_, nums_at hb, ?_⟩
      conv => whnf
      refine ⟨by omega, ?_⟩
      conv => whnf
      refine ⟨_, nums_at hb, ?_⟩
      conv => whnf
      refine ⟨by kernel_rfl, ?_⟩
      conv => whnf
      refine both_f (by simp) ?_
      conv => whnf
      refine ⟨⟨i.1 + 1, by omega⟩, by show xs.length - (i.1 + 1) < xs.length - i.1; omega, .of [] (by decide) ?_⟩
      conv => whnf
      refine ⟨by rfl, ?_⟩
      conv => whnf
      refine ⟨by rfl, ?_⟩
      conv => whnf
      refine ⟨by exact (w64 _ (by omega) (by omega)).trans (by simp), ?_⟩
      conv => whnf
      exact trivial
    · conv => whnf
      refine .same ?_
      conv => whnf
section
variable {n m : Nat} {R : R3}
theorem countZ_s (h : IR n m R) (hn : n ≤ 200) (f st : Int) :
    OSpec Try.prog 30 [.ptr 0 0, .int .i64 f, .int .i64 st] [lgZ R] fun r ho => r = .int .i64 (cnt R.P f st : Int) ∧ ho = [lgZ R] := by
  refine .of_code tab_ok Try.func30 (by rfl) rfl trivial ?_
  have hs := h.pl
  have hl : (R.P.map pkE).length = R.P.length := List.length_map ..
  conv => whnf
  refine LoopG.inv tab_ok 37 (fun i : { i : Nat // i ≤ R.P.length } => [(1, .int .i64 f), (2, .int .i64 st), (7, .int .i64 (cnt (R.P.take i.1) f st : Int)), (13, .rs 4 (R.P.map pkE)), (14, .int .i64 (R.P.length : Int)), (15, .int .i64 (i.1 : Int))])
    (fun i => [lgZ R]) (fun i => R.P.length - i.1) ⟨0, by omega⟩ (.of [some 0] (by rfl) ?_) ?_
  · conv => whnf
    repeat (first | exact trivial | (refine ⟨rfl, ?_⟩; (conv => whnf)) | (refine ⟨(by simp), ?_⟩; (conv => whnf)))
  · intro i
    have hi := i.2
    conv => whnf
    refine ⟨fun hb => ?_, fun hb => ?_⟩
    · have hb : i.1 < R.P.length := by simp only [decide_eq_true_eq] at hb; omega
      have hg := pk_get hb
      have ht := cnt_take (f := f) (st := st) hb
      have hle := cnt_le (R.P.take i.1) f st
      rw [List.length_take] at hle
      have hle2 : cnt (R.P.take i.1) f st ≤ 1000 := by omega
      by_cases q : cQ f st (gp R.P i.1) = true
      · rw [if_pos q] at ht
        have q2 := q
        simp only [cQ, Bool.and_eq_true, decide_eq_true_eq] at q2
        conv => whnf
        refine ⟨by omega, ?_⟩
        conv => whnf
        (refine ⟨_, hg, ?_⟩)
        conv => whnf
        refine both_t (by (exact decide_eq_true q2.1.1)) ?_
        conv => whnf
        refine both_t (by (exact decide_eq_true q2.1.2)) ?_
        conv => whnf
        refine both_t (by simp; omega) ?_
        conv => whnf
        (refine ⟨⟨i.1 + 1, by omega⟩, by show R.P.length - (i.1 + 1) < R.P.length - i.1; omega, .of [some 0] (by rfl) ?_⟩; (conv => whnf); (repeat (first | exact trivial | (refine ⟨rfl, ?_⟩; (conv => whnf)) | (refine ⟨(by (rw [ht]; exact (w64 _ (by omega) (by omega)).trans (by simp))), ?_⟩; (conv => whnf)) | (refine ⟨(by (rw [ht]; simp; done)), ?_⟩; (conv => whnf)) | (refine ⟨(w64 _ (by omega) (by omega)).trans (by simp), ?_⟩; (conv => whnf)))); done)
      · rw [if_neg q, Nat.add_zero] at ht
        have q2 := q
        simp only [cQ, Bool.and_eq_true, decide_eq_true_eq] at q2
        by_cases q3 : (gp R.P i.1).1 = f
        · by_cases q4 : (gp R.P i.1).2.2.1 = st
          · have q5 : st = 0 := Decidable.byContradiction fun h => q2 ⟨⟨q3, q4⟩, h⟩
            conv => whnf
            refine ⟨by omega, ?_⟩
            conv => whnf
            (refine ⟨_, hg, ?_⟩)
            conv => whnf
            refine both_t (by (exact decide_eq_true q3)) ?_
            conv => whnf
            refine both_t (by (exact decide_eq_true q4)) ?_
            conv => whnf
            refine both_f (by simp; omega) ?_
            conv => whnf
            (refine ⟨⟨i.1 + 1, by omega⟩, by show R.P.length - (i.1 + 1) < R.P.length - i.1; omega, .of [some 0] (by rfl) ?_⟩; (conv => whnf); (repeat (first | exact trivial | (refine ⟨rfl, ?_⟩; (conv => whnf)) | (refine ⟨(by (rw [ht]; exact (w64 _ (by omega) (by omega)).trans (by simp))), ?_⟩; (conv => whnf)) | (refine ⟨(by (rw [ht]; simp; done)), ?_⟩; (conv => whnf)) | (refine ⟨(w64 _ (by omega) (by omega)).trans (by simp), ?_⟩; (conv => whnf)))); done)
          · conv => whnf
            refine ⟨by omega, ?_⟩
            conv => whnf
            (refine ⟨_, hg, ?_⟩)
            conv => whnf
            refine both_t (by (exact decide_eq_true q3)) ?_
            conv => whnf
            refine both_f (by (exact decide_eq_false q4)) ?_
            conv => whnf
            (refine ⟨⟨i.1 + 1, by omega⟩, by show R.P.length - (i.1 + 1) < R.P.length - i.1; omega, .of [some 0] (by rfl) ?_⟩; (conv => whnf); (repeat (first | exact trivial | (refine ⟨rfl, ?_⟩; (conv => whnf)) | (refine ⟨(by (rw [ht]; exact (w64 _ (by omega) (by omega)).trans (by simp))), ?_⟩; (conv => whnf)) | (refine ⟨(by (rw [ht]; simp; done)), ?_⟩; (conv => whnf)) | (refine ⟨(w64 _ (by omega) (by omega)).trans (by simp), ?_⟩; (conv => whnf)))); done)
        · conv => whnf
          refine ⟨by omega, ?_⟩
          conv => whnf
          (refine ⟨_, hg, ?_⟩)
          conv => whnf
          refine both_f (by (exact decide_eq_false q3)) ?_
          conv => whnf
          (refine ⟨⟨i.1 + 1, by omega⟩, by show R.P.length - (i.1 + 1) < R.P.length - i.1; omega, .of [some 0] (by rfl) ?_⟩; (conv => whnf); (repeat (first | exact trivial | (refine ⟨rfl, ?_⟩; (conv => whnf)) | (refine ⟨(by (rw [ht]; exact (w64 _ (by omega) (by omega)).trans (by simp))), ?_⟩; (conv => whnf)) | (refine ⟨(by (rw [ht]; simp; done)), ?_⟩; (conv => whnf)) | (refine ⟨(w64 _ (by omega) (by omega)).trans (by simp), ?_⟩; (conv => whnf)))); done)
    · have hb : i.1 = R.P.length := by simp only [decide_eq_false_iff_not] at hb; omega
      have hx : R.P.take i.1 = R.P := by rw [hb, List.take_length]
      rw [hx]
      conv => whnf
      refine .same ?_
      conv => whnf
      refine ⟨by rfl, ?_⟩
      conv => whnf
theorem rcountZ_s (h : IR n m R) (hn : n ≤ 200) (f st : Int) :
    OSpec Try.prog 39 [.ptr 0 0, .int .i64 f, .int .i64 st] [rgZ R] fun r ho => r = .int .i64 (cnt R.P f st : Int) ∧ ho = [rgZ R] := by
  refine .of_code tab_ok Try.func39 (by rfl) rfl trivial ?_
  have hs := h.pl
  have hl : (R.P.map pkE).length = R.P.length := List.length_map ..
  conv => whnf
  refine LoopG.inv tab_ok 43 (fun i : { i : Nat // i ≤ R.P.length } => [(0, .ptr 0 0), (1, .int .i64 f), (2, .int .i64 st), (7, .int .i64 (cnt (R.P.take i.1) f st : Int)), (8, .int .i64 (i.1 : Int))])
    (fun i => [rgZ R]) (fun i => R.P.length - i.1) ⟨0, by omega⟩ (.of [some 0] (by rfl) ?_) ?_
  · conv => whnf
    repeat (first | exact trivial | (refine ⟨rfl, ?_⟩; (conv => whnf)) | (refine ⟨(by simp), ?_⟩; (conv => whnf)))
  · intro i
    have hi := i.2
    conv => whnf
    refine ⟨fun hb => ?_, fun hb => ?_⟩
    · have hb : i.1 < R.P.length := by simp only [decide_eq_true_eq, hl] at hb; omega
      have hst0 : ¬ (gp R.P i.1).2.2.1 = 0 := by have := h.st i.1 hb; omega
      have hg := pk_get hb
      have ht := cnt_take (f := f) (st := st) hb
      have hle := cnt_le (R.P.take i.1) f st
      rw [List.length_take] at hle
      have hle2 : cnt (R.P.take i.1) f st ≤ 1000 := by omega
      by_cases q : cQ f st (gp R.P i.1) = true
      · rw [if_pos q] at ht
        have q2 := q
        simp only [cQ, Bool.and_eq_true, decide_eq_true_eq] at q2
        conv => whnf
        refine ⟨by omega, ?_⟩
        conv => whnf
        (refine ⟨_, hg, ?_⟩)
        conv => whnf
        refine both_t (by (exact decide_eq_true q2.1.1)) ?_
        conv => whnf
        refine ⟨by omega, ?_⟩
        conv => whnf
        (refine ⟨_, hg, ?_⟩)
        conv => whnf
        refine both_t (by (exact decide_eq_true q2.1.2)) ?_
        conv => whnf
        (refine ⟨⟨i.1 + 1, by omega⟩, by show R.P.length - (i.1 + 1) < R.P.length - i.1; omega, .of [some 0] (by rfl) ?_⟩; (conv => whnf); (repeat (first | exact trivial | (refine ⟨rfl, ?_⟩; (conv => whnf)) | (refine ⟨(by (rw [ht]; exact (w64 _ (by omega) (by omega)).trans (by simp))), ?_⟩; (conv => whnf)) | (refine ⟨(by (rw [ht]; simp; done)), ?_⟩; (conv => whnf)) | (refine ⟨(w64 _ (by omega) (by omega)).trans (by simp), ?_⟩; (conv => whnf)))); done)
      · rw [if_neg q, Nat.add_zero] at ht
        have q2 := q
        simp only [cQ, Bool.and_eq_true, decide_eq_true_eq] at q2
        by_cases q3 : (gp R.P i.1).1 = f
        · by_cases q4 : (gp R.P i.1).2.2.1 = st
          · have q5 : st = 0 := Decidable.byContradiction fun h => q2 ⟨⟨q3, q4⟩, h⟩
            exact absurd (q4.trans q5) hst0
          · conv => whnf
            refine ⟨by omega, ?_⟩
            conv => whnf
            (refine ⟨_, hg, ?_⟩)
            conv => whnf
            refine both_t (by (exact decide_eq_true q3)) ?_
            conv => whnf
            refine ⟨by omega, ?_⟩
            conv => whnf
            (refine ⟨_, hg, ?_⟩)
            conv => whnf
            refine both_f (by (exact decide_eq_false q4)) ?_
            conv => whnf
            (refine ⟨⟨i.1 + 1, by omega⟩, by show R.P.length - (i.1 + 1) < R.P.length - i.1; omega, .of [some 0] (by rfl) ?_⟩; (conv => whnf); (repeat (first | exact trivial | (refine ⟨rfl, ?_⟩; (conv => whnf)) | (refine ⟨(by (rw [ht]; exact (w64 _ (by omega) (by omega)).trans (by simp))), ?_⟩; (conv => whnf)) | (refine ⟨(by (rw [ht]; simp; done)), ?_⟩; (conv => whnf)) | (refine ⟨(w64 _ (by omega) (by omega)).trans (by simp), ?_⟩; (conv => whnf)))); done)
        · conv => whnf
          refine ⟨by omega, ?_⟩
          conv => whnf
          (refine ⟨_, hg, ?_⟩)
          conv => whnf
          refine both_f (by (exact decide_eq_false q3)) ?_
          conv => whnf
          (refine ⟨⟨i.1 + 1, by omega⟩, by show R.P.length - (i.1 + 1) < R.P.length - i.1; omega, .of [some 0] (by rfl) ?_⟩; (conv => whnf); (repeat (first | exact trivial | (refine ⟨rfl, ?_⟩; (conv => whnf)) | (refine ⟨(by (rw [ht]; exact (w64 _ (by omega) (by omega)).trans (by simp))), ?_⟩; (conv => whnf)) | (refine ⟨(by (rw [ht]; simp; done)), ?_⟩; (conv => whnf)) | (refine ⟨(w64 _ (by omega) (by omega)).trans (by simp), ?_⟩; (conv => whnf)))); done)
    · have hb : i.1 = R.P.length := by simp only [decide_eq_false_iff_not, hl] at hb; omega
      have hx : R.P.take i.1 = R.P := by rw [hb, List.take_length]
      rw [hx]
      conv => whnf
      refine .same ?_
      conv => whnf
      refine ⟨by rfl, ?_⟩
      conv => whnf
theorem stateZ_s (h : IR n m R) (hn : n ≤ 200) (x : Int) :
    OSpec Try.prog 32 [.ptr 0 0, .int .i64 x] [lgZ R] fun r ho => r = .int .i64 (stO R.P x) ∧ ho = [lgZ R] := by
  refine .of_code tab_ok Try.func32 (by rfl) rfl trivial ?_
  have hs : R.P.length ≤ 1000 := by have := h.pl; omega
  have hl : (R.P.map pkE).length = R.P.length := List.length_map ..
  by_cases q : 1 ≤ x ∧ x ≤ (R.P.length : Int)
  · have e : stO R.P x = (gp R.P (x.toNat - 1)).2.2.1 := if_pos q
    rw [e]
    conv => whnf
    refine CallG.of_code tab_ok Try.func76 (by rfl) rfl ?_
    conv => whnf
    refine both_f (by simp; omega) ?_
    conv => whnf
    refine both_f (by simp; omega) ?_
    conv => whnf
    refine ⟨by (exact pk_at hs q.1 q.2), ?_⟩
    conv => whnf
    (refine ⟨_, pk_ld hs q.1 q.2, ?_⟩)
    conv => whnf
    refine ⟨by rfl, ?_⟩
    conv => whnf
  · have e : stO R.P x = 0 := if_neg q
    rw [e]
    conv => whnf
    refine CallG.of_code tab_ok Try.func76 (by rfl) rfl ?_
    conv => whnf
    refine ⟨fun hh0 => ?_, fun hh0 => ?_⟩
    · simp only [decide_eq_true_eq, decide_eq_false_iff_not] at hh0
      conv => whnf
      refine ⟨by rfl, ?_⟩
      conv => whnf
    · simp only [decide_eq_true_eq, decide_eq_false_iff_not] at hh0
      conv => whnf
      refine both_t (by simp; omega) ?_
      conv => whnf
      refine ⟨by rfl, ?_⟩
      conv => whnf
theorem rstateZ_s (h : IR n m R) (hn : n ≤ 200) (x : Int) :
    OSpec Try.prog 33 [.ptr 0 0, .int .i64 x] [rgZ R] fun r ho => r = .int .i64 (stO R.P x) ∧ ho = [rgZ R] := by
  refine .of_code tab_ok Try.func33 (by rfl) rfl trivial ?_
  have hs : R.P.length ≤ 1000 := by have := h.pl; omega
  have hl : (R.P.map pkE).length = R.P.length := List.length_map ..
  by_cases q : 1 ≤ x ∧ x ≤ (R.P.length : Int)
  · have e : stO R.P x = (gp R.P (x.toNat - 1)).2.2.1 := if_pos q
    rw [e]
    conv => whnf
    refine both_f (by simp; omega) ?_
    conv => whnf
    refine both_f (by simp; omega) ?_
    conv => whnf
    refine ⟨by (exact pk_at hs q.1 q.2), ?_⟩
    conv => whnf
    (refine ⟨_, pk_ld hs q.1 q.2, ?_⟩)
    conv => whnf
    refine ⟨by rfl, ?_⟩
    conv => whnf
  · have e : stO R.P x = 0 := if_neg q
    rw [e]
    conv => whnf
    refine ⟨fun hh0 => ?_, fun hh0 => ?_⟩
    · simp only [decide_eq_true_eq, decide_eq_false_iff_not] at hh0
      conv => whnf
      refine ⟨by rfl, ?_⟩
      conv => whnf
    · simp only [decide_eq_true_eq, decide_eq_false_iff_not] at hh0
      conv => whnf
      refine both_t (by simp; omega) ?_
      conv => whnf
      refine ⟨by rfl, ?_⟩
      conv => whnf
end
end Go.Proofs.Ytdommpfnoiemkaa

/- Chapter 18: accepted packets and counts in tables of three flows. -/
import Derived.Test.YtdommpfnoiemkaaLfB
namespace Go.Proofs.Ytdommpfnoiemkaa
open Go.Sx
set_option linter.unusedSimpArgs false
set_option linter.unusedVariables false
def aOk (f l : Int) : Prop := fOk f ∧ 1 ≤ l ∧ l ≤ 4096
set_option maxHeartbeats 2000000 in
theorem accept3_s (s : L3) (hs : s.P.length ≤ 900) (hc : cOk s.c) (f l : Int) (hf : fOk f ∨ f = -1 ∨ f = 32) :
    GSpec Try.prog 66 [.ptr 0 0, .int .i64 f, .int .i64 l] (lgH s) fun r ho => (aOk f l ∧ r = .tup [.int .i64 ((s.P.length + 1 : Nat) : Int), .int .i64 0] ∧ ho = [lgT 5 2 3 4 (upC s.c f 1 1), .dead, lgO s.a, lgO s.b, lgO s.d, lgP (s.P ++ [(f, l, 1, 0)])]) ∨
      (¬ aOk f l ∧ r = .tup [.int .i64 0, .int .i64 1] ∧ ho = lgH s ++ [.dead]) := by
  refine .of_code tab_ok Try.func66 (by rfl) rfl ?_
  have hl : (s.P.map pkE).length = s.P.length := List.length_map ..
  have b1 := cB hc 1
  have b7 := cB hc 7
  have b13 := cB hc 13
  by_cases hw : 1 ≤ l ∧ l ≤ 4096
  · rcases hf with (rfl | rfl | rfl) | rfl | rfl
    · conv => whnf
      refine CallG.of_code tab_ok Try.func74 (by rfl) rfl ?_
      conv => whnf
      refine both_t rfl ?_
      conv => whnf
      refine both_f rfl ?_
      conv => whnf
      refine both_f (by simp; omega) ?_
      conv => whnf
      refine both_f (by simp; omega) ?_
      conv => whnf
      refine both_f (by simp; omega) ?_
      conv => whnf
      refine ⟨by simp; omega, ?_⟩
      conv => whnf
      refine DrawG.of mixed tab_ok ?_
      conv => whnf
      refine ⟨by omega, ?_⟩
      conv => whnf
      refine ⟨0, rfl, ?_⟩
      conv => whnf
      refine ⟨by omega, ?_⟩
      conv => whnf
      refine ⟨0, rfl, ?_⟩
      conv => whnf
      refine ⟨by kernel_rfl, ?_⟩
      conv => whnf
      (rw [b1]; refine OutG.of [some 0, some 1, some 2, some 3, some 4, some 6] _ _ (by rfl) (.inl ⟨⟨by (unfold fOk; decide), hw⟩, rfl, rfl⟩) ?_; (conv => whnf); (repeat (first | exact trivial | (refine ⟨rfl, ?_⟩; (conv => whnf)) | (refine ⟨(by simp), ?_⟩; (conv => whnf)))))
    · conv => whnf
      refine CallG.of_code tab_ok Try.func74 (by rfl) rfl ?_
      conv => whnf
      refine both_t rfl ?_
      conv => whnf
      refine both_f rfl ?_
      conv => whnf
      refine both_f (by simp; omega) ?_
      conv => whnf
      refine both_f (by simp; omega) ?_
      conv => whnf
      refine both_f (by simp; omega) ?_
      conv => whnf
      refine ⟨by simp; omega, ?_⟩
      conv => whnf
      refine DrawG.of mixed tab_ok ?_
      conv => whnf
      refine ⟨by omega, ?_⟩
      conv => whnf
      refine ⟨1, rfl, ?_⟩
      conv => whnf
      refine ⟨by omega, ?_⟩
      conv => whnf
      refine ⟨1, rfl, ?_⟩
      conv => whnf
      refine ⟨by kernel_rfl, ?_⟩
      conv => whnf
      (rw [b7]; refine OutG.of [some 0, some 1, some 2, some 3, some 4, some 6] _ _ (by rfl) (.inl ⟨⟨by (unfold fOk; decide), hw⟩, rfl, rfl⟩) ?_; (conv => whnf); (repeat (first | exact trivial | (refine ⟨rfl, ?_⟩; (conv => whnf)) | (refine ⟨(by simp), ?_⟩; (conv => whnf)))))
    · conv => whnf
      refine CallG.of_code tab_ok Try.func74 (by rfl) rfl ?_
      conv => whnf
      refine both_t rfl ?_
      conv => whnf
      refine both_f rfl ?_
      conv => whnf
      refine both_f (by simp; omega) ?_
      conv => whnf
      refine both_f (by simp; omega) ?_
      conv => whnf
      refine both_f (by simp; omega) ?_
      conv => whnf
      refine ⟨by simp; omega, ?_⟩
      conv => whnf
      refine DrawG.of mixed tab_ok ?_
      conv => whnf
      refine ⟨by omega, ?_⟩
      conv => whnf
      refine ⟨2, rfl, ?_⟩
      conv => whnf
      refine ⟨by omega, ?_⟩
      conv => whnf
      refine ⟨2, rfl, ?_⟩
      conv => whnf
      refine ⟨by kernel_rfl, ?_⟩
      conv => whnf
      (rw [b13]; refine OutG.of [some 0, some 1, some 2, some 3, some 4, some 6] _ _ (by rfl) (.inl ⟨⟨by (unfold fOk; decide), hw⟩, rfl, rfl⟩) ?_; (conv => whnf); (repeat (first | exact trivial | (refine ⟨rfl, ?_⟩; (conv => whnf)) | (refine ⟨(by simp), ?_⟩; (conv => whnf)))))
    · conv => whnf
      refine CallG.of_code tab_ok Try.func74 (by rfl) rfl ?_
      conv => whnf
      refine both_f rfl ?_
      conv => whnf
      (refine OutG.of [some 0, some 1, some 2, some 3, some 4, none] _ _ (by rfl) (.inr ⟨(fun q => by (unfold aOk fOk at q; omega)), rfl, rfl⟩) ?_; (conv => whnf); (repeat (first | exact trivial | (refine ⟨rfl, ?_⟩; (conv => whnf)) | (refine ⟨(by simp), ?_⟩; (conv => whnf)))))
    · conv => whnf
      refine CallG.of_code tab_ok Try.func74 (by rfl) rfl ?_
      conv => whnf
      refine both_t rfl ?_
      conv => whnf
      refine both_t rfl ?_
      conv => whnf
      (refine OutG.of [some 0, some 1, some 2, some 3, some 4, none] _ _ (by rfl) (.inr ⟨(fun q => by (unfold aOk fOk at q; omega)), rfl, rfl⟩) ?_; (conv => whnf); (repeat (first | exact trivial | (refine ⟨rfl, ?_⟩; (conv => whnf)) | (refine ⟨(by simp), ?_⟩; (conv => whnf)))))
  · by_cases hw1 : l < 1
    · rcases hf with (rfl | rfl | rfl) | rfl | rfl
      · conv => whnf
        refine CallG.of_code tab_ok Try.func74 (by rfl) rfl ?_
        conv => whnf
        refine both_t rfl ?_
        conv => whnf
        refine both_f rfl ?_
        conv => whnf
        refine both_t (by simp; omega) ?_
        conv => whnf
        (refine OutG.of [some 0, some 1, some 2, some 3, some 4, none] _ _ (by rfl) (.inr ⟨(fun q => by (unfold aOk fOk at q; omega)), rfl, rfl⟩) ?_; (conv => whnf); (repeat (first | exact trivial | (refine ⟨rfl, ?_⟩; (conv => whnf)) | (refine ⟨(by simp), ?_⟩; (conv => whnf)))))
      · conv => whnf
        refine CallG.of_code tab_ok Try.func74 (by rfl) rfl ?_
        conv => whnf
        refine both_t rfl ?_
        conv => whnf
        refine both_f rfl ?_
        conv => whnf
        refine both_t (by simp; omega) ?_
        conv => whnf
        (refine OutG.of [some 0, some 1, some 2, some 3, some 4, none] _ _ (by rfl) (.inr ⟨(fun q => by (unfold aOk fOk at q; omega)), rfl, rfl⟩) ?_; (conv => whnf); (repeat (first | exact trivial | (refine ⟨rfl, ?_⟩; (conv => whnf)) | (refine ⟨(by simp), ?_⟩; (conv => whnf)))))
      · conv => whnf
        refine CallG.of_code tab_ok Try.func74 (by rfl) rfl ?_
        conv => whnf
        refine both_t rfl ?_
        conv => whnf
        refine both_f rfl ?_
        conv => whnf
        refine both_t (by simp; omega) ?_
        conv => whnf
        (refine OutG.of [some 0, some 1, some 2, some 3, some 4, none] _ _ (by rfl) (.inr ⟨(fun q => by (unfold aOk fOk at q; omega)), rfl, rfl⟩) ?_; (conv => whnf); (repeat (first | exact trivial | (refine ⟨rfl, ?_⟩; (conv => whnf)) | (refine ⟨(by simp), ?_⟩; (conv => whnf)))))
      · conv => whnf
        refine CallG.of_code tab_ok Try.func74 (by rfl) rfl ?_
        conv => whnf
        refine both_f rfl ?_
        conv => whnf
        (refine OutG.of [some 0, some 1, some 2, some 3, some 4, none] _ _ (by rfl) (.inr ⟨(fun q => by (unfold aOk fOk at q; omega)), rfl, rfl⟩) ?_; (conv => whnf); (repeat (first | exact trivial | (refine ⟨rfl, ?_⟩; (conv => whnf)) | (refine ⟨(by simp), ?_⟩; (conv => whnf)))))
      · conv => whnf
        refine CallG.of_code tab_ok Try.func74 (by rfl) rfl ?_
        conv => whnf
        refine both_t rfl ?_
        conv => whnf
        refine both_t rfl ?_
        conv => whnf
        (refine OutG.of [some 0, some 1, some 2, some 3, some 4, none] _ _ (by rfl) (.inr ⟨(fun q => by (unfold aOk fOk at q; omega)), rfl, rfl⟩) ?_; (conv => whnf); (repeat (first | exact trivial | (refine ⟨rfl, ?_⟩; (conv => whnf)) | (refine ⟨(by simp), ?_⟩; (conv => whnf)))))
    · rcases hf with (rfl | rfl | rfl) | rfl | rfl
      · conv => whnf
        refine CallG.of_code tab_ok Try.func74 (by rfl) rfl ?_
        conv => whnf
        refine both_t rfl ?_
        conv => whnf
        refine both_f rfl ?_
        conv => whnf
        refine both_f (by simp; omega) ?_
        conv => whnf
        refine both_t (by simp; omega) ?_
        conv => whnf
        (refine OutG.of [some 0, some 1, some 2, some 3, some 4, none] _ _ (by rfl) (.inr ⟨(fun q => by (unfold aOk fOk at q; omega)), rfl, rfl⟩) ?_; (conv => whnf); (repeat (first | exact trivial | (refine ⟨rfl, ?_⟩; (conv => whnf)) | (refine ⟨(by simp), ?_⟩; (conv => whnf)))))
      · conv => whnf
        refine CallG.of_code tab_ok Try.func74 (by rfl) rfl ?_
        conv => whnf
        refine both_t rfl ?_
        conv => whnf
        refine both_f rfl ?_
        conv => whnf
        refine both_f (by simp; omega) ?_
        conv => whnf
        refine both_t (by simp; omega) ?_
        conv => whnf
        (refine OutG.of [some 0, some 1, some 2, some 3, some 4, none] _ _ (by rfl) (.inr ⟨(fun q => by (unfold aOk fOk at q; omega)), rfl, rfl⟩) ?_; (conv => whnf); (repeat (first | exact trivial | (refine ⟨rfl, ?_⟩; (conv => whnf)) | (refine ⟨(by simp), ?_⟩; (conv => whnf)))))
      · conv => whnf
        refine CallG.of_code tab_ok Try.func74 (by rfl) rfl ?_
        conv => whnf
        refine both_t rfl ?_
        conv => whnf
        refine both_f rfl ?_
        conv => whnf
        refine both_f (by simp; omega) ?_
        conv => whnf
        refine both_t (by simp; omega) ?_
        conv => whnf
        (refine OutG.of [some 0, some 1, some 2, some 3, some 4, none] _ _ (by rfl) (.inr ⟨(fun q => by (unfold aOk fOk at q; omega)), rfl, rfl⟩) ?_; (conv => whnf); (repeat (first | exact trivial | (refine ⟨rfl, ?_⟩; (conv => whnf)) | (refine ⟨(by simp), ?_⟩; (conv => whnf)))))
      · conv => whnf
        refine CallG.of_code tab_ok Try.func74 (by rfl) rfl ?_
        conv => whnf
        refine both_f rfl ?_
        conv => whnf
        (refine OutG.of [some 0, some 1, some 2, some 3, some 4, none] _ _ (by rfl) (.inr ⟨(fun q => by (unfold aOk fOk at q; omega)), rfl, rfl⟩) ?_; (conv => whnf); (repeat (first | exact trivial | (refine ⟨rfl, ?_⟩; (conv => whnf)) | (refine ⟨(by simp), ?_⟩; (conv => whnf)))))
      · conv => whnf
        refine CallG.of_code tab_ok Try.func74 (by rfl) rfl ?_
        conv => whnf
        refine both_t rfl ?_
        conv => whnf
        refine both_t rfl ?_
        conv => whnf
        (refine OutG.of [some 0, some 1, some 2, some 3, some 4, none] _ _ (by rfl) (.inr ⟨(fun q => by (unfold aOk fOk at q; omega)), rfl, rfl⟩) ?_; (conv => whnf); (repeat (first | exact trivial | (refine ⟨rfl, ?_⟩; (conv => whnf)) | (refine ⟨(by simp), ?_⟩; (conv => whnf)))))
def cQ (f st : Int) (p : Pk) : Bool := decide (p.1 = f) && decide (p.2.2.1 = st) && decide (¬ st = 0)
def cnt (P : List Pk) (f st : Int) : Nat := P.countP (cQ f st)
theorem cnt_take {P : List Pk} {f st : Int} {k : Nat} (h : k < P.length) : cnt (P.take (k + 1)) f st = cnt (P.take k) f st + (if cQ f st (gp P k) = true then 1 else 0) := by
  unfold cnt
  rw [gp_get h, List.take_add_one, List.countP_append, List.getElem?_eq_getElem h]
  simp [List.countP_cons]
theorem cnt_le (P : List Pk) (f st : Int) : cnt P f st ≤ P.length := List.countP_le_length
set_option maxHeartbeats 2000000 in
theorem count3_s (s : L3) (hs : s.P.length ≤ 1000) (f st : Int) :
    GSpec Try.prog 30 [.ptr 0 0, .int .i64 f, .int .i64 st] (lgH s) fun r ho => r = .int .i64 (cnt s.P f st : Int) ∧ ho = lgH s := by
  refine .of_code tab_ok Try.func30 (by rfl) rfl ?_
  have hl : (s.P.map pkE).length = s.P.length := List.length_map ..
  conv => whnf
  refine LoopG.inv tab_ok 37 (fun i : { i : Nat // i ≤ s.P.length } => [(1, .int .i64 f), (2, .int .i64 st), (7, .int .i64 (cnt (s.P.take i.1) f st : Int)), (13, .sl 1), (14, .int .i64 (s.P.length : Int)), (15, .int .i64 (i.1 : Int))])
    (fun i => lgH s) (fun i => s.P.length - i.1) ⟨0, by omega⟩ (.of [some 0, some 1, some 2, some 3, some 4] (by rfl) ?_) ?_
  · conv => whnf
    repeat (first | exact trivial | (refine ⟨rfl, ?_⟩; (conv => whnf)) | (refine ⟨(by simp), ?_⟩; (conv => whnf)))
  · intro i
    have hi := i.2
    conv => whnf
    refine ⟨fun hb => ?_, fun hb => ?_⟩
    · have hb : i.1 < s.P.length := by simp only [decide_eq_true_eq] at hb; omega
      have hg := pk_get hb
      have ht := cnt_take (f := f) (st := st) hb
      have hle := cnt_le (s.P.take i.1) f st
      rw [List.length_take] at hle
      have hle2 : cnt (s.P.take i.1) f st ≤ 1000 := Nat.le_trans hle (Nat.le_trans (Nat.min_le_right _ _) hs)
      by_cases q : cQ f st (gp s.P i.1) = true
      · rw [if_pos q] at ht
        have q2 := q
        simp only [cQ, Bool.and_eq_true, decide_eq_true_eq] at q2
        conv => whnf
        refine ⟨by omega, ?_⟩
        conv => whnf
        (refine ⟨_, hg, ?_⟩)
        conv => whnf
        refine both_t (by (exact decide_eq_true q2.1.1)) ?_
        conv => whnf
        refine both_t (by (exact decide_eq_true q2.1.2)) ?_
        conv => whnf
        refine both_t (by simp; omega) ?_
        conv => whnf
        (refine ⟨⟨i.1 + 1, by omega⟩, by show s.P.length - (i.1 + 1) < s.P.length - i.1; omega, .of [some 0, some 1, some 2, some 3, some 4] (by rfl) ?_⟩; (conv => whnf); (repeat (first | exact trivial | (refine ⟨rfl, ?_⟩; (conv => whnf)) | (refine ⟨(by (rw [ht]; exact (w64 _ (by omega) (by omega)).trans (by simp))), ?_⟩; (conv => whnf)) | (refine ⟨(by (rw [ht]; simp; done)), ?_⟩; (conv => whnf)) | (refine ⟨(w64 _ (by omega) (by omega)).trans (by simp), ?_⟩; (conv => whnf)))); done)
      · rw [if_neg q, Nat.add_zero] at ht
        have q2 := q
        simp only [cQ, Bool.and_eq_true, decide_eq_true_eq] at q2
        by_cases q3 : (gp s.P i.1).1 = f
        · by_cases q4 : (gp s.P i.1).2.2.1 = st
          · have q5 : st = 0 := Decidable.byContradiction fun h => q2 ⟨⟨q3, q4⟩, h⟩
            conv => whnf
            refine ⟨by omega, ?_⟩
            conv => whnf
            (refine ⟨_, hg, ?_⟩)
            conv => whnf
            refine both_t (by (exact decide_eq_true q3)) ?_
            conv => whnf
            refine both_t (by (exact decide_eq_true q4)) ?_
            conv => whnf
            refine both_f (by simp; omega) ?_
            conv => whnf
            (refine ⟨⟨i.1 + 1, by omega⟩, by show s.P.length - (i.1 + 1) < s.P.length - i.1; omega, .of [some 0, some 1, some 2, some 3, some 4] (by rfl) ?_⟩; (conv => whnf); (repeat (first | exact trivial | (refine ⟨rfl, ?_⟩; (conv => whnf)) | (refine ⟨(by (rw [ht]; exact (w64 _ (by omega) (by omega)).trans (by simp))), ?_⟩; (conv => whnf)) | (refine ⟨(by (rw [ht]; simp; done)), ?_⟩; (conv => whnf)) | (refine ⟨(w64 _ (by omega) (by omega)).trans (by simp), ?_⟩; (conv => whnf)))); done)
          · conv => whnf
            refine ⟨by omega, ?_⟩
            conv => whnf
            (refine ⟨_, hg, ?_⟩)
            conv => whnf
            refine both_t (by (exact decide_eq_true q3)) ?_
            conv => whnf
            refine both_f (by (exact decide_eq_false q4)) ?_
            conv => whnf
            (refine ⟨⟨i.1 + 1, by omega⟩, by show s.P.length - (i.1 + 1) < s.P.length - i.1; omega, .of [some 0, some 1, some 2, some 3, some 4] (by rfl) ?_⟩; (conv => whnf); (repeat (first | exact trivial | (refine ⟨rfl, ?_⟩; (conv => whnf)) | (refine ⟨(by (rw [ht]; exact (w64 _ (by omega) (by omega)).trans (by simp))), ?_⟩; (conv => whnf)) | (refine ⟨(by (rw [ht]; simp; done)), ?_⟩; (conv => whnf)) | (refine ⟨(w64 _ (by omega) (by omega)).trans (by simp), ?_⟩; (conv => whnf)))); done)
        · conv => whnf
          refine ⟨by omega, ?_⟩
          conv => whnf
          (refine ⟨_, hg, ?_⟩)
          conv => whnf
          refine both_f (by (exact decide_eq_false q3)) ?_
          conv => whnf
          (refine ⟨⟨i.1 + 1, by omega⟩, by show s.P.length - (i.1 + 1) < s.P.length - i.1; omega, .of [some 0, some 1, some 2, some 3, some 4] (by rfl) ?_⟩; (conv => whnf); (repeat (first | exact trivial | (refine ⟨rfl, ?_⟩; (conv => whnf)) | (refine ⟨(by (rw [ht]; exact (w64 _ (by omega) (by omega)).trans (by simp))), ?_⟩; (conv => whnf)) | (refine ⟨(by (rw [ht]; simp; done)), ?_⟩; (conv => whnf)) | (refine ⟨(w64 _ (by omega) (by omega)).trans (by simp), ?_⟩; (conv => whnf)))); done)
    · have hb : i.1 = s.P.length := by simp only [decide_eq_false_iff_not] at hb; omega
      have hx : s.P.take i.1 = s.P := by rw [hb, List.take_length]
      rw [hx]
      conv => whnf
      refine .same ?_
      conv => whnf
      exact OutG.same ⟨rfl, rfl⟩
end Go.Proofs.Ytdommpfnoiemkaa

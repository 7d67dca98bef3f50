/- Chapter 18: the reference's tables. -/
import Derived.Test.YtdommpfnoiemkaaLfD
namespace Go.Proofs.Ytdommpfnoiemkaa
open Go.Sx
set_option linter.unusedSimpArgs false
set_option linter.unusedVariables false
def rgT (u v : Nat) (r : Nat → Int) : Blk := .fix 49 [.sl u, .sl v, .int .i64 (r 0), .int .i64 (r 1), .int .i64 (r 2), .int .i64 0, .int .i64 0, .int .i64 0, .int .i64 0, .int .i64 0, .int .i64 0, .int .i64 0, .int .i64 0, .int .i64 0, .int .i64 0, .int .i64 0, .int .i64 0, .int .i64 0, .int .i64 0, .int .i64 0, .int .i64 0, .int .i64 0, .int .i64 0, .int .i64 0, .int .i64 0, .int .i64 0, .int .i64 0, .int .i64 0, .int .i64 0, .int .i64 0, .int .i64 0, .int .i64 0, .int .i64 0, .int .i64 0]
abbrev rgP (P : List Pk) : Blk := .row 59 4 (P.map pkE)
structure R3 where
  P : List Pk
  D : List Int
  r : Nat → Int
abbrev rgH (s : R3) : Hp := [rgT 1 2 s.r, rgP s.P, lgO s.D]
def stOk (P : List Pk) : Prop := ∀ i, i < P.length → 1 ≤ (gp P i).2.2.1 ∧ (gp P i).2.2.1 ≤ 4
theorem rstate3_s (s : R3) (hs : s.P.length ≤ 1000) (x : Int) :
    GSpec Try.prog 33 [.ptr 0 0, .int .i64 x] (rgH s) fun r ho => r = .int .i64 (stO s.P x) ∧ ho = rgH s := by
  refine .of_code tab_ok Try.func33 (by rfl) rfl ?_
  have hl : (s.P.map pkE).length = s.P.length := List.length_map ..
  by_cases h : 1 ≤ x ∧ x ≤ (s.P.length : Int)
  · have e : stO s.P x = (gp s.P (x.toNat - 1)).2.2.1 := if_pos h
    rw [e]
    conv => whnf
    refine both_f (by simp; omega) ?_
    conv => whnf
    refine both_f (by simp; omega) ?_
    conv => whnf
    refine ⟨by (exact pk_at hs h.1 h.2), ?_⟩
    conv => whnf
    (refine ⟨_, pk_ld hs h.1 h.2, ?_⟩)
    conv => whnf
    exact OutG.same ⟨rfl, rfl⟩
  · have e : stO s.P x = 0 := if_neg h
    rw [e]
    conv => whnf
    refine ⟨fun hh0 => ?_, fun hh0 => ?_⟩
    · simp only [decide_eq_true_eq, decide_eq_false_iff_not] at hh0
      conv => whnf
      exact OutG.same ⟨rfl, rfl⟩
    · simp only [decide_eq_true_eq, decide_eq_false_iff_not] at hh0
      conv => whnf
      refine both_t (by simp; omega) ?_
      conv => whnf
      exact OutG.same ⟨rfl, rfl⟩
def upR (r : Nat → Int) (f : Int) : Nat → Int := if f = 0 then lup r 0 (r 0 + 1) else if f = 1 then lup r 1 (r 1 + 1) else if f = 2 then lup r 2 (r 2 + 1) else r
theorem rrefuse3_s (s : R3) (f : Int) (hc : cOk s.r) (hf : fOk f ∨ f = -1 ∨ f = 32) :
    GSpec Try.prog 28 [.ptr 0 0, .int .i64 f] (rgH s) fun r ho => r = .int .i64 (fE f) ∧ ho = rgH { s with r := upR s.r f } := by
  refine .of_code tab_ok Try.func28 (by rfl) rfl ?_
  have b0 := cB hc 0
  have b1 := cB hc 1
  have b2 := cB hc 2
  rcases hf with (rfl | rfl | rfl) | rfl | rfl
  · conv => whnf
    refine CallG.of_code tab_ok Try.func75 (by rfl) rfl ?_
    conv => whnf
    refine both_t rfl ?_
    conv => whnf
    refine both_f rfl ?_
    conv => whnf
    refine DrawG.of mixed tab_ok ?_
    conv => whnf
    refine ⟨by omega, ?_⟩
    conv => whnf
    refine ⟨0, rfl, ?_⟩
    conv => whnf
    refine ⟨by omega, ?_⟩
    conv => whnf
    refine ⟨0, rfl, ?_⟩
    conv => whnf
    refine ⟨by kernel_rfl, ?_⟩
    conv => whnf
    (rw [b0]; exact OutG.same ⟨rfl, rfl⟩)
  · conv => whnf
    refine CallG.of_code tab_ok Try.func75 (by rfl) rfl ?_
    conv => whnf
    refine both_t rfl ?_
    conv => whnf
    refine both_f rfl ?_
    conv => whnf
    refine DrawG.of mixed tab_ok ?_
    conv => whnf
    refine ⟨by omega, ?_⟩
    conv => whnf
    refine ⟨1, rfl, ?_⟩
    conv => whnf
    refine ⟨by omega, ?_⟩
    conv => whnf
    refine ⟨1, rfl, ?_⟩
    conv => whnf
    refine ⟨by kernel_rfl, ?_⟩
    conv => whnf
    (rw [b1]; exact OutG.same ⟨rfl, rfl⟩)
  · conv => whnf
    refine CallG.of_code tab_ok Try.func75 (by rfl) rfl ?_
    conv => whnf
    refine both_t rfl ?_
    conv => whnf
    refine both_f rfl ?_
    conv => whnf
    refine DrawG.of mixed tab_ok ?_
    conv => whnf
    refine ⟨by omega, ?_⟩
    conv => whnf
    refine ⟨2, rfl, ?_⟩
    conv => whnf
    refine ⟨by omega, ?_⟩
    conv => whnf
    refine ⟨2, rfl, ?_⟩
    conv => whnf
    refine ⟨by kernel_rfl, ?_⟩
    conv => whnf
    (rw [b2]; exact OutG.same ⟨rfl, rfl⟩)
  · conv => whnf
    refine CallG.of_code tab_ok Try.func75 (by rfl) rfl ?_
    conv => whnf
    refine both_f rfl ?_
    conv => whnf
    exact OutG.same ⟨rfl, rfl⟩
  · conv => whnf
    refine CallG.of_code tab_ok Try.func75 (by rfl) rfl ?_
    conv => whnf
    refine both_t rfl ?_
    conv => whnf
    refine both_t rfl ?_
    conv => whnf
    exact OutG.same ⟨rfl, rfl⟩
theorem stO_in {P : List Pk} {x : Int} (h : inR P x) : stO P x = (gp P (x.toNat - 1)).2.2.1 := if_pos h
theorem stO_out {P : List Pk} {x : Int} (h : ¬ inR P x) : stO P x = 0 := if_neg h
theorem rsend3_s (s : R3) (hs : s.P.length ≤ 1000) (ht : stOk s.P) (x : Int) :
    GSpec Try.prog 69 [.ptr 0 0, .int .i64 x] (rgH s) fun r ho => r = .int .i64 (sndE s.P x) ∧ ho = rgH { s with P := sndP s.P x } := by
  refine .of_code tab_ok Try.func69 (by rfl) rfl ?_
  have hl : (s.P.map pkE).length = s.P.length := List.length_map ..
  conv => whnf
  refine (rstate3_s s hs x).call [0, 1, 2] (by rfl) (by repeat' (first | exact trivial | exact rfl | apply And.intro)) (by repeat' (first | exact trivial | exact rfl | apply And.intro)) ?_
  rintro _ _ ⟨rfl, rfl⟩
  by_cases h : inR s.P x
  · have k := h
    unfold inR at k
    rw [stO_in h]
    have h14 := ht _ (show x.toNat - 1 < s.P.length by omega)
    have hset := pk_set hs k.1 k.2 (putS (gp s.P (x.toNat - 1)) 2)
    by_cases hv : live s.P x
    · have e1 : sndE s.P x = 0 := by unfold sndE; rw [if_pos h, if_pos hv]
      have e2 : sndP s.P x = s.P.set (x.toNat - 1) (putS (gp s.P (x.toNat - 1)) 2) := if_pos ⟨h, hv⟩
      rw [e1, e2]
      rcases hv with hv | hv
      · conv => whnf
        refine ⟨fun hh0 => ?_, fun hh0 => ?_⟩
        · simp only [decide_eq_true_eq, decide_eq_false_iff_not] at hh0
          conv => whnf
          (simp; omega)
        · simp only [decide_eq_true_eq, decide_eq_false_iff_not] at hh0
          conv => whnf
          refine both_t (by (exact decide_eq_true hv)) ?_
          conv => whnf
          refine ⟨by (exact pk_at hs k.1 k.2), ?_⟩
          conv => whnf
          (refine ⟨_, pk_ld hs k.1 k.2, ?_⟩)
          conv => whnf
          (refine OutG.same ⟨rfl, ?_⟩; show [_, Blk.row _ _ _, _] = [_, Blk.row _ _ _, _]; rw [← hset]; rfl)
      · conv => whnf
        refine ⟨fun hh0 => ?_, fun hh0 => ?_⟩
        · simp only [decide_eq_true_eq, decide_eq_false_iff_not] at hh0
          conv => whnf
          (simp; omega)
        · simp only [decide_eq_true_eq, decide_eq_false_iff_not] at hh0
          conv => whnf
          refine ⟨fun hh1 => ?_, fun hh1 => ?_⟩
          · simp only [decide_eq_true_eq, decide_eq_false_iff_not] at hh1
            conv => whnf
            refine ⟨by omega, ?_⟩
            conv => whnf
            (refine ⟨_, pk_ld hs k.1 k.2, ?_⟩)
            conv => whnf
            (refine OutG.same ⟨rfl, ?_⟩; show [_, Blk.row _ _ _, _] = [_, Blk.row _ _ _, _]; rw [← hset]; rfl)
          · simp only [decide_eq_true_eq, decide_eq_false_iff_not] at hh1
            conv => whnf
            refine both_t (by (exact decide_eq_true hv)) ?_
            conv => whnf
            refine ⟨by (exact pk_at hs k.1 k.2), ?_⟩
            conv => whnf
            (refine ⟨_, pk_ld hs k.1 k.2, ?_⟩)
            conv => whnf
            (refine OutG.same ⟨rfl, ?_⟩; show [_, Blk.row _ _ _, _] = [_, Blk.row _ _ _, _]; rw [← hset]; rfl)
    · have e1 : sndE s.P x = 14 := by unfold sndE; rw [if_pos h, if_neg hv]
      have e2 : sndP s.P x = s.P := if_neg fun q => hv q.2
      rw [e1, e2]
      unfold live at hv
      have hv1 : ¬ (gp s.P (x.toNat - 1)).2.2.1 = 1 := fun q => hv (.inl q)
      have hv2 : ¬ (gp s.P (x.toNat - 1)).2.2.1 = 2 := fun q => hv (.inr q)
      conv => whnf
      refine both_f (by (exact decide_eq_false (by omega))) ?_
      conv => whnf
      refine both_f (by (exact decide_eq_false hv1)) ?_
      conv => whnf
      refine both_f (by (exact decide_eq_false hv2)) ?_
      conv => whnf
      exact OutG.same ⟨rfl, rfl⟩
  · have e1 : sndE s.P x = 6 := if_neg h
    have e2 : sndP s.P x = s.P := if_neg fun q => h q.1
    rw [e1, e2, stO_out h]
    conv => whnf
    refine both_t rfl ?_
    conv => whnf
    exact OutG.same ⟨rfl, rfl⟩
theorem rdrop3_s (s : R3) (hs : s.P.length ≤ 1000) (ht : stOk s.P) (x w : Int) :
    GSpec Try.prog 73 [.ptr 0 0, .int .i64 x, .int .i64 w] (rgH s) fun r ho => r = .int .i64 (drpE s.P x w) ∧ ho = rgH { s with P := drpP s.P x w } := by
  refine .of_code tab_ok Try.func73 (by rfl) rfl ?_
  have hl : (s.P.map pkE).length = s.P.length := List.length_map ..
  conv => whnf
  refine (rstate3_s s hs x).call [0, 1, 2] (by rfl) (by repeat' (first | exact trivial | exact rfl | apply And.intro)) (by repeat' (first | exact trivial | exact rfl | apply And.intro)) ?_
  rintro _ _ ⟨rfl, rfl⟩
  by_cases h : inR s.P x
  · have k := h
    unfold inR at k
    rw [stO_in h]
    have h14 := ht _ (show x.toNat - 1 < s.P.length by omega)
    have hil : (IntKind.i64.wrap (x - 1)).toNat < (s.P.map pkE).length := by have := pk_at hs k.1 k.2; omega
    have hset := pk_set hs k.1 k.2 (putW (gp s.P (x.toNat - 1)) 4 w)
    by_cases hw : 1 ≤ w ∧ w ≤ 4
    · by_cases hv : live s.P x
      · have e1 : drpE s.P x w = 0 := by unfold drpE; rw [if_pos h, if_pos hw, if_pos hv]
        have e2 : drpP s.P x w = s.P.set (x.toNat - 1) (putW (gp s.P (x.toNat - 1)) 4 w) := if_pos ⟨h, hw, hv⟩
        rw [e1, e2]
        rcases hv with hv | hv
        · conv => whnf
          refine ⟨fun hh0 => ?_, fun hh0 => ?_⟩
          · simp only [decide_eq_true_eq, decide_eq_false_iff_not] at hh0
            conv => whnf
            (simp; omega)
          · simp only [decide_eq_true_eq, decide_eq_false_iff_not] at hh0
            conv => whnf
            refine both_f (by simp; omega) ?_
            conv => whnf
            refine both_f (by simp; omega) ?_
            conv => whnf
            refine ⟨fun hh1 => ?_, fun hh1 => ?_⟩
            · simp only [decide_eq_true_eq, decide_eq_false_iff_not] at hh1
              conv => whnf
              refine both_t (by simp; omega) ?_
              conv => whnf
              (simp; omega)
            · simp only [decide_eq_true_eq, decide_eq_false_iff_not] at hh1
              conv => whnf
              refine DrawG.of mixed tab_ok ?_
              conv => whnf
              refine ⟨by (exact pk_at hs k.1 k.2), ?_⟩
              conv => whnf
              (refine ⟨_, pk_ld hs k.1 k.2, ?_⟩)
              conv => whnf
              refine ⟨by (rw [List.length_set]; exact pk_at hs k.1 k.2), ?_⟩
              conv => whnf
              (refine ⟨_, pk_gs hil, ?_⟩)
              conv => whnf
              refine ⟨by kernel_rfl, ?_⟩
              conv => whnf
              (refine OutG.same ⟨rfl, ?_⟩; show [_, Blk.row _ _ _, _] = [_, Blk.row _ _ _, _]; rw [← hset]; simp only [List.set_set]; rfl)
        · conv => whnf
          refine ⟨fun hh0 => ?_, fun hh0 => ?_⟩
          · simp only [decide_eq_true_eq, decide_eq_false_iff_not] at hh0
            conv => whnf
            (simp; omega)
          · simp only [decide_eq_true_eq, decide_eq_false_iff_not] at hh0
            conv => whnf
            refine both_f (by simp; omega) ?_
            conv => whnf
            refine both_f (by simp; omega) ?_
            conv => whnf
            refine ⟨fun hh1 => ?_, fun hh1 => ?_⟩
            · simp only [decide_eq_true_eq, decide_eq_false_iff_not] at hh1
              conv => whnf
              refine ⟨fun hh2 => ?_, fun hh2 => ?_⟩
              · simp only [decide_eq_true_eq, decide_eq_false_iff_not] at hh2
                conv => whnf
                (simp; omega)
              · simp only [decide_eq_true_eq, decide_eq_false_iff_not] at hh2
                conv => whnf
                refine DrawG.of mixed tab_ok ?_
                conv => whnf
                refine ⟨by (exact pk_at hs k.1 k.2), ?_⟩
                conv => whnf
                (refine ⟨_, pk_ld hs k.1 k.2, ?_⟩)
                conv => whnf
                refine ⟨by (rw [List.length_set]; exact pk_at hs k.1 k.2), ?_⟩
                conv => whnf
                (refine ⟨_, pk_gs hil, ?_⟩)
                conv => whnf
                refine ⟨by kernel_rfl, ?_⟩
                conv => whnf
                (refine OutG.same ⟨rfl, ?_⟩; show [_, Blk.row _ _ _, _] = [_, Blk.row _ _ _, _]; rw [← hset]; simp only [List.set_set]; rfl)
            · simp only [decide_eq_true_eq, decide_eq_false_iff_not] at hh1
              conv => whnf
              refine DrawG.of mixed tab_ok ?_
              conv => whnf
              refine ⟨by omega, ?_⟩
              conv => whnf
              (refine ⟨_, pk_ld hs k.1 k.2, ?_⟩)
              conv => whnf
              refine ⟨by omega, ?_⟩
              conv => whnf
              (refine ⟨_, pk_gs hil, ?_⟩)
              conv => whnf
              refine ⟨by kernel_rfl, ?_⟩
              conv => whnf
              (refine OutG.same ⟨rfl, ?_⟩; show [_, Blk.row _ _ _, _] = [_, Blk.row _ _ _, _]; rw [← hset]; simp only [List.set_set]; rfl)
      · have e1 : drpE s.P x w = 14 := by unfold drpE; rw [if_pos h, if_pos hw, if_neg hv]
        have e2 : drpP s.P x w = s.P := if_neg fun q => hv q.2.2
        rw [e1, e2]
        unfold live at hv
        have hv1 : ¬ (gp s.P (x.toNat - 1)).2.2.1 = 1 := fun q => hv (.inl q)
        have hv2 : ¬ (gp s.P (x.toNat - 1)).2.2.1 = 2 := fun q => hv (.inr q)
        conv => whnf
        refine both_f (by (exact decide_eq_false (by omega))) ?_
        conv => whnf
        refine both_f (by simp; omega) ?_
        conv => whnf
        refine both_f (by simp; omega) ?_
        conv => whnf
        refine both_t (by (exact decide_eq_true hv1)) ?_
        conv => whnf
        refine both_t (by (exact decide_eq_true hv2)) ?_
        conv => whnf
        exact OutG.same ⟨rfl, rfl⟩
    · have e1 : drpE s.P x w = 1 := by unfold drpE; rw [if_pos h, if_neg hw]
      have e2 : drpP s.P x w = s.P := if_neg fun q => hw q.2.1
      rw [e1, e2]
      by_cases hw1 : w < 1
      · conv => whnf
        refine both_f (by (exact decide_eq_false (by omega))) ?_
        conv => whnf
        refine both_t (by simp; omega) ?_
        conv => whnf
        exact OutG.same ⟨rfl, rfl⟩
      · conv => whnf
        refine both_f (by (exact decide_eq_false (by omega))) ?_
        conv => whnf
        refine both_f (by simp; omega) ?_
        conv => whnf
        refine both_t (by simp; omega) ?_
        conv => whnf
        exact OutG.same ⟨rfl, rfl⟩
  · have e1 : drpE s.P x w = 6 := if_neg h
    have e2 : drpP s.P x w = s.P := if_neg fun q => h q.1
    rw [e1, e2, stO_out h]
    conv => whnf
    refine both_t rfl ?_
    conv => whnf
    exact OutG.same ⟨rfl, rfl⟩
set_option maxHeartbeats 2000000 in
theorem raccept3_s (s : R3) (hs : s.P.length ≤ 900) (f l : Int) (hf : fOk f ∨ f = -1 ∨ f = 32) :
    GSpec Try.prog 67 [.ptr 0 0, .int .i64 f, .int .i64 l] (rgH s) fun r ho => (aOk f l ∧ r = .tup [.int .i64 ((s.P.length + 1 : Nat) : Int), .int .i64 0] ∧ ho = [rgT 3 2 s.r, .dead, lgO s.D, rgP (s.P ++ [(f, l, 1, 0)])]) ∨
      (¬ aOk f l ∧ r = .tup [.int .i64 0, .int .i64 1] ∧ ho = rgH s ++ [.dead]) := by
  refine .of_code tab_ok Try.func67 (by rfl) rfl ?_
  have hl : (s.P.map pkE).length = s.P.length := List.length_map ..
  by_cases hw : 1 ≤ l ∧ l ≤ 4096
  · rcases hf with (rfl | rfl | rfl) | rfl | rfl
    · conv => whnf
      refine CallG.of_code tab_ok Try.func75 (by rfl) rfl ?_
      conv => whnf
      refine both_t rfl ?_
      conv => whnf
      refine both_f rfl ?_
      conv => whnf
      refine both_f (by simp; omega) ?_
      conv => whnf
      refine both_f (by simp; omega) ?_
      conv => whnf
      refine both_f (by simp; omega) ?_
      conv => whnf
      refine ⟨by simp; omega, ?_⟩
      conv => whnf
      (refine OutG.of [some 0, some 1, some 2, some 4] _ _ (by rfl) (.inl ⟨⟨by (unfold fOk; decide), hw⟩, rfl, rfl⟩) ?_; (conv => whnf); (repeat (first | exact trivial | (refine ⟨rfl, ?_⟩; (conv => whnf)) | (refine ⟨nums_app, ?_⟩; (conv => whnf)) | (refine ⟨(by simp), ?_⟩; (conv => whnf)))); done)
    · conv => whnf
      refine CallG.of_code tab_ok Try.func75 (by rfl) rfl ?_
      conv => whnf
      refine both_t rfl ?_
      conv => whnf
      refine both_f rfl ?_
      conv => whnf
      refine both_f (by simp; omega) ?_
      conv => whnf
      refine both_f (by simp; omega) ?_
      conv => whnf
      refine both_f (by simp; omega) ?_
      conv => whnf
      refine ⟨by simp; omega, ?_⟩
      conv => whnf
      (refine OutG.of [some 0, some 1, some 2, some 4] _ _ (by rfl) (.inl ⟨⟨by (unfold fOk; decide), hw⟩, rfl, rfl⟩) ?_; (conv => whnf); (repeat (first | exact trivial | (refine ⟨rfl, ?_⟩; (conv => whnf)) | (refine ⟨nums_app, ?_⟩; (conv => whnf)) | (refine ⟨(by simp), ?_⟩; (conv => whnf)))); done)
    · conv => whnf
      refine CallG.of_code tab_ok Try.func75 (by rfl) rfl ?_
      conv => whnf
      refine both_t rfl ?_
      conv => whnf
      refine both_f rfl ?_
      conv => whnf
      refine both_f (by simp; omega) ?_
      conv => whnf
      refine both_f (by simp; omega) ?_
      conv => whnf
      refine both_f (by simp; omega) ?_
      conv => whnf
      refine ⟨by simp; omega, ?_⟩
      conv => whnf
      (refine OutG.of [some 0, some 1, some 2, some 4] _ _ (by rfl) (.inl ⟨⟨by (unfold fOk; decide), hw⟩, rfl, rfl⟩) ?_; (conv => whnf); (repeat (first | exact trivial | (refine ⟨rfl, ?_⟩; (conv => whnf)) | (refine ⟨nums_app, ?_⟩; (conv => whnf)) | (refine ⟨(by simp), ?_⟩; (conv => whnf)))); done)
    · conv => whnf
      refine CallG.of_code tab_ok Try.func75 (by rfl) rfl ?_
      conv => whnf
      refine both_f rfl ?_
      conv => whnf
      (refine OutG.of [some 0, some 1, some 2, none] _ _ (by rfl) (.inr ⟨(fun q => by (unfold aOk fOk at q; omega)), rfl, rfl⟩) ?_; (conv => whnf); (repeat (first | exact trivial | (refine ⟨rfl, ?_⟩; (conv => whnf)) | (refine ⟨nums_app, ?_⟩; (conv => whnf)) | (refine ⟨(by simp), ?_⟩; (conv => whnf)))); done)
    · conv => whnf
      refine CallG.of_code tab_ok Try.func75 (by rfl) rfl ?_
      conv => whnf
      refine both_t rfl ?_
      conv => whnf
      refine both_t rfl ?_
      conv => whnf
      (refine OutG.of [some 0, some 1, some 2, none] _ _ (by rfl) (.inr ⟨(fun q => by (unfold aOk fOk at q; omega)), rfl, rfl⟩) ?_; (conv => whnf); (repeat (first | exact trivial | (refine ⟨rfl, ?_⟩; (conv => whnf)) | (refine ⟨nums_app, ?_⟩; (conv => whnf)) | (refine ⟨(by simp), ?_⟩; (conv => whnf)))); done)
  · by_cases hw1 : l < 1
    · rcases hf with (rfl | rfl | rfl) | rfl | rfl
      · conv => whnf
        refine CallG.of_code tab_ok Try.func75 (by rfl) rfl ?_
        conv => whnf
        refine both_t rfl ?_
        conv => whnf
        refine both_f rfl ?_
        conv => whnf
        refine both_t (by simp; omega) ?_
        conv => whnf
        (refine OutG.of [some 0, some 1, some 2, none] _ _ (by rfl) (.inr ⟨(fun q => by (unfold aOk fOk at q; omega)), rfl, rfl⟩) ?_; (conv => whnf); (repeat (first | exact trivial | (refine ⟨rfl, ?_⟩; (conv => whnf)) | (refine ⟨nums_app, ?_⟩; (conv => whnf)) | (refine ⟨(by simp), ?_⟩; (conv => whnf)))); done)
      · conv => whnf
        refine CallG.of_code tab_ok Try.func75 (by rfl) rfl ?_
        conv => whnf
        refine both_t rfl ?_
        conv => whnf
        refine both_f rfl ?_
        conv => whnf
        refine both_t (by simp; omega) ?_
        conv => whnf
        (refine OutG.of [some 0, some 1, some 2, none] _ _ (by rfl) (.inr ⟨(fun q => by (unfold aOk fOk at q; omega)), rfl, rfl⟩) ?_; (conv => whnf); (repeat (first | exact trivial | (refine ⟨rfl, ?_⟩; (conv => whnf)) | (refine ⟨nums_app, ?_⟩; (conv => whnf)) | (refine ⟨(by simp), ?_⟩; (conv => whnf)))); done)
      · conv => whnf
        refine CallG.of_code tab_ok Try.func75 (by rfl) rfl ?_
        conv => whnf
        refine both_t rfl ?_
        conv => whnf
        refine both_f rfl ?_
        conv => whnf
        refine both_t (by simp; omega) ?_
        conv => whnf
        (refine OutG.of [some 0, some 1, some 2, none] _ _ (by rfl) (.inr ⟨(fun q => by (unfold aOk fOk at q; omega)), rfl, rfl⟩) ?_; (conv => whnf); (repeat (first | exact trivial | (refine ⟨rfl, ?_⟩; (conv => whnf)) | (refine ⟨nums_app, ?_⟩; (conv => whnf)) | (refine ⟨(by simp), ?_⟩; (conv => whnf)))); done)
      · conv => whnf
        refine CallG.of_code tab_ok Try.func75 (by rfl) rfl ?_
        conv => whnf
        refine both_f rfl ?_
        conv => whnf
        (refine OutG.of [some 0, some 1, some 2, none] _ _ (by rfl) (.inr ⟨(fun q => by (unfold aOk fOk at q; omega)), rfl, rfl⟩) ?_; (conv => whnf); (repeat (first | exact trivial | (refine ⟨rfl, ?_⟩; (conv => whnf)) | (refine ⟨nums_app, ?_⟩; (conv => whnf)) | (refine ⟨(by simp), ?_⟩; (conv => whnf)))); done)
      · conv => whnf
        refine CallG.of_code tab_ok Try.func75 (by rfl) rfl ?_
        conv => whnf
        refine both_t rfl ?_
        conv => whnf
        refine both_t rfl ?_
        conv => whnf
        (refine OutG.of [some 0, some 1, some 2, none] _ _ (by rfl) (.inr ⟨(fun q => by (unfold aOk fOk at q; omega)), rfl, rfl⟩) ?_; (conv => whnf); (repeat (first | exact trivial | (refine ⟨rfl, ?_⟩; (conv => whnf)) | (refine ⟨nums_app, ?_⟩; (conv => whnf)) | (refine ⟨(by simp), ?_⟩; (conv => whnf)))); done)
    · rcases hf with (rfl | rfl | rfl) | rfl | rfl
      · conv => whnf
        refine CallG.of_code tab_ok Try.func75 (by rfl) rfl ?_
        conv => whnf
        refine both_t rfl ?_
        conv => whnf
        refine both_f rfl ?_
        conv => whnf
        refine both_f (by simp; omega) ?_
        conv => whnf
        refine both_t (by simp; omega) ?_
        conv => whnf
        (refine OutG.of [some 0, some 1, some 2, none] _ _ (by rfl) (.inr ⟨(fun q => by (unfold aOk fOk at q; omega)), rfl, rfl⟩) ?_; (conv => whnf); (repeat (first | exact trivial | (refine ⟨rfl, ?_⟩; (conv => whnf)) | (refine ⟨nums_app, ?_⟩; (conv => whnf)) | (refine ⟨(by simp), ?_⟩; (conv => whnf)))); done)
      · conv => whnf
        refine CallG.of_code tab_ok Try.func75 (by rfl) rfl ?_
        conv => whnf
        refine both_t rfl ?_
        conv => whnf
        refine both_f rfl ?_
        conv => whnf
        refine both_f (by simp; omega) ?_
        conv => whnf
        refine both_t (by simp; omega) ?_
        conv => whnf
        (refine OutG.of [some 0, some 1, some 2, none] _ _ (by rfl) (.inr ⟨(fun q => by (unfold aOk fOk at q; omega)), rfl, rfl⟩) ?_; (conv => whnf); (repeat (first | exact trivial | (refine ⟨rfl, ?_⟩; (conv => whnf)) | (refine ⟨nums_app, ?_⟩; (conv => whnf)) | (refine ⟨(by simp), ?_⟩; (conv => whnf)))); done)
      · conv => whnf
        refine CallG.of_code tab_ok Try.func75 (by rfl) rfl ?_
        conv => whnf
        refine both_t rfl ?_
        conv => whnf
        refine both_f rfl ?_
        conv => whnf
        refine both_f (by simp; omega) ?_
        conv => whnf
        refine both_t (by simp; omega) ?_
        conv => whnf
        (refine OutG.of [some 0, some 1, some 2, none] _ _ (by rfl) (.inr ⟨(fun q => by (unfold aOk fOk at q; omega)), rfl, rfl⟩) ?_; (conv => whnf); (repeat (first | exact trivial | (refine ⟨rfl, ?_⟩; (conv => whnf)) | (refine ⟨nums_app, ?_⟩; (conv => whnf)) | (refine ⟨(by simp), ?_⟩; (conv => whnf)))); done)
      · conv => whnf
        refine CallG.of_code tab_ok Try.func75 (by rfl) rfl ?_
        conv => whnf
        refine both_f rfl ?_
        conv => whnf
        (refine OutG.of [some 0, some 1, some 2, none] _ _ (by rfl) (.inr ⟨(fun q => by (unfold aOk fOk at q; omega)), rfl, rfl⟩) ?_; (conv => whnf); (repeat (first | exact trivial | (refine ⟨rfl, ?_⟩; (conv => whnf)) | (refine ⟨nums_app, ?_⟩; (conv => whnf)) | (refine ⟨(by simp), ?_⟩; (conv => whnf)))); done)
      · conv => whnf
        refine CallG.of_code tab_ok Try.func75 (by rfl) rfl ?_
        conv => whnf
        refine both_t rfl ?_
        conv => whnf
        refine both_t rfl ?_
        conv => whnf
        (refine OutG.of [some 0, some 1, some 2, none] _ _ (by rfl) (.inr ⟨(fun q => by (unfold aOk fOk at q; omega)), rfl, rfl⟩) ?_; (conv => whnf); (repeat (first | exact trivial | (refine ⟨rfl, ?_⟩; (conv => whnf)) | (refine ⟨nums_app, ?_⟩; (conv => whnf)) | (refine ⟨(by simp), ?_⟩; (conv => whnf)))); done)
end Go.Proofs.Ytdommpfnoiemkaa

/- Chapter 18: drops and counts in tables of three flows. -/
import Derived.Test.YtdommpfnoiemkaaLfA
namespace Go.Proofs.Ytdommpfnoiemkaa
open Go.Sx
set_option linter.unusedSimpArgs false
set_option linter.unusedVariables false
def drpP (P : List Pk) (x w : Int) : List Pk := if inR P x ∧ (1 ≤ w ∧ w ≤ 4) ∧ live P x then P.set (x.toNat - 1) (putW (gp P (x.toNat - 1)) 4 w) else P
def drpC (P : List Pk) (c : Nat → Int) (x w : Int) : Nat → Int := if inR P x ∧ (1 ≤ w ∧ w ≤ 4) ∧ live P x then upC c (gp P (x.toNat - 1)).1 3 1 else c
def drpE (P : List Pk) (x w : Int) : Int := if inR P x then (if 1 ≤ w ∧ w ≤ 4 then (if live P x then 0 else 14) else 1) else 6
def flOk (P : List Pk) : Prop := ∀ i, i < P.length → fOk (gp P i).1
theorem pk_gs {R : List (List SV)} {i : Nat} {e : List SV} (h : i < R.length) : (R.set i e)[i]? = some e := by rw [List.getElem?_set, if_pos rfl, if_pos h]
set_option maxHeartbeats 2000000 in
theorem drop3_s (s : L3) (hs : s.P.length ≤ 1000) (hf : flOk s.P) (hc : cOk s.c) (x w : Int) :
    GSpec Try.prog 72 [.ptr 0 0, .int .i64 x, .int .i64 w] (lgH s) fun r ho => r = .int .i64 (drpE s.P x w) ∧ ho = lgH { s with P := drpP s.P x w, c := drpC s.P s.c x w } := by
  refine .of_code tab_ok Try.func72 (by rfl) rfl ?_
  have hl : (s.P.map pkE).length = s.P.length := List.length_map ..
  by_cases h : inR s.P x
  · have k := h
    unfold inR at k
    have hil : (IntKind.i64.wrap (x - 1)).toNat < (s.P.map pkE).length := by have := pk_at hs k.1 k.2; omega
    have hset := pk_set hs k.1 k.2 (putW (gp s.P (x.toNat - 1)) 4 w)
    by_cases hw : 1 ≤ w ∧ w ≤ 4
    · by_cases hv : live s.P x
      · have e1 : drpE s.P x w = 0 := by unfold drpE; rw [if_pos h, if_pos hw, if_pos hv]
        have e2 : drpP s.P x w = s.P.set (x.toNat - 1) (putW (gp s.P (x.toNat - 1)) 4 w) := if_pos ⟨h, hw, hv⟩
        have e3 : drpC s.P s.c x w = upC s.c (gp s.P (x.toNat - 1)).1 3 1 := if_pos ⟨h, hw, hv⟩
        rw [e1, e2]
        have b3 := cB hc 3
        have b9 := cB hc 9
        have b15 := cB hc 15
        rcases hf _ (show x.toNat - 1 < s.P.length by omega) with hg | hg | hg
        · rw [hg] at e3
          rw [e3]
          rcases hv with hv | hv
          · conv => whnf
            refine CallG.of_code tab_ok Try.func76 (by rfl) rfl ?_
            conv => whnf
            refine both_f (by simp; omega) ?_
            conv => whnf
            refine both_f (by simp; omega) ?_
            conv => whnf
            refine ⟨by (exact pk_at hs k.1 k.2), ?_⟩
            conv => whnf
            refine both_f (by simp; omega) ?_
            conv => whnf
            refine both_f (by simp; omega) ?_
            conv => whnf
            (refine ⟨_, pk_ld hs k.1 k.2, ?_⟩)
            conv => whnf
            refine ⟨fun hh1 => ?_, fun hh1 => ?_⟩
            · simp only [decide_eq_true_eq, decide_eq_false_iff_not] at hh1
              conv => whnf
              (refine ⟨_, pk_ld hs k.1 k.2, ?_⟩)
              conv => whnf
              refine both_t (by simp; omega) ?_
              conv => whnf
              (simp; omega)
            · simp only [decide_eq_true_eq, decide_eq_false_iff_not] at hh1
              conv => whnf
              (refine ⟨_, pk_ld hs k.1 k.2, ?_⟩)
              conv => whnf
              (refine ⟨_, pk_gs hil, ?_⟩)
              conv => whnf
              refine DrawG.of mixed tab_ok ?_
              conv => whnf
              (refine ⟨_, pk_gs (by rw [List.length_set]; exact hil), ?_⟩)
              conv => whnf
              refine ⟨by omega, ?_⟩
              conv => whnf
              (refine ⟨0, hg, ?_⟩)
              conv => whnf
              refine ⟨by omega, ?_⟩
              conv => whnf
              (refine ⟨0, hg, ?_⟩)
              conv => whnf
              refine ⟨by kernel_rfl, ?_⟩
              conv => whnf
              (rw [b3]; refine OutG.same ⟨rfl, ?_⟩; show [_, Blk.row _ _ _, _, _, _] = [_, Blk.row _ _ _, _, _, _]; rw [← hset]; simp only [List.set_set]; rfl)
          · conv => whnf
            refine CallG.of_code tab_ok Try.func76 (by rfl) rfl ?_
            conv => whnf
            refine both_f (by simp; omega) ?_
            conv => whnf
            refine both_f (by simp; omega) ?_
            conv => whnf
            refine ⟨by (exact pk_at hs k.1 k.2), ?_⟩
            conv => whnf
            refine both_f (by simp; omega) ?_
            conv => whnf
            refine both_f (by simp; omega) ?_
            conv => whnf
            (refine ⟨_, pk_ld hs k.1 k.2, ?_⟩)
            conv => whnf
            refine ⟨fun hh1 => ?_, fun hh1 => ?_⟩
            · simp only [decide_eq_true_eq, decide_eq_false_iff_not] at hh1
              conv => whnf
              (refine ⟨_, pk_ld hs k.1 k.2, ?_⟩)
              conv => whnf
              refine ⟨fun hh3 => ?_, fun hh3 => ?_⟩
              · simp only [decide_eq_true_eq, decide_eq_false_iff_not] at hh3
                conv => whnf
                (simp; omega)
              · simp only [decide_eq_true_eq, decide_eq_false_iff_not] at hh3
                conv => whnf
                (refine ⟨_, pk_ld hs k.1 k.2, ?_⟩)
                conv => whnf
                (refine ⟨_, pk_gs hil, ?_⟩)
                conv => whnf
                refine DrawG.of mixed tab_ok ?_
                conv => whnf
                (refine ⟨_, pk_gs (by rw [List.length_set]; exact hil), ?_⟩)
                conv => whnf
                refine ⟨by omega, ?_⟩
                conv => whnf
                (refine ⟨0, hg, ?_⟩)
                conv => whnf
                refine ⟨by omega, ?_⟩
                conv => whnf
                (refine ⟨0, hg, ?_⟩)
                conv => whnf
                refine ⟨by kernel_rfl, ?_⟩
                conv => whnf
                (rw [b3]; refine OutG.same ⟨rfl, ?_⟩; show [_, Blk.row _ _ _, _, _, _] = [_, Blk.row _ _ _, _, _, _]; rw [← hset]; simp only [List.set_set]; rfl)
            · simp only [decide_eq_true_eq, decide_eq_false_iff_not] at hh1
              conv => whnf
              (refine ⟨_, pk_ld hs k.1 k.2, ?_⟩)
              conv => whnf
              (refine ⟨_, pk_gs hil, ?_⟩)
              conv => whnf
              refine DrawG.of mixed tab_ok ?_
              conv => whnf
              (refine ⟨_, pk_gs (by rw [List.length_set]; exact hil), ?_⟩)
              conv => whnf
              refine ⟨by omega, ?_⟩
              conv => whnf
              (refine ⟨0, hg, ?_⟩)
              conv => whnf
              refine ⟨by omega, ?_⟩
              conv => whnf
              (refine ⟨0, hg, ?_⟩)
              conv => whnf
              refine ⟨by kernel_rfl, ?_⟩
              conv => whnf
              (rw [b3]; refine OutG.same ⟨rfl, ?_⟩; show [_, Blk.row _ _ _, _, _, _] = [_, Blk.row _ _ _, _, _, _]; rw [← hset]; simp only [List.set_set]; rfl)
        · rw [hg] at e3
          rw [e3]
          rcases hv with hv | hv
          · conv => whnf
            refine CallG.of_code tab_ok Try.func76 (by rfl) rfl ?_
            conv => whnf
            refine both_f (by simp; omega) ?_
            conv => whnf
            refine both_f (by simp; omega) ?_
            conv => whnf
            refine ⟨by (exact pk_at hs k.1 k.2), ?_⟩
            conv => whnf
            refine both_f (by simp; omega) ?_
            conv => whnf
            refine both_f (by simp; omega) ?_
            conv => whnf
            (refine ⟨_, pk_ld hs k.1 k.2, ?_⟩)
            conv => whnf
            refine ⟨fun hh1 => ?_, fun hh1 => ?_⟩
            · simp only [decide_eq_true_eq, decide_eq_false_iff_not] at hh1
              conv => whnf
              (refine ⟨_, pk_ld hs k.1 k.2, ?_⟩)
              conv => whnf
              refine both_t (by simp; omega) ?_
              conv => whnf
              (simp; omega)
            · simp only [decide_eq_true_eq, decide_eq_false_iff_not] at hh1
              conv => whnf
              (refine ⟨_, pk_ld hs k.1 k.2, ?_⟩)
              conv => whnf
              (refine ⟨_, pk_gs hil, ?_⟩)
              conv => whnf
              refine DrawG.of mixed tab_ok ?_
              conv => whnf
              (refine ⟨_, pk_gs (by rw [List.length_set]; exact hil), ?_⟩)
              conv => whnf
              refine ⟨by omega, ?_⟩
              conv => whnf
              (refine ⟨1, hg, ?_⟩)
              conv => whnf
              refine ⟨by omega, ?_⟩
              conv => whnf
              (refine ⟨1, hg, ?_⟩)
              conv => whnf
              refine ⟨by kernel_rfl, ?_⟩
              conv => whnf
              (rw [b9]; refine OutG.same ⟨rfl, ?_⟩; show [_, Blk.row _ _ _, _, _, _] = [_, Blk.row _ _ _, _, _, _]; rw [← hset]; simp only [List.set_set]; rfl)
          · conv => whnf
            refine CallG.of_code tab_ok Try.func76 (by rfl) rfl ?_
            conv => whnf
            refine both_f (by simp; omega) ?_
            conv => whnf
            refine both_f (by simp; omega) ?_
            conv => whnf
            refine ⟨by (exact pk_at hs k.1 k.2), ?_⟩
            conv => whnf
            refine both_f (by simp; omega) ?_
            conv => whnf
            refine both_f (by simp; omega) ?_
            conv => whnf
            (refine ⟨_, pk_ld hs k.1 k.2, ?_⟩)
            conv => whnf
            refine ⟨fun hh1 => ?_, fun hh1 => ?_⟩
            · simp only [decide_eq_true_eq, decide_eq_false_iff_not] at hh1
              conv => whnf
              (refine ⟨_, pk_ld hs k.1 k.2, ?_⟩)
              conv => whnf
              refine ⟨fun hh3 => ?_, fun hh3 => ?_⟩
              · simp only [decide_eq_true_eq, decide_eq_false_iff_not] at hh3
                conv => whnf
                (simp; omega)
              · simp only [decide_eq_true_eq, decide_eq_false_iff_not] at hh3
                conv => whnf
                (refine ⟨_, pk_ld hs k.1 k.2, ?_⟩)
                conv => whnf
                (refine ⟨_, pk_gs hil, ?_⟩)
                conv => whnf
                refine DrawG.of mixed tab_ok ?_
                conv => whnf
                (refine ⟨_, pk_gs (by rw [List.length_set]; exact hil), ?_⟩)
                conv => whnf
                refine ⟨by omega, ?_⟩
                conv => whnf
                (refine ⟨1, hg, ?_⟩)
                conv => whnf
                refine ⟨by omega, ?_⟩
                conv => whnf
                (refine ⟨1, hg, ?_⟩)
                conv => whnf
                refine ⟨by kernel_rfl, ?_⟩
                conv => whnf
                (rw [b9]; refine OutG.same ⟨rfl, ?_⟩; show [_, Blk.row _ _ _, _, _, _] = [_, Blk.row _ _ _, _, _, _]; rw [← hset]; simp only [List.set_set]; rfl)
            · simp only [decide_eq_true_eq, decide_eq_false_iff_not] at hh1
              conv => whnf
              (refine ⟨_, pk_ld hs k.1 k.2, ?_⟩)
              conv => whnf
              (refine ⟨_, pk_gs hil, ?_⟩)
              conv => whnf
              refine DrawG.of mixed tab_ok ?_
              conv => whnf
              (refine ⟨_, pk_gs (by rw [List.length_set]; exact hil), ?_⟩)
              conv => whnf
              refine ⟨by omega, ?_⟩
              conv => whnf
              (refine ⟨1, hg, ?_⟩)
              conv => whnf
              refine ⟨by omega, ?_⟩
              conv => whnf
              (refine ⟨1, hg, ?_⟩)
              conv => whnf
              refine ⟨by kernel_rfl, ?_⟩
              conv => whnf
              (rw [b9]; refine OutG.same ⟨rfl, ?_⟩; show [_, Blk.row _ _ _, _, _, _] = [_, Blk.row _ _ _, _, _, _]; rw [← hset]; simp only [List.set_set]; rfl)
        · rw [hg] at e3
          rw [e3]
          rcases hv with hv | hv
          · conv => whnf
            refine CallG.of_code tab_ok Try.func76 (by rfl) rfl ?_
            conv => whnf
            refine both_f (by simp; omega) ?_
            conv => whnf
            refine both_f (by simp; omega) ?_
            conv => whnf
            refine ⟨by (exact pk_at hs k.1 k.2), ?_⟩
            conv => whnf
            refine both_f (by simp; omega) ?_
            conv => whnf
            refine both_f (by simp; omega) ?_
            conv => whnf
            (refine ⟨_, pk_ld hs k.1 k.2, ?_⟩)
            conv => whnf
            refine ⟨fun hh1 => ?_, fun hh1 => ?_⟩
            · simp only [decide_eq_true_eq, decide_eq_false_iff_not] at hh1
              conv => whnf
              (refine ⟨_, pk_ld hs k.1 k.2, ?_⟩)
              conv => whnf
              refine both_t (by simp; omega) ?_
              conv => whnf
              (simp; omega)
            · simp only [decide_eq_true_eq, decide_eq_false_iff_not] at hh1
              conv => whnf
              (refine ⟨_, pk_ld hs k.1 k.2, ?_⟩)
              conv => whnf
              (refine ⟨_, pk_gs hil, ?_⟩)
              conv => whnf
              refine DrawG.of mixed tab_ok ?_
              conv => whnf
              (refine ⟨_, pk_gs (by rw [List.length_set]; exact hil), ?_⟩)
              conv => whnf
              refine ⟨by omega, ?_⟩
              conv => whnf
              (refine ⟨2, hg, ?_⟩)
              conv => whnf
              refine ⟨by omega, ?_⟩
              conv => whnf
              (refine ⟨2, hg, ?_⟩)
              conv => whnf
              refine ⟨by kernel_rfl, ?_⟩
              conv => whnf
              (rw [b15]; refine OutG.same ⟨rfl, ?_⟩; show [_, Blk.row _ _ _, _, _, _] = [_, Blk.row _ _ _, _, _, _]; rw [← hset]; simp only [List.set_set]; rfl)
          · conv => whnf
            refine CallG.of_code tab_ok Try.func76 (by rfl) rfl ?_
            conv => whnf
            refine both_f (by simp; omega) ?_
            conv => whnf
            refine both_f (by simp; omega) ?_
            conv => whnf
            refine ⟨by (exact pk_at hs k.1 k.2), ?_⟩
            conv => whnf
            refine both_f (by simp; omega) ?_
            conv => whnf
            refine both_f (by simp; omega) ?_
            conv => whnf
            (refine ⟨_, pk_ld hs k.1 k.2, ?_⟩)
            conv => whnf
            refine ⟨fun hh1 => ?_, fun hh1 => ?_⟩
            · simp only [decide_eq_true_eq, decide_eq_false_iff_not] at hh1
              conv => whnf
              (refine ⟨_, pk_ld hs k.1 k.2, ?_⟩)
              conv => whnf
              refine ⟨fun hh3 => ?_, fun hh3 => ?_⟩
              · simp only [decide_eq_true_eq, decide_eq_false_iff_not] at hh3
                conv => whnf
                (simp; omega)
              · simp only [decide_eq_true_eq, decide_eq_false_iff_not] at hh3
                conv => whnf
                (refine ⟨_, pk_ld hs k.1 k.2, ?_⟩)
                conv => whnf
                (refine ⟨_, pk_gs hil, ?_⟩)
                conv => whnf
                refine DrawG.of mixed tab_ok ?_
                conv => whnf
                (refine ⟨_, pk_gs (by rw [List.length_set]; exact hil), ?_⟩)
                conv => whnf
                refine ⟨by omega, ?_⟩
                conv => whnf
                (refine ⟨2, hg, ?_⟩)
                conv => whnf
                refine ⟨by omega, ?_⟩
                conv => whnf
                (refine ⟨2, hg, ?_⟩)
                conv => whnf
                refine ⟨by kernel_rfl, ?_⟩
                conv => whnf
                (rw [b15]; refine OutG.same ⟨rfl, ?_⟩; show [_, Blk.row _ _ _, _, _, _] = [_, Blk.row _ _ _, _, _, _]; rw [← hset]; simp only [List.set_set]; rfl)
            · simp only [decide_eq_true_eq, decide_eq_false_iff_not] at hh1
              conv => whnf
              (refine ⟨_, pk_ld hs k.1 k.2, ?_⟩)
              conv => whnf
              (refine ⟨_, pk_gs hil, ?_⟩)
              conv => whnf
              refine DrawG.of mixed tab_ok ?_
              conv => whnf
              (refine ⟨_, pk_gs (by rw [List.length_set]; exact hil), ?_⟩)
              conv => whnf
              refine ⟨by omega, ?_⟩
              conv => whnf
              (refine ⟨2, hg, ?_⟩)
              conv => whnf
              refine ⟨by omega, ?_⟩
              conv => whnf
              (refine ⟨2, hg, ?_⟩)
              conv => whnf
              refine ⟨by kernel_rfl, ?_⟩
              conv => whnf
              (rw [b15]; refine OutG.same ⟨rfl, ?_⟩; show [_, Blk.row _ _ _, _, _, _] = [_, Blk.row _ _ _, _, _, _]; rw [← hset]; simp only [List.set_set]; rfl)
      · have e1 : drpE s.P x w = 14 := by unfold drpE; rw [if_pos h, if_pos hw, if_neg hv]
        have e2 : drpP s.P x w = s.P := if_neg fun q => hv q.2.2
        have e3 : drpC s.P s.c x w = s.c := if_neg fun q => hv q.2.2
        rw [e1, e2, e3]
        unfold live at hv
        have hv1 : ¬ (gp s.P (x.toNat - 1)).2.2.1 = 1 := fun q => hv (.inl q)
        have hv2 : ¬ (gp s.P (x.toNat - 1)).2.2.1 = 2 := fun q => hv (.inr q)
        conv => whnf
        refine CallG.of_code tab_ok Try.func76 (by rfl) rfl ?_
        conv => whnf
        refine both_f (by simp; omega) ?_
        conv => whnf
        refine both_f (by simp; omega) ?_
        conv => whnf
        refine ⟨by (exact pk_at hs k.1 k.2), ?_⟩
        conv => whnf
        refine both_f (by simp; omega) ?_
        conv => whnf
        refine both_f (by simp; omega) ?_
        conv => whnf
        (refine ⟨_, pk_ld hs k.1 k.2, ?_⟩)
        conv => whnf
        refine both_t (by (exact decide_eq_true hv1)) ?_
        conv => whnf
        (refine ⟨_, pk_ld hs k.1 k.2, ?_⟩)
        conv => whnf
        refine both_t (by (exact decide_eq_true hv2)) ?_
        conv => whnf
        exact OutG.same ⟨rfl, rfl⟩
    · have e1 : drpE s.P x w = 1 := by unfold drpE; rw [if_pos h, if_neg hw]
      have e2 : drpP s.P x w = s.P := if_neg fun q => hw q.2.1
      have e3 : drpC s.P s.c x w = s.c := if_neg fun q => hw q.2.1
      rw [e1, e2, e3]
      by_cases hw1 : w < 1
      · conv => whnf
        refine CallG.of_code tab_ok Try.func76 (by rfl) rfl ?_
        conv => whnf
        refine both_f (by simp; omega) ?_
        conv => whnf
        refine both_f (by simp; omega) ?_
        conv => whnf
        refine ⟨by (exact pk_at hs k.1 k.2), ?_⟩
        conv => whnf
        refine both_t (by simp; omega) ?_
        conv => whnf
        exact OutG.same ⟨rfl, rfl⟩
      · conv => whnf
        refine CallG.of_code tab_ok Try.func76 (by rfl) rfl ?_
        conv => whnf
        refine both_f (by simp; omega) ?_
        conv => whnf
        refine both_f (by simp; omega) ?_
        conv => whnf
        refine ⟨by (exact pk_at hs k.1 k.2), ?_⟩
        conv => whnf
        refine both_f (by simp; omega) ?_
        conv => whnf
        refine both_t (by simp; omega) ?_
        conv => whnf
        exact OutG.same ⟨rfl, rfl⟩
  · have e1 : drpE s.P x w = 6 := if_neg h
    have e2 : drpP s.P x w = s.P := if_neg fun q => h q.1
    have e3 : drpC s.P s.c x w = s.c := if_neg fun q => h q.1
    rw [e1, e2, e3]
    unfold inR at h
    conv => whnf
    refine CallG.of_code tab_ok Try.func76 (by rfl) rfl ?_
    conv => whnf
    refine ⟨fun hh0 => ?_, fun hh0 => ?_⟩
    · simp only [decide_eq_true_eq, decide_eq_false_iff_not] at hh0
      conv => whnf
      exact OutG.same ⟨rfl, rfl⟩
    · simp only [decide_eq_true_eq, decide_eq_false_iff_not] at hh0
      conv => whnf
      refine both_t (by simp; omega) ?_
      conv => whnf
      exact OutG.same ⟨rfl, rfl⟩
def stR (c : Nat → Int) (f : Int) : SV := if f = 0 then .agg [.int .i64 0, .int .i64 (c 1), .int .i64 (c 2), .int .i64 (c 3), .int .i64 (c 4), .int .i64 (c 5)] else if f = 1 then .agg [.int .i64 1, .int .i64 (c 7), .int .i64 (c 8), .int .i64 (c 9), .int .i64 (c 10), .int .i64 (c 11)] else .agg [.int .i64 2, .int .i64 (c 13), .int .i64 (c 14), .int .i64 (c 15), .int .i64 (c 16), .int .i64 (c 17)]
theorem stats3_s (s : L3) (f : Int) (hf : fOk f) :
    GSpec Try.prog 29 [.ptr 0 0, .int .i64 f] (lgH s) fun r ho => r = stR s.c f ∧ ho = lgH s := by
  refine .of_code tab_ok Try.func29 (by rfl) rfl ?_
  rcases hf with rfl | rfl | rfl
  · conv => whnf
    refine CallG.of_code tab_ok Try.func74 (by rfl) rfl ?_
    conv => whnf
    refine both_t rfl ?_
    conv => whnf
    refine both_f rfl ?_
    conv => whnf
    refine ⟨by omega, ?_⟩
    conv => whnf
    refine ⟨0, rfl, ?_⟩
    conv => whnf
    (refine OutG.of [some 0, some 1, some 2, some 3, some 4] (stR s.c 0) (lgH s) (by rfl) ⟨rfl, rfl⟩ ?_; (conv => whnf); (repeat (first | exact trivial | (refine ⟨rfl, ?_⟩; (conv => whnf)))))
  · conv => whnf
    refine CallG.of_code tab_ok Try.func74 (by rfl) rfl ?_
    conv => whnf
    refine both_t rfl ?_
    conv => whnf
    refine both_f rfl ?_
    conv => whnf
    refine ⟨by omega, ?_⟩
    conv => whnf
    refine ⟨1, rfl, ?_⟩
    conv => whnf
    (refine OutG.of [some 0, some 1, some 2, some 3, some 4] (stR s.c 1) (lgH s) (by rfl) ⟨rfl, rfl⟩ ?_; (conv => whnf); (repeat (first | exact trivial | (refine ⟨rfl, ?_⟩; (conv => whnf)))))
  · conv => whnf
    refine CallG.of_code tab_ok Try.func74 (by rfl) rfl ?_
    conv => whnf
    refine both_t rfl ?_
    conv => whnf
    refine both_f rfl ?_
    conv => whnf
    refine ⟨by omega, ?_⟩
    conv => whnf
    refine ⟨2, rfl, ?_⟩
    conv => whnf
    (refine OutG.of [some 0, some 1, some 2, some 3, some 4] (stR s.c 2) (lgH s) (by rfl) ⟨rfl, rfl⟩ ?_; (conv => whnf); (repeat (first | exact trivial | (refine ⟨rfl, ?_⟩; (conv => whnf)))))
end Go.Proofs.Ytdommpfnoiemkaa

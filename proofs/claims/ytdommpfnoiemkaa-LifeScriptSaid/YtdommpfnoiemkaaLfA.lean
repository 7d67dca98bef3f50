/- Chapter 18: the tables of three flows. -/
import Derived.Test.YtdommpfnoiemkaaGen
namespace Go.Proofs.Ytdommpfnoiemkaa
open Go.Sx
set_option linter.unusedSimpArgs false
set_option linter.unusedVariables false
abbrev Pk := Int × Int × Int × Int
abbrev pkE (p : Pk) : List SV := [.int .i64 p.1, .int .i64 p.2.1, .int .i64 p.2.2.1, .int .i64 p.2.2.2]
def lgT (u v w x : Nat) (c : Nat → Int) : Blk := .fix 103 [.sl u, .int .i64 (c 0), .int .i64 (c 1), .int .i64 (c 2), .int .i64 (c 3), .int .i64 (c 4), .int .i64 (c 5), .sl v, .int .i64 (c 6), .int .i64 (c 7), .int .i64 (c 8), .int .i64 (c 9), .int .i64 (c 10), .int .i64 (c 11), .sl w, .int .i64 (c 12), .int .i64 (c 13), .int .i64 (c 14), .int .i64 (c 15), .int .i64 (c 16), .int .i64 (c 17), .sl x, .int .i64 0, .int .i64 0, .int .i64 0, .int .i64 0, .int .i64 0, .int .i64 0, .nils, .int .i64 0, .int .i64 0, .int .i64 0, .int .i64 0, .int .i64 0, .int .i64 0, .nils, .int .i64 0, .int .i64 0, .int .i64 0, .int .i64 0, .int .i64 0, .int .i64 0, .nils, .int .i64 0, .int .i64 0, .int .i64 0, .int .i64 0, .int .i64 0, .int .i64 0, .nils, .int .i64 0, .int .i64 0, .int .i64 0, .int .i64 0, .int .i64 0, .int .i64 0, .nils, .int .i64 0, .int .i64 0, .int .i64 0, .int .i64 0, .int .i64 0, .int .i64 0, .nils, .int .i64 0, .int .i64 0, .int .i64 0, .int .i64 0, .int .i64 0, .int .i64 0, .nils, .int .i64 0, .int .i64 0, .int .i64 0, .int .i64 0, .int .i64 0, .int .i64 0, .nils, .int .i64 0, .int .i64 0, .int .i64 0, .int .i64 0, .int .i64 0, .int .i64 0, .nils, .int .i64 0, .int .i64 0, .int .i64 0, .int .i64 0, .int .i64 0, .int .i64 0, .nils, .int .i64 0, .int .i64 0, .int .i64 0, .int .i64 0, .int .i64 0, .int .i64 0, .nils, .int .i64 0, .int .i64 0, .int .i64 0, .int .i64 0, .int .i64 0, .int .i64 0, .nils, .int .i64 0, .int .i64 0, .int .i64 0, .int .i64 0, .int .i64 0, .int .i64 0, .nils, .int .i64 0, .int .i64 0, .int .i64 0, .int .i64 0, .int .i64 0, .int .i64 0, .nils, .int .i64 0, .int .i64 0, .int .i64 0, .int .i64 0, .int .i64 0, .int .i64 0, .nils, .int .i64 0, .int .i64 0, .int .i64 0, .int .i64 0, .int .i64 0, .int .i64 0, .nils, .int .i64 0, .int .i64 0, .int .i64 0, .int .i64 0, .int .i64 0, .int .i64 0, .nils, .int .i64 0, .int .i64 0, .int .i64 0, .int .i64 0, .int .i64 0, .int .i64 0, .nils, .int .i64 0, .int .i64 0, .int .i64 0, .int .i64 0, .int .i64 0, .int .i64 0, .nils, .int .i64 0, .int .i64 0, .int .i64 0, .int .i64 0, .int .i64 0, .int .i64 0, .nils, .int .i64 0, .int .i64 0, .int .i64 0, .int .i64 0, .int .i64 0, .int .i64 0, .nils, .int .i64 0, .int .i64 0, .int .i64 0, .int .i64 0, .int .i64 0, .int .i64 0, .nils, .int .i64 0, .int .i64 0, .int .i64 0, .int .i64 0, .int .i64 0, .int .i64 0, .nils, .int .i64 0, .int .i64 0, .int .i64 0, .int .i64 0, .int .i64 0, .int .i64 0, .nils, .int .i64 0, .int .i64 0, .int .i64 0, .int .i64 0, .int .i64 0, .int .i64 0, .nils, .int .i64 0, .int .i64 0, .int .i64 0, .int .i64 0, .int .i64 0, .int .i64 0, .nils, .int .i64 0, .int .i64 0, .int .i64 0, .int .i64 0, .int .i64 0, .int .i64 0, .nils, .int .i64 0, .int .i64 0, .int .i64 0, .int .i64 0, .int .i64 0, .int .i64 0, .nils, .int .i64 0, .int .i64 0, .int .i64 0, .int .i64 0, .int .i64 0, .int .i64 0, .nils]
abbrev lgP (P : List Pk) : Blk := .row 109 4 (P.map pkE)
abbrev lgO (O : List Int) : Blk := .row 3 1 (nums O)
def lup (c : Nat → Int) (m : Nat) (v : Int) : Nat → Int := fun i => if i = m then v else c i
structure L3 where
  P : List Pk
  c : Nat → Int
  a : List Int
  b : List Int
  d : List Int
abbrev lgH (s : L3) : Hp := [lgT 1 2 3 4 s.c, lgP s.P, lgO s.a, lgO s.b, lgO s.d]
abbrev gp (P : List Pk) (i : Nat) : Pk := P.getD i (0, 0, 0, 0)
theorem gp_get {P : List Pk} {i : Nat} (h : i < P.length) : gp P i = P[i] := by simp [gp, List.getD, List.getElem?_eq_getElem h]
theorem pk_get {P : List Pk} {i : Nat} (h : i < P.length) : (P.map pkE)[(i : Int).toNat]? = some (pkE (gp P i)) := by
  rw [gp_get h, Int.toNat_natCast, List.getElem?_map, List.getElem?_eq_getElem h]; rfl
def stO (P : List Pk) (x : Int) : Int := if 1 ≤ x ∧ x ≤ (P.length : Int) then (gp P (x.toNat - 1)).2.2.1 else 0
def whO (P : List Pk) (x : Int) : Int := if 1 ≤ x ∧ x ≤ (P.length : Int) then (gp P (x.toNat - 1)).2.2.2 else 0
theorem pk_at {P : List Pk} {x : Int} (hs : P.length ≤ 1000) (h1 : 1 ≤ x) (h2 : x ≤ (P.length : Int)) : 0 ≤ IntKind.i64.wrap (x - 1) ∧ IntKind.i64.wrap (x - 1) < ((P.map pkE).length : Int) := by
  rw [w64 _ (by omega) (by omega), List.length_map]; omega
theorem pk_ld {P : List Pk} {x : Int} (hs : P.length ≤ 1000) (h1 : 1 ≤ x) (h2 : x ≤ (P.length : Int)) : (P.map pkE)[(IntKind.i64.wrap (x - 1)).toNat]? = some (pkE (gp P (x.toNat - 1))) := by
  rw [w64 _ (by omega) (by omega)]
  have e : x - 1 = ((x.toNat - 1 : Nat) : Int) := by omega
  rw [e]
  exact pk_get (by omega)
theorem OutG.same {m : Nat} {s : SV} {h : Hp} {R : SV → Hp → Prop} (hR : R s h) : OutG m s h R := ⟨s, h, hR, fun w X σ v hI hr => ⟨σ, hI, hr, .refl _ _ _⟩⟩
theorem state3_s (s : L3) (hs : s.P.length ≤ 1000) (x : Int) :
    GSpec Try.prog 32 [.ptr 0 0, .int .i64 x] (lgH s) fun r ho => r = .int .i64 (stO s.P x) ∧ ho = lgH s := by
  refine .of_code tab_ok Try.func32 (by rfl) rfl ?_
  have hl : (s.P.map pkE).length = s.P.length := List.length_map ..
  by_cases h : 1 ≤ x ∧ x ≤ (s.P.length : Int)
  · have e : stO s.P x = (gp s.P (x.toNat - 1)).2.2.1 := if_pos h
    rw [e]
    conv => whnf
    refine CallG.of_code tab_ok Try.func76 (by rfl) rfl ?_
    conv => whnf
    refine both_f (by simp; omega) ?_
    conv => whnf
    refine both_f (by simp; omega) ?_
    conv => whnf
    refine ⟨by (exact pk_at hs h.1 h.2), ?_⟩
    conv => whnf
    (refine ⟨_, pk_ld hs h.1 h.2, ?_⟩)
    conv => whnf
    exact OutG.same ⟨rfl, rfl⟩
  · have e : stO s.P x = 0 := if_neg h
    rw [e]
    conv => whnf
    refine CallG.of_code tab_ok Try.func76 (by rfl) rfl ?_
    conv => whnf
    refine ⟨fun hh0 => ?_, fun hh0 => ?_⟩
    · simp only [decide_eq_true_eq, decide_eq_false_iff_not] at hh0
      conv => whnf
      exact OutG.same ⟨rfl, rfl⟩
    · simp only [decide_eq_true_eq, decide_eq_false_iff_not] at hh0
      conv => whnf
      refine both_t (by simp; omega) ?_
      conv => whnf
      exact OutG.same ⟨rfl, rfl⟩
theorem reason3_s (s : L3) (hs : s.P.length ≤ 1000) (x : Int) :
    GSpec Try.prog 34 [.ptr 0 0, .int .i64 x] (lgH s) fun r ho => r = .int .i64 (whO s.P x) ∧ ho = lgH s := by
  refine .of_code tab_ok Try.func34 (by rfl) rfl ?_
  have hl : (s.P.map pkE).length = s.P.length := List.length_map ..
  by_cases h : 1 ≤ x ∧ x ≤ (s.P.length : Int)
  · have e : whO s.P x = (gp s.P (x.toNat - 1)).2.2.2 := if_pos h
    rw [e]
    conv => whnf
    refine CallG.of_code tab_ok Try.func76 (by rfl) rfl ?_
    conv => whnf
    refine both_f (by simp; omega) ?_
    conv => whnf
    refine both_f (by simp; omega) ?_
    conv => whnf
    refine ⟨by (exact pk_at hs h.1 h.2), ?_⟩
    conv => whnf
    (refine ⟨_, pk_ld hs h.1 h.2, ?_⟩)
    conv => whnf
    exact OutG.same ⟨rfl, rfl⟩
  · have e : whO s.P x = 0 := if_neg h
    rw [e]
    conv => whnf
    refine CallG.of_code tab_ok Try.func76 (by rfl) rfl ?_
    conv => whnf
    refine ⟨fun hh0 => ?_, fun hh0 => ?_⟩
    · simp only [decide_eq_true_eq, decide_eq_false_iff_not] at hh0
      conv => whnf
      exact OutG.same ⟨rfl, rfl⟩
    · simp only [decide_eq_true_eq, decide_eq_false_iff_not] at hh0
      conv => whnf
      refine both_t (by simp; omega) ?_
      conv => whnf
      exact OutG.same ⟨rfl, rfl⟩
def fE (f : Int) : Int := if 0 ≤ f ∧ f < 32 then 0 else 1
def upC (c : Nat → Int) (f : Int) (k : Nat) (z : Int) : Nat → Int := if f = 0 then lup c k (c k + z) else if f = 1 then lup c (6 + k) (c (6 + k) + z) else if f = 2 then lup c (12 + k) (c (12 + k) + z) else c
def fOk (f : Int) : Prop := f = 0 ∨ f = 1 ∨ f = 2
def cOk (c : Nat → Int) : Prop := ∀ i, 0 ≤ c i ∧ c i ≤ 1000000
theorem cB {c : Nat → Int} (h : cOk c) (i : Nat) : IntKind.i64.wrap (c i + 1) = c i + 1 := w64 _ (by have := h i; omega) (by have := h i; omega)
theorem cZ {c : Nat → Int} (h : cOk c) (i : Nat) {z : Int} (z0 : 0 ≤ z) (z1 : z ≤ 1000000) : IntKind.i64.wrap (c i + z) = c i + z := w64 _ (by have := h i; omega) (by have := h i; omega)
theorem refuse3_s (s : L3) (f : Int) (hc : cOk s.c) (hf : fOk f ∨ f = -1 ∨ f = 32) :
    GSpec Try.prog 27 [.ptr 0 0, .int .i64 f] (lgH s) fun r ho => r = .int .i64 (fE f) ∧ ho = lgH { s with c := upC s.c f 3 1 } := by
  refine .of_code tab_ok Try.func27 (by rfl) rfl ?_
  have b3 := cB hc 3
  have b9 := cB hc 9
  have b15 := cB hc 15
  rcases hf with (rfl | rfl | rfl) | rfl | rfl
  · conv => whnf
    refine CallG.of_code tab_ok Try.func74 (by rfl) rfl ?_
    conv => whnf
    refine both_t rfl ?_
    conv => whnf
    refine both_f rfl ?_
    conv => whnf
    refine DrawG.of mixed tab_ok ?_
    conv => whnf
    refine ⟨by omega, ?_⟩
    conv => whnf
    refine ⟨0, rfl, ?_⟩
    conv => whnf
    refine ⟨by omega, ?_⟩
    conv => whnf
    refine ⟨0, rfl, ?_⟩
    conv => whnf
    refine ⟨by kernel_rfl, ?_⟩
    conv => whnf
    (rw [b3]; exact OutG.same ⟨rfl, rfl⟩)
  · conv => whnf
    refine CallG.of_code tab_ok Try.func74 (by rfl) rfl ?_
    conv => whnf
    refine both_t rfl ?_
    conv => whnf
    refine both_f rfl ?_
    conv => whnf
    refine DrawG.of mixed tab_ok ?_
    conv => whnf
    refine ⟨by omega, ?_⟩
    conv => whnf
    refine ⟨1, rfl, ?_⟩
    conv => whnf
    refine ⟨by omega, ?_⟩
    conv => whnf
    refine ⟨1, rfl, ?_⟩
    conv => whnf
    refine ⟨by kernel_rfl, ?_⟩
    conv => whnf
    (rw [b9]; exact OutG.same ⟨rfl, rfl⟩)
  · conv => whnf
    refine CallG.of_code tab_ok Try.func74 (by rfl) rfl ?_
    conv => whnf
    refine both_t rfl ?_
    conv => whnf
    refine both_f rfl ?_
    conv => whnf
    refine DrawG.of mixed tab_ok ?_
    conv => whnf
    refine ⟨by omega, ?_⟩
    conv => whnf
    refine ⟨2, rfl, ?_⟩
    conv => whnf
    refine ⟨by omega, ?_⟩
    conv => whnf
    refine ⟨2, rfl, ?_⟩
    conv => whnf
    refine ⟨by kernel_rfl, ?_⟩
    conv => whnf
    (rw [b15]; exact OutG.same ⟨rfl, rfl⟩)
  · conv => whnf
    refine CallG.of_code tab_ok Try.func74 (by rfl) rfl ?_
    conv => whnf
    refine both_f rfl ?_
    conv => whnf
    exact OutG.same ⟨rfl, rfl⟩
  · conv => whnf
    refine CallG.of_code tab_ok Try.func74 (by rfl) rfl ?_
    conv => whnf
    refine both_t rfl ?_
    conv => whnf
    refine both_t rfl ?_
    conv => whnf
    exact OutG.same ⟨rfl, rfl⟩
/-- A packet's state, reason set. -/
def putS (p : Pk) (st : Int) : Pk := (p.1, p.2.1, st, p.2.2.2)
def putW (p : Pk) (st w : Int) : Pk := (p.1, p.2.1, st, w)
def inR (P : List Pk) (x : Int) : Prop := 1 ≤ x ∧ x ≤ (P.length : Int)
instance (P : List Pk) (x : Int) : Decidable (inR P x) := inferInstanceAs (Decidable (_ ∧ _))
def live (P : List Pk) (x : Int) : Prop := (gp P (x.toNat - 1)).2.2.1 = 1 ∨ (gp P (x.toNat - 1)).2.2.1 = 2
instance (P : List Pk) (x : Int) : Decidable (live P x) := inferInstanceAs (Decidable (_ ∨ _))
def sndP (P : List Pk) (x : Int) : List Pk := if inR P x ∧ live P x then P.set (x.toNat - 1) (putS (gp P (x.toNat - 1)) 2) else P
def sndE (P : List Pk) (x : Int) : Int := if inR P x then (if live P x then 0 else 14) else 6
theorem pk_set {P : List Pk} {x : Int} (hs : P.length ≤ 1000) (h1 : 1 ≤ x) (h2 : x ≤ (P.length : Int)) (p : Pk) : (P.map pkE).set (IntKind.i64.wrap (x - 1)).toNat (pkE p) = (P.set (x.toNat - 1) p).map pkE := by
  rw [w64 _ (by omega) (by omega)]
  have e : x - 1 = ((x.toNat - 1 : Nat) : Int) := by omega
  rw [e, Int.toNat_natCast, List.map_set]
theorem send3_s (s : L3) (hs : s.P.length ≤ 1000) (x : Int) :
    GSpec Try.prog 68 [.ptr 0 0, .int .i64 x] (lgH s) fun r ho => r = .int .i64 (sndE s.P x) ∧ ho = lgH { s with P := sndP s.P x } := by
  refine .of_code tab_ok Try.func68 (by rfl) rfl ?_
  have hl : (s.P.map pkE).length = s.P.length := List.length_map ..
  by_cases h : inR s.P x
  · have k := h
    unfold inR at k
    have hset := pk_set hs k.1 k.2 (putS (gp s.P (x.toNat - 1)) 2)
    by_cases hv : live s.P x
    · have e1 : sndE s.P x = 0 := by unfold sndE; rw [if_pos h, if_pos hv]
      have e2 : sndP s.P x = s.P.set (x.toNat - 1) (putS (gp s.P (x.toNat - 1)) 2) := if_pos ⟨h, hv⟩
      rw [e1, e2]
      rcases hv with hv | hv
      · conv => whnf
        refine CallG.of_code tab_ok Try.func76 (by rfl) rfl ?_
        conv => whnf
        refine both_f (by simp; omega) ?_
        conv => whnf
        refine both_f (by simp; omega) ?_
        conv => whnf
        refine ⟨by (exact pk_at hs k.1 k.2), ?_⟩
        conv => whnf
        (refine ⟨_, pk_ld hs k.1 k.2, ?_⟩)
        conv => whnf
        refine ⟨fun hh1 => ?_, fun hh1 => ?_⟩
        · simp only [decide_eq_true_eq, decide_eq_false_iff_not] at hh1
          conv => whnf
          (refine ⟨_, pk_ld hs k.1 k.2, ?_⟩)
          conv => whnf
          refine both_t (by simp; omega) ?_
          conv => whnf
          (simp; omega)
        · simp only [decide_eq_true_eq, decide_eq_false_iff_not] at hh1
          conv => whnf
          (refine ⟨_, pk_ld hs k.1 k.2, ?_⟩)
          conv => whnf
          (refine OutG.same ⟨rfl, ?_⟩; show [_, Blk.row _ _ _, _, _, _] = [_, Blk.row _ _ _, _, _, _]; rw [← hset]; rfl)
      · conv => whnf
        refine CallG.of_code tab_ok Try.func76 (by rfl) rfl ?_
        conv => whnf
        refine both_f (by simp; omega) ?_
        conv => whnf
        refine both_f (by simp; omega) ?_
        conv => whnf
        refine ⟨by (exact pk_at hs k.1 k.2), ?_⟩
        conv => whnf
        (refine ⟨_, pk_ld hs k.1 k.2, ?_⟩)
        conv => whnf
        refine ⟨fun hh1 => ?_, fun hh1 => ?_⟩
        · simp only [decide_eq_true_eq, decide_eq_false_iff_not] at hh1
          conv => whnf
          (refine ⟨_, pk_ld hs k.1 k.2, ?_⟩)
          conv => whnf
          refine ⟨fun hh3 => ?_, fun hh3 => ?_⟩
          · simp only [decide_eq_true_eq, decide_eq_false_iff_not] at hh3
            conv => whnf
            (simp; omega)
          · simp only [decide_eq_true_eq, decide_eq_false_iff_not] at hh3
            conv => whnf
            (refine ⟨_, pk_ld hs k.1 k.2, ?_⟩)
            conv => whnf
            (refine OutG.same ⟨rfl, ?_⟩; show [_, Blk.row _ _ _, _, _, _] = [_, Blk.row _ _ _, _, _, _]; rw [← hset]; rfl)
        · simp only [decide_eq_true_eq, decide_eq_false_iff_not] at hh1
          conv => whnf
          (refine ⟨_, pk_ld hs k.1 k.2, ?_⟩)
          conv => whnf
          (refine OutG.same ⟨rfl, ?_⟩; show [_, Blk.row _ _ _, _, _, _] = [_, Blk.row _ _ _, _, _, _]; rw [← hset]; rfl)
    · have e1 : sndE s.P x = 14 := by unfold sndE; rw [if_pos h, if_neg hv]
      have e2 : sndP s.P x = s.P := if_neg fun q => hv q.2
      rw [e1, e2]
      unfold live at hv
      have hv1 : ¬ (gp s.P (x.toNat - 1)).2.2.1 = 1 := fun q => hv (.inl q)
      have hv2 : ¬ (gp s.P (x.toNat - 1)).2.2.1 = 2 := fun q => hv (.inr q)
      conv => whnf
      refine CallG.of_code tab_ok Try.func76 (by rfl) rfl ?_
      conv => whnf
      refine both_f (by simp; omega) ?_
      conv => whnf
      refine both_f (by simp; omega) ?_
      conv => whnf
      refine ⟨by (exact pk_at hs k.1 k.2), ?_⟩
      conv => whnf
      (refine ⟨_, pk_ld hs k.1 k.2, ?_⟩)
      conv => whnf
      refine both_t (by (exact decide_eq_true hv1)) ?_
      conv => whnf
      (refine ⟨_, pk_ld hs k.1 k.2, ?_⟩)
      conv => whnf
      refine both_t (by (exact decide_eq_true hv2)) ?_
      conv => whnf
      exact OutG.same ⟨rfl, rfl⟩
  · have e1 : sndE s.P x = 6 := if_neg h
    have e2 : sndP s.P x = s.P := if_neg fun q => h q.1
    rw [e1, e2]
    unfold inR at h
    conv => whnf
    refine CallG.of_code tab_ok Try.func76 (by rfl) rfl ?_
    conv => whnf
    refine ⟨fun hh0 => ?_, fun hh0 => ?_⟩
    · simp only [decide_eq_true_eq, decide_eq_false_iff_not] at hh0
      conv => whnf
      exact OutG.same ⟨rfl, rfl⟩
    · simp only [decide_eq_true_eq, decide_eq_false_iff_not] at hh0
      conv => whnf
      refine both_t (by simp; omega) ?_
      conv => whnf
      exact OutG.same ⟨rfl, rfl⟩
end Go.Proofs.Ytdommpfnoiemkaa

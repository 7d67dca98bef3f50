/- Chapter 18: deliveries in tables of three flows. -/
import Derived.Test.YtdommpfnoiemkaaLfC
namespace Go.Proofs.Ytdommpfnoiemkaa
open Go.Sx
set_option linter.unusedSimpArgs false
set_option linter.unusedVariables false
theorem nums_app {l : List Int} {x : Int} : nums l ++ [[SV.int .i64 x]] = nums (l ++ [x]) := by rw [show nums (l ++ [x]) = (l ++ [x]).map fun n => [SV.int .i64 n] from rfl, List.map_append]; rfl
def lastGt (O : List Int) (x : Int) : Prop := 0 < O.length ∧ x < O.getD (O.length - 1) 0
instance (O : List Int) (x : Int) : Decidable (lastGt O x) := inferInstanceAs (Decidable (_ ∧ _))
theorem og_at {O : List Int} (h : 0 < O.length) (h1 : O.length ≤ 900) : 0 ≤ IntKind.i64.wrap (((nums O).length : Int) - 1) ∧ IntKind.i64.wrap (((nums O).length : Int) - 1) < ((nums O).length : Int) := by
  rw [nums_len, w64 _ (by omega) (by omega)]; omega
theorem og_ld {O : List Int} (h : 0 < O.length) (h1 : O.length ≤ 900) : (nums O)[(IntKind.i64.wrap (((nums O).length : Int) - 1)).toNat]? = some [SV.int .i64 (O.getD (O.length - 1) 0)] := by
  rw [nums_len, w64 _ (by omega) (by omega)]
  have e : (((O.length : Nat) : Int) - 1).toNat = O.length - 1 := by omega
  rw [e, show nums O = O.map fun n => [SV.int .i64 n] from rfl, List.getElem?_map, List.getElem?_eq_getElem (by omega)]
  simp [List.getD, List.getElem?_eq_getElem (show O.length - 1 < O.length by omega)]
def ordF (s : L3) (f : Int) : List Int := if f = 0 then s.a else if f = 1 then s.b else s.d
def dOk (s : L3) (x : Int) : Prop := inR s.P x ∧ (gp s.P (x.toNat - 1)).2.2.1 = 2 ∧ ¬ lastGt (ordF s (gp s.P (x.toNat - 1)).1) x
def delE (s : L3) (x : Int) : Int := if inR s.P x then (if (gp s.P (x.toNat - 1)).2.2.1 = 2 then 1 else 14) else 6
def delP (s : L3) (x : Int) : List Pk := s.P.set (x.toNat - 1) (putS (gp s.P (x.toNat - 1)) 3)
def delC (s : L3) (x : Int) : Nat → Int := upC (upC s.c (gp s.P (x.toNat - 1)).1 2 1) (gp s.P (x.toNat - 1)).1 4 (gp s.P (x.toNat - 1)).2.1
def lnOk (P : List Pk) : Prop := ∀ i, i < P.length → 1 ≤ (gp P i).2.1 ∧ (gp P i).2.1 ≤ 4096
def delR (s : L3) (x : Int) (r : SV) (ho : Hp) : Prop :=
  (dOk s x ∧ r = .int .i64 0 ∧ ((gp s.P (x.toNat - 1)).1 = 0 ∧ ho = [lgT 1 5 3 4 (delC s x), lgP (delP s x), .dead, lgO s.b, lgO s.d, lgO (s.a ++ [x])] ∨ (gp s.P (x.toNat - 1)).1 = 1 ∧ ho = [lgT 1 2 5 4 (delC s x), lgP (delP s x), lgO s.a, .dead, lgO s.d, lgO (s.b ++ [x])] ∨ (gp s.P (x.toNat - 1)).1 = 2 ∧ ho = [lgT 1 2 3 5 (delC s x), lgP (delP s x), lgO s.a, lgO s.b, .dead, lgO (s.d ++ [x])])) ∨
  (¬ dOk s x ∧ r = .int .i64 (delE s x) ∧ ho = lgH s ++ [.dead])
set_option maxHeartbeats 4000000 in
theorem deliver3_s (s : L3) (hs : s.P.length ≤ 900) (hf : flOk s.P) (hn : lnOk s.P) (hc : cOk s.c) (ha : s.a.length ≤ 900) (hb : s.b.length ≤ 900) (hd : s.d.length ≤ 900) (x : Int) :
    GSpec Try.prog 70 [.ptr 0 0, .int .i64 x] (lgH s) (delR s x) := by
  refine .of_code tab_ok Try.func70 (by rfl) rfl ?_
  have hl : (s.P.map pkE).length = s.P.length := List.length_map ..
  have hs2 : s.P.length ≤ 1000 := by omega
  by_cases h : inR s.P x
  · have k := h
    unfold inR at k
    have hset := pk_set hs2 k.1 k.2 (putS (gp s.P (x.toNat - 1)) 3)
    have hil : (IntKind.i64.wrap (x - 1)).toNat < (s.P.map pkE).length := by have := pk_at hs2 k.1 k.2; omega
    have hln := hn _ (show x.toNat - 1 < s.P.length by omega)
    by_cases hv : (gp s.P (x.toNat - 1)).2.2.1 = 2
    · rcases hf _ (show x.toNat - 1 < s.P.length by omega) with hg | hg | hg
      · have eo : ordF s (gp s.P (x.toNat - 1)).1 = s.a := by rw [hg]; rfl
        have b2 := cB hc 2
        have b4 := cZ hc 4 (z := (gp s.P (x.toNat - 1)).2.1) (by omega) (by omega)
        have edc : delC s x = upC (upC s.c 0 2 1) 0 4 (gp s.P (x.toNat - 1)).2.1 := by unfold delC; rw [hg]
        have edp : delP s x = s.P.set (x.toNat - 1) (putS (gp s.P (x.toNat - 1)) 3) := rfl
        have e1 : delE s x = 1 := by unfold delE; rw [if_pos h, if_pos hv]
        by_cases hz : 0 < s.a.length
        · by_cases hy : x < s.a.getD (s.a.length - 1) 0
          · have hlg : lastGt (ordF s (gp s.P (x.toNat - 1)).1) x := by rw [eo]; exact ⟨hz, hy⟩
            conv => whnf
            refine CallG.of_code tab_ok Try.func76 (by rfl) rfl ?_
            conv => whnf
            refine both_f (by simp; omega) ?_
            conv => whnf
            refine both_f (by simp; omega) ?_
            conv => whnf
            refine ⟨by (exact pk_at hs2 k.1 k.2), ?_⟩
            conv => whnf
            (refine ⟨_, pk_ld hs2 k.1 k.2, ?_⟩)
            conv => whnf
            refine both_f (by (exact decide_eq_false fun q => q hv)) ?_
            conv => whnf
            refine DrawG.of mixed tab_ok ?_
            conv => whnf
            (refine ⟨_, pk_ld hs2 k.1 k.2, ?_⟩)
            conv => whnf
            refine ⟨by omega, ?_⟩
            conv => whnf
            (refine ⟨0, hg, ?_⟩)
            conv => whnf
            refine ⟨by kernel_rfl, ?_⟩
            conv => whnf
            refine both_t (by (exact decide_eq_true (by rw [nums_len]; omega))) ?_
            conv => whnf
            refine ⟨by (exact og_at hz ha), ?_⟩
            conv => whnf
            (refine ⟨_, og_ld hz ha, ?_⟩)
            conv => whnf
            refine both_t (by (exact decide_eq_true hy)) ?_
            conv => whnf
            (refine OutG.of [some 0, some 1, some 2, some 3, some 4, none] (.int .i64 1) _ (by rfl) (.inr ⟨(fun q => q.2.2 hlg), by rw [e1], rfl⟩) ?_; (conv => whnf); (repeat (first | exact trivial | (refine ⟨rfl, ?_⟩; (conv => whnf)) | (refine ⟨hset, ?_⟩; (conv => whnf)) | (refine ⟨nums_app, ?_⟩; (conv => whnf)) | (refine ⟨(by simp), ?_⟩; (conv => whnf)))); done)
          · have hlg : ¬ lastGt (ordF s (gp s.P (x.toNat - 1)).1) x := by rw [eo]; exact fun q => hy q.2
            conv => whnf
            refine CallG.of_code tab_ok Try.func76 (by rfl) rfl ?_
            conv => whnf
            refine both_f (by simp; omega) ?_
            conv => whnf
            refine both_f (by simp; omega) ?_
            conv => whnf
            refine ⟨by (exact pk_at hs2 k.1 k.2), ?_⟩
            conv => whnf
            (refine ⟨_, pk_ld hs2 k.1 k.2, ?_⟩)
            conv => whnf
            refine both_f (by (exact decide_eq_false fun q => q hv)) ?_
            conv => whnf
            refine DrawG.of mixed tab_ok ?_
            conv => whnf
            (refine ⟨_, pk_ld hs2 k.1 k.2, ?_⟩)
            conv => whnf
            refine ⟨by omega, ?_⟩
            conv => whnf
            (refine ⟨0, hg, ?_⟩)
            conv => whnf
            refine ⟨by kernel_rfl, ?_⟩
            conv => whnf
            refine both_t (by (exact decide_eq_true (by rw [nums_len]; omega))) ?_
            conv => whnf
            refine ⟨by (exact og_at hz ha), ?_⟩
            conv => whnf
            (refine ⟨_, og_ld hz ha, ?_⟩)
            conv => whnf
            refine both_f (by (exact decide_eq_false hy)) ?_
            conv => whnf
            (refine ⟨_, pk_ld hs2 k.1 k.2, ?_⟩)
            conv => whnf
            refine ⟨by (rw [nums_len]; simp only [List.length_cons, List.length_nil]; omega), ?_⟩
            conv => whnf
            refine DrawG.of mixed tab_ok ?_
            conv => whnf
            (refine ⟨_, pk_gs hil, ?_⟩)
            conv => whnf
            refine ⟨by kernel_rfl, ?_⟩
            conv => whnf
            (rw [b2, b4]; refine OutG.of [some 0, some 1, some 2, some 3, some 4, some 6] (.int .i64 0) _ (by rfl) (.inl ⟨⟨h, hv, hlg⟩, rfl, (.inl ⟨hg, rfl⟩)⟩) ?_; rw [edc, edp]; (conv => whnf); (repeat (first | exact trivial | (refine ⟨rfl, ?_⟩; (conv => whnf)) | (refine ⟨hset, ?_⟩; (conv => whnf)) | (refine ⟨nums_app, ?_⟩; (conv => whnf)) | (refine ⟨(by simp), ?_⟩; (conv => whnf)))); done)
        · have hlg : ¬ lastGt (ordF s (gp s.P (x.toNat - 1)).1) x := by rw [eo]; exact fun q => hz q.1
          conv => whnf
          refine CallG.of_code tab_ok Try.func76 (by rfl) rfl ?_
          conv => whnf
          refine both_f (by simp; omega) ?_
          conv => whnf
          refine both_f (by simp; omega) ?_
          conv => whnf
          refine ⟨by (exact pk_at hs2 k.1 k.2), ?_⟩
          conv => whnf
          (refine ⟨_, pk_ld hs2 k.1 k.2, ?_⟩)
          conv => whnf
          refine both_f (by (exact decide_eq_false fun q => q hv)) ?_
          conv => whnf
          refine DrawG.of mixed tab_ok ?_
          conv => whnf
          (refine ⟨_, pk_ld hs2 k.1 k.2, ?_⟩)
          conv => whnf
          refine ⟨by omega, ?_⟩
          conv => whnf
          (refine ⟨0, hg, ?_⟩)
          conv => whnf
          refine ⟨by kernel_rfl, ?_⟩
          conv => whnf
          refine both_f (by (exact decide_eq_false (by rw [nums_len]; omega))) ?_
          conv => whnf
          (refine ⟨_, pk_ld hs2 k.1 k.2, ?_⟩)
          conv => whnf
          refine ⟨by (rw [nums_len]; simp only [List.length_cons, List.length_nil]; omega), ?_⟩
          conv => whnf
          refine DrawG.of mixed tab_ok ?_
          conv => whnf
          (refine ⟨_, pk_gs hil, ?_⟩)
          conv => whnf
          refine ⟨by kernel_rfl, ?_⟩
          conv => whnf
          (rw [b2, b4]; refine OutG.of [some 0, some 1, some 2, some 3, some 4, some 6] (.int .i64 0) _ (by rfl) (.inl ⟨⟨h, hv, hlg⟩, rfl, (.inl ⟨hg, rfl⟩)⟩) ?_; rw [edc, edp]; (conv => whnf); (repeat (first | exact trivial | (refine ⟨rfl, ?_⟩; (conv => whnf)) | (refine ⟨hset, ?_⟩; (conv => whnf)) | (refine ⟨nums_app, ?_⟩; (conv => whnf)) | (refine ⟨(by simp), ?_⟩; (conv => whnf)))); done)
      · have eo : ordF s (gp s.P (x.toNat - 1)).1 = s.b := by rw [hg]; rfl
        have b8 := cB hc 8
        have b10 := cZ hc 10 (z := (gp s.P (x.toNat - 1)).2.1) (by omega) (by omega)
        have edc : delC s x = upC (upC s.c 1 2 1) 1 4 (gp s.P (x.toNat - 1)).2.1 := by unfold delC; rw [hg]
        have edp : delP s x = s.P.set (x.toNat - 1) (putS (gp s.P (x.toNat - 1)) 3) := rfl
        have e1 : delE s x = 1 := by unfold delE; rw [if_pos h, if_pos hv]
        by_cases hz : 0 < s.b.length
        · by_cases hy : x < s.b.getD (s.b.length - 1) 0
          · have hlg : lastGt (ordF s (gp s.P (x.toNat - 1)).1) x := by rw [eo]; exact ⟨hz, hy⟩
            conv => whnf
            refine CallG.of_code tab_ok Try.func76 (by rfl) rfl ?_
            conv => whnf
            refine both_f (by simp; omega) ?_
            conv => whnf
            refine both_f (by simp; omega) ?_
            conv => whnf
            refine ⟨by (exact pk_at hs2 k.1 k.2), ?_⟩
            conv => whnf
            (refine ⟨_, pk_ld hs2 k.1 k.2, ?_⟩)
            conv => whnf
            refine both_f (by (exact decide_eq_false fun q => q hv)) ?_
            conv => whnf
            refine DrawG.of mixed tab_ok ?_
            conv => whnf
            (refine ⟨_, pk_ld hs2 k.1 k.2, ?_⟩)
            conv => whnf
            refine ⟨by omega, ?_⟩
            conv => whnf
            (refine ⟨1, hg, ?_⟩)
            conv => whnf
            refine ⟨by kernel_rfl, ?_⟩
            conv => whnf
            refine both_t (by (exact decide_eq_true (by rw [nums_len]; omega))) ?_
            conv => whnf
            refine ⟨by (exact og_at hz hb), ?_⟩
            conv => whnf
            (refine ⟨_, og_ld hz hb, ?_⟩)
            conv => whnf
            refine both_t (by (exact decide_eq_true hy)) ?_
            conv => whnf
            (refine OutG.of [some 0, some 1, some 2, some 3, some 4, none] (.int .i64 1) _ (by rfl) (.inr ⟨(fun q => q.2.2 hlg), by rw [e1], rfl⟩) ?_; (conv => whnf); (repeat (first | exact trivial | (refine ⟨rfl, ?_⟩; (conv => whnf)) | (refine ⟨hset, ?_⟩; (conv => whnf)) | (refine ⟨nums_app, ?_⟩; (conv => whnf)) | (refine ⟨(by simp), ?_⟩; (conv => whnf)))); done)
          · have hlg : ¬ lastGt (ordF s (gp s.P (x.toNat - 1)).1) x := by rw [eo]; exact fun q => hy q.2
            conv => whnf
            refine CallG.of_code tab_ok Try.func76 (by rfl) rfl ?_
            conv => whnf
            refine both_f (by simp; omega) ?_
            conv => whnf
            refine both_f (by simp; omega) ?_
            conv => whnf
            refine ⟨by (exact pk_at hs2 k.1 k.2), ?_⟩
            conv => whnf
            (refine ⟨_, pk_ld hs2 k.1 k.2, ?_⟩)
            conv => whnf
            refine both_f (by (exact decide_eq_false fun q => q hv)) ?_
            conv => whnf
            refine DrawG.of mixed tab_ok ?_
            conv => whnf
            (refine ⟨_, pk_ld hs2 k.1 k.2, ?_⟩)
            conv => whnf
            refine ⟨by omega, ?_⟩
            conv => whnf
            (refine ⟨1, hg, ?_⟩)
            conv => whnf
            refine ⟨by kernel_rfl, ?_⟩
            conv => whnf
            refine both_t (by (exact decide_eq_true (by rw [nums_len]; omega))) ?_
            conv => whnf
            refine ⟨by (exact og_at hz hb), ?_⟩
            conv => whnf
            (refine ⟨_, og_ld hz hb, ?_⟩)
            conv => whnf
            refine both_f (by (exact decide_eq_false hy)) ?_
            conv => whnf
            (refine ⟨_, pk_ld hs2 k.1 k.2, ?_⟩)
            conv => whnf
            refine ⟨by (rw [nums_len]; simp only [List.length_cons, List.length_nil]; omega), ?_⟩
            conv => whnf
            refine DrawG.of mixed tab_ok ?_
            conv => whnf
            (refine ⟨_, pk_gs hil, ?_⟩)
            conv => whnf
            refine ⟨by kernel_rfl, ?_⟩
            conv => whnf
            (rw [b8, b10]; refine OutG.of [some 0, some 1, some 2, some 3, some 4, some 6] (.int .i64 0) _ (by rfl) (.inl ⟨⟨h, hv, hlg⟩, rfl, (.inr (.inl ⟨hg, rfl⟩))⟩) ?_; rw [edc, edp]; (conv => whnf); (repeat (first | exact trivial | (refine ⟨rfl, ?_⟩; (conv => whnf)) | (refine ⟨hset, ?_⟩; (conv => whnf)) | (refine ⟨nums_app, ?_⟩; (conv => whnf)) | (refine ⟨(by simp), ?_⟩; (conv => whnf)))); done)
        · have hlg : ¬ lastGt (ordF s (gp s.P (x.toNat - 1)).1) x := by rw [eo]; exact fun q => hz q.1
          conv => whnf
          refine CallG.of_code tab_ok Try.func76 (by rfl) rfl ?_
          conv => whnf
          refine both_f (by simp; omega) ?_
          conv => whnf
          refine both_f (by simp; omega) ?_
          conv => whnf
          refine ⟨by (exact pk_at hs2 k.1 k.2), ?_⟩
          conv => whnf
          (refine ⟨_, pk_ld hs2 k.1 k.2, ?_⟩)
          conv => whnf
          refine both_f (by (exact decide_eq_false fun q => q hv)) ?_
          conv => whnf
          refine DrawG.of mixed tab_ok ?_
          conv => whnf
          (refine ⟨_, pk_ld hs2 k.1 k.2, ?_⟩)
          conv => whnf
          refine ⟨by omega, ?_⟩
          conv => whnf
          (refine ⟨1, hg, ?_⟩)
          conv => whnf
          refine ⟨by kernel_rfl, ?_⟩
          conv => whnf
          refine both_f (by (exact decide_eq_false (by rw [nums_len]; omega))) ?_
          conv => whnf
          (refine ⟨_, pk_ld hs2 k.1 k.2, ?_⟩)
          conv => whnf
          refine ⟨by (rw [nums_len]; simp only [List.length_cons, List.length_nil]; omega), ?_⟩
          conv => whnf
          refine DrawG.of mixed tab_ok ?_
          conv => whnf
          (refine ⟨_, pk_gs hil, ?_⟩)
          conv => whnf
          refine ⟨by kernel_rfl, ?_⟩
          conv => whnf
          (rw [b8, b10]; refine OutG.of [some 0, some 1, some 2, some 3, some 4, some 6] (.int .i64 0) _ (by rfl) (.inl ⟨⟨h, hv, hlg⟩, rfl, (.inr (.inl ⟨hg, rfl⟩))⟩) ?_; rw [edc, edp]; (conv => whnf); (repeat (first | exact trivial | (refine ⟨rfl, ?_⟩; (conv => whnf)) | (refine ⟨hset, ?_⟩; (conv => whnf)) | (refine ⟨nums_app, ?_⟩; (conv => whnf)) | (refine ⟨(by simp), ?_⟩; (conv => whnf)))); done)
      · have eo : ordF s (gp s.P (x.toNat - 1)).1 = s.d := by rw [hg]; rfl
        have b14 := cB hc 14
        have b16 := cZ hc 16 (z := (gp s.P (x.toNat - 1)).2.1) (by omega) (by omega)
        have edc : delC s x = upC (upC s.c 2 2 1) 2 4 (gp s.P (x.toNat - 1)).2.1 := by unfold delC; rw [hg]
        have edp : delP s x = s.P.set (x.toNat - 1) (putS (gp s.P (x.toNat - 1)) 3) := rfl
        have e1 : delE s x = 1 := by unfold delE; rw [if_pos h, if_pos hv]
        by_cases hz : 0 < s.d.length
        · by_cases hy : x < s.d.getD (s.d.length - 1) 0
          · have hlg : lastGt (ordF s (gp s.P (x.toNat - 1)).1) x := by rw [eo]; exact ⟨hz, hy⟩
            conv => whnf
            refine CallG.of_code tab_ok Try.func76 (by rfl) rfl ?_
            conv => whnf
            refine both_f (by simp; omega) ?_
            conv => whnf
            refine both_f (by simp; omega) ?_
            conv => whnf
            refine ⟨by (exact pk_at hs2 k.1 k.2), ?_⟩
            conv => whnf
            (refine ⟨_, pk_ld hs2 k.1 k.2, ?_⟩)
            conv => whnf
            refine both_f (by (exact decide_eq_false fun q => q hv)) ?_
            conv => whnf
            refine DrawG.of mixed tab_ok ?_
            conv => whnf
            (refine ⟨_, pk_ld hs2 k.1 k.2, ?_⟩)
            conv => whnf
            refine ⟨by omega, ?_⟩
            conv => whnf
            (refine ⟨2, hg, ?_⟩)
            conv => whnf
            refine ⟨by kernel_rfl, ?_⟩
            conv => whnf
            refine both_t (by (exact decide_eq_true (by rw [nums_len]; omega))) ?_
            conv => whnf
            refine ⟨by (exact og_at hz hd), ?_⟩
            conv => whnf
            (refine ⟨_, og_ld hz hd, ?_⟩)
            conv => whnf
            refine both_t (by (exact decide_eq_true hy)) ?_
            conv => whnf
            (refine OutG.of [some 0, some 1, some 2, some 3, some 4, none] (.int .i64 1) _ (by rfl) (.inr ⟨(fun q => q.2.2 hlg), by rw [e1], rfl⟩) ?_; (conv => whnf); (repeat (first | exact trivial | (refine ⟨rfl, ?_⟩; (conv => whnf)) | (refine ⟨hset, ?_⟩; (conv => whnf)) | (refine ⟨nums_app, ?_⟩; (conv => whnf)) | (refine ⟨(by simp), ?_⟩; (conv => whnf)))); done)
          · have hlg : ¬ lastGt (ordF s (gp s.P (x.toNat - 1)).1) x := by rw [eo]; exact fun q => hy q.2
            conv => whnf
            refine CallG.of_code tab_ok Try.func76 (by rfl) rfl ?_
            conv => whnf
            refine both_f (by simp; omega) ?_
            conv => whnf
            refine both_f (by simp; omega) ?_
            conv => whnf
            refine ⟨by (exact pk_at hs2 k.1 k.2), ?_⟩
            conv => whnf
            (refine ⟨_, pk_ld hs2 k.1 k.2, ?_⟩)
            conv => whnf
            refine both_f (by (exact decide_eq_false fun q => q hv)) ?_
            conv => whnf
            refine DrawG.of mixed tab_ok ?_
            conv => whnf
            (refine ⟨_, pk_ld hs2 k.1 k.2, ?_⟩)
            conv => whnf
            refine ⟨by omega, ?_⟩
            conv => whnf
            (refine ⟨2, hg, ?_⟩)
            conv => whnf
            refine ⟨by kernel_rfl, ?_⟩
            conv => whnf
            refine both_t (by (exact decide_eq_true (by rw [nums_len]; omega))) ?_
            conv => whnf
            refine ⟨by (exact og_at hz hd), ?_⟩
            conv => whnf
            (refine ⟨_, og_ld hz hd, ?_⟩)
            conv => whnf
            refine both_f (by (exact decide_eq_false hy)) ?_
            conv => whnf
            (refine ⟨_, pk_ld hs2 k.1 k.2, ?_⟩)
            conv => whnf
            refine ⟨by (rw [nums_len]; simp only [List.length_cons, List.length_nil]; omega), ?_⟩
            conv => whnf
            refine DrawG.of mixed tab_ok ?_
            conv => whnf
            (refine ⟨_, pk_gs hil, ?_⟩)
            conv => whnf
            refine ⟨by kernel_rfl, ?_⟩
            conv => whnf
            (rw [b14, b16]; refine OutG.of [some 0, some 1, some 2, some 3, some 4, some 6] (.int .i64 0) _ (by rfl) (.inl ⟨⟨h, hv, hlg⟩, rfl, (.inr (.inr ⟨hg, rfl⟩))⟩) ?_; rw [edc, edp]; (conv => whnf); (repeat (first | exact trivial | (refine ⟨rfl, ?_⟩; (conv => whnf)) | (refine ⟨hset, ?_⟩; (conv => whnf)) | (refine ⟨nums_app, ?_⟩; (conv => whnf)) | (refine ⟨(by simp), ?_⟩; (conv => whnf)))); done)
        · have hlg : ¬ lastGt (ordF s (gp s.P (x.toNat - 1)).1) x := by rw [eo]; exact fun q => hz q.1
          conv => whnf
          refine CallG.of_code tab_ok Try.func76 (by rfl) rfl ?_
          conv => whnf
          refine both_f (by simp; omega) ?_
          conv => whnf
          refine both_f (by simp; omega) ?_
          conv => whnf
          refine ⟨by (exact pk_at hs2 k.1 k.2), ?_⟩
          conv => whnf
          (refine ⟨_, pk_ld hs2 k.1 k.2, ?_⟩)
          conv => whnf
          refine both_f (by (exact decide_eq_false fun q => q hv)) ?_
          conv => whnf
          refine DrawG.of mixed tab_ok ?_
          conv => whnf
          (refine ⟨_, pk_ld hs2 k.1 k.2, ?_⟩)
          conv => whnf
          refine ⟨by omega, ?_⟩
          conv => whnf
          (refine ⟨2, hg, ?_⟩)
          conv => whnf
          refine ⟨by kernel_rfl, ?_⟩
          conv => whnf
          refine both_f (by (exact decide_eq_false (by rw [nums_len]; omega))) ?_
          conv => whnf
          (refine ⟨_, pk_ld hs2 k.1 k.2, ?_⟩)
          conv => whnf
          refine ⟨by (rw [nums_len]; simp only [List.length_cons, List.length_nil]; omega), ?_⟩
          conv => whnf
          refine DrawG.of mixed tab_ok ?_
          conv => whnf
          (refine ⟨_, pk_gs hil, ?_⟩)
          conv => whnf
          refine ⟨by kernel_rfl, ?_⟩
          conv => whnf
          (rw [b14, b16]; refine OutG.of [some 0, some 1, some 2, some 3, some 4, some 6] (.int .i64 0) _ (by rfl) (.inl ⟨⟨h, hv, hlg⟩, rfl, (.inr (.inr ⟨hg, rfl⟩))⟩) ?_; rw [edc, edp]; (conv => whnf); (repeat (first | exact trivial | (refine ⟨rfl, ?_⟩; (conv => whnf)) | (refine ⟨hset, ?_⟩; (conv => whnf)) | (refine ⟨nums_app, ?_⟩; (conv => whnf)) | (refine ⟨(by simp), ?_⟩; (conv => whnf)))); done)
    · have e1 : delE s x = 14 := by unfold delE; rw [if_pos h, if_neg hv]
      conv => whnf
      refine CallG.of_code tab_ok Try.func76 (by rfl) rfl ?_
      conv => whnf
      refine both_f (by simp; omega) ?_
      conv => whnf
      refine both_f (by simp; omega) ?_
      conv => whnf
      refine ⟨by (exact pk_at hs2 k.1 k.2), ?_⟩
      conv => whnf
      (refine ⟨_, pk_ld hs2 k.1 k.2, ?_⟩)
      conv => whnf
      refine both_t (by (exact decide_eq_true hv)) ?_
      conv => whnf
      (refine OutG.of [some 0, some 1, some 2, some 3, some 4, none] _ _ (by rfl) (.inr ⟨(fun q => hv q.2.1), by rw [e1], rfl⟩) ?_; (conv => whnf); (repeat (first | exact trivial | (refine ⟨rfl, ?_⟩; (conv => whnf)) | (refine ⟨hset, ?_⟩; (conv => whnf)) | (refine ⟨nums_app, ?_⟩; (conv => whnf)) | (refine ⟨(by simp), ?_⟩; (conv => whnf)))); done)
  · have e1 : delE s x = 6 := if_neg h
    have h' := h
    unfold inR at h'
    conv => whnf
    refine CallG.of_code tab_ok Try.func76 (by rfl) rfl ?_
    conv => whnf
    refine ⟨fun hh0 => ?_, fun hh0 => ?_⟩
    · simp only [decide_eq_true_eq, decide_eq_false_iff_not] at hh0
      conv => whnf
      (refine OutG.of [some 0, some 1, some 2, some 3, some 4, none] _ _ (by rfl) (.inr ⟨(fun q => h q.1), by rw [e1], rfl⟩) ?_; (conv => whnf); (repeat (first | exact trivial | (refine ⟨rfl, ?_⟩; (conv => whnf)) | (refine ⟨hset, ?_⟩; (conv => whnf)) | (refine ⟨nums_app, ?_⟩; (conv => whnf)) | (refine ⟨(by simp), ?_⟩; (conv => whnf)))); done)
    · simp only [decide_eq_true_eq, decide_eq_false_iff_not] at hh0
      conv => whnf
      refine both_t (by simp; omega) ?_
      conv => whnf
      (refine OutG.of [some 0, some 1, some 2, some 3, some 4, none] _ _ (by rfl) (.inr ⟨(fun q => h q.1), by rw [e1], rfl⟩) ?_; (conv => whnf); (repeat (first | exact trivial | (refine ⟨rfl, ?_⟩; (conv => whnf)) | (refine ⟨hset, ?_⟩; (conv => whnf)) | (refine ⟨nums_app, ?_⟩; (conv => whnf)) | (refine ⟨(by simp), ?_⟩; (conv => whnf)))); done)
end Go.Proofs.Ytdommpfnoiemkaa

/- Chapter 18: the order of what was delivered. -/
import Derived.Test.YthlomoacacebeadGen
namespace Go.Proofs.Ythlomoacacebead
open Go.Sx
set_option linter.unusedSimpArgs false
set_option linter.unusedVariables false
abbrev Pk := Int × Int × Int × Int
abbrev pkE (p : Pk) : List SV := [.int .i64 p.1, .int .i64 p.2.1, .int .i64 p.2.2.1, .int .i64 p.2.2.2]
def lgT (u v w : Nat) (c : Nat → Int) : Blk := .fix 95 [.sl u, .int .i64 (c 0), .int .i64 (c 1), .int .i64 (c 2), .int .i64 (c 3), .int .i64 (c 4), .int .i64 (c 5), .sl v, .int .i64 (c 6), .int .i64 (c 7), .int .i64 (c 8), .int .i64 (c 9), .int .i64 (c 10), .int .i64 (c 11), .sl w, .int .i64 0, .int .i64 0, .int .i64 0, .int .i64 0, .int .i64 0, .int .i64 0, .nils, .int .i64 0, .int .i64 0, .int .i64 0, .int .i64 0, .int .i64 0, .int .i64 0, .nils, .int .i64 0, .int .i64 0, .int .i64 0, .int .i64 0, .int .i64 0, .int .i64 0, .nils, .int .i64 0, .int .i64 0, .int .i64 0, .int .i64 0, .int .i64 0, .int .i64 0, .nils, .int .i64 0, .int .i64 0, .int .i64 0, .int .i64 0, .int .i64 0, .int .i64 0, .nils, .int .i64 0, .int .i64 0, .int .i64 0, .int .i64 0, .int .i64 0, .int .i64 0, .nils, .int .i64 0, .int .i64 0, .int .i64 0, .int .i64 0, .int .i64 0, .int .i64 0, .nils, .int .i64 0, .int .i64 0, .int .i64 0, .int .i64 0, .int .i64 0, .int .i64 0, .nils, .int .i64 0, .int .i64 0, .int .i64 0, .int .i64 0, .int .i64 0, .int .i64 0, .nils, .int .i64 0, .int .i64 0, .int .i64 0, .int .i64 0, .int .i64 0, .int .i64 0, .nils, .int .i64 0, .int .i64 0, .int .i64 0, .int .i64 0, .int .i64 0, .int .i64 0, .nils, .int .i64 0, .int .i64 0, .int .i64 0, .int .i64 0, .int .i64 0, .int .i64 0, .nils, .int .i64 0, .int .i64 0, .int .i64 0, .int .i64 0, .int .i64 0, .int .i64 0, .nils, .int .i64 0, .int .i64 0, .int .i64 0, .int .i64 0, .int .i64 0, .int .i64 0, .nils, .int .i64 0, .int .i64 0, .int .i64 0, .int .i64 0, .int .i64 0, .int .i64 0, .nils, .int .i64 0, .int .i64 0, .int .i64 0, .int .i64 0, .int .i64 0, .int .i64 0, .nils, .int .i64 0, .int .i64 0, .int .i64 0, .int .i64 0, .int .i64 0, .int .i64 0, .nils, .int .i64 0, .int .i64 0, .int .i64 0, .int .i64 0, .int .i64 0, .int .i64 0, .nils, .int .i64 0, .int .i64 0, .int .i64 0, .int .i64 0, .int .i64 0, .int .i64 0, .nils, .int .i64 0, .int .i64 0, .int .i64 0, .int .i64 0, .int .i64 0, .int .i64 0, .nils, .int .i64 0, .int .i64 0, .int .i64 0, .int .i64 0, .int .i64 0, .int .i64 0, .nils, .int .i64 0, .int .i64 0, .int .i64 0, .int .i64 0, .int .i64 0, .int .i64 0, .nils, .int .i64 0, .int .i64 0, .int .i64 0, .int .i64 0, .int .i64 0, .int .i64 0, .nils, .int .i64 0, .int .i64 0, .int .i64 0, .int .i64 0, .int .i64 0, .int .i64 0, .nils, .int .i64 0, .int .i64 0, .int .i64 0, .int .i64 0, .int .i64 0, .int .i64 0, .nils, .int .i64 0, .int .i64 0, .int .i64 0, .int .i64 0, .int .i64 0, .int .i64 0, .nils, .int .i64 0, .int .i64 0, .int .i64 0, .int .i64 0, .int .i64 0, .int .i64 0, .nils, .int .i64 0, .int .i64 0, .int .i64 0, .int .i64 0, .int .i64 0, .int .i64 0, .nils, .int .i64 0, .int .i64 0, .int .i64 0, .int .i64 0, .int .i64 0, .int .i64 0, .nils, .int .i64 0, .int .i64 0, .int .i64 0, .int .i64 0, .int .i64 0, .int .i64 0, .nils]
abbrev lgP (P : List Pk) : Blk := .row 98 4 (P.map pkE)
abbrev lgO (O : List Int) : Blk := .row 3 1 (nums O)
def lup (c : Nat → Int) (m : Nat) (v : Int) : Nat → Int := fun i => if i = m then v else c i
structure LSt where
  P : List Pk
  c : Nat → Int
  a : List Int
  b : List Int
abbrev lgH (s : LSt) : Hp := [lgT 1 2 3 s.c, lgP s.P, lgO s.a, lgO s.b]
def d3 (f : Int) (p : Pk) : Bool := decide (p.1 = f) && decide (p.2.2.1 = 3)
def lcnt (P : List Pk) (f : Int) : Nat := P.countP (d3 f)
abbrev gp (P : List Pk) (i : Nat) : Pk := P.getD i (0, 0, 0, 0)
def ordO (P : List Pk) (f : Int) (O : List Int) : Prop := O.Pairwise (· < ·) ∧ (∀ x ∈ O, 1 ≤ x ∧ x ≤ (P.length : Int) ∧ (gp P (x.toNat - 1)).1 = f ∧ (gp P (x.toNat - 1)).2.2.1 = 3) ∧ O.length = lcnt P f
def LOk (s : LSt) : Prop := s.P.length ≤ 1000 ∧ (∀ i, i < s.P.length → (gp s.P i).1 = 0 ∨ (gp s.P i).1 = 1) ∧ ordO s.P 0 s.a ∧ ordO s.P 1 s.b
theorem gp_get {P : List Pk} {i : Nat} (h : i < P.length) : gp P i = P[i] := by simp [gp, List.getD, List.getElem?_eq_getElem h]
theorem pk_get {P : List Pk} {i : Nat} (h : i < P.length) : (P.map pkE)[(i : Int).toNat]? = some (pkE (gp P i)) := by
  rw [gp_get h, Int.toNat_natCast, List.getElem?_map, List.getElem?_eq_getElem h]; rfl
theorem gp_app {P : List Pk} {p : Pk} {i : Nat} : gp (P ++ [p]) i = if i < P.length then gp P i else if i = P.length then p else (0, 0, 0, 0) := by
  unfold gp
  by_cases h : i < P.length
  · rw [if_pos h]; simp [List.getD, List.getElem?_append_left h]
  · rw [if_neg h]
    by_cases e : i = P.length
    · subst e; simp [List.getD]
    · rw [if_neg e]; simp [List.getD, List.getElem?_eq_none (show (P ++ [p]).length ≤ i by simp; omega)]
theorem gp_set {P : List Pk} {p : Pk} {i j : Nat} (h : i < P.length) : gp (P.set i p) j = if j = i then p else gp P j := by
  unfold gp
  by_cases e : j = i
  · subst e; simp [List.getD, h]
  · rw [if_neg e]; simp [List.getD, List.getElem?_set_ne (Ne.symm e)]
theorem ord_app {P : List Pk} {f : Int} {O : List Int} {p : Pk} (h : ordO P f O) (hp : p.2.2.1 ≠ 3) : ordO (P ++ [p]) f O := by
  obtain ⟨h1, h2, h3⟩ := h
  refine ⟨h1, fun x hx => ?_, ?_⟩
  · obtain ⟨a, b, c, d⟩ := h2 x hx
    have e : x.toNat - 1 < P.length := by omega
    rw [gp_app, if_pos e]
    exact ⟨a, by simp; omega, c, d⟩
  · rw [h3]; simp [lcnt, List.countP_append, d3, hp]
theorem cnt_set {P : List Pk} {f : Int} {p : Pk} {i : Nat} (h : i < P.length) (h0 : (gp P i).2.2.1 ≠ 3) : lcnt (P.set i p) f = lcnt P f + (if d3 f p = true then 1 else 0) := by
  unfold lcnt
  have e : d3 f P[i] = false := by rw [← gp_get h]; unfold d3; rw [decide_eq_false h0]; simp
  rw [List.countP_set h, e]; simp
theorem ord_set {P : List Pk} {f : Int} {O : List Int} {p : Pk} {i : Nat} (h : ordO P f O) (hi : i < P.length) (h0 : (gp P i).2.2.1 ≠ 3) (hp : d3 f p = false) : ordO (P.set i p) f O := by
  obtain ⟨h1, h2, h3⟩ := h
  refine ⟨h1, fun x hx => ?_, ?_⟩
  · obtain ⟨a, b, c, d⟩ := h2 x hx
    have e : x.toNat - 1 ≠ i := by intro q; rw [q] at d; exact h0 d
    rw [gp_set hi, if_neg e]
    exact ⟨a, by simpa using b, c, d⟩
  · rw [h3, cnt_set hi h0, hp]; simp
theorem ord_put {P : List Pk} {f : Int} {O : List Int} {p : Pk} {i : Nat} (h : ordO P f O) (hi : i < P.length) (h0 : (gp P i).2.2.1 ≠ 3) (hp : p.1 = f ∧ p.2.2.1 = 3) (hl : ∀ x ∈ O, x < ((i + 1 : Nat) : Int)) : ordO (P.set i p) f (O ++ [((i + 1 : Nat) : Int)]) := by
  obtain ⟨h1, h2, h3⟩ := h
  refine ⟨?_, fun x hx => ?_, ?_⟩
  · rw [List.pairwise_append]; exact ⟨h1, by simp, fun x hx y hy => by simp at hy; subst hy; exact hl x hx⟩
  · rw [gp_set hi]
    rcases List.mem_append.1 hx with hx | hx
    · obtain ⟨a, b, c, d⟩ := h2 x hx
      have e : x.toNat - 1 ≠ i := by intro q; rw [q] at d; exact h0 d
      rw [if_neg e]
      exact ⟨a, by simpa using b, c, d⟩
    · simp only [List.mem_singleton] at hx
      subst hx
      rw [if_pos (by omega)]
      exact ⟨by omega, by simp; omega, hp.1, hp.2⟩
  · rw [cnt_set hi h0, if_pos (by simp [d3, hp.1, hp.2])]; simp [h3]
end Go.Proofs.Ythlomoacacebead

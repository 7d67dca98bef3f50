/- Chapter 8: a header is read back from its record, a record from its header; damage is seen. In plain Lean. -/
import Derived.Test.YtdommpfnoiemkaaPktL
namespace Go.Proofs.Ytdommpfnoiemkaa
open Go.Sx
set_option linter.unusedSimpArgs false
set_option linter.unusedVariables false
theorem byt_l {a b : List UInt8} {i : Nat} (h : i < a.length) : byt (a ++ b) i = byt a i := by simp [byt, List.getD, List.getElem?_append_left h]
theorem byt_r {a b : List UInt8} {i : Nat} (h : a.length ≤ i) : byt (a ++ b) i = byt b (i - a.length) := by simp [byt, List.getD, List.getElem?_append_right h]
theorem two_len (n : Int) : (twoB n).length = 2 := rfl
theorem two_0 {n : Int} (h0 : 0 ≤ n) (h1 : n ≤ 65535) : byt (twoB n) 0 = n / 256 := u8_nat (z := n / 256) (by omega) (by omega)
theorem two_1 {n : Int} (h0 : 0 ≤ n) (h1 : n ≤ 65535) : byt (twoB n) 1 = n % 256 := u8_nat (z := n % 256) (by omega) (by omega)
theorem recB_len (h : Hd) : (recB h).length = 10 + h.st.length := by simp [recB, twoB]; omega
theorem recD_len (h : Hd) : (recD h).length = 12 + h.st.length := by rw [recD, List.length_append, recB_len, two_len]; omega
theorem recB_byt (h : Hd) (hp : hdP h) (hn : h.st.length ≤ 255) : byt (recB h) 0 = 165 ∧ byt (recB h) 1 = 1 ∧ byt (recB h) 2 = h.c ∧ byt (recB h) 3 = h.p / 256 ∧ byt (recB h) 4 = h.p % 256 ∧ byt (recB h) 5 = h.l / 256 ∧ byt (recB h) 6 = h.l % 256 ∧ byt (recB h) 7 = h.f / 256 ∧ byt (recB h) 8 = h.f % 256 ∧ byt (recB h) 9 = (h.st.length : Int) := by
  unfold hdP at hp
  have e : ((UInt8.ofNat h.st.length).toNat : Int) = (h.st.length : Int) := by
    have := u8_nat (z := (h.st.length : Int)) (by omega) (by omega)
    simpa using this
  exact ⟨rfl, rfl, u8_nat (z := h.c) (by omega) (by omega), u8_nat (z := h.p / 256) (by omega) (by omega), u8_nat (z := h.p % 256) (by omega) (by omega), u8_nat (z := h.l / 256) (by omega) (by omega), u8_nat (z := h.l % 256) (by omega) (by omega),
    u8_nat (z := h.f / 256) (by omega) (by omega), u8_nat (z := h.f % 256) (by omega) (by omega), e⟩
theorem recD_take (h : Hd) : (recD h).take ((recD h).length - 2) = recB h := by
  rw [recD_len, recD, show 12 + h.st.length - 2 = (recB h).length from by rw [recB_len]; omega, List.take_left]
theorem recD_num (h : Hd) : numB (recD h) ((recD h).length - 2) = ckV (recB h) := by
  have r := ckV_rng (recB h)
  have e : (recD h).length - 2 = (recB h).length := by rw [recD_len, recB_len]; omega
  rw [e, numB, recD, byt_r (Nat.le_refl _), byt_r (by omega), Nat.sub_self, show (recB h).length + 1 - (recB h).length = 1 from by omega, two_0 (by omega) (by omega), two_1 (by omega) (by omega)]
  omega
theorem prs_rec (h : Hd) (hv : hdOk h = true) : prsR (recD h) = (h, 0) := by
  obtain ⟨hn, hp⟩ := hdOk_of hv
  have hl := nameOk_len hn
  obtain ⟨b0, b1, b2, b3, b4, b5, b6, b7, b8, b9⟩ := recB_byt h hp (by omega)
  have hlen := recD_len h
  have hlB := recB_len h
  have gb : ∀ i, i < 10 → byt (recD h) i = byt (recB h) i := fun i hi => byt_l (by omega)
  have eH : prsH (recD h) = h := by
    unfold prsH
    rw [recD_take]
    have e0 : (recB h).drop 10 = h.st := rfl
    have e3 : numB (recD h) 3 = h.p := by unfold numB; rw [gb 3 (by omega), gb 4 (by omega), b3, b4]; omega
    have e5 : numB (recD h) 5 = h.l := by unfold numB; rw [gb 5 (by omega), gb 6 (by omega), b5, b6]; omega
    have e7 : numB (recD h) 7 = h.f := by unfold numB; rw [gb 7 (by omega), gb 8 (by omega), b7, b8]; omega
    rw [e0, e3, e5, e7, gb 2 (by omega), b2]
  rw [prs_g (s := recD h) (by omega) rfl (by rw [gb 9 (by omega), b9, hlen]; omega) (by rw [recD_num, recD_take]) (by rw [eH]; exact hv), eH]
theorem prs_inv {s : List UInt8} (h : (prsR s).2 = 0) : 12 ≤ s.length ∧ s.take 2 = [165, 1] ∧ 12 + byt s 9 = (s.length : Int) ∧ numB s (s.length - 2) = ckV (s.take (s.length - 2)) ∧ hdOk (prsH s) = true ∧ (prsR s).1 = prsH s := by
  unfold prsR at h ⊢
  by_cases h1 : s.length < 12
  · rw [if_pos h1] at h; simp at h
  rw [if_neg h1] at h ⊢
  by_cases h2 : ¬ s.take 2 = [165, 1]
  · rw [if_pos h2] at h; simp at h
  rw [if_neg h2] at h ⊢
  by_cases h3 : (s.length : Int) < 12 + byt s 9
  · rw [if_pos h3] at h; simp at h
  rw [if_neg h3] at h ⊢
  by_cases h4 : 12 + byt s 9 < (s.length : Int)
  · rw [if_pos h4] at h; simp at h
  rw [if_neg h4] at h ⊢
  by_cases h5 : ¬ numB s (s.length - 2) = ckV (s.take (s.length - 2))
  · rw [if_pos h5] at h; simp at h
  rw [if_neg h5] at h ⊢
  by_cases h6 : hdOk (prsH s) = true
  · rw [if_pos h6]
    exact ⟨by omega, Decidable.not_not.1 h2, by omega, Decidable.not_not.1 h5, h6, rfl⟩
  · rw [if_neg h6] at h; simp at h
theorem prs_bad {s : List UInt8} (h : (prsR s).2 ≠ 0) : (prsR s).1 = hd0 := by
  unfold prsR at h ⊢
  repeat' split
  all_goals first | rfl | skip
  rename_i h1 h2 h3 h4 h5 h6
  rw [if_neg h1, if_neg h2, if_neg h3, if_neg h4, if_neg h5, if_pos h6] at h
  exact absurd rfl h
theorem u8_byt (s : List UInt8) (i : Nat) : UInt8.ofNat (byt s i).toNat = s.getD i 0 := by
  unfold byt; rw [Int.toNat_natCast]; simp
theorem two_num (s : List UInt8) (i : Nat) : twoB (numB s i) = [s.getD i 0, s.getD (i + 1) 0] := by
  have a := byt_rng s i
  have b := byt_rng s (i + 1)
  unfold twoB numB
  rw [show (256 * byt s i + byt s (i + 1)) / 256 = byt s i from by omega, show (256 * byt s i + byt s (i + 1)) % 256 = byt s (i + 1) from by omega, u8_byt, u8_byt]
theorem split2 {s : List UInt8} {n : Nat} (h : s.length = n + 2) : s = s.take n ++ [s.getD n 0, s.getD (n + 1) 0] := by
  apply List.ext_getElem?
  intro i
  by_cases hi : i < n
  · rw [List.getElem?_append_left (by simp; omega), List.getElem?_take_of_lt hi]
  · rw [List.getElem?_append_right (by simp; omega), List.length_take, show min n s.length = n from by omega]
    by_cases h0 : i = n
    · subst h0; simp [List.getD, List.getElem?_eq_getElem (show i < s.length by omega)]
    · by_cases h1 : i = n + 1
      · subst h1; rw [show n + 1 - n = 1 from by omega]; simp [List.getD, List.getElem?_eq_getElem (show n + 1 < s.length by omega)]
      · rw [List.getElem?_eq_none (by omega), List.getElem?_eq_none (by simp; omega)]
theorem split10 {t : List UInt8} (h : 10 ≤ t.length) : t = [t.getD 0 0, t.getD 1 0, t.getD 2 0, t.getD 3 0, t.getD 4 0, t.getD 5 0, t.getD 6 0, t.getD 7 0, t.getD 8 0, t.getD 9 0] ++ t.drop 10 := by
  match t, h with
  | a0 :: a1 :: a2 :: a3 :: a4 :: a5 :: a6 :: a7 :: a8 :: a9 :: r, _ => rfl
theorem rec_prs {s : List UInt8} (h : (prsR s).2 = 0) : recD (prsR s).1 = s := by
  obtain ⟨h1, h2, h3, h4, h5, h6⟩ := prs_inv h
  rw [h6]
  have b9 := byt_rng s 9
  have gt : ∀ i, i < s.length - 2 → (s.take (s.length - 2)).getD i 0 = s.getD i 0 := fun i hi => by simp [List.getD, List.getElem?_take_of_lt hi]
  have e2 : s.getD 0 0 = 165 ∧ s.getD 1 0 = 1 := by
    match s, h1, h2 with
    | a :: b :: r, _, h2 => simp at h2; exact ⟨h2.1, h2.2⟩
  have eB : recB (prsH s) = s.take (s.length - 2) := by
    rw [split10 (t := s.take (s.length - 2)) (by simp; omega), gt 0 (by omega), gt 1 (by omega), gt 2 (by omega), gt 3 (by omega), gt 4 (by omega), gt 5 (by omega), gt 6 (by omega), gt 7 (by omega), gt 8 (by omega), gt 9 (by omega)]
    unfold recB prsH
    simp only
    rw [two_num, two_num, two_num, u8_byt, e2.1, e2.2]
    have el : UInt8.ofNat ((s.take (s.length - 2)).drop 10).length = s.getD 9 0 := by
      rw [← u8_byt]
      congr 1
      rw [List.length_drop, List.length_take]
      omega
    rw [el]
    rfl
  rw [recD, eB, ← h4, two_num]
  exact (split2 (s := s) (n := s.length - 2) (by omega)).symm
theorem byt_set {s : List UInt8} {i j : Nat} {b : UInt8} (h : i < s.length) : byt (s.set i b) j = if j = i then (b.toNat : Int) else byt s j := by
  unfold byt
  by_cases e : j = i
  · subst e; simp [List.getD, h]
  · rw [if_neg e]; simp [List.getD, List.getElem?_set_ne (Ne.symm e)]
theorem ckA_set {s : List UInt8} {i : Nat} {b : UInt8} (h : i < s.length) : ∀ k, ckA (s.set i b) k = (ckA s k + (if i < k then (b.toNat : Int) - byt s i else 0)) % 255 := by
  intro k
  induction k with
  | zero => simp [ckA]
  | succ k ih =>
    have r := ckA_rng s k
    simp only [ckA]
    rw [ih, byt_set h]
    by_cases e : k = i
    · subst e
      rw [if_pos rfl, if_neg (by omega), if_pos (by omega)]
      omega
    · rw [if_neg e]
      by_cases e2 : i < k
      · rw [if_pos e2, if_pos (by omega)]; omega
      · rw [if_neg e2, if_neg (by omega)]; omega
theorem damage {h : Hd} (hv : hdOk h = true) {i : Nat} {b : UInt8} (hi : i < (recD h).length) (h1 : byt (recD h) i ≠ (b.toNat : Int)) (h2 : ¬ (byt (recD h) i = 0 ∧ (b.toNat : Int) = 255)) (h3 : ¬ (byt (recD h) i = 255 ∧ (b.toNat : Int) = 0)) : (prsR ((recD h).set i b)).2 ≠ 0 := by
  intro h0
  obtain ⟨_, _, _, h4, _, _⟩ := prs_inv h0
  have hl := recD_len h
  have r := byt_rng (recD h) i
  have rb := b.toNat_lt
  rw [List.length_set, List.take_set] at h4
  by_cases hk : i < (recD h).length - 2
  · have e1 : numB ((recD h).set i b) ((recD h).length - 2) = numB (recD h) ((recD h).length - 2) := by
      unfold numB; rw [byt_set hi, byt_set hi, if_neg (by omega), if_neg (by omega)]
    rw [e1, recD_num, recD_take] at h4
    have hiB : i < (recB h).length := by rw [recB_len]; omega
    have e2 : byt (recD h) i = byt (recB h) i := byt_l hiB
    have a := ckA_rng (recB h) (recB h).length
    have bb := ckB_rng (recB h) (recB h).length
    have a2 := ckA_rng ((recB h).set i b) (recB h).length
    have b2 := ckB_rng ((recB h).set i b) (recB h).length
    have c := ckA_set (b := b) hiB (recB h).length
    rw [if_pos hiB] at c
    unfold ckV at h4
    rw [List.length_set] at h4
    omega
  · have e9 : (recB h).set i b = recB h := List.set_eq_of_length_le (by rw [recB_len]; omega)
    rw [recD_take, e9, ← recD_num] at h4
    unfold numB at h4
    rw [byt_set hi, byt_set hi] at h4
    have r1 := byt_rng (recD h) ((recD h).length - 2)
    have r2 := byt_rng (recD h) ((recD h).length - 2 + 1)
    by_cases e : i = (recD h).length - 2
    · rw [if_pos e.symm, if_neg (by omega), ← e] at h4; omega
    · have e3 : i = (recD h).length - 2 + 1 := by omega
      rw [if_neg (by omega), if_pos e3.symm, ← e3] at h4; omega
end Go.Proofs.Ytdommpfnoiemkaa

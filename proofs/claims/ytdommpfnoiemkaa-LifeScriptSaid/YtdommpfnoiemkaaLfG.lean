/- Chapter 18: plain laws of the tables: what one call does to both of them. -/
import Derived.Test.YtdommpfnoiemkaaLfF
namespace Go.Proofs.Ytdommpfnoiemkaa
open Go.Sx
set_option linter.unusedSimpArgs false
set_option linter.unusedVariables false
def sumP (g : Pk → Int) : List Pk → Int
  | [] => 0
  | p :: P => g p + sumP g P
theorem sumP_app (g : Pk → Int) (P : List Pk) (p : Pk) : sumP g (P ++ [p]) = sumP g P + g p := by
  induction P with
  | nil => simp [sumP]
  | cons q P ih => simp only [List.cons_append, sumP, ih]; omega
theorem sumP_set (g : Pk → Int) (p : Pk) : ∀ (P : List Pk) (i : Nat), i < P.length → sumP g (P.set i p) = sumP g P + g p - g (gp P i)
  | [], i, h => by simp at h
  | q :: P, 0, h => by simp only [List.set_cons_zero, sumP]; show g p + sumP g P = g q + sumP g P + g p - g q; omega
  | q :: P, i + 1, h => by
    have ih := sumP_set g p P i (by simpa using h)
    simp only [List.set_cons_succ, sumP, ih]
    show g q + (sumP g P + g p - g (gp P i)) = g q + sumP g P + g p - g (gp P i)
    omega
theorem sumP_rng {g : Pk → Int} {k : Int} : ∀ {P : List Pk}, (∀ i, i < P.length → 0 ≤ g (gp P i) ∧ g (gp P i) ≤ k) → 0 ≤ sumP g P ∧ sumP g P ≤ k * (P.length : Int)
  | [], _ => by simp [sumP]
  | q :: P, h => by
    have ih := sumP_rng (P := P) fun i hi => h (i + 1) (by simp; omega)
    have h0 : 0 ≤ g q ∧ g q ≤ k := h 0 (by simp)
    simp only [sumP, List.length_cons]
    have e : k * ((P.length + 1 : Nat) : Int) = k * (P.length : Int) + k := by rw [Int.natCast_add, Int.mul_add]; simp
    rw [e]
    omega
def gF (f : Int) (p : Pk) : Int := if p.1 = f then 1 else 0
def gS (f st : Int) (p : Pk) : Int := if p.1 = f ∧ p.2.2.1 = st then 1 else 0
def gB (f : Int) (p : Pk) : Int := if p.1 = f ∧ p.2.2.1 = 3 then p.2.1 else 0
theorem cnt_sum {f st : Int} (h : st ≠ 0) : ∀ P : List Pk, (cnt P f st : Int) = sumP (gS f st) P
  | [] => by simp [cnt, sumP]
  | q :: P => by
    have ih := cnt_sum (f := f) h P
    unfold cnt at ih ⊢
    rw [List.countP_cons, sumP, ← ih]
    unfold gS cQ
    by_cases h1 : q.1 = f <;> by_cases h2 : q.2.2.1 = st <;> simp [h1, h2, h] <;> omega
def cel (P : List Pk) (r : Nat → Int) : Nat → Int
  | 1 => sumP (gF 0) P | 2 => sumP (gS 0 3) P | 3 => sumP (gS 0 4) P + r 0 | 4 => sumP (gB 0) P
  | 7 => sumP (gF 1) P | 8 => sumP (gS 1 3) P | 9 => sumP (gS 1 4) P + r 1 | 10 => sumP (gB 1) P
  | 13 => sumP (gF 2) P | 14 => sumP (gS 2 3) P | 15 => sumP (gS 2 4) P + r 2 | 16 => sumP (gB 2) P
  | _ => 0
def flw (P : List Pk) (y : Int) : Int := (gp P (y.toNat - 1)).1
def ordO (P : List Pk) (D : List Int) (f : Int) : List Int := D.filter fun y => decide (flw P y = f)
def toL (R : R3) : L3 := ⟨R.P, cel R.P R.r, ordO R.P R.D 0, ordO R.P R.D 1, ordO R.P R.D 2⟩
structure IR (n m : Nat) (R : R3) : Prop where
  pl : R.P.length ≤ n
  dl : R.D.length ≤ n
  fl : flOk R.P
  ln : lnOk R.P
  st : stOk R.P
  dd : ∀ y ∈ R.D, inR R.P y ∧ (gp R.P (y.toNat - 1)).2.2.1 = 3
  asc : ∀ f, (ordO R.P R.D f).Pairwise (· < ·)
  rr : ∀ i, 0 ≤ R.r i ∧ R.r i ≤ m
theorem IR.mono {n m n' m' : Nat} {R : R3} (h : IR n m R) (hn : n ≤ n') (hm : m ≤ m') : IR n' m' R :=
  ⟨Nat.le_trans h.pl hn, Nat.le_trans h.dl hn, h.fl, h.ln, h.st, h.dd, h.asc, fun i => ⟨(h.rr i).1, by have := (h.rr i).2; omega⟩⟩
theorem IR.dok {n m : Nat} {R : R3} (h : IR n m R) : DOk R.P R.D := fun i hi => by
  rw [show R.D.getD i 0 = R.D[i] by simp [List.getD, List.getElem?_eq_getElem hi]]
  exact (h.dd _ (List.getElem_mem hi)).1
theorem ord_le (P : List Pk) (D : List Int) (f : Int) : (ordO P D f).length ≤ D.length := List.length_filter_le _ _
theorem IR.cel {n m : Nat} {R : R3} (h : IR n m R) (hn : n ≤ 200) (hm : m ≤ 1000) : cOk (cel R.P R.r) := by
  have f1 : ∀ f, 0 ≤ sumP (gF f) R.P ∧ sumP (gF f) R.P ≤ 200 := fun f => by
    have := sumP_rng (g := gF f) (k := 1) (P := R.P) fun i _ => by unfold gF; split <;> omega
    have := h.pl; omega
  have f2 : ∀ f s, 0 ≤ sumP (gS f s) R.P ∧ sumP (gS f s) R.P ≤ 200 := fun f s => by
    have := sumP_rng (g := gS f s) (k := 1) (P := R.P) fun i _ => by unfold gS; split <;> omega
    have := h.pl; omega
  have f3 : ∀ f, 0 ≤ sumP (gB f) R.P ∧ sumP (gB f) R.P ≤ 819200 := fun f => by
    have := sumP_rng (g := gB f) (k := 4096) (P := R.P) fun i hi => by have := h.ln i hi; unfold gB; split <;> omega
    have := h.pl; omega
  intro i
  have r0 := h.rr 0
  have r1 := h.rr 1
  have r2 := h.rr 2
  have a0 := f2 0 4
  have a1 := f2 1 4
  have a2 := f2 2 4
  unfold Go.Proofs.Ytdommpfnoiemkaa.cel
  split
  · have := f1 0; omega
  · have := f2 0 3; omega
  · omega
  · have := f3 0; omega
  · have := f1 1; omega
  · have := f2 1 3; omega
  · omega
  · have := f3 1; omega
  · have := f1 2; omega
  · have := f2 2 3; omega
  · omega
  · have := f3 2; omega
  · omega
theorem lup_eq {c c' : Nat → Int} {k : Nat} {v : Int} (h : ∀ i, i ≠ k → c' i = c i) (hk : c' k = v) : lup c k v = c' := by
  funext i
  unfold lup
  split
  · rename_i e; rw [e, hk]
  · rename_i e; rw [h i e]
theorem cel_ext {P P' : List Pk} {r r' : Nat → Int} (hF : ∀ k, sumP (gF k) P' = sumP (gF k) P) (hD : ∀ k, sumP (gS k 3) P' = sumP (gS k 3) P) (hX : ∀ k, sumP (gS k 4) P' = sumP (gS k 4) P) (hB : ∀ k, sumP (gB k) P' = sumP (gB k) P) (hr : r' = r) : cel P' r' = cel P r := by
  funext i
  subst hr
  unfold cel
  split <;> simp only [hF, hD, hX, hB]
theorem gp_app {P : List Pk} {p : Pk} {i : Nat} : gp (P ++ [p]) i = if i < P.length then gp P i else if i = P.length then p else (0, 0, 0, 0) := by
  unfold gp
  by_cases h : i < P.length
  · rw [if_pos h]; simp [List.getD, List.getElem?_append_left h]
  · rw [if_neg h]
    by_cases e : i = P.length
    · subst e; simp [List.getD]
    · rw [if_neg e]; simp [List.getD, List.getElem?_eq_none (show (P ++ [p]).length ≤ i by simp; omega)]
theorem gp_set {P : List Pk} {p : Pk} {i j : Nat} (h : i < P.length) : gp (P.set i p) j = if j = i then p else gp P j := by
  unfold gp
  by_cases e : j = i
  · subst e; simp [List.getD, h]
  · rw [if_neg e]; simp [List.getD, List.getElem?_set_ne (Ne.symm e)]
theorem ord_same {P P' : List Pk} {D : List Int} (h : ∀ y ∈ D, flw P' y = flw P y) (f : Int) : ordO P' D f = ordO P D f :=
  List.filter_congr fun y hy => by rw [h y hy]
theorem gF_1 (k f l st w : Int) : gF k (f, l, st, w) = if f = k then 1 else 0 := rfl
theorem ir_acc {n m : Nat} {R : R3} {f l : Int} (h : IR n m R) (ha : aOk f l) : IR (n + 1) m ⟨R.P ++ [(f, l, 1, 0)], R.D, R.r⟩ ∧ upC (cel R.P R.r) f 1 1 = cel (R.P ++ [(f, l, 1, 0)]) R.r ∧ ∀ k, ordO (R.P ++ [(f, l, 1, 0)]) R.D k = ordO R.P R.D k := by
  obtain ⟨hf, l1, l2⟩ := ha
  have hfl : ∀ y ∈ R.D, gp (R.P ++ [(f, l, 1, 0)]) (y.toNat - 1) = gp R.P (y.toNat - 1) := fun y hy => by
    have hr := (h.dd y hy).1
    unfold inR at hr
    rw [gp_app, if_pos (by omega)]
  have hord : ∀ k, ordO (R.P ++ [(f, l, 1, 0)]) R.D k = ordO R.P R.D k := ord_same fun y hy => by unfold flw; rw [hfl y hy]
  have hall : ∀ i, i < (R.P ++ [(f, l, (1 : Int), (0 : Int))]).length → gp (R.P ++ [(f, l, 1, 0)]) i = gp R.P i ∧ i < R.P.length ∨ gp (R.P ++ [(f, l, 1, 0)]) i = (f, l, 1, 0) := fun i hi => by
    rw [gp_app]
    by_cases q : i < R.P.length
    · rw [if_pos q]; exact .inl ⟨rfl, q⟩
    · rw [if_neg q]
      simp at hi
      rw [if_pos (by omega)]; exact .inr rfl
  refine ⟨⟨by have := h.pl; simp; omega, by have := h.dl; show R.D.length ≤ n + 1; omega, fun i hi => ?_, fun i hi => ?_, fun i hi => ?_, fun y hy => ?_, fun k => by show (ordO _ _ k).Pairwise _; rw [hord k]; exact h.asc k, h.rr⟩, ?_, hord⟩
  · rcases hall i hi with ⟨e, q⟩ | e
    · rw [e]; exact h.fl i q
    · rw [e]; exact hf
  · rcases hall i hi with ⟨e, q⟩ | e
    · rw [e]; exact h.ln i q
    · rw [e]; exact ⟨l1, l2⟩
  · rcases hall i hi with ⟨e, q⟩ | e
    · rw [e]; exact h.st i q
    · rw [e]; exact ⟨by show (1 : Int) ≤ 1; omega, by show (1 : Int) ≤ 4; omega⟩
  · obtain ⟨a, b⟩ := h.dd y hy
    refine ⟨?_, ?_⟩
    · unfold inR at a ⊢; simp; omega
    · show (gp (R.P ++ [(f, l, 1, 0)]) _).2.2.1 = 3
      rw [hfl y hy]; exact b
  · have eF : ∀ k, sumP (gF k) (R.P ++ [(f, l, 1, 0)]) = sumP (gF k) R.P + if f = k then 1 else 0 := fun k => sumP_app ..
    have eD : ∀ k, sumP (gS k 3) (R.P ++ [(f, l, 1, 0)]) = sumP (gS k 3) R.P := fun k => by rw [sumP_app]; simp [gS]
    have eX : ∀ k, sumP (gS k 4) (R.P ++ [(f, l, 1, 0)]) = sumP (gS k 4) R.P := fun k => by rw [sumP_app]; simp [gS]
    have eB : ∀ k, sumP (gB k) (R.P ++ [(f, l, 1, 0)]) = sumP (gB k) R.P := fun k => by rw [sumP_app]; simp [gB]
    rcases hf with rfl | rfl | rfl
    all_goals
      refine lup_eq (fun i hi => ?_) ?_
      · unfold cel
        split <;> simp only [eF, eD, eX, eB] <;> first | (exact absurd rfl hi) | simp
      · show _ = _
        simp [cel, eF]
theorem ir_set {n m : Nat} {R : R3} {x : Int} {p : Pk} (h : IR n m R) (hx : inR R.P x) (h3 : (gp R.P (x.toNat - 1)).2.2.1 ≠ 3) (p1 : p.1 = (gp R.P (x.toNat - 1)).1) (p2 : p.2.1 = (gp R.P (x.toNat - 1)).2.1) (p3 : 1 ≤ p.2.2.1 ∧ p.2.2.1 ≤ 4) :
    IR n m ⟨R.P.set (x.toNat - 1) p, R.D, R.r⟩ ∧ (∀ k, ordO (R.P.set (x.toNat - 1) p) R.D k = ordO R.P R.D k) ∧ ∀ y ∈ R.D, y ≠ x := by
  have hr := hx
  unfold inR at hr
  have hi : x.toNat - 1 < R.P.length := by omega
  have hne : ∀ y ∈ R.D, y ≠ x := fun y hy e => by subst e; exact h3 (h.dd y hy).2
  have hfl : ∀ y ∈ R.D, gp (R.P.set (x.toNat - 1) p) (y.toNat - 1) = gp R.P (y.toNat - 1) := fun y hy => by
    have := hne y hy
    have hr2 := (h.dd y hy).1
    unfold inR at hr2
    rw [gp_set hi, if_neg (by omega)]
  have hord : ∀ k, ordO (R.P.set (x.toNat - 1) p) R.D k = ordO R.P R.D k := ord_same fun y hy => by unfold flw; rw [hfl y hy]
  have hlen : (R.P.set (x.toNat - 1) p).length = R.P.length := List.length_set ..
  refine ⟨⟨by show (R.P.set _ _).length ≤ n; rw [hlen]; exact h.pl, h.dl, fun j hj => ?_, fun j hj => ?_, fun j hj => ?_, fun y hy => ?_, fun k => by show (ordO _ _ k).Pairwise _; rw [hord k]; exact h.asc k, h.rr⟩, hord, hne⟩
  · rw [hlen] at hj
    rw [gp_set hi]
    by_cases e : j = x.toNat - 1
    · rw [if_pos e, p1]; exact h.fl _ hi
    · rw [if_neg e]; exact h.fl j hj
  · rw [hlen] at hj
    rw [gp_set hi]
    by_cases e : j = x.toNat - 1
    · rw [if_pos e, p2]; exact h.ln _ hi
    · rw [if_neg e]; exact h.ln j hj
  · rw [hlen] at hj
    rw [gp_set hi]
    by_cases e : j = x.toNat - 1
    · rw [if_pos e]; exact p3
    · rw [if_neg e]; exact h.st j hj
  · obtain ⟨a, b⟩ := h.dd y hy
    refine ⟨?_, ?_⟩
    · unfold inR at a ⊢; show 1 ≤ y ∧ y ≤ ((R.P.set _ _).length : Int); rw [hlen]; exact a
    · show (gp (R.P.set (x.toNat - 1) p) _).2.2.1 = 3
      rw [hfl y hy]; exact b
theorem sum_setS {P : List Pk} {i : Nat} (hi : i < P.length) (g : Pk → Int) (p : Pk) (d : Int) (h : g p = g (gp P i) + d) : sumP g (P.set i p) = sumP g P + d := by rw [sumP_set g p P i hi, h]; omega
theorem gS_ne {k st : Int} {q : Pk} (h : q.2.2.1 ≠ st) : gS k st q = 0 := if_neg fun e => h e.2
theorem gB_ne {k : Int} {q : Pk} (h : q.2.2.1 ≠ 3) : gB k q = 0 := if_neg fun e => h e.2
theorem gS_eq {k st : Int} {q : Pk} (h : q.2.2.1 = st) : gS k st q = if q.1 = k then 1 else 0 := by
  unfold gS
  by_cases e : q.1 = k
  · rw [if_pos ⟨e, h⟩, if_pos e]
  · rw [if_neg fun z => e z.1, if_neg e]
theorem gB_eq {k : Int} {q : Pk} (h : q.2.2.1 = 3) : gB k q = if q.1 = k then q.2.1 else 0 := by
  unfold gB
  by_cases e : q.1 = k
  · rw [if_pos ⟨e, h⟩, if_pos e]
  · rw [if_neg fun z => e z.1, if_neg e]
theorem ir_snd {n m : Nat} {R : R3} (h : IR n m R) (x : Int) : IR n m ⟨sndP R.P x, R.D, R.r⟩ ∧ cel (sndP R.P x) R.r = cel R.P R.r ∧ ∀ k, ordO (sndP R.P x) R.D k = ordO R.P R.D k := by
  unfold sndP
  by_cases hq : inR R.P x ∧ live R.P x
  · rw [if_pos hq]
    have hr := hq.1
    unfold inR at hr
    have hi : x.toNat - 1 < R.P.length := by omega
    have h3 : (gp R.P (x.toNat - 1)).2.2.1 ≠ 3 := by rcases hq.2 with e | e <;> rw [e] <;> decide
    have h4 : (gp R.P (x.toNat - 1)).2.2.1 ≠ 4 := by rcases hq.2 with e | e <;> rw [e] <;> decide
    obtain ⟨a, b, _⟩ := ir_set (p := putS (gp R.P (x.toNat - 1)) 2) h hq.1 h3 rfl rfl ⟨by show (1 : Int) ≤ 2; omega, by show (2 : Int) ≤ 4; omega⟩
    refine ⟨a, cel_ext (fun k => ?_) (fun k => ?_) (fun k => ?_) (fun k => ?_) rfl, b⟩
    · rw [sum_setS hi _ _ 0 (by simp [gF, putS])]; omega
    · rw [sum_setS hi _ _ 0 (by rw [gS_ne h3, gS_ne (by show (2 : Int) ≠ 3; decide)]; rfl)]; omega
    · rw [sum_setS hi _ _ 0 (by rw [gS_ne h4, gS_ne (by show (2 : Int) ≠ 4; decide)]; rfl)]; omega
    · rw [sum_setS hi _ _ 0 (by rw [gB_ne h3, gB_ne (by show (2 : Int) ≠ 3; decide)]; rfl)]; omega
  · rw [if_neg hq]; exact ⟨h, rfl, fun _ => rfl⟩
theorem ir_ref {n m : Nat} {R : R3} {f : Int} (h : IR n m R) (hf : fOk f ∨ f = -1 ∨ f = 32) : IR n (m + 1) ⟨R.P, R.D, upR R.r f⟩ ∧ upC (cel R.P R.r) f 3 1 = cel R.P (upR R.r f) := by
  have hrr : ∀ i, 0 ≤ upR R.r f i ∧ upR R.r f i ≤ ((m + 1 : Nat) : Int) := fun i => by
    have a0 := h.rr 0
    have a1 := h.rr 1
    have a2 := h.rr 2
    have ai := h.rr i
    unfold upR lup
    split
    · dsimp only; split <;> omega
    · split
      · dsimp only; split <;> omega
      · split
        · dsimp only; split <;> omega
        · omega
  refine ⟨⟨h.pl, h.dl, h.fl, h.ln, h.st, h.dd, h.asc, hrr⟩, ?_⟩
  rcases hf with (rfl | rfl | rfl) | rfl | rfl
  · refine lup_eq (fun i hi => ?_) ?_
    · unfold cel
      split <;> first | (exact absurd rfl hi) | rfl
    · show _ = _
      simp [cel, upR, lup]; omega
  · refine lup_eq (fun i hi => ?_) ?_
    · unfold cel
      split <;> first | (exact absurd rfl hi) | rfl
    · show _ = _
      simp [cel, upR, lup]; omega
  · refine lup_eq (fun i hi => ?_) ?_
    · unfold cel
      split <;> first | (exact absurd rfl hi) | rfl
    · show _ = _
      simp [cel, upR, lup]; omega
  · rfl
  · rfl
theorem ir_drp {n m : Nat} {R : R3} (h : IR n m R) (x w : Int) : IR n m ⟨drpP R.P x w, R.D, R.r⟩ ∧ drpC R.P (cel R.P R.r) x w = cel (drpP R.P x w) R.r ∧ ∀ k, ordO (drpP R.P x w) R.D k = ordO R.P R.D k := by
  unfold drpP drpC
  by_cases hq : inR R.P x ∧ (1 ≤ w ∧ w ≤ 4) ∧ live R.P x
  · rw [if_pos hq, if_pos hq]
    have hr := hq.1
    unfold inR at hr
    have hi : x.toNat - 1 < R.P.length := by omega
    have h3 : (gp R.P (x.toNat - 1)).2.2.1 ≠ 3 := by rcases hq.2.2 with e | e <;> rw [e] <;> decide
    have h4 : (gp R.P (x.toNat - 1)).2.2.1 ≠ 4 := by rcases hq.2.2 with e | e <;> rw [e] <;> decide
    obtain ⟨a, b, _⟩ := ir_set (p := putW (gp R.P (x.toNat - 1)) 4 w) h hq.1 h3 rfl rfl ⟨by show (1 : Int) ≤ 4; omega, by show (4 : Int) ≤ 4; omega⟩
    refine ⟨a, ?_, b⟩
    have hg := h.fl _ hi
    generalize hG : gp R.P (x.toNat - 1) = q at *
    have eF : ∀ k, sumP (gF k) (R.P.set (x.toNat - 1) (putW q 4 w)) = sumP (gF k) R.P := fun k => by rw [sum_setS hi _ _ 0 (by rw [hG, Int.add_zero]; rfl)]; omega
    have eD : ∀ k, sumP (gS k 3) (R.P.set (x.toNat - 1) (putW q 4 w)) = sumP (gS k 3) R.P := fun k => by rw [sum_setS hi _ _ 0 (by rw [hG, gS_ne h3, gS_ne (by show (4 : Int) ≠ 3; decide)]; rfl)]; omega
    have eX : ∀ k, sumP (gS k 4) (R.P.set (x.toNat - 1) (putW q 4 w)) = sumP (gS k 4) R.P + if q.1 = k then 1 else 0 := fun k => by rw [sum_setS hi _ _ (if q.1 = k then 1 else 0) (by rw [hG, gS_ne h4, gS_eq (by rfl), Int.zero_add]; rfl)]
    have eB : ∀ k, sumP (gB k) (R.P.set (x.toNat - 1) (putW q 4 w)) = sumP (gB k) R.P := fun k => by rw [sum_setS hi _ _ 0 (by rw [hG, gB_ne h3, gB_ne (by show (4 : Int) ≠ 3; decide)]; rfl)]; omega
    rcases hg with e | e | e
    all_goals
      rw [e] at eX ⊢
      refine lup_eq (fun i hi => ?_) ?_
      · unfold cel
        split <;> simp only [eF, eD, eX, eB] <;> first | (exact absurd rfl hi) | simp
      · show _ = _
        simp [cel, eX]; omega
  · rw [if_neg hq, if_neg hq]; exact ⟨h, rfl, fun _ => rfl⟩
theorem last_iff {O : List Int} {x : Int} (h : O.Pairwise (· < ·)) : lastGt O x ↔ ∃ y ∈ O, x < y := by
  constructor
  · rintro ⟨a, b⟩
    refine ⟨_, ?_, b⟩
    rw [show O.getD (O.length - 1) 0 = O[O.length - 1] by simp [List.getD, List.getElem?_eq_getElem (show O.length - 1 < O.length by omega)]]
    exact List.getElem_mem _
  · rintro ⟨y, hy, hx⟩
    obtain ⟨i, hi, e⟩ := List.mem_iff_getElem.1 hy
    have hl : 0 < O.length := by omega
    refine ⟨hl, ?_⟩
    rw [show O.getD (O.length - 1) 0 = O[O.length - 1] by simp [List.getD, List.getElem?_eq_getElem (show O.length - 1 < O.length by omega)]]
    by_cases q : i = O.length - 1
    · subst q; rw [e]; exact hx
    · have := (List.pairwise_iff_getElem.1 h) i (O.length - 1) hi (by omega) (by omega)
      omega
theorem ord_mem {P : List Pk} {D : List Int} {f y : Int} : y ∈ ordO P D f ↔ y ∈ D ∧ flw P y = f := by
  unfold ordO
  rw [List.mem_filter, decide_eq_true_iff]
theorem any_iff {P : List Pk} {D : List Int} {x : Int} : anyGt P D x = true ↔ ∃ y ∈ ordO P D (flw P x), x < y := by
  unfold anyGt
  rw [List.any_eq_true]
  constructor
  · rintro ⟨y, hy, hq⟩
    unfold gtQ at hq
    rw [Bool.and_eq_true, decide_eq_true_iff, decide_eq_true_iff] at hq
    exact ⟨y, ord_mem.2 ⟨hy, hq.2⟩, hq.1⟩
  · rintro ⟨y, hy, hq⟩
    obtain ⟨a, b⟩ := ord_mem.1 hy
    refine ⟨y, a, ?_⟩
    unfold gtQ
    rw [Bool.and_eq_true, decide_eq_true_iff, decide_eq_true_iff]
    exact ⟨hq, b⟩
theorem ordF_eq {n m : Nat} {R : R3} (h : IR n m R) {x : Int} (hx : inR R.P x) : ordF (toL R) (gp R.P (x.toNat - 1)).1 = ordO R.P R.D (flw R.P x) := by
  unfold inR at hx
  unfold ordF flw
  rcases h.fl _ (show x.toNat - 1 < R.P.length by omega) with e | e | e <;> rw [e] <;> rfl
theorem dOk_iff {n m : Nat} {R : R3} (h : IR n m R) (x : Int) : dOk (toL R) x ↔ rdOk R x := by
  unfold dOk rdOk
  constructor
  · rintro ⟨a, b, c⟩
    refine ⟨a, b, ?_⟩
    rw [Bool.eq_false_iff]
    intro q
    refine c ?_
    rw [show (toL R).P = R.P from rfl, ordF_eq h a, last_iff (h.asc _)]
    exact any_iff.1 q
  · rintro ⟨a, b, c⟩
    refine ⟨a, b, fun q => ?_⟩
    rw [show (toL R).P = R.P from rfl, ordF_eq h a, last_iff (h.asc _)] at q
    rw [any_iff.2 q] at c
    cases c
theorem ir_del {n m : Nat} {R : R3} (h : IR n m R) {x : Int} (hd : rdOk R x) : IR (n + 1) m ⟨delP (toL R) x, R.D ++ [x], R.r⟩ ∧ delC (toL R) x = cel (delP (toL R) x) R.r ∧
    ∀ k, ordO (delP (toL R) x) (R.D ++ [x]) k = if (gp R.P (x.toNat - 1)).1 = k then ordO R.P R.D k ++ [x] else ordO R.P R.D k := by
  obtain ⟨hx, h2, hn⟩ := hd
  have hr := hx
  unfold inR at hr
  have hi : x.toNat - 1 < R.P.length := by omega
  have h3 : (gp R.P (x.toNat - 1)).2.2.1 ≠ 3 := by rw [h2]; decide
  have h4 : (gp R.P (x.toNat - 1)).2.2.1 ≠ 4 := by rw [h2]; decide
  obtain ⟨a, b, hne⟩ := ir_set (p := putS (gp R.P (x.toNat - 1)) 3) h hx h3 rfl rfl ⟨by show (1 : Int) ≤ 3; omega, by show (3 : Int) ≤ 4; omega⟩
  have hfx : flw (delP (toL R) x) x = (gp R.P (x.toNat - 1)).1 := by
    unfold flw delP
    show (gp (R.P.set _ _) _).1 = _
    rw [gp_set hi, if_pos rfl]; rfl
  have hord : ∀ k, ordO (delP (toL R) x) (R.D ++ [x]) k = if (gp R.P (x.toNat - 1)).1 = k then ordO R.P R.D k ++ [x] else ordO R.P R.D k := fun k => by
    have e : ordO (delP (toL R) x) (R.D ++ [x]) k = ordO (delP (toL R) x) R.D k ++ [x].filter fun y => decide (flw (delP (toL R) x) y = k) := List.filter_append ..
    rw [e, show ordO (delP (toL R) x) R.D k = ordO R.P R.D k from b k]
    by_cases q : (gp R.P (x.toNat - 1)).1 = k
    · rw [if_pos q, List.filter_cons, hfx, decide_eq_true q]; simp
    · rw [if_neg q, List.filter_cons, hfx, decide_eq_false q]; simp
  have hasc : ∀ y ∈ ordO R.P R.D (gp R.P (x.toNat - 1)).1, y < x := fun y hy => by
    have hne2 := hne y (ord_mem.1 hy).1
    have : ¬ x < y := fun q => by
      rw [any_iff.2 ⟨y, hy, q⟩] at hn
      cases hn
    omega
  refine ⟨⟨Nat.le_trans a.pl (Nat.le_succ n), by have := h.dl; simp; omega, a.fl, a.ln, a.st, fun y hy => ?_, fun k => ?_, h.rr⟩, ?_, hord⟩
  · rcases List.mem_append.1 hy with hy | hy
    · exact a.dd y hy
    · simp only [List.mem_singleton] at hy
      subst hy
      refine ⟨?_, ?_⟩
      · unfold inR; show 1 ≤ y ∧ y ≤ ((R.P.set _ _).length : Int); rw [List.length_set]; exact hr
      · show (gp (R.P.set _ _) _).2.2.1 = 3
        rw [gp_set hi, if_pos rfl]; rfl
  · show (ordO (delP (toL R) x) (R.D ++ [x]) k).Pairwise _
    rw [hord k]
    by_cases q : (gp R.P (x.toNat - 1)).1 = k
    · rw [if_pos q, List.pairwise_append]
      subst q
      exact ⟨h.asc _, by simp, fun y hy z hz => by simp at hz; subst hz; exact hasc y hy⟩
    · rw [if_neg q]; exact h.asc k
  · have hg := h.fl _ hi
    unfold delC delP
    show upC (upC (cel R.P R.r) (gp R.P (x.toNat - 1)).1 2 1) (gp R.P (x.toNat - 1)).1 4 (gp R.P (x.toNat - 1)).2.1 = cel (R.P.set (x.toNat - 1) (putS (gp R.P (x.toNat - 1)) 3)) R.r
    generalize hG : gp R.P (x.toNat - 1) = q at *
    have eF : ∀ k, sumP (gF k) (R.P.set (x.toNat - 1) (putS q 3)) = sumP (gF k) R.P := fun k => by rw [sum_setS hi _ _ 0 (by rw [hG, Int.add_zero]; rfl)]; omega
    have eD : ∀ k, sumP (gS k 3) (R.P.set (x.toNat - 1) (putS q 3)) = sumP (gS k 3) R.P + if q.1 = k then 1 else 0 := fun k => by rw [sum_setS hi _ _ (if q.1 = k then 1 else 0) (by rw [hG, gS_ne h3, gS_eq (by rfl), Int.zero_add]; rfl)]
    have eX : ∀ k, sumP (gS k 4) (R.P.set (x.toNat - 1) (putS q 3)) = sumP (gS k 4) R.P := fun k => by rw [sum_setS hi _ _ 0 (by rw [hG, gS_ne h4, gS_ne (by show (3 : Int) ≠ 4; decide)]; rfl)]; omega
    have eB : ∀ k, sumP (gB k) (R.P.set (x.toNat - 1) (putS q 3)) = sumP (gB k) R.P + if q.1 = k then q.2.1 else 0 := fun k => by rw [sum_setS hi _ _ (if q.1 = k then q.2.1 else 0) (by rw [hG, gB_ne h3, gB_eq (by rfl), Int.zero_add]; rfl)]
    rcases hg with e | e | e
    · rw [e] at eD eB ⊢
      show lup (lup (cel R.P R.r) 2 (cel R.P R.r 2 + 1)) 4 (lup (cel R.P R.r) 2 (cel R.P R.r 2 + 1) 4 + q.2.1) = _
      refine lup_eq (fun i hi => ?_) ?_
      · show cel _ _ i = if i = 2 then cel R.P R.r 2 + 1 else cel R.P R.r i
        by_cases h2' : i = 2
        · rw [if_pos h2']; subst h2'; simp [cel, eD]
        · rw [if_neg h2']
          unfold cel
          split <;> simp only [eF, eD, eX, eB] <;> first | (exact absurd rfl hi) | (exact absurd rfl h2') | simp
      · show cel _ _ 4 = (if 4 = 2 then cel R.P R.r 2 + 1 else cel R.P R.r 4) + q.2.1
        simp [cel, eB]
    · rw [e] at eD eB ⊢
      show lup (lup (cel R.P R.r) 8 (cel R.P R.r 8 + 1)) 10 (lup (cel R.P R.r) 8 (cel R.P R.r 8 + 1) 10 + q.2.1) = _
      refine lup_eq (fun i hi => ?_) ?_
      · show cel _ _ i = if i = 8 then cel R.P R.r 8 + 1 else cel R.P R.r i
        by_cases h2' : i = 8
        · rw [if_pos h2']; subst h2'; simp [cel, eD]
        · rw [if_neg h2']
          unfold cel
          split <;> simp only [eF, eD, eX, eB] <;> first | (exact absurd rfl hi) | (exact absurd rfl h2') | simp
      · show cel _ _ 10 = (if 10 = 8 then cel R.P R.r 8 + 1 else cel R.P R.r 10) + q.2.1
        simp [cel, eB]
    · rw [e] at eD eB ⊢
      show lup (lup (cel R.P R.r) 14 (cel R.P R.r 14 + 1)) 16 (lup (cel R.P R.r) 14 (cel R.P R.r 14 + 1) 16 + q.2.1) = _
      refine lup_eq (fun i hi => ?_) ?_
      · show cel _ _ i = if i = 14 then cel R.P R.r 14 + 1 else cel R.P R.r i
        by_cases h2' : i = 14
        · rw [if_pos h2']; subst h2'; simp [cel, eD]
        · rw [if_neg h2']
          unfold cel
          split <;> simp only [eF, eD, eX, eB] <;> first | (exact absurd rfl hi) | (exact absurd rfl h2') | simp
      · show cel _ _ 16 = (if 16 = 14 then cel R.P R.r 14 + 1 else cel R.P R.r 16) + q.2.1
        simp [cel, eB]
end Go.Proofs.Ytdommpfnoiemkaa

/- The plain law of Fill. No statement of the seat is proved here. -/
import Derived.Test.YthlomoacacebeabEnvy
namespace Go.Proofs.Ythlomoacacebeab
open Go.Sx
set_option linter.unusedSimpArgs false
set_option linter.unusedVariables false
/-! ### the shares of an amount that is not negative -/
theorem md_fl {a b c : Int} (ha : 0 ≤ a) (hb : 0 ≤ b) (hc : 0 < c) (hq : a * b / c ≤ 9223372036854775807) : mdv a b c 0 = a * b / c := by
  have e1 : ab a = a := by unfold ab; rw [if_neg (by omega)]
  have e2 : ab b = b := by unfold ab; rw [if_neg (by omega)]
  have e3 : ab c = c := by unfold ab; rw [if_neg (by omega)]
  have es : sg3 a b c = false := by unfold sg3; rw [decide_eq_false (by omega), decide_eq_false (by omega), decide_eq_false (by omega)]; rfl
  have p0 : 0 ≤ a * b := Int.mul_nonneg ha hb
  have q0 : 0 ≤ a * b / c := Int.ediv_nonneg p0 (by omega)
  have hlt : a * b < 9223372036854775808 * c := (Int.ediv_lt_iff_lt_mul hc).1 (by omega)
  have hn : ¬ c ≤ a * b / 18446744073709551616 := by omega
  have k0 : mdq a b c 0 = a * b / c := by unfold mdq awy; rw [e1, e2, e3, es]; simp
  unfold mdv; rw [e1, e2, e3, k0, es, if_neg (by omega), if_neg (by omega), if_neg hn, if_neg (by omega)]; unfold sgv; simp; omega
def spS (a : Int) (l : List (Int × Int)) : Nat → Int
  | 0 => 0
  | i + 1 => spS a l i + spF a l i
theorem totS_mono {l : List (Int × Int)} (h : ptO l) : ∀ n i, i ≤ n → n ≤ l.length → totS l i ≤ totS l n := by
  intro n
  induction n with
  | zero => intro i hi _; have : i = 0 := by omega
            subst this; exact Int.le_refl _
  | succ n ih =>
    intro i hi hn
    by_cases e : i = n + 1
    · subst e; exact Int.le_refl _
    · have := ih i (by omega) (by omega)
      have := (h.2 n (by omega)).2.1
      simp only [totS]; omega
theorem sp_law {a : Int} {l : List (Int × Int)} (h : ptO l) (h0 : l.length ≠ 0) (a0 : 0 ≤ a) (a1 : a ≤ 9223372036854775807) :
    (∀ j, j < l.length → 0 ≤ spF a l j) ∧ ∀ i, i ≤ l.length → 0 ≤ spS a l i ∧ spS a l i ≤ a ∧ spS a l i * totS l l.length ≤ a * totS l i := by
  have tr := totS_rng h l.length (Nat.le_refl _)
  have hT : 0 < totS l l.length := by omega
  have er : rdn a = 0 := if_neg (by omega)
  have fl : ∀ j, j < l.length → spF a l j = a * (gp l j).2 / totS l l.length := fun j hj => by
    have w := (h.2 j hj).2
    have wt : (gp l j).2 ≤ totS l l.length := by
      have e : totS l (j + 1) = totS l j + (gp l j).2 := rfl
      have := totS_mono h l.length (j + 1) (by omega) (Nat.le_refl _)
      have := (totS_rng h j (by omega)).1
      omega
    have q : a * (gp l j).2 / totS l l.length ≤ a := by
      have : a * (gp l j).2 / totS l l.length < a + 1 := (Int.ediv_lt_iff_lt_mul hT).2 (by
        have : a * (gp l j).2 ≤ a * totS l l.length := Int.mul_le_mul_of_nonneg_left wt a0
        rw [Int.add_mul]; omega)
      omega
    unfold spF
    rw [er]
    exact md_fl a0 (by omega) hT (by omega)
  have nn : ∀ j, j < l.length → 0 ≤ spF a l j := fun j hj => by
    rw [fl j hj]
    exact Int.ediv_nonneg (Int.mul_nonneg a0 (by have := (h.2 j hj).2; omega)) (by omega)
  refine ⟨nn, fun i => ?_⟩
  induction i with
  | zero => intro _; simp [spS, totS]; exact a0
  | succ i ih =>
    intro hi
    obtain ⟨i1, i2, i3⟩ := ih (by omega)
    have n1 := nn i (by omega)
    have hd : spF a l i * totS l l.length ≤ a * (gp l i).2 := by
      rw [fl i (by omega)]; exact Int.ediv_mul_le _ (by omega)
    have e3 : spS a l (i + 1) * totS l l.length ≤ a * totS l (i + 1) := by
      simp only [spS, totS]; rw [Int.add_mul, Int.mul_add]; omega
    have mono := totS_mono h l.length (i + 1) hi (Nat.le_refl _)
    have up : a * totS l (i + 1) ≤ a * totS l l.length := Int.mul_le_mul_of_nonneg_left mono a0
    exact ⟨by simp only [spS]; omega, Int.le_of_mul_le_mul_right (show spS a l (i + 1) * totS l l.length ≤ a * totS l l.length by omega) hT, e3⟩
theorem spL_eq {a : Int} {l : List (Int × Int)} (h : ptO l) (h0 : l.length ≠ 0) (a0 : 0 ≤ a) (a1 : a ≤ 9223372036854775807) : ∀ i, i ≤ l.length → spL a l i = a - spS a l i := by
  intro i
  induction i with
  | zero => intro _; simp [spL, spS]
  | succ i ih =>
    intro hi
    have := ((sp_law h h0 a0 a1).2 (i + 1) hi)
    have e : spS a l (i + 1) = spS a l i + spF a l i := rfl
    simp only [spL]
    rw [ih (by omega), w64 _ (by omega) (by omega)]; omega
/-- What a part is given. -/
def gv (a : Int) (l : List (Int × Int)) (k : Nat) : Int := spF a l k + (if k = 0 then a - spS a l l.length else 0)
theorem gv_law {a : Int} {l : List (Int × Int)} (h : ptO l) (h0 : l.length ≠ 0) (a0 : 0 ≤ a) (a1 : a ≤ 9223372036854775807) :
    (∀ k, k < l.length → 0 ≤ gv a l k ∧ gv a l k ≤ a ∧ spG a l k = gv a l k) := by
  intro k hk
  obtain ⟨nn, ss⟩ := sp_law h h0 a0 a1
  have sn := ss l.length (Nat.le_refl _)
  have n1 := nn k hk
  have part : spF a l k ≤ spS a l l.length := by
    have key : ∀ n, k < n → n ≤ l.length → spF a l k ≤ spS a l n := by
      intro n
      induction n with
      | zero => intro q _; omega
      | succ n ih =>
        intro q hn
        have := nn n (by omega)
        have s0 := (ss n (by omega)).1
        simp only [spS]
        by_cases e : k = n
        · subst e; omega
        · have := ih (by omega) (by omega); omega
    exact key l.length hk (Nat.le_refl _)
  unfold gv
  by_cases e : k = 0
  · subst e
    rw [if_pos rfl]
    refine ⟨by omega, by omega, ?_⟩
    unfold spG
    rw [if_pos rfl, spL_eq h h0 a0 a1 l.length (Nat.le_refl _), w64 _ (by omega) (by omega)]
  · rw [if_neg e]
    refine ⟨by omega, by omega, ?_⟩
    unfold spG
    rw [if_neg e]; omega
def gvS (a : Int) (l : List (Int × Int)) : Nat → Int
  | 0 => 0
  | k + 1 => gvS a l k + gv a l k
theorem gvS_eq (a : Int) (l : List (Int × Int)) : ∀ k, gvS a l k = spS a l k + (if k = 0 then 0 else a - spS a l l.length) := by
  intro k
  induction k with
  | zero => simp [gvS, spS]
  | succ k ih =>
    simp only [gvS, spS]
    rw [ih, if_neg (Nat.succ_ne_zero k)]
    unfold gv
    by_cases e : k = 0
    · rw [if_pos e, if_pos e]; omega
    · rw [if_neg e, if_neg e]; omega
theorem gvS_law {a : Int} {l : List (Int × Int)} (h : ptO l) (h0 : l.length ≠ 0) (a0 : 0 ≤ a) (a1 : a ≤ 9223372036854775807) : gvS a l l.length = a ∧ ∀ k, k ≤ l.length → gvS a l k ≤ a := by
  have key : gvS a l l.length = a := by rw [gvS_eq, if_neg h0]; omega
  refine ⟨key, fun k hk => ?_⟩
  have mono : ∀ n, k ≤ n → n ≤ l.length → gvS a l k ≤ gvS a l n := by
    intro n
    induction n with
    | zero => intro q _; have : k = 0 := by omega
              subst this; exact Int.le_refl _
    | succ n ih =>
      intro q hn
      have := (gv_law h h0 a0 a1 n (by omega)).1
      by_cases e : k = n + 1
      · subst e; exact Int.le_refl _
      · have := ih (by omega) (by omega)
        simp only [gvS]; omega
  have := mono l.length hk (Nat.le_refl _)
  omega
/-! ### one round -/
def opn (xs cs : List Int) : Nat → List Nat
  | 0 => []
  | i + 1 => if gx xs i < gx cs i then opn xs cs i ++ [i] else opn xs cs i
theorem opn_mem {xs cs : List Int} : ∀ n i, i ∈ opn xs cs n ↔ i < n ∧ gx xs i < gx cs i := by
  intro n
  induction n with
  | zero => intro i; simp [opn]
  | succ n ih =>
    intro i
    simp only [opn]
    split
    · rename_i h
      simp only [List.mem_append, List.mem_singleton, ih]
      constructor
      · rintro (⟨a, b⟩ | rfl)
        · exact ⟨by omega, b⟩
        · exact ⟨by omega, h⟩
      · rintro ⟨a, b⟩
        by_cases e : i = n
        · exact .inr e
        · exact .inl ⟨by omega, b⟩
    · rename_i h
      rw [ih]
      constructor
      · rintro ⟨a, b⟩; exact ⟨by omega, b⟩
      · rintro ⟨a, b⟩
        have : i ≠ n := fun e => h (e ▸ b)
        exact ⟨by omega, b⟩
theorem opn_len (xs cs : List Int) : ∀ n, (opn xs cs n).length ≤ n := by
  intro n
  induction n with
  | zero => simp [opn]
  | succ n ih =>
    simp only [opn]
    split
    · simp; omega
    · omega
abbrev opP (l : List (Int × Int)) (xs cs : List Int) (n : Nat) : List (Int × Int) := (opn xs cs n).map fun i => gp l i
theorem opP_len (l : List (Int × Int)) (xs cs : List Int) (n : Nat) : (opP l xs cs n).length = (opn xs cs n).length := by simp
theorem opP_ok {l : List (Int × Int)} (h : ptO l) (xs cs : List Int) : ∀ n, n ≤ l.length → ptD (opP l xs cs n) (if n = 0 then -1 else (gp l (n - 1)).1) := by
  intro n
  induction n with
  | zero => intro _; exact ⟨by intro i hi; exact absurd hi (by simp [opn]), by simp⟩
  | succ n ih =>
    intro hn
    have q := ih (by omega)
    have pi := h.2 n (by omega)
    rw [if_neg (Nat.succ_ne_zero n), show n + 1 - 1 = n by omega]
    simp only [opP, opn]
    split
    · rw [List.map_append]
      exact ptD_app q pi.1 pi.2
    · exact ⟨fun i hi => ⟨(q.1 i hi).1, Int.le_of_lt (Int.lt_of_le_of_lt (q.1 i hi).2 pi.1)⟩, Int.le_of_lt (Int.lt_of_le_of_lt q.2 pi.1)⟩
theorem opP_pt {l : List (Int × Int)} (h : ptO l) (xs cs : List Int) : ptO (opP l xs cs l.length) := by
  refine ⟨?_, fun i hi => ((opP_ok h xs cs l.length (Nat.le_refl _)).1 i hi).1⟩
  have := opn_len xs cs l.length
  have := h.1
  rw [opP_len]; omega
/-- What one part takes. -/
def tkN (g c x : Int) : Int := if c - x < g then c - x else g
structure FSt where
  xs : List Int
  a : Int
def rdI (cs : List Int) (os : List Nat) (g : Nat → Int) (s : FSt) : Nat → FSt
  | 0 => s
  | k + 1 => ⟨(rdI cs os g s k).xs.set (os.getD k 0) (gx (rdI cs os g s k).xs (os.getD k 0) + tkN (g k) (gx cs (os.getD k 0)) (gx (rdI cs os g s k).xs (os.getD k 0))), (rdI cs os g s k).a - tkN (g k) (gx cs (os.getD k 0)) (gx (rdI cs os g s k).xs (os.getD k 0))⟩
/-- A state that can be met: no cap is exceeded, nothing is negative. -/
structure FOk (n : Nat) (cs : List Int) (tot : Int) (s : FSt) : Prop where
  len : s.xs.length = n
  rng : ∀ i, i < n → 0 ≤ gx s.xs i ∧ gx s.xs i ≤ gx cs i
  a0 : 0 ≤ s.a
  sum : psum s.xs n + s.a = tot
def cpsO (cs : List Int) : Prop := ∀ i, i < cs.length → 0 ≤ gx cs i ∧ gx cs i ≤ 2199023255552
theorem gx_get {os : List Nat} {k : Nat} (h : k < os.length) : os.getD k 0 ∈ os := by
  have : os.getD k 0 = os[k] := by simp [List.getD, List.getElem?_eq_getElem h]
  rw [this]; exact List.getElem_mem h
theorem rd_ok {l : List (Int × Int)} (h : ptO l) {cs : List Int} {tot : Int} {s : FSt} (hs : FOk l.length cs tot s) (ha : s.a ≤ 9223372036854775807) (h0 : opn s.xs cs l.length ≠ []) :
    ∀ k, k ≤ (opn s.xs cs l.length).length → (let t := rdI cs (opn s.xs cs l.length) (gv s.a (opP l s.xs cs l.length)) s k
      FOk l.length cs tot t ∧ s.a - gvS s.a (opP l s.xs cs l.length) k ≤ t.a ∧ t.a ≤ s.a) := by
  have hO := opP_pt h s.xs cs
  have hne : (opP l s.xs cs l.length).length ≠ 0 := by
    rw [opP_len]; exact fun e => h0 (List.eq_nil_of_length_eq_zero e)
  obtain ⟨g1, g2⟩ := gvS_law hO hne hs.a0 ha
  intro k
  induction k with
  | zero => intro _; exact ⟨hs, by simp [gvS, rdI], by simp [rdI]⟩
  | succ k ih =>
    intro hk
    obtain ⟨i1, i2, i3⟩ := ih (by omega)
    have gk := gv_law hO hne hs.a0 ha k (by rw [opP_len]; omega)
    have gs := g2 (k + 1) (by rw [opP_len]; omega)
    have hi := (opn_mem l.length _).1 (gx_get (os := opn s.xs cs l.length) (k := k) (by omega))
    simp only [rdI]
    generalize rdI cs (opn s.xs cs l.length) (gv s.a (opP l s.xs cs l.length)) s k = t at *
    generalize (opn s.xs cs l.length).getD k 0 = i at *
    have ri := i1.rng i hi.1
    have tk : 0 ≤ tkN (gv s.a (opP l s.xs cs l.length) k) (gx cs i) (gx t.xs i) ∧ tkN (gv s.a (opP l s.xs cs l.length) k) (gx cs i) (gx t.xs i) ≤ gv s.a (opP l s.xs cs l.length) k ∧ tkN (gv s.a (opP l s.xs cs l.length) k) (gx cs i) (gx t.xs i) ≤ gx cs i - gx t.xs i := by
      unfold tkN; split <;> omega
    have gS : gvS s.a (opP l s.xs cs l.length) (k + 1) = gvS s.a (opP l s.xs cs l.length) k + gv s.a (opP l s.xs cs l.length) k := rfl
    have hil : i < t.xs.length := by rw [i1.len]; exact hi.1
    refine ⟨⟨by simp [i1.len], fun j hj => ?_, by show 0 ≤ t.a - _; omega, ?_⟩, by show _ ≤ t.a - _; omega, by show t.a - _ ≤ _; omega⟩
    · rw [gx_set hil]
      by_cases e : j = i
      · rw [if_pos e, e]; omega
      · rw [if_neg e]; exact i1.rng j hj
    · show psum (t.xs.set i _) l.length + (t.a - _) = tot
      rw [psum_set hil, if_pos hi.1]
      have := i1.sum
      omega
theorem rd_less {l : List (Int × Int)} (h : ptO l) {cs : List Int} {tot : Int} {s : FSt} (hs : FOk l.length cs tot s) (ha : s.a ≤ 9223372036854775807) (hp : 0 < s.a) (h0 : opn s.xs cs l.length ≠ []) :
    (rdI cs (opn s.xs cs l.length) (gv s.a (opP l s.xs cs l.length)) s (opn s.xs cs l.length).length).a < s.a := by
  have hO := opP_pt h s.xs cs
  have hne : (opP l s.xs cs l.length).length ≠ 0 := by
    rw [opP_len]; exact fun e => h0 (List.eq_nil_of_length_eq_zero e)
  obtain ⟨g1, g2⟩ := gvS_law hO hne hs.a0 ha
  have key : ∀ k, k ≤ (opn s.xs cs l.length).length → (rdI cs (opn s.xs cs l.length) (gv s.a (opP l s.xs cs l.length)) s k).a = s.a → (∀ j, gx (rdI cs (opn s.xs cs l.length) (gv s.a (opP l s.xs cs l.length)) s k).xs j = gx s.xs j) ∧ gvS s.a (opP l s.xs cs l.length) k = 0 := by
    intro k
    induction k with
    | zero => intro _ _; exact ⟨fun j => rfl, rfl⟩
    | succ k ih =>
      intro hk he
      obtain ⟨i1, i2, i3⟩ := rd_ok h hs ha h0 k (by omega)
      have gk := gv_law hO hne hs.a0 ha k (by rw [opP_len]; omega)
      have hi := (opn_mem l.length _).1 (gx_get (os := opn s.xs cs l.length) (k := k) (by omega))
      simp only [rdI] at he ⊢
      simp only [gvS]
      generalize hT : rdI cs (opn s.xs cs l.length) (gv s.a (opP l s.xs cs l.length)) s k = t at *
      generalize (opn s.xs cs l.length).getD k 0 = i at *
      have ri := i1.rng i hi.1
      have he2 : t.a = s.a := by
        have : 0 ≤ tkN (gv s.a (opP l s.xs cs l.length) k) (gx cs i) (gx t.xs i) := by unfold tkN; split <;> omega
        omega
      obtain ⟨k1, k2⟩ := ih (by omega) he2
      have hz : tkN (gv s.a (opP l s.xs cs l.length) k) (gx cs i) (gx t.xs i) = 0 := by omega
      have hg : gv s.a (opP l s.xs cs l.length) k = 0 := by
        rw [k1 i] at hz; unfold tkN at hz; split at hz <;> omega
      refine ⟨fun j => ?_, by omega⟩
      rw [gx_set (by rw [i1.len]; exact hi.1), hz]
      by_cases e : j = i
      · rw [if_pos e, e, k1 i]; omega
      · rw [if_neg e]; exact k1 j
  obtain ⟨_, _, i3⟩ := rd_ok h hs ha h0 (opn s.xs cs l.length).length (Nat.le_refl _)
  rcases Int.lt_or_eq_of_le i3 with q | q
  · exact q
  · have := (key _ (Nat.le_refl _) q).2
    rw [opP_len] at g1
    omega
/-! ### all rounds -/
def rdS (l : List (Int × Int)) (cs : List Int) (s : FSt) : FSt := rdI cs (opn s.xs cs l.length) (gv s.a (opP l s.xs cs l.length)) s (opn s.xs cs l.length).length
def stopB (l : List (Int × Int)) (cs : List Int) (s : FSt) : Prop := s.a ≤ 0 ∨ opn s.xs cs l.length = []
open Classical in
noncomputable def fiF (l : List (Int × Int)) (cs : List Int) : Nat → FSt → FSt
  | 0, s => s
  | n + 1, s => if stopB l cs s then s else fiF l cs n (rdS l cs s)
theorem fi_stop {l : List (Int × Int)} {cs : List Int} {s : FSt} (h : stopB l cs s) : ∀ n, fiF l cs n s = s := by
  intro n
  cases n with
  | zero => rfl
  | succ n => simp [fiF, h]
theorem fi_go {l : List (Int × Int)} {cs : List Int} {s : FSt} (h : ¬ stopB l cs s) (n : Nat) : fiF l cs (n + 1) s = fiF l cs n (rdS l cs s) := by simp [fiF, h]
def fi0 (l : List (Int × Int)) (a : Int) : FSt := ⟨List.replicate l.length 0, a⟩
theorem fi0_ok {l : List (Int × Int)} {cs : List Int} (hc : cpsO cs) (hl : cs.length = l.length) {a : Int} (ha : 0 ≤ a) : FOk l.length cs a (fi0 l a) := by
  have z : ∀ i, gx (fi0 l a).xs i = 0 := fun i => by simp only [fi0, gx, List.getD]; by_cases h : i < l.length <;> simp [List.getElem?_replicate, h]
  refine ⟨by simp [fi0], fun i hi => by rw [z]; have := hc i (by omega); omega, ha, ?_⟩
  have key : ∀ i, psum (fi0 l a).xs i = 0 := by
    intro i
    induction i with
    | zero => rfl
    | succ i ih => simp only [psum]; rw [ih, z]; rfl
  rw [key]; show (0 : Int) + a = a; omega
def fiO (a : Int) (l : List (Int × Int)) (cs : List Int) : Prop := ptO l ∧ cs.length = l.length ∧ 0 ≤ a ∧ cpsO cs
noncomputable def fiR (a : Int) (l : List (Int × Int)) (cs : List Int) : FSt := fiF l cs (a.toNat + 1) (fi0 l a)
open Classical in
noncomputable def fvX (a : Int) (l : List (Int × Int)) (cs : List Int) : List Int := if fiO a l cs then (fiR a l cs).xs else []
open Classical in
noncomputable def fvA (a : Int) (l : List (Int × Int)) (cs : List Int) : Int := if fiO a l cs then (fiR a l cs).a else 0
open Classical in
noncomputable def fvE (a : Int) (l : List (Int × Int)) (cs : List Int) : Int := if fiO a l cs then 0 else 1
theorem fv_no {a : Int} {l : List (Int × Int)} {cs : List Int} (h : ¬ fiO a l cs) : fvX a l cs = [] ∧ fvA a l cs = 0 ∧ fvE a l cs = 1 := by simp [fvX, fvA, fvE, h]
theorem fv_yes {a : Int} {l : List (Int × Int)} {cs : List Int} (h : fiO a l cs) : fvX a l cs = (fiR a l cs).xs ∧ fvA a l cs = (fiR a l cs).a ∧ fvE a l cs = 0 := by simp [fvX, fvA, fvE, h]
/-- What holds at the head of the rounds. -/
def fiI (a : Int) (l : List (Int × Int)) (cs : List Int) (s : FSt) : Prop := FOk l.length cs a s ∧ s.a ≤ a ∧ fiF l cs (s.a.toNat + 1) s = fiR a l cs
theorem fiI_0 {a : Int} {l : List (Int × Int)} {cs : List Int} (h : fiO a l cs) : fiI a l cs (fi0 l a) := ⟨fi0_ok h.2.2.2 h.2.1 h.2.2.1, Int.le_refl _, rfl⟩
theorem fiF_more {l : List (Int × Int)} {cs : List Int} {tot : Int} (h : ptO l) : ∀ n (s : FSt), FOk l.length cs tot s → s.a ≤ 9223372036854775807 → s.a.toNat < n → ∀ m, s.a.toNat < m → fiF l cs n s = fiF l cs m s := by
  intro n
  induction n with
  | zero => intro s _ _ hn; omega
  | succ n ih =>
    intro s hs ha hn m hm
    by_cases hst : stopB l cs s
    · rw [fi_stop hst, fi_stop hst]
    · obtain ⟨m', rfl⟩ : ∃ m', m = m' + 1 := ⟨m - 1, by omega⟩
      rw [fi_go hst, fi_go hst]
      have hp : 0 < s.a := by
        by_cases q : 0 < s.a
        · exact q
        · exact (hst (.inl (by omega))).elim
      have h0 : opn s.xs cs l.length ≠ [] := fun e => hst (.inr e)
      have lt := rd_less h hs ha hp h0
      have ok := (rd_ok h hs ha h0 _ (Nat.le_refl _)).1
      have nn := ok.a0
      exact ih (rdS l cs s) ok (by show (rdI _ _ _ _ _).a ≤ _; omega) (by show (rdI _ _ _ _ _).a.toNat < n; omega) m' (by show (rdI _ _ _ _ _).a.toNat < m'; omega)
theorem fiI_step {a : Int} {l : List (Int × Int)} {cs : List Int} {s : FSt} (h : fiO a l cs) (ha : a ≤ 9223372036854775807) (hs : fiI a l cs s) (hp : 0 < s.a) (h0 : opn s.xs cs l.length ≠ []) : fiI a l cs (rdS l cs s) ∧ (rdS l cs s).a.toNat < s.a.toNat := by
  obtain ⟨h1, h2, h3⟩ := hs
  have hst : ¬ stopB l cs s := fun q => by rcases q with q | q; omega; exact h0 q
  have ok := rd_ok h.1 h1 (by omega) h0 _ (Nat.le_refl _)
  have lt : (rdS l cs s).a < s.a := rd_less h.1 h1 (by omega) hp h0
  have nn : 0 ≤ (rdS l cs s).a := ok.1.a0
  refine ⟨⟨ok.1, by omega, ?_⟩, by omega⟩
  rw [← h3, fi_go hst]
  exact fiF_more h.1 ((rdS l cs s).a.toNat + 1) (rdS l cs s) ok.1 (by omega) (by omega) s.a.toNat (by omega)
theorem fiI_end {a : Int} {l : List (Int × Int)} {cs : List Int} {s : FSt} (hs : fiI a l cs s) (hst : stopB l cs s) : s = fiR a l cs := by rw [← hs.2.2, fi_stop hst]
end Go.Proofs.Ythlomoacacebeab

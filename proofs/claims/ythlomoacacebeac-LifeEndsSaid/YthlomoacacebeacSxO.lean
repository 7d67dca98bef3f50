/- Regions whose order is drawn: one run in the text's order serves every order, if what is not ordered does not meet. No statement of the seat is proved here. -/
import Derived.Test.YthlomoacacebeacSxN
import Derived.Orders
namespace Go.Sx

/-- What one operation of a region comes to. -/
structure Rec where
  s : SV
  ws : Ws
  rds : List Nat

section order
variable (ops : List Oper) (recs : List Rec)

def dstAt (i : Nat) : Option Tmp := (ops[i]?).bind (·.dst)
def setD (F : Fr) (d : Option Tmp) (s : SV) : Fr := match d with | none => F | some d => F.set d s
def recAt (i : Nat) : Rec := recs.getD i ⟨.undef, [], []⟩

/-- The frame, the heap, when just the operations of L have been carried out. -/
def FL (F0 : Fr) (L : Nat → Bool) : Nat → Fr
  | 0 => F0
  | k + 1 => if L k then setD (FL F0 L k) (dstAt ops k) (recAt recs k).s else FL F0 L k
def HL (h0 : Hp) (L : Nat → Bool) : Nat → Hp
  | 0 => h0
  | k + 1 => if L k then upd (recAt recs k).ws (HL h0 L k) else HL h0 L k

theorem setD_get {F : Fr} {d : Option Tmp} {s : SV} {t : Nat} (h : d ≠ some t) : (setD F d s)[t]? = F[t]? := by
  cases d with
  | none => rfl
  | some d => simp only [setD]; rw [List.getElem?_set, if_neg (fun e => h (by rw [e]))]
theorem setD_len {F : Fr} {d : Option Tmp} {s : SV} : (setD F d s).length = F.length := by
  cases d <;> simp [setD]
theorem upd_get (ws : Ws) : ∀ {h : Hp} {r : Nat}, (∀ p ∈ ws, p.1 ≠ r) → (upd ws h)[r]? = h[r]? := by
  induction ws with
  | nil => intro h r _; rfl
  | cons p ws ih =>
    intro h r hr
    have := ih (h := h.set p.1 p.2) (r := r) fun q hq => hr q (by simp [hq])
    simp only [upd, List.foldl_cons] at this ⊢
    rw [this, List.getElem?_set, if_neg (hr p (by simp))]
theorem upd_len (ws : Ws) : ∀ {h : Hp}, (upd ws h).length = h.length := by
  induction ws with
  | nil => intro h; rfl
  | cons p ws ih =>
    intro h
    have := ih (h := h.set p.1 p.2)
    simp only [upd, List.foldl_cons] at this ⊢
    rw [this]; simp

variable {ops recs}
theorem FL_len {F0 : Fr} {L : Nat → Bool} : ∀ k, (FL ops recs F0 L k).length = F0.length
  | 0 => rfl
  | k + 1 => by
    simp only [FL]
    split
    · rw [setD_len, FL_len k]
    · exact FL_len k
theorem HL_len {h0 : Hp} {L : Nat → Bool} : ∀ k, (HL recs h0 L k).length = h0.length
  | 0 => rfl
  | k + 1 => by
    simp only [HL]
    split
    · rw [upd_len, HL_len k]
    · exact HL_len k
/-- A slot hangs on those alone that write it. -/
theorem FL_same {F0 : Fr} {L L' : Nat → Bool} {t : Nat} : ∀ k, (∀ j, j < k → dstAt ops j = some t → L j = L' j) → (FL ops recs F0 L k)[t]? = (FL ops recs F0 L' k)[t]?
  | 0, _ => rfl
  | k + 1, h => by
    have ih : (FL ops recs F0 L k)[t]? = (FL ops recs F0 L' k)[t]? := FL_same k fun j hj => h j (by omega)
    simp only [FL]
    by_cases hd : dstAt ops k = some t
    · rw [h k (by omega) hd]
      split
      · have hl : (FL ops recs F0 L k).length = (FL ops recs F0 L' k).length := by rw [FL_len, FL_len]
        rw [hd]; simp only [setD]
        rw [List.getElem?_set, List.getElem?_set, hl, ih]
      · exact ih
    · have a1 : ∀ (b : Bool) (G : Fr), (if b = true then setD G (dstAt ops k) (recAt recs k).s else G)[t]? = G[t]? := fun b G => by
        split
        · exact setD_get hd
        · rfl
      rw [a1, a1]; exact ih
theorem HL_same {h0 : Hp} {L L' : Nat → Bool} {r : Nat} : ∀ k, (∀ j, j < k → (∃ p ∈ (recAt recs j).ws, p.1 = r) → L j = L' j) → (HL recs h0 L k)[r]? = (HL recs h0 L' k)[r]?
  | 0, _ => rfl
  | k + 1, h => by
    have ih : (HL recs h0 L k)[r]? = (HL recs h0 L' k)[r]? := HL_same k fun j hj => h j (by omega)
    simp only [HL]
    by_cases hd : ∃ p ∈ (recAt recs k).ws, p.1 = r
    · rw [h k (by omega) hd]
      split
      · -- both are written by the same list
        have : ∀ (ws : Ws) (g g' : Hp), g.length = g'.length → g[r]? = g'[r]? → (upd ws g)[r]? = (upd ws g')[r]? := by
          intro ws
          induction ws with
          | nil => intro g g' _ hg; exact hg
          | cons p ws ih =>
            intro g g' hl hg
            have := ih (g.set p.1 p.2) (g'.set p.1 p.2) (by simp [hl]) (by rw [List.getElem?_set, List.getElem?_set, hl, hg])
            simpa [upd] using this
        exact this _ _ _ (by rw [HL_len, HL_len]) ih
      · exact ih
    · have a1 : ∀ (b : Bool) (g : Hp), (if b = true then upd (recAt recs k).ws g else g)[r]? = g[r]? := fun b g => by
        split
        · exact upd_get _ fun p hp he => hd ⟨p, hp, he⟩
        · rfl
      rw [a1, a1]; exact ih

def add (L : Nat → Bool) (i : Nat) : Nat → Bool := fun j => L j || j == i

/-- One more operation is carried out. -/
theorem FL_add {F0 : Fr} {L : Nat → Bool} {i : Nat} (hi : L i = false) : ∀ k, (∀ j, i < j → j < k → L j = true → ∀ d, dstAt ops i = some d → dstAt ops j ≠ some d) →
    FL ops recs F0 (add L i) k = if i < k then setD (FL ops recs F0 L k) (dstAt ops i) (recAt recs i).s else FL ops recs F0 L k
  | 0, _ => by simp [FL]
  | k + 1, h => by
    have ih : FL ops recs F0 (add L i) k = if i < k then setD (FL ops recs F0 L k) (dstAt ops i) (recAt recs i).s else FL ops recs F0 L k := FL_add hi k fun j h1 h2 => h j h1 (by omega)
    simp only [FL]
    rcases Nat.lt_trichotomy i k with hlt | heq | hgt
    · have e : add L i k = L k := by simp only [add]; rw [show (k == i) = false from by simp; omega]; simp
      rw [e, ih, if_pos hlt, if_pos (show i < k + 1 by omega)]
      cases hL : L k with
      | false => rfl
      | true =>
        simp only [if_true]
        -- two slots that differ
        cases hdi : dstAt ops i with
        | none => rfl
        | some d =>
          cases hdk : dstAt ops k with
          | none => rfl
          | some d' =>
            have hne : d ≠ d' := fun e => h k hlt (by omega) hL d hdi (by rw [hdk, e])
            simp only [setD]
            exact List.set_comm _ _ hne
    · subst heq
      have e : add L i i = true := by simp [add]
      rw [e, ih, if_neg (Nat.lt_irrefl i), if_pos (show i < i + 1 by omega), hi]
      simp
    · have e : add L i k = L k := by simp only [add]; rw [show (k == i) = false from by simp; omega]; simp
      rw [e, ih, if_neg (show ¬ i < k by omega), if_neg (show ¬ i < k + 1 by omega)]
theorem upd_comm (ws : Ws) : ∀ {ws' : Ws} {h : Hp}, (∀ p ∈ ws, ∀ q ∈ ws', p.1 ≠ q.1) → upd ws (upd ws' h) = upd ws' (upd ws h) := by
  intro ws' h hne
  apply List.ext_getElem?
  intro r
  by_cases h1 : ∃ p ∈ ws, p.1 = r
  · have h2 : ∀ q ∈ ws', q.1 ≠ r := fun q hq he => by
      obtain ⟨p, hp, hpr⟩ := h1
      exact hne p hp q hq (by rw [hpr, he])
    rw [upd_get ws' (h := upd ws h) h2]
    have : ∀ (ws : Ws) (g g' : Hp), g.length = g'.length → g[r]? = g'[r]? → (upd ws g)[r]? = (upd ws g')[r]? := by
      intro ws
      induction ws with
      | nil => intro g g' _ hg; exact hg
      | cons p ws ih =>
        intro g g' hl hg
        have := ih (g.set p.1 p.2) (g'.set p.1 p.2) (by simp [hl]) (by rw [List.getElem?_set, List.getElem?_set, hl, hg])
        simpa [upd] using this
    exact this ws _ _ (upd_len ws') (upd_get ws' h2)
  · have h1' : ∀ p ∈ ws, p.1 ≠ r := fun p hp he => h1 ⟨p, hp, he⟩
    rw [upd_get ws h1']
    have : ∀ (ws' : Ws) (g g' : Hp), g.length = g'.length → g[r]? = g'[r]? → (upd ws' g)[r]? = (upd ws' g')[r]? := by
      intro ws
      induction ws with
      | nil => intro g g' _ hg; exact hg
      | cons p ws ih =>
        intro g g' hl hg
        have := ih (g.set p.1 p.2) (g'.set p.1 p.2) (by simp [hl]) (by rw [List.getElem?_set, List.getElem?_set, hl, hg])
        simpa [upd] using this
    exact this ws' _ _ (upd_len ws).symm (upd_get ws h1').symm
theorem HL_add {h0 : Hp} {L : Nat → Bool} {i : Nat} (hi : L i = false) : ∀ k, (∀ j, i < j → j < k → L j = true → ∀ p ∈ (recAt recs i).ws, ∀ q ∈ (recAt recs j).ws, p.1 ≠ q.1) →
    HL recs h0 (add L i) k = if i < k then upd (recAt recs i).ws (HL recs h0 L k) else HL recs h0 L k
  | 0, _ => by simp [HL]
  | k + 1, h => by
    have ih : HL recs h0 (add L i) k = if i < k then upd (recAt recs i).ws (HL recs h0 L k) else HL recs h0 L k := HL_add hi k fun j h1 h2 => h j h1 (by omega)
    simp only [HL]
    rcases Nat.lt_trichotomy i k with hlt | heq | hgt
    · have e : add L i k = L k := by simp only [add]; rw [show (k == i) = false from by simp; omega]; simp
      rw [e, ih, if_pos hlt, if_pos (show i < k + 1 by omega)]
      cases hL : L k with
      | false => rfl
      | true =>
        simp only [if_true]
        exact upd_comm _ fun p hp q hq he => h k hlt (by omega) hL q hq p hp he.symm
    · subst heq
      have e : add L i i = true := by simp [add]
      rw [e, ih, if_neg (Nat.lt_irrefl i), if_pos (show i < i + 1 by omega), hi]
      simp
    · have e : add L i k = L k := by simp only [add]; rw [show (k == i) = false from by simp; omega]; simp
      rw [e, ih, if_neg (show ¬ i < k by omega), if_neg (show ¬ i < k + 1 by omega)]
end order
end Go.Sx

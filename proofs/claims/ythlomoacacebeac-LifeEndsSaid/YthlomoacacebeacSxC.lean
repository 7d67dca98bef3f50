/- The symbolic executor is sound: the passing style. No statement of the seat is proved here. -/
import Derived.Test.YthlomoacacebeacSxB
namespace Go.Sx

section
variable {α : Type} {k : List α → Prop}
theorem nthK_sound {l : List α} : ∀ {n : Nat} {k : α → Prop}, nthK l n k → ∃ x, l[n]? = some x ∧ k x := by
  induction l with
  | nil => intro n k h; exact h.elim
  | cons x xs ih =>
    intro n k h
    cases n with
    | zero => exact ⟨x, rfl, h⟩
    | succ n => exact ih (n := n) h
theorem setK_sound {l : List α} : ∀ {n : Nat} {v : α} {k : List α → Prop}, setK l n v k → n < l.length ∧ k (l.set n v) := by
  induction l with
  | nil => intro n v k h; exact h.elim
  | cons x xs ih =>
    intro n v k h
    cases n with
    | zero => exact ⟨by simp, h⟩
    | succ n =>
      have := ih (n := n) (v := v) (k := fun r => k (x :: r)) h
      exact ⟨by simp; omega, this.2⟩
theorem takeK_sound : ∀ {n : Nat} {l : List α} {k : List α → Prop}, takeK n l k → n ≤ l.length ∧ k (l.take n) := by
  intro n
  induction n with
  | zero => intro l k h; exact ⟨by simp, by simpa using (show k [] from h)⟩
  | succ n ih =>
    intro l k h
    cases l with
    | nil => exact h.elim
    | cons x xs =>
      have := ih (l := xs) (k := fun r => k (x :: r)) h
      exact ⟨by simp; omega, this.2⟩
theorem dropK_sound : ∀ {n : Nat} {l : List α} {k : List α → Prop}, dropK n l k → n ≤ l.length ∧ k (l.drop n) := by
  intro n
  induction n with
  | zero => intro l k h; exact ⟨by simp, by simpa using (show k l from h)⟩
  | succ n ih =>
    intro l k h
    cases l with
    | nil => exact h.elim
    | cons x xs =>
      have := ih (l := xs) (k := k) h
      exact ⟨by simp; omega, this.2⟩
theorem appK_sound {l : List α} : ∀ {ys : List α} {k : List α → Prop}, appK l ys k → k (l ++ ys) := by
  induction l with
  | nil => intro ys k h; exact h
  | cons x xs ih => intro ys k h; exact ih (ys := ys) (k := fun r => k (x :: r)) h
theorem overK_sound {l : List α} : ∀ {vs : List α} {k : List α → Prop}, overK l vs k → vs.length ≤ l.length ∧ k (vs ++ l.drop vs.length) := by
  induction l with
  | nil =>
    intro vs k h
    cases vs with
    | nil => exact ⟨by simp, h⟩
    | cons v vs => exact h.elim
  | cons x xs ih =>
    intro vs k h
    cases vs with
    | nil => exact ⟨by simp, h⟩
    | cons v vs =>
      have := ih (vs := vs) (k := fun r => k (v :: r)) h
      exact ⟨by simp; omega, by simpa using this.2⟩
theorem putK_sound {l : List α} : ∀ {n : Nat} {vs : List α} {k : List α → Prop}, putK l n vs k → n + vs.length ≤ l.length ∧ k (l.take n ++ (vs ++ l.drop (n + vs.length))) := by
  induction l with
  | nil =>
    intro n vs k h
    cases n with
    | zero => have := overK_sound (l := ([] : List α)) h; simpa using this
    | succ n => exact h.elim
  | cons x xs ih =>
    intro n vs k h
    cases n with
    | zero => have := overK_sound (l := x :: xs) h; simpa using this
    | succ n =>
      have := ih (n := n) (vs := vs) (k := fun r => k (x :: r)) h
      refine ⟨by simp; omega, ?_⟩
      rw [show n + 1 + vs.length = (n + vs.length) + 1 by omega]
      simpa using this.2
theorem repK_sound {n : Nat} {x : α} : ∀ {k : List α → Prop}, repK n x k → k (List.replicate n x) := by
  induction n with
  | zero => intro k h; exact h
  | succ n ih => intro k h; exact ih (k := fun r => k (x :: r)) h
theorem idK_sound {h : Hp} : ∀ {ns : List Nat} {k : Nat → Prop}, idK h ns k → ∃ n, ns[h.length]? = some n ∧ k n := by
  induction h with
  | nil =>
    intro ns k h
    cases ns with
    | nil => exact h.elim
    | cons n ns => exact ⟨n, rfl, h⟩
  | cons b h ih =>
    intro ns k hh
    cases ns with
    | nil => exact hh.elim
    | cons n ns => simpa using ih (ns := ns) (k := k) hh
theorem neK_sound {n : Nat} {k : Prop} (h : neK n k) : n ≠ 0 ∧ k := by
  cases n with
  | zero => exact h.elim
  | succ n => exact ⟨by omega, h⟩
theorem eqNK_sound {a b : Nat} {k : Prop} (h : eqNK a b k) : a = b ∧ k := by
  unfold eqNK at h
  split at h
  · rename_i hb; exact ⟨Nat.eq_of_beq_eq_true hb, h⟩
  · exact h.elim
theorem leNK_sound {a b : Nat} {k : Prop} (h : leNK a b k) : a ≤ b ∧ k := by
  unfold leNK at h
  split at h
  · rename_i hb; exact ⟨Nat.le_of_ble_eq_true hb, h⟩
  · exact h.elim
theorem supply_get {i n : Nat} (h : supply[i]? = some n) : n = i := by
  have hlt : i < supply.length := (List.getElem?_eq_some_iff.1 h).1
  have : ∀ j, j < supply.length → supply[j]? = some j := by decide
  rw [this i hlt] at h
  exact (Option.some.inj h).symm
end

/-! ### what values are -/
theorem oneCell_of_cellsK {w : World} {E : Nat → Prop} {σ : Sg} {s : SV} {v : Value} {k : List SV → Prop} (h : Rep w E σ s v) (hk : cellsK s k) :
    ∃ cs : List SV, k cs ∧ cs.length = v.cells.size ∧ ∀ (i : Nat) (s : SV) (u : Value), cs[i]? = some s → v.cells[i]? = some u → Rep w E σ s u ∧ u.oneCell' = true := by
  cases h <;> simp only [cellsK] at hk
  case agg cs vs hl h1 h =>
    exact ⟨cs, hk, by simpa [Value.cells] using hl, fun i s u hs hu => ⟨h i s u hs hu, h1 i u hu⟩⟩
  all_goals first
    | exact hk.elim
    | (refine ⟨_, hk, rfl, ?_⟩
       intro i s u hs hu
       cases i with
       | zero =>
         simp [Value.cells] at hs hu
         subst hs; subst hu
         exact ⟨by first | (constructor; done) | (constructor <;> assumption) | exact .ptrD ‹_› | exact .epD ‹_› | exact .slD ‹_› | exact .slN ‹_›, rfl⟩
       | succ i => simp at hs)

theorem pureK_sound {s : SV} {k : Prop} (h : pureK s k) : k ∧ ∀ (w : World) (E : Nat → Prop) (σ σ' : Sg) (v : Value), Rep w E σ s v → Rep w E σ' s v := by
  cases s <;> simp only [pureK] at h <;> refine ⟨h, fun w E σ σ' v hr => ?_⟩ <;> cases hr <;> constructor <;> assumption
theorem puresK_sound {l : List SV} {k : Prop} (h : puresK l k) : k ∧ ∀ s ∈ l, ∀ (w : World) (E : Nat → Prop) (σ σ' : Sg) (v : Value), Rep w E σ s v → Rep w E σ' s v := by
  induction l with
  | nil => exact ⟨h, by simp⟩
  | cons x xs ih =>
    obtain ⟨h1, h2⟩ := pureK_sound (show pureK x (puresK xs k) from h)
    obtain ⟨h3, h4⟩ := ih h1
    refine ⟨h3, fun s hs => ?_⟩
    rcases List.mem_cons.1 hs with rfl | hs
    · exact h2
    · exact h4 s hs
theorem rep_str {w : World} {E : Nat → Prop} {σ : Sg} (s : ByteArray) : Rep w E σ (.str s.data.toList) (.string s) := by
  cases s with | mk d => exact .str
theorem rep_ofV {w : World} {E : Nat → Prop} {σ : Sg} {v : Value} {k : SV → Prop} (h : ofVK v k) : ∃ s, k s ∧ Rep w E σ s v := by
  unfold ofVK at h
  split at h
  · exact ⟨_, h, .int⟩
  · split at h
    · exact ⟨_, h, .tt⟩
    · exact ⟨_, h, .ff⟩
  · exact ⟨_, h, rep_str _⟩
  · split at h
    · exact ⟨_, h, .nilp⟩
    · exact ⟨_, h, .any⟩
  · split at h
    · split at h
      · exact ⟨_, h, .nils⟩
      · exact ⟨_, h, .any⟩
    · exact ⟨_, h, .any⟩
  · exact ⟨_, h, .any⟩

/-- What an operand reads, where the frame's slot is met. -/
def OpnRep (w : World) (E : Nat → Prop) (σ : Sg) (F : Fr) (ρ : Operand → Value) (x : Operand) : Prop :=
  match x with
  | .tmp t => ∀ s, F[t]? = some s → Rep w E σ s (ρ (.tmp t))
  | .const v => ρ (.const v) = v
  | .global _ => True
  | .func f => ρ (.func f) = .func (.func f) #[] #[]

theorem evK_sound {F : Fr} {x : Operand} {k : SV → Prop} (h : evK F x k) :
    ∃ s, k s ∧ ∀ (w : World) (E : Nat → Prop) (σ : Sg) (ρ : Operand → Value), OpnRep w E σ F ρ x → Rep w E σ s (ρ x) := by
  cases x with
  | tmp t =>
    obtain ⟨s, hs, hk⟩ := nthK_sound (show nthK F t k from h)
    exact ⟨s, hk, fun w E σ ρ hρ => hρ s hs⟩
  | const v =>
    have h : ofVK v k := h
    -- the witness does not hang on the world
    have : ∃ s, k s ∧ ∀ (w : World) (E : Nat → Prop) (σ : Sg), Rep w E σ s v := by
      unfold ofVK at h
      split at h
      · exact ⟨_, h, fun _ _ _ => .int⟩
      · split at h
        · exact ⟨_, h, fun _ _ _ => .tt⟩
        · exact ⟨_, h, fun _ _ _ => .ff⟩
      · exact ⟨_, h, fun _ _ _ => rep_str _⟩
      · split at h
        · exact ⟨_, h, fun _ _ _ => .nilp⟩
        · exact ⟨_, h, fun _ _ _ => .any⟩
      · split at h
        · split at h
          · exact ⟨_, h, fun _ _ _ => .nils⟩
          · exact ⟨_, h, fun _ _ _ => .any⟩
        · exact ⟨_, h, fun _ _ _ => .any⟩
      · exact ⟨_, h, fun _ _ _ => .any⟩
    obtain ⟨s, hk, hr⟩ := this
    exact ⟨s, hk, fun w E σ ρ hρ => by rw [show ρ (.const v) = v from hρ]; exact hr w E σ⟩
  | global g => exact ⟨.any, h, fun _ _ _ _ _ => .any⟩
  | func f => exact ⟨.fn f [], h, fun w E σ ρ hρ => by rw [show ρ (.func f) = _ from hρ]; exact .fn rfl (by simp)⟩

theorem evsK_sound {F : Fr} {l : List Operand} : ∀ {k : List SV → Prop}, evsK F l k →
    ∃ ss, k ss ∧ ∀ (w : World) (E : Nat → Prop) (σ : Sg) (ρ : Operand → Value), (∀ x ∈ l, OpnRep w E σ F ρ x) → RepL w E σ ss (l.map ρ) := by
  induction l with
  | nil => intro k h; exact ⟨[], h, fun w E σ ρ _ => ⟨rfl, by simp⟩⟩
  | cons x l ih =>
    intro k h
    obtain ⟨s, h1, hr⟩ := evK_sound (show evK F x (fun s => evsK F l fun r => k (s :: r)) from h)
    obtain ⟨ss, h2, hrs⟩ := ih h1
    refine ⟨s :: ss, h2, fun w E σ ρ hρ => ?_⟩
    have a := hr w E σ ρ (hρ x (by simp))
    have b := hrs w E σ ρ fun y hy => hρ y (by simp [hy])
    refine ⟨by simpa using b.1, fun i s' v hs hv => ?_⟩
    cases i with
    | zero => simp at hs hv; subst hs; subst hv; exact a
    | succ i => exact b.2 i s' v (by simpa using hs) (by simpa using hv)

theorem asB_sound {s : SV} {k : Bool → Prop} (h : asB s k) : ∃ b, k b ∧ ∀ (w : World) (E : Nat → Prop) (σ : Sg) (v : Value), Rep w E σ s v → v = .bool b := by
  unfold asB at h
  split at h
  · exact ⟨_, h, fun w E σ v hr => by cases hr; rfl⟩
  · exact ⟨_, h, fun w E σ v hr => by cases hr; rfl⟩
  · exact ⟨_, h, fun w E σ v hr => by cases hr; rfl⟩
  · exact h.elim

end Go.Sx

/- Owned rows that are lent to a function which only reads them. No statement of the seat is proved here. -/
import Derived.Test.YthlomoacacebeacSxY
namespace Go.Sx
section
variable {P : Program} {T : Tab}

/-- Values that lie in no block. -/
def ScalSV (s : SV) : Prop := ∀ (w : World) (E E' : Nat → Prop) (σ σ' : Sg) (v : Value), Rep w E σ s v → Rep w E' σ' s v
def scal1K (s : SV) (k : Prop) : Prop := match s with | .int _ _ => k | .tt => k | .ff => k | .bool _ => k | .str _ => k | .nilp => k | .nils => k | _ => False
noncomputable def scalsK (l : List SV) (k : Prop) : Prop := List.rec (motive := fun _ => Prop) k (fun x _ ih => scal1K x ih) l
def scal2K (s : SV) (k : Prop) : Prop := match s with | .agg cs => scalsK cs k | s => scal1K s k
noncomputable def scals2K (l : List SV) (k : Prop) : Prop := List.rec (motive := fun _ => Prop) k (fun x _ ih => scal2K x ih) l
noncomputable def scalK (s : SV) (k : Prop) : Prop := match s with | .tup vs => scals2K vs k | s => scal2K s k
theorem scal1K_sound {s : SV} {k : Prop} (h : scal1K s k) : k ∧ ScalSV s := by
  cases s <;> simp only [scal1K] at h <;> first
    | exact h.elim
    | (refine ⟨h, fun w E E' σ σ' v hr => ?_⟩; cases hr; constructor)
theorem scalsK_sound {l : List SV} {k : Prop} (h : scalsK l k) : k ∧ ∀ s ∈ l, ScalSV s := by
  induction l with
  | nil => exact ⟨h, by simp⟩
  | cons x l ih =>
    obtain ⟨h1, h2⟩ := scal1K_sound (show scal1K x (scalsK l k) from h)
    obtain ⟨h3, h4⟩ := ih h1
    exact ⟨h3, fun s hs => (List.mem_cons.1 hs).elim (fun e => e ▸ h2) (h4 s)⟩
theorem scal2K_sound {s : SV} {k : Prop} (h : scal2K s k) : k ∧ ScalSV s := by
  cases s with
  | agg cs =>
    obtain ⟨h1, h2⟩ := scalsK_sound (show scalsK cs k from h)
    refine ⟨h1, fun w E E' σ σ' v hr => ?_⟩
    cases hr with
    | agg hl ho hc => exact .agg hl ho fun i s v hs hv => h2 s (List.mem_of_getElem? hs) w E E' σ σ' v (hc i s v hs hv)
  | _ => exact scal1K_sound h
theorem scals2K_sound {l : List SV} {k : Prop} (h : scals2K l k) : k ∧ ∀ s ∈ l, ScalSV s := by
  induction l with
  | nil => exact ⟨h, by simp⟩
  | cons x l ih =>
    obtain ⟨h1, h2⟩ := scal2K_sound (show scal2K x (scals2K l k) from h)
    obtain ⟨h3, h4⟩ := ih h1
    exact ⟨h3, fun s hs => (List.mem_cons.1 hs).elim (fun e => e ▸ h2) (h4 s)⟩
theorem scalK_sound {s : SV} {k : Prop} (h : scalK s k) : k ∧ ScalSV s := by
  cases s with
  | tup cs =>
    obtain ⟨h1, h2⟩ := scals2K_sound (show scals2K cs k from h)
    refine ⟨h1, fun w E E' σ σ' v hr => ?_⟩
    cases hr with
    | tup hl hc => exact .tup hl fun i s v hs hv => h2 s (List.mem_of_getElem? hs) w E E' σ σ' v (hc i s v hs hv)
  | _ => exact scal2K_sound h

def lend1K (h : Hp) (s s' : SV) (k : Prop) : Prop :=
  match s' with
  | .sl b => match s with
    | .rs z es => nthK h b fun blk => match blk with | .row _ z' es' => eqNK z' z (es' = es ∧ k) | _ => False
    | _ => False
  | s' => s' = s ∧ free1K s k
noncomputable def lendK (h : Hp) (l : List SV) : List SV → Prop → Prop :=
  List.rec (motive := fun _ => List SV → Prop → Prop) (fun l' k => List.rec (motive := fun _ => Prop) k (fun _ _ _ => False) l')
    (fun s _ ih l' k => List.rec (motive := fun _ => Prop) False (fun s' t' _ => lend1K h s s' (ih t' k)) l') l
/-- The blocks that are lent. -/
noncomputable def lentK (l : List SV) : (List Nat → Prop) → Prop :=
  List.rec (motive := fun _ => (List Nat → Prop) → Prop) (fun k => k []) (fun s _ ih k => match s with | .sl b => ih fun r => k (b :: r) | _ => ih k) l
def lent (l : List SV) : List Nat := l.filterMap fun s => match s with | .sl b => some b | _ => none
theorem lentK_sound {l : List SV} : ∀ {k : List Nat → Prop}, lentK l k → k (lent l) := by
  induction l with
  | nil => intro k h; exact h
  | cons s l ih =>
    intro k h
    cases s with
    | sl b => exact ih (k := fun r => k (b :: r)) h
    | _ => exact ih (k := k) h

theorem lendK_sound {h : Hp} (l : List SV) : ∀ {l' : List SV} {k : Prop}, lendK h l l' k → k ∧ ∀ (w : World) (X : Nat → Prop) (σ : Sg) (h2 : Hp) (vs : List Value), Inv w X σ h2 → (∀ b ∈ lent l', h2[b]? = h[b]?) → RepL w (Ex X σ) σ l' vs → RepL w (fun _ => False) [] l vs := by
  induction l with
  | nil =>
    intro l' k hk
    cases l' with
    | nil => exact ⟨hk, fun w X σ h2 vs _ _ hr => ⟨hr.1, by simp⟩⟩
    | cons x t => exact hk.elim
  | cons s l ih =>
    intro l' k hk
    cases l' with
    | nil => exact hk.elim
    | cons s' l' =>
      have key : lendK h l l' k ∧ ∀ (w : World) (X : Nat → Prop) (σ : Sg) (h2 : Hp) (v : Value), Inv w X σ h2 → (∀ b ∈ lent [s'], h2[b]? = h[b]?) → Rep w (Ex X σ) σ s' v → Rep w (fun _ => False) [] s v := by
        have same : (s' = s ∧ free1K s (lendK h l l' k)) → lendK h l l' k ∧ ∀ (w : World) (X : Nat → Prop) (σ : Sg) (h2 : Hp) (v : Value), Inv w X σ h2 → (∀ b ∈ lent [s'], h2[b]? = h[b]?) → Rep w (Ex X σ) σ s' v → Rep w (fun _ => False) [] s v := by
          rintro ⟨e, hk⟩
          subst e
          obtain ⟨hk, hf⟩ := free1K_sound hk
          exact ⟨hk, fun w X σ h2 v _ _ hr => (hf w _ σ [] v hr).le (fun _ h => h.elim) []⟩
        cases s' with
        | sl b =>
          cases s with
          | rs z es =>
            obtain ⟨blk, hb, hk⟩ := nthK_sound (show nthK h b _ from hk)
            cases blk with
            | row t z' es' =>
              obtain ⟨e1, e2, hk2⟩ := eqNK_sound hk
              subst e1; subst e2
              refine ⟨hk2, fun w X σ h2 v hI hag hr => ?_⟩
              have hb2 : h2[b]? = some (.row t z' es') := by rw [hag b (by simp [lent])]; exact hb
              have hlt : b < σ.length := by rw [hI.len]; exact (List.getElem?_eq_some_iff.1 hb2).1
              have hσb : σ[b]? = some σ[b] := List.getElem?_eq_getElem hlt
              exact rs_of_row hσb (hI.ok b _ _ hb2 hσb) (fun _ h => h.elim) (fun _ _ h => h) (fun g hg => hI.lt b _ g hσb hg) hr
            | _ => exact hk.elim
          | _ => exact hk.elim
        | _ => exact same hk
      obtain ⟨hk, h1⟩ := key
      obtain ⟨hk, h2⟩ := ih hk
      refine ⟨hk, fun w X σ hh vs hI hag hr => ?_⟩
      cases vs with
      | nil => exact absurd hr.1 (by simp)
      | cons v vs =>
        refine repl_cons (h1 w X σ hh v hI (fun b hb => hag b ?_) (hr.2 0 _ _ rfl rfl)) (h2 w X σ hh vs hI (fun b hb => hag b ?_) ⟨by simpa using hr.1, fun i a c ha hc => hr.2 (i + 1) a c (by simpa using ha) (by simpa using hc)⟩)
        · simp only [lent, List.mem_filterMap, List.mem_cons] at hb ⊢
          obtain ⟨a, ha, hb⟩ := hb
          exact ⟨a, .inl (ha.resolve_right (by simp)), hb⟩
        · simp only [lent, List.mem_filterMap, List.mem_cons] at hb ⊢
          obtain ⟨a, ha, hb⟩ := hb
          exact ⟨a, .inr ha, hb⟩

theorem PSpec.lend_run {f : FuncId} {args args' : List SV} {R : SV → Prop} (hs : PSpec P f args R) {h : Hp} (ha : lendK h args args' True) {w : World} {X : Nat → Prop} {σ : Sg} {h2 : Hp} {vs : List Value}
    (hI : Inv w X σ h2) (hag : ∀ b ∈ lent args', h2[b]? = h[b]?) (hr : RepL w (Ex X σ) σ args' vs) :
    DoneS P (callFunc f vs.toArray) w fun v w' => ∃ s, R s ∧ (∃ (E : Nat → Prop) (σ' : Sg), Rep w' E σ' s v) ∧ Inv w' X σ h2 ∧ Step σ.length w σ w' σ := by
  have hI0 : Inv w (fun _ => False) [] [] := ⟨rfl, by simp, by simp, by simp, fun g h => h.elim, fun g h => h.elim⟩
  have hr0 := (lendK_sound args ha).2 w X σ h2 vs hI hag hr
  have hr1 : RepL w (Ex (fun _ => False) []) [] args vs := ⟨hr0.1, fun i s v hs hv => (hr0.2 i s v hs hv).mono [] (fun _ _ _ => rfl) (Nat.le_refl _) (fun g _ _ h => ex_nil.1 h) (by simp)⟩
  refine ((hs.ok [] (fun s _ => R s) fun s h => h).ok w (fun _ => False) [] vs hI0 hr1).mono fun v w' ⟨s, h', σ', hR, hrep, _, hS⟩ => ?_
  obtain ⟨hI2, hS2⟩ := hI.same hS
  exact ⟨s, hR, ⟨_, _, hrep⟩, hI2, hS2⟩

/-- A call that is lent rows of the caller's and hands back a value that lies in no block. -/
theorem PSpec.lend {f : FuncId} {args args' : List SV} {R : SV → Prop} (hs : PSpec P f args R) {h : Hp} {K : SV → Hp → Prop} (ha : lendK h args args' True) (hk : ∀ s, R s → scalK s (K s h)) : CallG P f args' h K :=
  ⟨fun _ _ _ _ hI hr => (hs.lend_run ha hI (fun _ _ => rfl) hr).mono fun _ _ ⟨s, hR, ⟨_, _, hrep⟩, hI', hS⟩ => by
    obtain ⟨hk, hsc⟩ := scalK_sound (hk s hR)
    exact ⟨s, h, _, hk, hsc _ _ _ _ _ _ hrep, hI', hS⟩⟩
theorem PSpec.lendd {f : FuncId} {args args' : List SV} {s : SV} (hs : PSpec P f args (· = s)) {h : Hp} {nid : Nat} {K : Kop} (ha : lendK h args args' True) (hk : scalK s (lentK args' (K s []))) : CallD P f args' h nid K := by
  obtain ⟨hk, hsc⟩ := scalK_sound hk
  exact ⟨s, [], lent args', lentK_sound hk, ⟨fun _ _ σ _ _ hI hr hag => (hs.lend_run ha hI hag hr).mono fun _ _ ⟨s', e, ⟨_, _, hrep⟩, hI', hS⟩ => by
    subst e
    exact ⟨σ, hsc _ _ _ _ _ _ hrep, hI', hS, rfl⟩, by simp⟩⟩
end
end Go.Sx

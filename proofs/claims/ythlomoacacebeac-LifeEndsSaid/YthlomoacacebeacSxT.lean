/- Loops: a frame and a heap at their head, and what is forgotten there. No statement of the seat is proved here. -/
import Derived.Test.YthlomoacacebeacSxS
namespace Go.Sx
section
variable {P : Program} {T : Tab}

/-- Whatever the one pair says the other says too: blocks may change their number, may be given away; slots may be forgotten. -/
structure Shift (m : Nat) (F : Fr) (h : Hp) (F' : Fr) (h' : Hp) : Prop where
  ok : ∀ (w : World) (X : Nat → Prop) (σ : Sg) (tmps : Array Value), Inv w X σ h → FRep w (Ex X σ) σ F tmps → ∃ σ', Inv w X σ' h' ∧ FRep w (Ex X σ') σ' F' tmps ∧ Step m w σ w σ'
theorem Shift.refl (m : Nat) (F : Fr) (h : Hp) : Shift m F h F h := ⟨fun _ _ σ _ hI hF => ⟨σ, hI, hF, .refl _ _ _⟩⟩
theorem Shift.trans {m : Nat} {F F' F'' : Fr} {h h' h'' : Hp} (a : Shift m F h F' h') (b : Shift m F' h' F'' h'') : Shift m F h F'' h'' := ⟨fun w X σ tmps hI hF => by
  obtain ⟨σ', hI', hF', hS⟩ := a.ok w X σ tmps hI hF
  obtain ⟨σ'', hI'', hF'', hS'⟩ := b.ok w X σ' tmps hI' hF'
  exact ⟨σ'', hI'', hF'', hS.trans hS'⟩⟩

/-- What is shown on the way out of a loop. -/
structure XG (m : Nat) (F : Fr) (h : Hp) (K : Fr → Hp → Prop) : Prop where
  ok : ∃ F' h', Shift m F h F' h' ∧ K F' h'
theorem XG.same {m : Nat} {F : Fr} {h : Hp} {K : Fr → Hp → Prop} (hk : K F h) : XG m F h K := ⟨F, h, .refl _ _ _, hk⟩
theorem XG.step {m : Nat} {F F' : Fr} {h h' : Hp} {K : Fr → Hp → Prop} (hs : Shift m F h F' h') (hk : XG m F' h' K) : XG m F h K := by
  obtain ⟨F'', h'', hs', hk⟩ := hk.ok
  exact ⟨F'', h'', hs.trans hs', hk⟩

/-! ### frames that are told in a few words -/
def mkFr (n : Nat) (sp : List (Nat × SV)) : Fr := sp.foldl (fun F p => F.set p.1 p.2) (List.replicate n .any)
noncomputable def setsK (sp : List (Nat × SV)) : Fr → (Fr → Prop) → Prop :=
  List.rec (motive := fun _ => Fr → (Fr → Prop) → Prop) (fun F k => k F) (fun p _ ih F k => setK F p.1 p.2 fun F' => ih F' k) sp
noncomputable def frmK (n : Nat) (sp : List (Nat × SV)) (k : Fr → Prop) : Prop := repK n SV.any fun F => setsK sp F k
theorem setsK_sound {sp : List (Nat × SV)} : ∀ {F : Fr} {k : Fr → Prop}, setsK sp F k → k (sp.foldl (fun F p => F.set p.1 p.2) F) := by
  induction sp with
  | nil => intro F k h; exact h
  | cons p sp ih => intro F k h; exact ih (setK_sound (show setK F p.1 p.2 _ from h)).2
theorem repK_eq {α : Type} {x : α} : ∀ {n : Nat} {k : List α → Prop}, repK n x k → k (List.replicate n x) := by
  intro n
  induction n with
  | zero => intro k h; exact h
  | succ n ih => intro k h; exact ih (k := fun r => k (x :: r)) h
theorem frmK_sound {n : Nat} {sp : List (Nat × SV)} {k : Fr → Prop} (h : frmK n sp k) : k (mkFr n sp) := setsK_sound (repK_eq h)

structure HeadG (m : Nat) (F : Fr) (h : Hp) (n : Nat) (sp : List (Nat × SV)) (h' : Hp) : Prop where
  ok : Shift m F h (mkFr n sp) h'

/-- What holds behind one round. -/
def LPost {α : Type} (m n : Nat) (sp : α → List (Nat × SV)) (hx : α → Hp) (μ : α → Nat) (x : α) (K : Post) : Post := fun e F h => match e with
  | .normal => ∃ x', μ x' < μ x ∧ HeadG m F h n (sp x') (hx x')
  | .exit i => XG m F h (K (.exit i))
  | .ret => XG m F h (K .ret)

theorem SOK.loop {α : Type} {m n : Nat} {c : Code} {F : Fr} {h : Hp} {K : Post} (sp : α → List (Nat × SV)) (hx : α → Hp) (μ : α → Nat) (x0 : α) (hs : Shift m F h (mkFr n (sp x0)) (hx x0))
    (body : ∀ x, SOK P m c (mkFr n (sp x)) (hx x) (LPost m n sp hx μ x K)) : SOK P m (.loop c) F h K := by
  intro w X σ tmps hI hF
  obtain ⟨σ0, hI0, hF0, hS0⟩ := hs.ok w X σ tmps hI hF
  refine wp_loop_ghost (fun k a w' => ∃ x σ', μ x = k ∧ a.defers = [] ∧ Inv w' X σ' (hx x) ∧ FRep w' (Ex X σ') σ' (mkFr n (sp x)) a.tmps ∧ Step m w σ w' σ') (μ x0) ⟨x0, σ0, rfl, rfl, hI0, hF0, hS0⟩ ?_
  rintro k ⟨tmps', ds⟩ w' ⟨x, σ', hk, hd, hI', hF', hS'⟩
  have hd : ds = [] := hd
  subst hd
  refine wp_mono (body x w' X σ' tmps' hI' hF') fun e a' w'' hq => ?_
  obtain ⟨hd', y, F2, h2, σ2, hx2, hp, hI2, hF2, hS2⟩ := hq
  cases e <;> cases hx2
  case normal =>
    obtain ⟨x', hlt, hhead⟩ := hp
    obtain ⟨σ3, hI3, hF3, hS3⟩ := hhead.ok.ok w'' X σ2 a'.tmps hI2 hF2
    exact ⟨μ x', by omega, x', σ3, rfl, hd', hI3, hF3, (hS'.trans hS2).trans hS3⟩
  case exit i =>
    obtain ⟨F3, h3, hsh, hp⟩ := XG.ok hp
    obtain ⟨σ3, hI3, hF3, hS3⟩ := hsh.ok w'' X σ2 a'.tmps hI2 hF2
    exact ⟨hd', .exit i, F3, h3, σ3, rfl, hp, hI3, hF3, (hS'.trans hS2).trans hS3⟩
  case ret =>
    obtain ⟨F3, h3, hsh, hp⟩ := XG.ok hp
    obtain ⟨σ3, hI3, hF3, hS3⟩ := hsh.ok w'' X σ2 a'.tmps hI2 hF2
    exact ⟨hd', .ret, F3, h3, σ3, rfl, hp, hI3, hF3, (hS'.trans hS2).trans hS3⟩

/-- A LOOP, by what holds at its head. -/
theorem LoopG.inv (hT : TabOK P T) {α : Type} {m : Nat} {c : Code} {F : Fr} {h : Hp} {K : Post} (n : Nat) (sp : α → List (Nat × SV)) (hx : α → Hp) (μ : α → Nat) (x0 : α)
    (hs : HeadG m F h n (sp x0) (hx x0)) (body : ∀ x, frmK n (sp x) fun F => codeK P T m c F (hx x) (LPost m n sp hx μ x K)) : LoopG P m c F h K :=
  ⟨SOK.loop sp hx μ x0 hs.ok fun x => codeK_sound hT c (frmK_sound (body x))⟩

/-! ### the shift, reckoned -/
abbrev Rho := List (Option Nat)
def refK (ρ : Rho) (b' b : Nat) (k : Prop) : Prop := nthK ρ b' fun r => match r with | some j => eqNK j b k | none => False
def nilK (ρ : Rho) (b' : Nat) (k : Prop) : Prop := nthK ρ b' fun r => match r with | some _ => False | none => k
def slotK (ρ : Rho) (s s' : SV) (k : Prop) : Prop :=
  match s' with
  | .any => k
  | .undef => match s with | .undef => k | _ => False
  | .int q n' => match s with | .int p n => if p = q then n = n' ∧ k else False | _ => False
  | .bool b' => match s with | .bool b => b = b' ∧ k | .tt => true = b' ∧ k | .ff => false = b' ∧ k | _ => False
  | .tt => match s with | .tt => k | .bool b => b = true ∧ k | _ => False
  | .ff => match s with | .ff => k | .bool b => b = false ∧ k | _ => False
  | .str t => s = .str t ∧ k
  | .nilp => match s with | .nilp => k | _ => False
  | .nils => match s with | .nils => k | _ => False
  | .ptr b' o' => match s with | .ptr b o => refK ρ b' b (eqNK o o' k) | _ => False
  | .sl b' => match s with | .sl b => refK ρ b' b k | .nils => nilK ρ b' k | _ => False
  | .rs z' es' => match s with | .rs z es => eqNK z z' (es = es' ∧ k) | .nils => es' = [] ∧ k | _ => False
  | .agg cs' => s = .agg cs' ∧ puresK cs' k
  | .fn f cs => s = .fn f cs ∧ puresK cs k
  | _ => False
noncomputable def slotsK (ρ : Rho) (l : List SV) : List SV → Prop → Prop :=
  List.rec (motive := fun _ => List SV → Prop → Prop) (fun l' k => List.rec (motive := fun _ => Prop) k (fun _ _ _ => False) l')
    (fun s _ ih l' k => List.rec (motive := fun _ => Prop) False (fun s' t' _ => slotK ρ s s' (ih t' k)) l') l
noncomputable def blksK (ρ : Rho) (h : Hp) (r : Rho) : Hp → Prop → Prop :=
  List.rec (motive := fun _ => Hp → Prop → Prop) (fun h' k => List.rec (motive := fun _ => Prop) k (fun _ _ _ => False) h')
    (fun x _ ih h' k => List.rec (motive := fun _ => Prop) False (fun b' t' _ => match b', x with
      | .dead, _ => ih t' k
      | .row _ _ es', none => es' = [] ∧ ih t' k
      | .row t z es', some j => nthK h j fun b => match b with
        | .row t0 z0 es => eqNK t0 t (eqNK z0 z (es = es' ∧ ih t' k))
        | _ => False
      | .fix t cs', some j => nthK h j fun b => match b with
        | .fix t0 cs => eqNK t0 t (slotsK ρ cs cs' (ih t' k))
        | _ => False
      | _, _ => False) h') r
def rhoB (m : Nat) (ρ : Rho) : Bool :=
  (List.range m).all (fun i => ρ[i]? == some (some i)) && (List.range ρ.length).all fun i => (List.range ρ.length).all fun j => i == j || ρ[i]? == some none || !(ρ[i]? == ρ[j]?)

noncomputable def shiftK (ρ : Rho) (F : Fr) (h : Hp) (F' : Fr) (h' : Hp) : Prop := slotsK ρ F F' (blksK ρ h ρ h' True)

def entOf (σ : Sg) : Option Nat → Blk → Ent
  | _, .dead => .dead
  | some j, _ => σ.getD j .dead
  | none, _ => .rownil
def sgOf (σ : Sg) (ρ : Rho) (h' : Hp) : Sg := List.zipWith (entOf σ) ρ h'

theorem refK_sound {ρ : Rho} {b' b : Nat} {k : Prop} (h : refK ρ b' b k) : ρ[b']? = some (some b) ∧ k := by
  obtain ⟨r, hr, h⟩ := nthK_sound (show nthK ρ b' _ from h)
  cases r with
  | none => exact h.elim
  | some j =>
    obtain ⟨e, h2⟩ := eqNK_sound (show eqNK j b k from h)
    subst e
    exact ⟨hr, h2⟩
theorem nilK_sound {ρ : Rho} {b' : Nat} {k : Prop} (h : nilK ρ b' k) : ρ[b']? = some none ∧ k := by
  obtain ⟨r, hr, h⟩ := nthK_sound (show nthK ρ b' _ from h)
  cases r with
  | none => exact ⟨hr, h⟩
  | some j => exact h.elim

/-- What ties the two lists of entries. -/
structure Ties (σ σ' : Sg) (ρ : Rho) : Prop where
  ref : ∀ (b j : Nat) (e : Ent), ρ[b]? = some (some j) → σ[j]? = some e → e ≠ .fresh → σ'[b]? = some e ∨ σ'[b]? = some Ent.dead
  nil : ∀ (b : Nat), ρ[b]? = some none → σ'[b]? = some Ent.rownil ∨ σ'[b]? = some Ent.dead

theorem slotK_sound {ρ : Rho} {s s' : SV} {k : Prop} (h : slotK ρ s s' k) : k ∧ ∀ (w : World) (E E' : Nat → Prop) (σ σ' : Sg) (v : Value), Ties σ σ' ρ → (∀ g, E' g → E g) → Rep w E σ s v → Rep w E' σ' s' v := by
  have same : FreeSV s → ∀ (w : World) (E E' : Nat → Prop) (σ σ' : Sg) (v : Value), Ties σ σ' ρ → (∀ g, E' g → E g) → Rep w E σ s v → Rep w E' σ' s v := fun hf w E E' σ σ' v _ hE hr =>
    (hf w E σ [] v hr).mono σ' (fun _ _ _ => rfl) (Nat.le_refl _) (fun g _ hn h => hn (hE g h)) (by simp)
  unfold slotK at h
  split at h
  case h_1 => exact ⟨h, fun _ _ _ _ _ _ _ _ _ => .any⟩
  case h_2 => split at h <;> first | exact h.elim | exact ⟨h, fun _ _ _ _ _ _ _ _ hr => by cases hr; exact .undef⟩
  case h_3 =>
    split at h
    · split at h
      · rename_i hp; subst hp; obtain ⟨e, h⟩ := h; subst e; exact ⟨h, fun _ _ _ _ _ _ _ _ hr => by cases hr; exact .int⟩
      · exact h.elim
    · exact h.elim
  case h_4 => split at h <;> first | exact h.elim | (obtain ⟨e, h⟩ := h; subst e; exact ⟨h, fun _ _ _ _ _ _ _ _ hr => by cases hr; exact .bool⟩)
  case h_5 =>
    split at h
    · exact ⟨h, fun _ _ _ _ _ _ _ _ hr => by cases hr; exact .tt⟩
    · obtain ⟨e, h⟩ := h; subst e; exact ⟨h, fun _ _ _ _ _ _ _ _ hr => by cases hr; exact .tt⟩
    · exact h.elim
  case h_6 =>
    split at h
    · exact ⟨h, fun _ _ _ _ _ _ _ _ hr => by cases hr; exact .ff⟩
    · obtain ⟨e, h⟩ := h; subst e; exact ⟨h, fun _ _ _ _ _ _ _ _ hr => by cases hr; exact .ff⟩
    · exact h.elim
  case h_7 => obtain ⟨e, h⟩ := h; subst e; exact ⟨h, fun _ _ _ _ _ _ _ _ hr => by cases hr; exact .str⟩
  case h_8 => split at h <;> first | exact h.elim | exact ⟨h, fun _ _ _ _ _ _ _ _ hr => by cases hr; exact .nilp⟩
  case h_9 => split at h <;> first | exact h.elim | exact ⟨h, fun _ _ _ _ _ _ _ _ hr => by cases hr; exact .nils⟩
  case h_10 =>
    split at h
    · obtain ⟨hb, h⟩ := refK_sound h
      obtain ⟨e, h2⟩ := eqNK_sound h
      subst e
      refine ⟨h2, fun w E E' σ σ' v ht _ hr => ?_⟩
      cases hr with
      | ptr hg => exact (ht.ref _ _ _ hb hg (by simp)).elim (fun h => .ptr h) (fun h => .ptrD h)
      | ptrD hg => exact (ht.ref _ _ _ hb hg (by simp)).elim (fun h => .ptrD h) (fun h => .ptrD h)
    · exact h.elim
  case h_11 =>
    split at h
    · obtain ⟨hb, h⟩ := refK_sound h
      refine ⟨h, fun w E E' σ σ' v ht _ hr => ?_⟩
      cases hr with
      | sl hg => exact (ht.ref _ _ _ hb hg (by simp)).elim (fun h => .sl h) (fun h => .slD h)
      | slN hg => exact (ht.ref _ _ _ hb hg (by simp)).elim (fun h => .slN h) (fun h => .slD h)
      | slD hg => exact (ht.ref _ _ _ hb hg (by simp)).elim (fun h => .slD h) (fun h => .slD h)
    · obtain ⟨hb, h⟩ := nilK_sound h
      refine ⟨h, fun w E E' σ σ' v ht _ hr => ?_⟩
      cases hr
      exact (ht.nil _ hb).elim (fun h => .slN h) (fun h => .slD h)
    · exact h.elim
  case h_12 =>
    split at h
    · obtain ⟨e, e', h2⟩ := eqNK_sound h
      subst e; subst e'
      refine ⟨h2, same fun w E σ σ' v hr => ?_⟩
      cases hr <;> constructor <;> assumption
    · obtain ⟨e, h⟩ := h
      subst e
      exact ⟨h, fun _ _ _ _ _ _ _ _ hr => by cases hr; exact .rs0 (Nat.zero_le _)⟩
    · exact h.elim
  case h_13 =>
    obtain ⟨e, h⟩ := h
    subst e
    obtain ⟨h, hf⟩ := agg_free h
    exact ⟨h, same hf⟩
  case h_14 =>
    obtain ⟨e, h⟩ := h
    subst e
    obtain ⟨h, hf⟩ := puresK_sound h
    refine ⟨h, same fun w E σ σ' v hr => ?_⟩
    cases hr with
    | fn hl hc => exact .fn hl fun i s v hs hv => hf s (List.mem_of_getElem? hs) w E σ σ' v (hc i s v hs hv)
  case h_15 => exact h.elim

theorem slotsK_sound {ρ : Rho} (l : List SV) : ∀ {l' : List SV} {k : Prop}, slotsK ρ l l' k → k ∧ l.length = l'.length ∧
    ∀ (w : World) (E E' : Nat → Prop) (σ σ' : Sg), Ties σ σ' ρ → (∀ g, E' g → E g) → ∀ (i : Nat) (s s' : SV) (v : Value), l[i]? = some s → l'[i]? = some s' → Rep w E σ s v → Rep w E' σ' s' v := by
  induction l with
  | nil =>
    intro l' k h
    cases l' with
    | nil => exact ⟨h, rfl, by simp⟩
    | cons x t => exact h.elim
  | cons s l ih =>
    intro l' k h
    cases l' with
    | nil => exact h.elim
    | cons s' l' =>
      obtain ⟨h, h1⟩ := slotK_sound (show slotK ρ s s' (slotsK ρ l l' k) from h)
      obtain ⟨h, hl, h2⟩ := ih h
      refine ⟨h, by simp [hl], fun w E E' σ σ' ht hE i a a' v ha ha' hr => ?_⟩
      cases i with
      | zero => simp at ha ha'; subst ha; subst ha'; exact h1 w E E' σ σ' v ht hE hr
      | succ i => exact h2 w E E' σ σ' ht hE i a a' v (by simpa using ha) (by simpa using ha') hr
end
end Go.Sx

/- Calls at the caller's blocks, with blocks that point at one another and blocks that the callee makes. No statement of the seat is proved here. -/
import Derived.Test.YthlomoacacebeacSxZ
namespace Go.Sx
section
variable {P : Program} {T : Tab}

/-! ### a value's blocks, renumbered: outward -/
def mv1K (ρ : List Nat) (s : SV) (k : SV → Prop) : Prop :=
  match s with
  | .ptr b o => nthK ρ b fun j => k (.ptr j o)
  | .ep b i f => nthK ρ b fun j => k (.ep j i f)
  | .sl b => nthK ρ b fun j => k (.sl j)
  | .any => k .any | .undef => k .undef | .int q n => k (.int q n) | .tt => k .tt | .ff => k .ff | .bool b => k (.bool b) | .str s => k (.str s)
  | .nilp => k .nilp | .nils => k .nils | .rs z es => k (.rs z es) | .rp z es i f => k (.rp z es i f)
  | _ => False
noncomputable def mvs1K (ρ : List Nat) (l : List SV) : (List SV → Prop) → Prop :=
  List.rec (motive := fun _ => (List SV → Prop) → Prop) (fun k => k []) (fun x _ ih k => mv1K ρ x fun y => ih fun r => k (y :: r)) l
noncomputable def mv2K (ρ : List Nat) (s : SV) (k : SV → Prop) : Prop :=
  match s with
  | .agg cs => mvs1K ρ cs fun c => k (.agg c)
  | s => mv1K ρ s k
noncomputable def mvs2K (ρ : List Nat) (l : List SV) : (List SV → Prop) → Prop :=
  List.rec (motive := fun _ => (List SV → Prop) → Prop) (fun k => k []) (fun x _ ih k => mv2K ρ x fun y => ih fun r => k (y :: r)) l
noncomputable def mv3K (ρ : List Nat) (s : SV) (k : SV → Prop) : Prop :=
  match s with
  | .tup vs => mvs2K ρ vs fun l => k (.tup l)
  | s => mv2K ρ s k
noncomputable def mvBlkK (ρ : List Nat) (b : Blk) (k : Blk → Prop) : Prop :=
  match b with
  | .fix t cs => mvs1K ρ cs fun c => k (.fix t c)
  | .row t z es => k (.row t z es)
  | .dead => k .dead
  | .fresh => k .fresh
noncomputable def mvBlksK (ρ : List Nat) (l : Hp) : (Hp → Prop) → Prop :=
  List.rec (motive := fun _ => (Hp → Prop) → Prop) (fun k => k []) (fun b _ ih k => mvBlkK ρ b fun c => ih fun r => k (c :: r)) l

/-- The entries, renumbered. -/
def Moves (ρ : List Nat) (σ σ' : Sg) : Prop := ∀ (i j : Nat) (e : Ent), ρ[i]? = some j → σ[i]? = some e → σ'[j]? = some e
def Mv (ρ : List Nat) (s s' : SV) : Prop := ∀ (w : World) (E E' : Nat → Prop) (σ σ' : Sg) (v : Value), Moves ρ σ σ' → (∀ g, E' g → E g) → Rep w E σ s v → Rep w E' σ' s' v
def MvL (ρ : List Nat) (l l' : List SV) : Prop := l.length = l'.length ∧ ∀ (i : Nat) (s s' : SV), l[i]? = some s → l'[i]? = some s' → Mv ρ s s'

theorem Mv.of_free {ρ : List Nat} {s : SV} (hf : FreeSV s) : Mv ρ s s := fun w _ _ σ σ' v _ hE hr => (hf w _ σ [] v hr).le hE σ'
theorem mv1K_sound {ρ : List Nat} {s : SV} {k : SV → Prop} (h : mv1K ρ s k) : ∃ s', k s' ∧ Mv ρ s s' := by
  cases s <;> simp only [mv1K] at h
  case ptr b o =>
    obtain ⟨j, hj, h⟩ := nthK_sound h
    refine ⟨_, h, fun w E E' σ σ' v hm _ hr => ?_⟩
    cases hr with
    | ptr hg => exact .ptr (hm _ _ _ hj hg)
    | ptrD hg => exact .ptrD (hm _ _ _ hj hg)
  case ep b i f =>
    obtain ⟨j, hj, h⟩ := nthK_sound h
    refine ⟨_, h, fun w E E' σ σ' v hm _ hr => ?_⟩
    cases hr with
    | ep hg => exact .ep (hm _ _ _ hj hg)
    | epD hg => exact .epD (hm _ _ _ hj hg)
  case sl b =>
    obtain ⟨j, hj, h⟩ := nthK_sound h
    refine ⟨_, h, fun w E E' σ σ' v hm _ hr => ?_⟩
    cases hr with
    | sl hg => exact .sl (hm _ _ _ hj hg)
    | slN hg => exact .slN (hm _ _ _ hj hg)
    | slD hg => exact .slD (hm _ _ _ hj hg)
  case any => exact ⟨_, h, fun _ _ _ _ _ _ _ _ _ => .any⟩
  all_goals first
    | exact h.elim
    | exact ⟨_, h, .of_free fun w E σ σ' v hr => by (cases hr <;> first | (constructor; done) | (constructor <;> assumption))⟩
theorem mvl_sound {ρ : List Nat} {f : SV → (SV → Prop) → Prop} (hf : ∀ {s : SV} {k : SV → Prop}, f s k → ∃ s', k s' ∧ Mv ρ s s') (l : List SV) : ∀ {k : List SV → Prop},
    List.rec (motive := fun _ => (List SV → Prop) → Prop) (fun k => k []) (fun x _ ih k => f x fun y => ih fun r => k (y :: r)) l k → ∃ l', k l' ∧ MvL ρ l l' := by
  induction l with
  | nil => intro k h; exact ⟨[], h, rfl, by simp⟩
  | cons x l ih =>
    intro k h
    obtain ⟨y, h, hy⟩ := hf h
    obtain ⟨l', h, hl, hl'⟩ := ih h
    refine ⟨y :: l', h, by simp [hl], fun i s s' hs hs' => ?_⟩
    cases i with
    | zero => simp at hs hs'; subst hs; subst hs'; exact hy
    | succ i => exact hl' i s s' (by simpa using hs) (by simpa using hs')
theorem mv2K_sound {ρ : List Nat} {s : SV} {k : SV → Prop} (h : mv2K ρ s k) : ∃ s', k s' ∧ Mv ρ s s' := by
  cases s with
  | agg cs =>
    obtain ⟨l, h, hl, hm⟩ := mvl_sound mv1K_sound cs (show mvs1K ρ cs _ from h)
    refine ⟨_, h, fun w E E' σ σ' v hmv hE hr => ?_⟩
    cases hr with
    | agg hlen ho hc =>
      refine .agg (hl ▸ hlen) ho fun i s v hs hv => ?_
      have hi : i < cs.length := by rw [hl]; exact (List.getElem?_eq_some_iff.1 hs).1
      exact hm i _ s (List.getElem?_eq_getElem hi) hs w E E' σ σ' v hmv hE (hc i _ v (List.getElem?_eq_getElem hi) hv)
  | _ => exact mv1K_sound h
theorem mv3K_sound {ρ : List Nat} {s : SV} {k : SV → Prop} (h : mv3K ρ s k) : ∃ s', k s' ∧ Mv ρ s s' := by
  cases s with
  | tup cs =>
    obtain ⟨l, h, hl, hm⟩ := mvl_sound mv2K_sound cs (show mvs2K ρ cs _ from h)
    refine ⟨_, h, fun w E E' σ σ' v hmv hE hr => ?_⟩
    cases hr with
    | tup hlen hc =>
      refine .tup (hl ▸ hlen) fun i s v hs hv => ?_
      have hi : i < cs.length := by rw [hl]; exact (List.getElem?_eq_some_iff.1 hs).1
      exact hm i _ s (List.getElem?_eq_getElem hi) hs w E E' σ σ' v hmv hE (hc i _ v (List.getElem?_eq_getElem hi) hv)
  | _ => exact mv2K_sound h

def MvB (ρ : List Nat) (b b' : Blk) : Prop := ∀ (w : World) (E E' : Nat → Prop) (σ σ' : Sg) (e : Ent), Moves ρ σ σ' → (∀ g, E' g → E g) → BlkOK w E σ b e → BlkOK w E' σ' b' e
theorem mvBlkK_sound {ρ : List Nat} {b : Blk} {k : Blk → Prop} (h : mvBlkK ρ b k) : ∃ b', k b' ∧ MvB ρ b b' := by
  cases b with
  | fix t cs =>
    obtain ⟨l, h, hl, hm⟩ := mvl_sound mv1K_sound cs (show mvs1K ρ cs _ from h)
    refine ⟨_, h, fun w E E' σ σ' e hmv hE hr => ?_⟩
    cases e <;> simp only [BlkOK] at hr ⊢
    obtain ⟨vs, h1, h2, h3⟩ := hr
    refine ⟨vs, h1, by rw [← hl]; exact h2, fun i s v hs hv => ?_⟩
    have hi : i < cs.length := by rw [hl]; exact (List.getElem?_eq_some_iff.1 hs).1
    obtain ⟨a, b⟩ := h3 i _ v (List.getElem?_eq_getElem hi) hv
    exact ⟨hm i _ s (List.getElem?_eq_getElem hi) hs w E E' σ σ' v hmv hE a, b⟩
  | row t z es =>
    refine ⟨_, h, fun w E E' σ σ' e hmv hE hr => ?_⟩
    cases e <;> simp only [BlkOK] at hr ⊢
    · obtain ⟨h1, h2, h3, h4, vs, h5, h6, h7⟩ := hr
      refine ⟨h1, h2, h3, h4, vs, h5, h6, fun i e he => ⟨(h7 i e he).1, fun j s hs => ?_⟩⟩
      obtain ⟨v, a, b, c⟩ := (h7 i e he).2 j s hs
      exact ⟨v, a, b.le hE [], c⟩
    · exact hr
  | dead => exact ⟨_, h, fun w E E' σ σ' e _ _ hr => by cases e <;> first | exact hr | exact hr.elim⟩
  | fresh => exact ⟨_, h, fun w E E' σ σ' e _ _ hr => by cases e <;> first | exact hr | exact hr.elim⟩
theorem mvBlksK_sound {ρ : List Nat} (l : Hp) : ∀ {k : Hp → Prop}, mvBlksK ρ l k → ∃ l', k l' ∧ l.length = l'.length ∧ ∀ (i : Nat) (b b' : Blk), l[i]? = some b → l'[i]? = some b' → MvB ρ b b' := by
  induction l with
  | nil => intro k h; exact ⟨[], h, rfl, by simp⟩
  | cons x l ih =>
    intro k h
    obtain ⟨y, h, hy⟩ := mvBlkK_sound (show mvBlkK ρ x (fun c => mvBlksK ρ l fun r => k (c :: r)) from h)
    obtain ⟨l', h, hl, hl'⟩ := ih h
    refine ⟨y :: l', h, by simp [hl], fun i s s' hs hs' => ?_⟩
    cases i with
    | zero => simp at hs hs'; subst hs; subst hs'; exact hy
    | succ i => exact hl' i s s' (by simpa using hs) (by simpa using hs')

/-! ### inward -/
def in1K (ρ : List Nat) (s s' : SV) (k : Prop) : Prop :=
  match s with
  | .ptr b o => match s' with | .ptr b' o' => nthK ρ b fun j => eqNK j b' (eqNK o o' k) | _ => False
  | .ep b i f => match s' with | .ep b' i' f' => nthK ρ b fun j => eqNK j b' (i = i' ∧ eqNK f f' k) | _ => False
  | .sl b => match s' with | .sl b' => nthK ρ b fun j => eqNK j b' k | _ => False
  | .any => k
  | .undef => match s' with | .undef => k | _ => False
  | .int q n => match s' with | .int q' n' => if q = q' then n' = n ∧ k else False | _ => False
  | .tt => match s' with | .tt => k | .bool b => b = true ∧ k | _ => False
  | .ff => match s' with | .ff => k | .bool b => b = false ∧ k | _ => False
  | .bool b => match s' with | .bool b' => b' = b ∧ k | .tt => true = b ∧ k | .ff => false = b ∧ k | _ => False
  | .nilp => match s' with | .nilp => k | _ => False
  | .nils => match s' with | .nils => k | _ => False
  | .rs z es => match s' with | .rs z' es' => eqNK z' z (es' = es ∧ k) | .nils => es = [] ∧ k | _ => False
  | s => s' = s ∧ free1K s k
noncomputable def ins1K (ρ : List Nat) (l : List SV) : List SV → Prop → Prop :=
  List.rec (motive := fun _ => List SV → Prop → Prop) (fun l' k => List.rec (motive := fun _ => Prop) k (fun _ _ _ => False) l')
    (fun s _ ih l' k => List.rec (motive := fun _ => Prop) False (fun s' t' _ => in1K ρ s s' (ih t' k)) l') l
noncomputable def in2K (ρ : List Nat) (s s' : SV) (k : Prop) : Prop :=
  match s with
  | .agg cs => match s' with | .agg cs' => ins1K ρ cs cs' k | _ => False
  | s => in1K ρ s s' k
noncomputable def ins2K (ρ : List Nat) (l : List SV) : List SV → Prop → Prop :=
  List.rec (motive := fun _ => List SV → Prop → Prop) (fun l' k => List.rec (motive := fun _ => Prop) k (fun _ _ _ => False) l')
    (fun s _ ih l' k => List.rec (motive := fun _ => Prop) False (fun s' t' _ => in2K ρ s s' (ih t' k)) l') l
noncomputable def inBlkK (ρ : List Nat) (b b' : Blk) (k : Prop) : Prop :=
  match b with
  | .fix t cs => match b' with | .fix t' cs' => eqNK t' t (ins1K ρ cs cs' k) | _ => False
  | .row t z es => match b' with | .row t' z' es' => eqNK t' t (eqNK z' z (es' = es ∧ k)) | _ => False
  | .dead => match b' with | .dead => k | _ => False
  | .fresh => False
noncomputable def inBlksK (ρ : List Nat) (h : Hp) (l : List Nat) : Hp → Prop → Prop :=
  List.rec (motive := fun _ => Hp → Prop → Prop) (fun hin k => List.rec (motive := fun _ => Prop) k (fun _ _ _ => False) hin)
    (fun j _ ih hin k => List.rec (motive := fun _ => Prop) False (fun b t _ => nthK h j fun b' => inBlkK ρ b b' (ih t k)) hin) l

/-- The entries, the other way. -/
def Picks (ρ : List Nat) (σ σ' : Sg) : Prop := ∀ (i j : Nat) (e : Ent), ρ[i]? = some j → σ[j]? = some e → σ'[i]? = some e
def In (ρ : List Nat) (s s' : SV) : Prop := ∀ (w : World) (E E' : Nat → Prop) (σ σ' : Sg) (v : Value), Picks ρ σ σ' → (∀ g, E' g → E g) → Rep w E σ s' v → Rep w E' σ' s v
theorem In.of_free {ρ : List Nat} {s : SV} (hf : FreeSV s) : In ρ s s := fun w _ _ σ σ' v _ hE hr => (hf w _ σ [] v hr).le hE σ'
theorem in1K_sound {ρ : List Nat} {s s' : SV} {k : Prop} (h : in1K ρ s s' k) : k ∧ In ρ s s' := by
  cases s <;> simp only [in1K] at h
  case ptr b o =>
    cases s' <;> first | exact h.elim | skip
    obtain ⟨j, hj, h⟩ := nthK_sound h
    obtain ⟨e1, h⟩ := eqNK_sound h
    obtain ⟨e2, h2⟩ := eqNK_sound h
    subst e1; subst e2
    refine ⟨h2, fun w E E' σ σ' v hm _ hr => ?_⟩
    cases hr with
    | ptr hg => exact .ptr (hm _ _ _ hj hg)
    | ptrD hg => exact .ptrD (hm _ _ _ hj hg)
  case ep b i f =>
    cases s' <;> first | exact h.elim | skip
    obtain ⟨j, hj, h⟩ := nthK_sound h
    obtain ⟨e1, e2, h⟩ := eqNK_sound h
    obtain ⟨e3, h2⟩ := eqNK_sound h
    subst e1; subst e2; subst e3
    refine ⟨h2, fun w E E' σ σ' v hm _ hr => ?_⟩
    cases hr with
    | ep hg => exact .ep (hm _ _ _ hj hg)
    | epD hg => exact .epD (hm _ _ _ hj hg)
  case sl b =>
    cases s' <;> first | exact h.elim | skip
    obtain ⟨j, hj, h⟩ := nthK_sound h
    obtain ⟨e1, h2⟩ := eqNK_sound h
    subst e1
    refine ⟨h2, fun w E E' σ σ' v hm _ hr => ?_⟩
    cases hr with
    | sl hg => exact .sl (hm _ _ _ hj hg)
    | slN hg => exact .slN (hm _ _ _ hj hg)
    | slD hg => exact .slD (hm _ _ _ hj hg)
  case any => exact ⟨h, fun _ _ _ _ _ _ _ _ _ => .any⟩
  case undef => cases s' <;> first | exact h.elim | exact ⟨h, fun _ _ _ _ _ _ _ _ hr => by cases hr; exact .undef⟩
  case int q n =>
    cases s' <;> first | exact h.elim | skip
    simp only [] at h
    split at h
    · rename_i hq
      subst hq
      obtain ⟨e, h⟩ := h
      subst e
      exact ⟨h, fun _ _ _ _ _ _ _ _ hr => by cases hr; exact .int⟩
    · exact h.elim
  case tt =>
    cases s' <;> first | exact h.elim | skip
    · exact ⟨h, fun _ _ _ _ _ _ _ _ hr => by cases hr; exact .tt⟩
    · obtain ⟨e, h⟩ := h; subst e; exact ⟨h, fun _ _ _ _ _ _ _ _ hr => by cases hr; exact .tt⟩
  case ff =>
    cases s' <;> first | exact h.elim | skip
    · exact ⟨h, fun _ _ _ _ _ _ _ _ hr => by cases hr; exact .ff⟩
    · obtain ⟨e, h⟩ := h; subst e; exact ⟨h, fun _ _ _ _ _ _ _ _ hr => by cases hr; exact .ff⟩
  case bool b =>
    cases s' <;> first | exact h.elim | skip
    all_goals obtain ⟨e, h⟩ := h; subst e; exact ⟨h, fun _ _ _ _ _ _ _ _ hr => by cases hr; exact .bool⟩
  case nilp => cases s' <;> first | exact h.elim | exact ⟨h, fun _ _ _ _ _ _ _ _ hr => by cases hr; exact .nilp⟩
  case nils => cases s' <;> first | exact h.elim | exact ⟨h, fun _ _ _ _ _ _ _ _ hr => by cases hr; exact .nils⟩
  case rs z es =>
    cases s' <;> first | exact h.elim | skip
    · obtain ⟨e, h⟩ := h
      subst e
      exact ⟨h, fun _ _ _ _ _ _ _ _ hr => by cases hr; exact .rs0 (Nat.zero_le _)⟩
    · obtain ⟨e, e', h2⟩ := eqNK_sound h
      subst e; subst e'
      exact ⟨h2, .of_free fun w E σ σ' v hr => by cases hr <;> constructor <;> assumption⟩
  all_goals
    obtain ⟨e, h⟩ := h
    obtain ⟨h, hf⟩ := free1K_sound h
    subst e
    exact ⟨h, .of_free hf⟩
theorem ins_sound {ρ : List Nat} {f : SV → SV → Prop → Prop} (hf : ∀ {s s' : SV} {k : Prop}, f s s' k → k ∧ In ρ s s') (l : List SV) : ∀ {l' : List SV} {k : Prop},
    List.rec (motive := fun _ => List SV → Prop → Prop) (fun l' k => List.rec (motive := fun _ => Prop) k (fun _ _ _ => False) l')
      (fun s _ ih l' k => List.rec (motive := fun _ => Prop) False (fun s' t' _ => f s s' (ih t' k)) l') l l' k → k ∧ l.length = l'.length ∧ ∀ (i : Nat) (s s' : SV), l[i]? = some s → l'[i]? = some s' → In ρ s s' := by
  induction l with
  | nil =>
    intro l' k h
    cases l' with
    | nil => exact ⟨h, rfl, by simp⟩
    | cons x t => exact h.elim
  | cons s l ih =>
    intro l' k h
    cases l' with
    | nil => exact h.elim
    | cons s' l' =>
      obtain ⟨h, h1⟩ := hf h
      obtain ⟨h, hl, h2⟩ := ih h
      refine ⟨h, by simp [hl], fun i a a' ha ha' => ?_⟩
      cases i with
      | zero => simp at ha ha'; subst ha; subst ha'; exact h1
      | succ i => exact h2 i a a' (by simpa using ha) (by simpa using ha')
theorem in2K_sound {ρ : List Nat} {s s' : SV} {k : Prop} (h : in2K ρ s s' k) : k ∧ In ρ s s' := by
  cases s with
  | agg cs =>
    cases s' with
    | agg cs' =>
      obtain ⟨h, hl, hc⟩ := ins_sound in1K_sound cs (show ins1K ρ cs cs' k from h)
      refine ⟨h, fun w E E' σ σ' v hm hE hr => ?_⟩
      cases hr with
      | agg hlen ho hcs =>
        refine .agg (hl.trans hlen) ho fun i s v hs hv => ?_
        have hi : i < cs'.length := by rw [← hl]; exact (List.getElem?_eq_some_iff.1 hs).1
        exact hc i s _ hs (List.getElem?_eq_getElem hi) w E E' σ σ' v hm hE (hcs i _ v (List.getElem?_eq_getElem hi) hv)
    | _ => exact h.elim
  | _ => exact in1K_sound h
theorem ins2K_repl {ρ : List Nat} {args args' : List SV} (h : ins2K ρ args args' True) {w : World} {E E' : Nat → Prop} {σ σ' : Sg} {vs : List Value} (hm : Picks ρ σ σ') (hE : ∀ g, E' g → E g) (hr : RepL w E σ args' vs) : RepL w E' σ' args vs := by
  obtain ⟨_, hl, hi⟩ := ins_sound in2K_sound args h
  refine ⟨hl.trans hr.1, fun i s v hs hv => ?_⟩
  have hlt : i < args'.length := by rw [← hl]; exact (List.getElem?_eq_some_iff.1 hs).1
  exact hi i s _ hs (List.getElem?_eq_getElem hlt) w E E' σ σ' v hm hE (hr.2 i _ v (List.getElem?_eq_getElem hlt) hv)
def InB (ρ : List Nat) (b b' : Blk) : Prop := ∀ (w : World) (E E' : Nat → Prop) (σ σ' : Sg) (e : Ent), Picks ρ σ σ' → (∀ g, E' g → E g) → BlkOK w E σ b' e → BlkOK w E' σ' b e
theorem inBlkK_sound {ρ : List Nat} {b b' : Blk} {k : Prop} (h : inBlkK ρ b b' k) : k ∧ InB ρ b b' := by
  cases b with
  | fix t cs =>
    cases b' with
    | row _ _ _ => exact h.elim
    | dead => exact h.elim
    | fresh => exact h.elim
    | fix t' cs' =>
      obtain ⟨e, h⟩ := eqNK_sound h
      obtain ⟨h2, hl, hc⟩ := ins_sound in1K_sound cs h
      subst e
      refine ⟨h2, fun w E E' σ σ' e hm hE hr => ?_⟩
      cases e <;> simp only [BlkOK] at hr ⊢
      obtain ⟨vs, h1, h2, h3⟩ := hr
      refine ⟨vs, h1, hl.trans h2, fun i s v hs hv => ?_⟩
      have hi : i < cs'.length := by rw [← hl]; exact (List.getElem?_eq_some_iff.1 hs).1
      obtain ⟨a, b⟩ := h3 i _ v (List.getElem?_eq_getElem hi) hv
      exact ⟨hc i s _ hs (List.getElem?_eq_getElem hi) w E E' σ σ' v hm hE a, b⟩
  | row t z es =>
    cases b' <;> first | exact h.elim | skip
    obtain ⟨e1, h⟩ := eqNK_sound h
    obtain ⟨e2, e3, h2⟩ := eqNK_sound h
    subst e1; subst e2; subst e3
    refine ⟨h2, fun w E E' σ σ' e hm hE hr => ?_⟩
    cases e <;> simp only [BlkOK] at hr ⊢
    · obtain ⟨h1, h2, h3, h4, vs, h5, h6, h7⟩ := hr
      refine ⟨h1, h2, h3, h4, vs, h5, h6, fun i e he => ⟨(h7 i e he).1, fun j s hs => ?_⟩⟩
      obtain ⟨v, a, b, c⟩ := (h7 i e he).2 j s hs
      exact ⟨v, a, b.le hE [], c⟩
    · exact hr
  | dead =>
    cases b' <;> first | exact h.elim | skip
    exact ⟨h, fun w E E' σ σ' e _ _ hr => by cases e <;> first | exact hr | exact hr.elim⟩
  | fresh => exact h.elim
theorem inBlksK_sound {ρ : List Nat} {h : Hp} (l : List Nat) : ∀ {hin : Hp} {k : Prop}, inBlksK ρ h l hin k → k ∧ l.length = hin.length ∧ ∀ (i j : Nat) (b : Blk), l[i]? = some j → hin[i]? = some b → ∃ b', h[j]? = some b' ∧ InB ρ b b' := by
  induction l with
  | nil =>
    intro hin k hk
    cases hin with
    | nil => exact ⟨hk, rfl, by simp⟩
    | cons b t => exact hk.elim
  | cons j l ih =>
    intro hin k hk
    cases hin with
    | nil => exact hk.elim
    | cons b t =>
      obtain ⟨b', hb, hk2⟩ := nthK_sound (show nthK h j _ from hk)
      obtain ⟨hk3, hin1⟩ := inBlkK_sound hk2
      obtain ⟨hk, hl, hr⟩ := ih hk3
      refine ⟨hk, by simp [hl], fun i j' c hi hc => ?_⟩
      cases i with
      | zero => simp at hi hc; subst hi; subst hc; exact ⟨b', hb, hin1⟩
      | succ i => exact hr i j' c (by simpa using hi) (by simpa using hc)
end
end Go.Sx

/- The symbolic executor of this seat's proofs, part 4 of 4. No statement of the seat is proved here. -/
import Derived.Test.YtdommpfnoiemkaaSxP3
import Derived.ProofKit
import Derived.OpenShut
import Derived.ChangeOld
/- Rows that are given away; what a function hands back. No statement of the seat is proved here. -/
namespace Go.Sx
section
variable {P : Program} {T : Tab}

def FreeBlk (b : Blk) : Prop := match b with | .fix _ cs => ∀ s ∈ cs, FreeSV s | .fresh => False | _ => True

theorem BlkOK.free {w : World} {E E' : Nat → Prop} {σ σ' : Sg} {b : Blk} {e : Ent} (h : BlkOK w E σ b e) (hb : FreeBlk b) (hE : ∀ g, E' g → E g) : BlkOK w E' σ' b e := by
  cases b <;> cases e <;> simp only [BlkOK] at h ⊢
  case fix.fix =>
    obtain ⟨vs, h1, h2, h3⟩ := h
    exact ⟨vs, h1, h2, fun i s v hs hv => ⟨(hb s (List.mem_of_getElem? hs) w E σ [] v (h3 i s v hs hv).1).le hE σ', (h3 i s v hs hv).2⟩⟩
  case row.row =>
    obtain ⟨h1, h2, h3, h4, vs, h5, h6, h7⟩ := h
    refine ⟨h1, h2, h3, h4, vs, h5, h6, fun i e he => ⟨(h7 i e he).1, fun j s hs => ?_⟩⟩
    obtain ⟨v, a, b, c⟩ := (h7 i e he).2 j s hs
    exact ⟨v, a, b.le hE [], c⟩
  all_goals exact h
theorem BlkOK.le {w : World} {E E' : Nat → Prop} {σ σ' : Sg} {b : Blk} {e : Ent} (h : BlkOK w E σ b e) (hE : ∀ g, E' g → E g)
    (hσ : ∀ (i : Nat) (e : Ent), σ[i]? = some e → e ≠ .fresh → σ'[i]? = some e ∨ σ'[i]? = some .dead) : BlkOK w E' σ' b e := by
  cases b <;> cases e <;> simp only [BlkOK] at h ⊢
  case fix.fix =>
    obtain ⟨vs, h1, h2, h3⟩ := h
    exact ⟨vs, h1, h2, fun i s v hs hv => ⟨(h3 i s v hs hv).1.mono σ' (fun _ _ _ => rfl) (Nat.le_refl _) (fun g _ hn h => hn (hE g h)) hσ, (h3 i s v hs hv).2⟩⟩
  case row.row =>
    obtain ⟨h1, h2, h3, h4, vs, h5, h6, h7⟩ := h
    refine ⟨h1, h2, h3, h4, vs, h5, h6, fun i e he => ⟨(h7 i e he).1, fun j s hs => ?_⟩⟩
    obtain ⟨v, a, b, c⟩ := (h7 i e he).2 j s hs
    exact ⟨v, a, b.le hE [], c⟩
  all_goals exact h

/-- The elements of a row, once nobody owns it. -/
theorem rs_of_row {w : World} {E E' : Nat → Prop} {σ σ' : Sg} {t : TypeId} {z : Nat} {es : List (List SV)} {b : Nat} {e : Ent} {v : Value} (hσ : σ[b]? = some e) (hok : BlkOK w E σ (.row t z es) e)
    (hle : ∀ g, E' g → E g) (hE : ∀ g, e.blk = some g → ¬ E' g) (hlt : ∀ g, e.blk = some g → g < w.heap.size) (hr : Rep w E σ (.sl b) v) : Rep w E' σ' (.rs z es) v := by
  cases hr with
  | @sl _ _ g sz n cap hs =>
    rw [hσ] at hs
    simp at hs
    subst hs
    obtain ⟨h1, h2, h3, h4, vs, h5, h6, h7⟩ := hok
    subst h1; subst h2
    refine .rs (val := fun i j => (vs[i * sz + j]?).getD Go.undef) h3 h4 (hE g rfl) (hlt g rfl) (fun i e he => (h7 i e he).1) (fun i e j s he hs => ?_) (fun i e j s he hs => ?_) (fun i e j s he hs => ?_)
    all_goals obtain ⟨v, a, b, c⟩ := (h7 i e he).2 j s hs
    · obtain ⟨fr, h5, _⟩ := h5; rw [cell_at h5, Nat.zero_add, a]; rfl
    · rw [a]; exact c
    · rw [a]; exact b.le hle []
  | slN hs =>
    rw [hσ] at hs
    simp at hs
    subst hs
    have : es = [] := hok
    subst this
    exact .rs0 (Nat.zero_le _)
  | slD hs =>
    rw [hσ] at hs
    simp at hs
    subst hs
    exact hok.elim

theorem Inv.kill {w : World} {X : Nat → Prop} {σ : Sg} {h : Hp} (hI : Inv w X σ h) (m b : Nat) :
    Inv w X (σ.set b .dead) (h.set b .dead) ∧ Step m w σ w (σ.set b .dead) ∧ (∀ g, Owned (σ.set b .dead) g → ∃ i e, i ≠ b ∧ σ[i]? = some e ∧ e.blk = some g) := by
  have hget : ∀ (i : Nat) (e : Ent), (σ.set b .dead)[i]? = some e → (i = b ∧ e = .dead) ∨ (i ≠ b ∧ σ[i]? = some e) := by
    intro i e he
    rw [List.getElem?_set] at he
    by_cases hib : b = i
    · rw [if_pos hib] at he
      split at he
      · simp at he; exact .inl ⟨hib.symm, he.symm⟩
      · simp at he
    · rw [if_neg hib] at he; exact .inr ⟨fun e => hib e.symm, he⟩
  have hown : ∀ g, Owned (σ.set b .dead) g → ∃ i e, i ≠ b ∧ σ[i]? = some e ∧ e.blk = some g := by
    rintro g ⟨i, e, he, hg⟩
    rcases hget i e he with ⟨_, rfl⟩ | ⟨h1, h2⟩
    · simp [Ent.blk] at hg
    · exact ⟨i, e, h1, h2, hg⟩
  have hE : ∀ g, Ex X (σ.set b .dead) g → Ex X σ g := fun g hx => hx.elim .inl fun ho => by
    obtain ⟨i, e, _, he, hg⟩ := hown g ho
    exact .inr ⟨i, e, he, hg⟩
  have hkeep : ∀ (i : Nat) (e : Ent), σ[i]? = some e → e ≠ .fresh → (σ.set b .dead)[i]? = some e ∨ (σ.set b .dead)[i]? = some .dead := by
    intro i e he _
    rw [List.getElem?_set]
    by_cases hib : b = i
    · rw [if_pos hib, if_pos (by rw [hib]; exact (List.getElem?_eq_some_iff.1 he).1)]; exact .inr rfl
    · rw [if_neg hib]; exact .inl he
  refine ⟨⟨by simp [hI.len], fun i bl e hb he => ?_, fun i e g he hg => ?_, fun i j e e' g hi hj hg hg' => ?_, fun g hx ho => ?_, hI.xlt⟩, ⟨rfl, rfl, rfl, Nat.le_refl _, fun _ _ _ => rfl, fun g ho _ => ?_, fun i e _ he hf => hkeep i e he hf⟩, hown⟩
  · rcases hget i e he with ⟨rfl, rfl⟩ | ⟨h1, h2⟩
    · rw [List.getElem?_set, if_pos rfl] at hb
      split at hb
      · simp at hb; subst hb; trivial
      · simp at hb
    · rw [List.getElem?_set, if_neg (fun e => h1 e.symm)] at hb
      exact (hI.ok i bl e hb h2).le hE hkeep
  · rcases hget i e he with ⟨_, rfl⟩ | ⟨_, h2⟩
    · simp [Ent.blk] at hg
    · exact hI.lt i e g h2 hg
  · rcases hget i e hi with ⟨_, rfl⟩ | ⟨_, h2⟩
    · simp [Ent.blk] at hg
    · rcases hget j e' hj with ⟨_, rfl⟩ | ⟨_, h3⟩
      · simp [Ent.blk] at hg'
      · exact hI.inj i j e e' g h2 h3 hg hg'
  · obtain ⟨i, e, _, he, hg⟩ := hown g ho
    exact hI.dis g hx ⟨i, e, he, hg⟩
  · obtain ⟨i, e, _, he, hg⟩ := hown g ho
    exact ⟨i, e, he, hg⟩

theorem frz_sound {m b : Nat} {F : Fr} {h : Hp} {K : Fr → Hp → Prop} (hk : frzK m b F h K) : ∃ F' h', Shift m F h F' h' ∧ K F' h' := by
  obtain ⟨_, hk⟩ := leNK_sound hk
  obtain ⟨blk, hb, hk⟩ := nthK_sound hk
  cases blk with
  | row t z es =>
    obtain ⟨hlt, hk⟩ := setK_sound (show setK h b .dead _ from hk)
    obtain ⟨F', hk, hl, hF'⟩ := mapSlK_sound F hk
    refine ⟨F', _, ⟨fun w X σ tmps hI hF => ?_⟩, hk⟩
    obtain ⟨hI', hS, hown⟩ := hI.kill m b
    have hσb : σ[b]? = some (σ[b]'(by rw [hI.len]; exact hlt)) := List.getElem?_eq_getElem _
    have hE : ∀ g, Ex X (σ.set b .dead) g → Ex X σ g := fun g hx => hx.elim .inl fun ho => by
      obtain ⟨i, e, _, he, hg⟩ := hown g ho
      exact .inr ⟨i, e, he, hg⟩
    refine ⟨_, hI', ⟨by rw [hl]; exact hF.1, fun i s v hs hv => ?_⟩, hS⟩
    have hi : i < F.length := by rw [← hl]; exact (List.getElem?_eq_some_iff.1 hs).1
    have hr := hF.2 i _ v (List.getElem?_eq_getElem hi) hv
    rcases hF' i _ s (List.getElem?_eq_getElem hi) hs with ⟨e1, e2⟩ | e1
    · subst e2
      rw [e1] at hr
      refine rs_of_row hσb (hI.ok b _ _ hb hσb) hE (fun g hg hx => ?_) (fun g hg => hI.lt b _ g hσb hg) hr
      rcases hx with hx | ho
      · exact hI.dis g hx ⟨b, _, hσb, hg⟩
      · obtain ⟨j, e, hne, he, hg'⟩ := hown g ho
        exact hne (hI.inj j b e _ g he hσb hg' hg)
    · rw [← e1]
      exact hr.mono _ (fun _ _ _ => rfl) (Nat.le_refl _) (fun g _ hn h => hn (hE g h)) (fun j e he hf => by
        rw [List.getElem?_set]
        by_cases hjb : b = j
        · rw [if_pos hjb, if_pos (by rw [hjb]; exact (List.getElem?_eq_some_iff.1 he).1)]; exact .inr rfl
        · rw [if_neg hjb]; exact .inl he)
  | _ => exact hk.elim
theorem XG.freeze {m : Nat} {F : Fr} {h : Hp} {K : Fr → Hp → Prop} (b : Nat) (hk : frzK m b F h fun F' h' => XG m F' h' K) : XG m F h K := by
  obtain ⟨F', h', hs, hk⟩ := frz_sound hk
  exact hk.step hs

/-! ### what a function hands back -/
def ToR (k : Nat) (h : Hp) (s s' : SV) : Prop := ∀ (w : World) (X : Nat → Prop) (σ : Sg) (E' : Nat → Prop) (v : Value), Inv w X σ h → (∀ g, E' g → Ex X σ g) →
  (∀ (i : Nat) (e : Ent) (g : Nat), k ≤ i → σ[i]? = some e → e.blk = some g → ¬ E' g) → Rep w (Ex X σ) σ s v → Rep w E' [] s' v
theorem ToR.of_free {k : Nat} {h : Hp} {s s' : SV} (hf : ∀ w E σ v, Rep w E σ s v → Rep w E [] s' v) : ToR k h s s' := fun w _ σ _ v _ hE _ hr => (hf w _ σ v hr).le hE []

def out1HK (k : Nat) (h : Hp) (s : SV) (K : SV → Prop) : Prop :=
  match s with
  | .sl b => leNK k b (nthK h b fun blk => match blk with | .row _ z es => K (.rs z es) | _ => False)
  | .tt => K (.bool true) | .ff => K (.bool false) | .bool b => K (.bool b)
  | .int q n => K (.int q n) | .str s => K (.str s) | .nilp => K .nilp | .nils => K .nils | .rs z es => K (.rs z es) | .rp z es i f => K (.rp z es i f)
  | _ => False
noncomputable def outs1HK (k : Nat) (h : Hp) (l : List SV) : (List SV → Prop) → Prop :=
  List.rec (motive := fun _ => (List SV → Prop) → Prop) (fun K => K []) (fun x _ ih K => out1HK k h x fun y => ih fun r => K (y :: r)) l
noncomputable def out2HK (k : Nat) (h : Hp) (s : SV) (K : SV → Prop) : Prop :=
  match s with
  | .agg cs => outs1HK k h cs fun c => K (.agg c)
  | s => out1HK k h s K
noncomputable def outs2HK (k : Nat) (h : Hp) (l : List SV) : (List SV → Prop) → Prop :=
  List.rec (motive := fun _ => (List SV → Prop) → Prop) (fun K => K []) (fun x _ ih K => out2HK k h x fun y => ih fun r => K (y :: r)) l
noncomputable def outHK (k : Nat) (h : Hp) (s : SV) (K : SV → Prop) : Prop :=
  match s with
  | .tup vs => outs2HK k h vs fun l => K (.tup l)
  | s => out2HK k h s K

theorem out1HK_sound {k : Nat} {h : Hp} {s : SV} {K : SV → Prop} (hk : out1HK k h s K) : ∃ s', K s' ∧ ToR k h s s' ∧ FreeSV s' := by
  unfold out1HK at hk
  split at hk
  case h_1 b =>
    obtain ⟨hkb, hk⟩ := leNK_sound hk
    obtain ⟨blk, hb, hk⟩ := nthK_sound hk
    cases blk with
    | row t z es =>
      refine ⟨_, hk, fun w X σ E' v hI hE hno hr => ?_, fun w E σ σ' v hr => by cases hr <;> constructor <;> assumption⟩
      have hlt : b < σ.length := by rw [hI.len]; exact (List.getElem?_eq_some_iff.1 hb).1
      have hσb : σ[b]? = some σ[b] := List.getElem?_eq_getElem hlt
      exact rs_of_row hσb (hI.ok b _ _ hb hσb) hE (fun g hg => hno b _ g hkb hσb hg) (fun g hg => hI.lt b _ g hσb hg) hr
    | _ => exact hk.elim
  all_goals first
    | exact hk.elim
    | exact ⟨_, hk, .of_free fun w E σ v hr => by (cases hr <;> first | (constructor; done) | (constructor <;> assumption)), fun w E σ σ' v hr => by (cases hr <;> first | (constructor; done) | (constructor <;> assumption))⟩
def ToRL (k : Nat) (h : Hp) (l l' : List SV) : Prop := l.length = l'.length ∧ ∀ (i : Nat) (s s' : SV), l[i]? = some s → l'[i]? = some s' → ToR k h s s'
theorem outs_sound {k : Nat} {h : Hp} {f : SV → (SV → Prop) → Prop} (hf : ∀ {s : SV} {K : SV → Prop}, f s K → ∃ s', K s' ∧ ToR k h s s' ∧ FreeSV s') (l : List SV) : ∀ {K : List SV → Prop},
    List.rec (motive := fun _ => (List SV → Prop) → Prop) (fun K => K []) (fun x _ ih K => f x fun y => ih fun r => K (y :: r)) l K → ∃ l', K l' ∧ ToRL k h l l' ∧ ∀ s ∈ l', FreeSV s := by
  induction l with
  | nil => intro K h; exact ⟨[], h, ⟨rfl, by simp⟩, by simp⟩
  | cons x l ih =>
    intro K h
    obtain ⟨y, h, hy, hfy⟩ := hf h
    obtain ⟨l', h, ⟨hl, hl'⟩, hfl⟩ := ih h
    refine ⟨y :: l', h, ⟨by simp [hl], fun i s s' hs hs' => ?_⟩, fun s hs => ?_⟩
    · cases i with
      | zero => simp at hs hs'; subst hs; subst hs'; exact hy
      | succ i => exact hl' i s s' (by simpa using hs) (by simpa using hs')
    · rcases List.mem_cons.1 hs with rfl | hs
      · exact hfy
      · exact hfl s hs
theorem out2HK_sound {k : Nat} {h : Hp} {s : SV} {K : SV → Prop} (hk : out2HK k h s K) : ∃ s', K s' ∧ ToR k h s s' ∧ FreeSV s' := by
  cases s with
  | agg cs =>
    obtain ⟨l, hk, ⟨hl, hto⟩, hfr⟩ := outs_sound out1HK_sound cs (show outs1HK k h cs _ from hk)
    refine ⟨_, hk, fun w X σ E' v hI hE hno hr => ?_, fun w E σ σ' v hr => ?_⟩
    · cases hr with
      | agg hl' ho hc =>
        refine .agg (hl ▸ hl') ho fun i s v hs hv => ?_
        have hi : i < cs.length := by rw [hl]; exact (List.getElem?_eq_some_iff.1 hs).1
        exact hto i _ s (List.getElem?_eq_getElem hi) hs w X σ E' v hI hE hno (hc i _ v (List.getElem?_eq_getElem hi) hv)
    · cases hr with
      | agg hl' ho hc => exact .agg hl' ho fun i s v hs hv => hfr s (List.mem_of_getElem? hs) w E σ σ' v (hc i s v hs hv)
  | _ => exact out1HK_sound hk
theorem outHK_sound {k : Nat} {h : Hp} {s : SV} {K : SV → Prop} (hk : outHK k h s K) : ∃ s', K s' ∧ ToR k h s s' ∧ FreeSV s' := by
  cases s with
  | tup cs =>
    obtain ⟨l, hk, ⟨hl, hto⟩, hfr⟩ := outs_sound out2HK_sound cs (show outs2HK k h cs _ from hk)
    refine ⟨_, hk, fun w X σ E' v hI hE hno hr => ?_, fun w E σ σ' v hr => ?_⟩
    · cases hr with
      | tup hl' hc =>
        refine .tup (hl ▸ hl') fun i s v hs hv => ?_
        have hi : i < cs.length := by rw [hl]; exact (List.getElem?_eq_some_iff.1 hs).1
        exact hto i _ s (List.getElem?_eq_getElem hi) hs w X σ E' v hI hE hno (hc i _ v (List.getElem?_eq_getElem hi) hv)
    · cases hr with
      | tup hl' hc => exact .tup hl' fun i s v hs hv => hfr s (List.mem_of_getElem? hs) w E σ σ' v (hc i s v hs hv)
  | _ => exact out2HK_sound hk
end
end Go.Sx

/- Functions that are handed blocks of the caller's. No statement of the seat is proved here. -/
namespace Go.Sx
section
variable {P : Program} {T : Tab}

/-- A call of f at these arguments, where the blocks that it is handed are as 'hin' says (and no others are at hand): it hands back s and leaves those blocks as 'ho' says, of which R holds. -/
structure OSpec (P : Program) (f : FuncId) (args : List SV) (hin : Hp) (R : SV → Hp → Prop) : Prop where
  fin : ∀ b ∈ hin, FreeBlk b
  ok : ∀ (w : World) (X : Nat → Prop) (σ : Sg) (vs : List Value), Inv w X σ hin → RepL w (Ex X σ) σ args vs → DoneS P (callFunc f vs.toArray) w fun v w' =>
    ∃ s ho σ', R s ho ∧ ho.length = hin.length ∧ FreeSV s ∧ (∀ b ∈ ho, FreeBlk b) ∧ Rep w' (Ex X σ') [] s v ∧ Inv w' X σ' ho ∧ Step hin.length w σ w' σ'

def freeBlkK (b : Blk) (k : Prop) : Prop := match b with | .fix _ cs => puresK cs k | .row _ _ _ => k | .dead => k | .fresh => False
noncomputable def freeBlksK (l : Hp) (k : Prop) : Prop := List.rec (motive := fun _ => Prop) k (fun b _ ih => freeBlkK b ih) l
theorem freeBlksK_sound {l : Hp} {k : Prop} (h : freeBlksK l k) : k ∧ ∀ b ∈ l, FreeBlk b := by
  induction l with
  | nil => exact ⟨h, by simp⟩
  | cons b l ih =>
    have h : freeBlkK b (freeBlksK l k) := h
    have key : freeBlksK l k ∧ FreeBlk b := by
      cases b with
      | fix t cs => obtain ⟨h1, h2⟩ := puresK_sound h; exact ⟨h1, h2⟩
      | row t z es => exact ⟨h, trivial⟩
      | dead => exact ⟨h, trivial⟩
      | fresh => exact h.elim
    obtain ⟨h1, h2⟩ := ih key.1
    refine ⟨h1, fun c hc => ?_⟩
    rcases List.mem_cons.1 hc with rfl | hc
    · exact key.2
    · exact h2 c hc

theorem Inv.cut {w : World} {X : Nat → Prop} {σ : Sg} {h : Hp} (hI : Inv w X σ h) (k : Nat) (hf : ∀ b ∈ h.take k, FreeBlk b) :
    Inv w X (σ.take k) (h.take k) ∧ (∀ g, Owned (σ.take k) g → Owned σ g) := by
  have hget : ∀ (i : Nat) (e : Ent), (σ.take k)[i]? = some e → i < k ∧ σ[i]? = some e := by
    intro i e he
    rw [List.getElem?_take] at he
    split at he
    · rename_i hi; exact ⟨hi, he⟩
    · simp at he
  have hown : ∀ g, Owned (σ.take k) g → Owned σ g := fun g ⟨i, e, he, hg⟩ => ⟨i, e, (hget i e he).2, hg⟩
  refine ⟨⟨by simp [hI.len], fun i b e hb he => ?_, fun i e g he hg => hI.lt i e g (hget i e he).2 hg, fun i j e e' g hi hj hg hg' => hI.inj i j e e' g (hget i e hi).2 (hget j e' hj).2 hg hg', fun g hx ho => hI.dis g hx (hown g ho), hI.xlt⟩, hown⟩
  have hfb := hf b (List.mem_of_getElem? hb)
  rw [List.getElem?_take] at hb
  split at hb
  · exact (hI.ok i b e hb (hget i e he).2).free hfb fun g hx => hx.elim .inl fun ho => .inr (hown g ho)
  · simp at hb

theorem OSpec.of_call {f : FuncId} {args : List SV} {hin : Hp} {R : SV → Hp → Prop} (hfin : ∀ b ∈ hin, FreeBlk b)
    (hc : CallG P f args hin fun s h' => outHK hin.length h' s fun s' => takeK hin.length h' fun ho => freeBlksK ho (R s' ho)) : OSpec P f args hin R := by
  refine ⟨hfin, fun w X σ vs hI hr => (hc.ok w X σ vs hI hr).mono fun v w' ⟨s, h', σ', hk, hrep, hI', hS⟩ => ?_⟩
  obtain ⟨s', hk, hto, hfs⟩ := outHK_sound hk
  obtain ⟨hlen, hk⟩ := takeK_sound hk
  obtain ⟨hR, hfb⟩ := freeBlksK_sound hk
  obtain ⟨hI2, hown⟩ := hI'.cut hin.length hfb
  have hE : ∀ g, Ex X (σ'.take hin.length) g → Ex X σ' g := fun g hx => hx.elim .inl fun ho => .inr (hown g ho)
  refine ⟨s', _, σ'.take hin.length, hR, by simp [hlen], hfs, hfb, hto w' X σ' _ v hI' hE (fun i e g hi he hg hx => ?_) hrep, hI2, ⟨hS.os, hS.tape, hS.output, hS.size, hS.frame, fun g ho hg => hS.blks g (hown g ho) hg, fun i e hi he hf => ?_⟩⟩
  · rcases hx with hx | ⟨j, e', he', hg'⟩
    · exact hI'.dis g hx ⟨i, e, he, hg⟩
    · rw [List.getElem?_take] at he'
      split at he'
      · rename_i hj
        have := hI'.inj i j e e' g he he' hg hg'
        omega
      · simp at he'
  · rw [List.getElem?_take, if_pos hi]
    exact hS.ents i e (by rw [hI.len]; exact hi) he hf

theorem OSpec.of_code (hT : TabOK P T) {f : FuncId} {fn : Func} {c : Code} {args : List SV} {hin : Hp} {R : SV → Hp → Prop} (hf : P.funcs[f]? = some fn) (hn : (fn.name == "runtime.NumGoroutine") = false)
    (hb : fn.body = some c) (hfin : freeBlksK hin True)
    (hk : startK args fn.ntmps fun F => codeK P T hin.length c F hin (retK T fn fun s h' => outHK hin.length h' s fun s' => takeK hin.length h' fun ho => freeBlksK ho (R s' ho))) : OSpec P f args hin R :=
  .of_call (freeBlksK_sound hfin).2 (CallG.of_code hT hf hn hb hk)
theorem OSpec.mono {f : FuncId} {args : List SV} {hin : Hp} {R R' : SV → Hp → Prop} (hs : OSpec P f args hin R) (hr : ∀ s h, R s h → R' s h) : OSpec P f args hin R' :=
  ⟨hs.fin, fun w X σ vs hI hrp => (hs.ok w X σ vs hI hrp).mono fun _ _ ⟨s, ho, σ', h1, h2⟩ => ⟨s, ho, σ', hr _ _ h1, h2⟩⟩

/-! ### at the caller's -/
def argK (ρ : List Nat) (s s' : SV) (k : Prop) : Prop :=
  match s with
  | .ptr b o => match s' with | .ptr b' o' => nthK ρ b fun j => eqNK j b' (eqNK o o' k) | _ => False
  | .sl b => match s' with | .sl b' => nthK ρ b fun j => eqNK j b' k | _ => False
  | s => s' = s ∧ free1K s k
noncomputable def argsK (ρ : List Nat) (l : List SV) : List SV → Prop → Prop :=
  List.rec (motive := fun _ => List SV → Prop → Prop) (fun l' k => List.rec (motive := fun _ => Prop) k (fun _ _ _ => False) l')
    (fun s _ ih l' k => List.rec (motive := fun _ => Prop) False (fun s' t' _ => argK ρ s s' (ih t' k)) l') l
noncomputable def insK (h : Hp) (ρ : List Nat) : Hp → Prop → Prop :=
  List.rec (motive := fun _ => Hp → Prop → Prop) (fun hin k => List.rec (motive := fun _ => Prop) k (fun _ _ _ => False) hin)
    (fun j _ ih hin k => List.rec (motive := fun _ => Prop) False (fun b t _ => nthK h j fun b' => b' = b ∧ ih t k) hin) ρ
/-- The caller's blocks, after the call. -/
noncomputable def backK (ρ : List Nat) : Hp → Hp → (Hp → Prop) → Prop :=
  List.rec (motive := fun _ => Hp → Hp → (Hp → Prop) → Prop) (fun _ h K => K h)
    (fun j _ ih ho h K => List.rec (motive := fun _ => Prop) False (fun b t _ => setK h j b fun h' => ih t h' K) ho) ρ
def back (ρ : List Nat) (ho h : Hp) : Hp := upd (ρ.zip ho) h

theorem backK_sound (ρ : List Nat) : ∀ {ho h : Hp} {K : Hp → Prop}, backK ρ ho h K → K (back ρ ho h) := by
  induction ρ with
  | nil => intro ho h K hk; exact hk
  | cons j ρ ih =>
    intro ho h K hk
    cases ho with
    | nil => exact hk.elim
    | cons b ho => exact ih (setK_sound (show setK h j b _ from hk)).2
theorem insK_sound {h : Hp} (ρ : List Nat) : ∀ {hin : Hp} {k : Prop}, insK h ρ hin k → k ∧ ρ.length = hin.length ∧ ∀ (i j : Nat) (b : Blk), ρ[i]? = some j → hin[i]? = some b → h[j]? = some b := by
  induction ρ with
  | nil =>
    intro hin k hk
    cases hin with
    | nil => exact ⟨hk, rfl, by simp⟩
    | cons b t => exact hk.elim
  | cons j ρ ih =>
    intro hin k hk
    cases hin with
    | nil => exact hk.elim
    | cons b t =>
      obtain ⟨b', hb, e, hk2⟩ := nthK_sound (show nthK h j _ from hk)
      subst e
      obtain ⟨hk, hl, hr⟩ := ih hk2
      refine ⟨hk, by simp [hl], fun i j' c hi hc => ?_⟩
      cases i with
      | zero => simp at hi hc; subst hi; subst hc; exact hb
      | succ i => exact hr i j' c (by simpa using hi) (by simpa using hc)

/-- The entries of the blocks that are handed over. -/
def pickSg (σ : Sg) (ρ : List Nat) : Sg := ρ.map fun j => σ.getD j .dead

theorem argK_sound {ρ : List Nat} {s s' : SV} {k : Prop} (h : argK ρ s s' k) : k ∧ ∀ (w : World) (E E' : Nat → Prop) (σ : Sg) (v : Value), (∀ g, E' g → E g) → (∀ j ∈ ρ, j < σ.length) → Rep w E σ s' v → Rep w E' (pickSg σ ρ) s v := by
  have hpick : ∀ (σ : Sg) (b j : Nat) (e : Ent), ρ[b]? = some j → σ[j]? = some e → (pickSg σ ρ)[b]? = some e := by
    intro σ b j e hb he
    simp [pickSg, hb, List.getD, he]
  have same : ∀ {s s' : SV} {k : Prop}, (s' = s ∧ free1K s k) → k ∧ ∀ (w : World) (E E' : Nat → Prop) (σ : Sg) (v : Value), (∀ g, E' g → E g) → (∀ j ∈ ρ, j < σ.length) → Rep w E σ s' v → Rep w E' (pickSg σ ρ) s v := by
    intro s s' k ⟨e, h⟩
    subst e
    obtain ⟨h, hf⟩ := free1K_sound h
    exact ⟨h, fun w E E' σ v hE _ hr => (hf w E σ [] v hr).le hE _⟩
  cases s with
  | ptr b o =>
    cases s' with
    | ptr b' o' =>
      obtain ⟨j, hj, h⟩ := nthK_sound (show nthK ρ b _ from h)
      obtain ⟨e1, h⟩ := eqNK_sound h
      obtain ⟨e2, h2⟩ := eqNK_sound h
      subst e1; subst e2
      refine ⟨h2, fun w E E' σ v _ _ hr => ?_⟩
      cases hr with
      | ptr hg => exact .ptr (hpick σ b _ _ hj hg)
      | ptrD hg => exact .ptrD (hpick σ b _ _ hj hg)
    | _ => exact h.elim
  | sl b =>
    cases s' with
    | sl b' =>
      obtain ⟨j, hj, h⟩ := nthK_sound (show nthK ρ b _ from h)
      obtain ⟨e1, h2⟩ := eqNK_sound h
      subst e1
      refine ⟨h2, fun w E E' σ v _ _ hr => ?_⟩
      cases hr with
      | sl hg => exact .sl (hpick σ b _ _ hj hg)
      | slN hg => exact .slN (hpick σ b _ _ hj hg)
      | slD hg => exact .slD (hpick σ b _ _ hj hg)
    | _ => exact h.elim
  | _ => exact same h
theorem argsK_sound {ρ : List Nat} (l : List SV) : ∀ {l' : List SV} {k : Prop}, argsK ρ l l' k → k ∧ ∀ (w : World) (E E' : Nat → Prop) (σ : Sg) (vs : List Value), (∀ g, E' g → E g) → (∀ j ∈ ρ, j < σ.length) → RepL w E σ l' vs → RepL w E' (pickSg σ ρ) l vs := by
  induction l with
  | nil =>
    intro l' k h
    cases l' with
    | nil => exact ⟨h, fun w E E' σ vs _ _ hr => ⟨hr.1, by simp⟩⟩
    | cons x t => exact h.elim
  | cons s l ih =>
    intro l' k h
    cases l' with
    | nil => exact h.elim
    | cons s' l' =>
      obtain ⟨h, h1⟩ := argK_sound (show argK ρ s s' (argsK ρ l l' k) from h)
      obtain ⟨h, h2⟩ := ih h
      refine ⟨h, fun w E E' σ vs hE hρ hr => ?_⟩
      cases vs with
      | nil => exact absurd hr.1 (by simp)
      | cons v vs =>
        exact repl_cons (h1 w E E' σ v hE hρ (hr.2 0 _ _ rfl rfl)) (h2 w E E' σ vs hE hρ ⟨by simpa using hr.1, fun i a c ha hc => hr.2 (i + 1) a c (by simpa using ha) (by simpa using hc)⟩)

theorem upd_at (l : List (Nat × Blk)) : ∀ {h : Hp}, (l.map (·.1)).Nodup → ∀ p ∈ l, p.1 < h.length → (upd l h)[p.1]? = some p.2 := by
  induction l with
  | nil => intro h _ p hp; simp at hp
  | cons q l ih =>
    intro h hn p hp hlt
    rw [List.map_cons, List.nodup_cons] at hn
    rcases List.mem_cons.1 hp with rfl | hp
    · have : (upd l (h.set p.1 p.2))[p.1]? = (h.set p.1 p.2)[p.1]? := upd_get l fun r hr he => hn.1 (by rw [← he]; exact List.mem_map.2 ⟨r, hr, rfl⟩)
      show (upd l (h.set p.1 p.2))[p.1]? = _
      rw [this, List.getElem?_set, if_pos rfl, if_pos hlt]
    · exact ih (h := h.set q.1 q.2) hn.2 p hp (by simpa using hlt)
end
end Go.Sx

/- Functions that are handed blocks of the caller's: at the caller's. No statement of the seat is proved here. -/
namespace Go.Sx
section
variable {P : Program} {T : Tab}

theorem upd_ext {α : Type} (l : List (Nat × α)) : ∀ {h : List α} {r : Nat}, (∀ p ∈ l, p.1 ≠ r) → (l.foldl (fun h p => h.set p.1 p.2) h)[r]? = h[r]? := by
  induction l with
  | nil => intro h r _; rfl
  | cons p l ih =>
    intro h r hr
    rw [List.foldl_cons, ih fun q hq => hr q (by simp [hq]), List.getElem?_set, if_neg (hr p (by simp))]
theorem upd_hit {α : Type} (l : List (Nat × α)) : ∀ {h : List α}, (l.map (·.1)).Nodup → ∀ p ∈ l, p.1 < h.length → (l.foldl (fun h p => h.set p.1 p.2) h)[p.1]? = some p.2 := by
  induction l with
  | nil => intro h _ p hp; simp at hp
  | cons q l ih =>
    intro h hn p hp hlt
    rw [List.map_cons, List.nodup_cons] at hn
    rw [List.foldl_cons]
    rcases List.mem_cons.1 hp with rfl | hp
    · rw [upd_ext l fun r hr he => hn.1 (by rw [← he]; exact List.mem_map.2 ⟨r, hr, rfl⟩), List.getElem?_set, if_pos rfl, if_pos hlt]
    · exact ih (h := h.set q.1 q.2) hn.2 p hp (by simpa using hlt)
theorem upd_size {α : Type} (l : List (Nat × α)) : ∀ {h : List α}, (l.foldl (fun h p => h.set p.1 p.2) h).length = h.length := by
  induction l with
  | nil => intro h; rfl
  | cons p l ih => intro h; rw [List.foldl_cons, ih]; simp

/-- THE CALL, AT THE CALLER's. -/
theorem OSpec.run {f : FuncId} {args args' : List SV} {hin : Hp} {R : SV → Hp → Prop} (hs : OSpec P f args hin R) {ρ : List Nat} {h : Hp} (hn : ρ.Nodup) (ha : argsK ρ args args' True) (hh : insK h ρ hin True)
    {w : World} {X : Nat → Prop} {σ : Sg} {h2 : Hp} {vs : List Value} (hI : Inv w X σ h2) (hag : ∀ j ∈ ρ, h2[j]? = h[j]?) (hr : RepL w (Ex X σ) σ args' vs) :
    DoneS P (callFunc f vs.toArray) w fun v w' => ∃ s ho σ', R s ho ∧ FreeSV s ∧ Rep w' (Ex X σ') σ' s v ∧ Inv w' X σ' (back ρ ho h2) ∧ Step σ.length w σ w' σ' := by
  obtain ⟨_, hlen, hins⟩ := insK_sound ρ hh
  have hin2 : ∀ (i j : Nat) (b : Blk), ρ[i]? = some j → hin[i]? = some b → h2[j]? = some b := fun i j b hi hb => by rw [hag j (List.mem_of_getElem? hi)]; exact hins i j b hi hb
  have hlt : ∀ j ∈ ρ, j < σ.length := by
    intro j hj
    obtain ⟨i, hi⟩ := List.mem_iff_getElem?.1 hj
    have hil : i < hin.length := by rw [← hlen]; exact (List.getElem?_eq_some_iff.1 hi).1
    rw [hI.len]
    exact (List.getElem?_eq_some_iff.1 (hin2 i j _ hi (List.getElem?_eq_getElem hil))).1
  have hpg : ∀ (i : Nat) (e : Ent), (pickSg σ ρ)[i]? = some e → ∃ j, ρ[i]? = some j ∧ σ[j]? = some e := by
    intro i e he
    simp only [pickSg, List.getElem?_map] at he
    cases hj : ρ[i]? with
    | none => rw [hj] at he; simp at he
    | some j =>
      rw [hj] at he
      simp at he
      have := hlt j (List.mem_of_getElem? hj)
      refine ⟨j, rfl, ?_⟩
      rw [← he]
      simp [List.getElem?_eq_getElem this]
  have hgp : ∀ (i j : Nat) (e : Ent), ρ[i]? = some j → σ[j]? = some e → (pickSg σ ρ)[i]? = some e := by
    intro i j e hi he
    simp [pickSg, hi, List.getD, he]
  have hpo : ∀ g, Owned (pickSg σ ρ) g → Owned σ g := fun g ⟨i, e, he, hg⟩ => by
    obtain ⟨j, _, hj⟩ := hpg i e he
    exact ⟨j, e, hj, hg⟩
  -- what the callee must leave alone: all that the caller owns and does not hand over
  let X0 : Nat → Prop := fun g => Ex X σ g ∧ ¬ Owned (pickSg σ ρ) g
  have hEx : ∀ g, Ex X0 (pickSg σ ρ) g ↔ Ex X σ g := fun g => by
    constructor
    · rintro (⟨h1, _⟩ | h1)
      · exact h1
      · exact .inr (hpo g h1)
    · intro h1
      by_cases h2 : Owned (pickSg σ ρ) g
      · exact .inr h2
      · exact .inl ⟨h1, h2⟩
  have hlt0 : ∀ g, Ex X σ g → g < w.heap.size := fun g hx => hx.elim (hI.xlt g) fun ⟨i, e, he, hg⟩ => hI.lt i e g he hg
  have hidx : ∀ (i i' j : Nat), ρ[i]? = some j → ρ[i']? = some j → i = i' := by
    intro i i' j hi hi'
    exact (List.getElem?_inj (List.getElem?_eq_some_iff.1 hi).1 hn).1 (hi.trans hi'.symm)
  have hI0 : Inv w X0 (pickSg σ ρ) hin := by
    refine ⟨by simp [pickSg, hlen], fun i b e hb he => ?_, fun i e g he hg => ?_, fun i i' e e' g he he' hg hg' => ?_, fun g hx => hx.2, fun g hx => hlt0 g hx.1⟩
    · obtain ⟨j, hj, he⟩ := hpg i e he
      exact (hI.ok j b e (hin2 i j b hj hb) he).free (hs.fin b (List.mem_of_getElem? hb)) fun g hx => (hEx g).1 hx
    · obtain ⟨j, _, he⟩ := hpg i e he
      exact hI.lt j e g he hg
    · obtain ⟨j, hj, he⟩ := hpg i e he
      obtain ⟨j', hj', he'⟩ := hpg i' e' he'
      have := hI.inj j j' e e' g he he' hg hg'
      subst this
      exact hidx i i' j hj hj'
  have hr0 := (argsK_sound args ha).2 w (Ex X σ) (Ex X0 (pickSg σ ρ)) σ vs (fun g hx => (hEx g).1 hx) hlt hr
  refine (hs.ok w X0 (pickSg σ ρ) vs hI0 hr0).mono fun v w' ⟨s, ho, σ0, hR, hol, hfs, hfb, hrep, hI1, hS⟩ => ?_
  have hσ0l : σ0.length = ρ.length := by rw [hI1.len, hol, hlen]
  have hmapz : (ρ.zip σ0).map (·.1) = ρ := by rw [List.map_fst_zip]; omega
  have hmapb : (ρ.zip ho).map (·.1) = ρ := by rw [List.map_fst_zip]; omega
  let σ' : Sg := (ρ.zip σ0).foldl (fun h p => h.set p.1 p.2) σ
  have hl' : σ'.length = σ.length := upd_size _
  have hnot : ∀ i, i ∉ ρ → σ'[i]? = σ[i]? := fun i hi => upd_ext _ fun p hp he => hi (by rw [← he, ← hmapz]; exact List.mem_map.2 ⟨p, hp, rfl⟩)
  have hnotb : ∀ i, i ∉ ρ → (back ρ ho h2)[i]? = h2[i]? := fun i hi => upd_get _ fun p hp he => hi (by rw [← he, ← hmapb]; exact List.mem_map.2 ⟨p, hp, rfl⟩)
  have hhit : ∀ (i j : Nat) (e : Ent), ρ[i]? = some j → σ0[i]? = some e → σ'[j]? = some e := fun i j e hi he => by
    have hm : (j, e) ∈ ρ.zip σ0 := List.mem_of_getElem? (i := i) (by rw [List.getElem?_zip_eq_some]; exact ⟨hi, he⟩)
    exact upd_hit _ (by rw [hmapz]; exact hn) (j, e) hm (hlt j (List.mem_of_getElem? hi))
  have hhitb : ∀ (i j : Nat) (b : Blk), ρ[i]? = some j → ho[i]? = some b → (back ρ ho h2)[j]? = some b := fun i j b hi hb => by
    have hm : (j, b) ∈ ρ.zip ho := List.mem_of_getElem? (i := i) (by rw [List.getElem?_zip_eq_some]; exact ⟨hi, hb⟩)
    exact upd_at _ (by rw [hmapb]; exact hn) (j, b) hm (by rw [← hI.len]; exact hlt j (List.mem_of_getElem? hi))
  have hwho : ∀ (i : Nat) (e : Ent), σ'[i]? = some e → (i ∉ ρ ∧ σ[i]? = some e) ∨ (∃ k : Nat, ρ[k]? = some i ∧ σ0[k]? = some e) := by
    intro i e he
    by_cases hi : i ∈ ρ
    · obtain ⟨k, hk⟩ := List.mem_iff_getElem?.1 hi
      have hkl : k < σ0.length := by rw [hσ0l]; exact (List.getElem?_eq_some_iff.1 hk).1
      have := hhit k i _ hk (List.getElem?_eq_getElem hkl)
      rw [this] at he
      exact .inr ⟨k, hk, by rw [← he]; exact List.getElem?_eq_getElem hkl⟩
    · rw [hnot i hi] at he; exact .inl ⟨hi, he⟩
  have hσlt : ∀ (i : Nat) (e : Ent) (g : Nat), i ∉ ρ → σ[i]? = some e → e.blk = some g → X0 g := by
    intro i e g hi he hg
    refine ⟨.inr ⟨i, e, he, hg⟩, fun ⟨k, e', he', hg'⟩ => ?_⟩
    obtain ⟨j, hj, he'⟩ := hpg k e' he'
    have := hI.inj i j e e' g he he' hg hg'
    subst this
    exact hi (List.mem_of_getElem? hj)
  have hE' : ∀ g, Ex X σ' g → Ex X0 σ0 g := by
    rintro g (hx | ⟨i, e, he, hg⟩)
    · exact .inl ⟨.inl hx, fun ho => hI.dis g hx (hpo g ho)⟩
    · rcases hwho i e he with ⟨hi, he⟩ | ⟨k, hk, he⟩
      · exact .inl (hσlt i e g hi he hg)
      · exact .inr ⟨k, e, he, hg⟩
  have hS' : Step σ.length w σ w' σ' := by
    refine ⟨hS.os, hS.tape, hS.output, hS.size, fun g hg ho => hS.frame g hg fun h => ho (hpo g h), fun g ⟨i, e, he, hg⟩ hlt' => ?_, fun i e hi he hf => ?_⟩
    · rcases hwho i e he with ⟨_, he⟩ | ⟨k, hk, he⟩
      · exact ⟨i, e, he, hg⟩
      · exact hpo g (hS.blks g ⟨k, e, he, hg⟩ hlt')
    · by_cases hi' : i ∈ ρ
      · obtain ⟨k, hk⟩ := List.mem_iff_getElem?.1 hi'
        have hkl : k < hin.length := by rw [← hlen]; exact (List.getElem?_eq_some_iff.1 hk).1
        exact (hS.ents k e hkl (hgp k i e hk he) hf).imp (hhit k i _ hk) (hhit k i _ hk)
      · rw [hnot i hi']; exact .inl he
  refine ⟨s, ho, σ', hR, hfs, hrep.le hE' σ', ⟨by rw [hl', hI.len]; exact (upd_len _).symm, fun i b e hb he => ?_, fun i e g he hg => ?_, fun i j e e' g hi hj hg hg' => ?_, fun g hx hown => ?_, fun g hx => Nat.lt_of_lt_of_le (hI.xlt g hx) hS.size⟩, hS'⟩
  · rcases hwho i e he with ⟨hi, he⟩ | ⟨k, hk, he⟩
    · rw [hnotb i hi] at hb
      refine (hI.ok i b e hb he).step hS' (Nat.le_refl _) fun g hg => hS.frame g (hI.lt i e g he hg) fun hown => (hσlt i e g hi he hg).2 hown
    · have hkl : k < ho.length := by rw [hol, ← hlen]; exact (List.getElem?_eq_some_iff.1 hk).1
      rw [hhitb k i _ hk (List.getElem?_eq_getElem hkl)] at hb
      simp at hb
      subst hb
      exact (hI1.ok k _ e (List.getElem?_eq_getElem hkl) he).free (hfb _ (List.getElem_mem hkl)) hE'
  · rcases hwho i e he with ⟨_, he⟩ | ⟨k, hk, he⟩
    · exact Nat.lt_of_lt_of_le (hI.lt i e g he hg) hS.size
    · exact hI1.lt k e g he hg
  · rcases hwho i e hi with ⟨hir, hie⟩ | ⟨k, hk, hke⟩
    · rcases hwho j e' hj with ⟨hjr, hje⟩ | ⟨l, hl, hle⟩
      · exact hI.inj i j e e' g hie hje hg hg'
      · exact absurd ⟨l, e', hle, hg'⟩ (hI1.dis g (hσlt i e g hir hie hg))
    · rcases hwho j e' hj with ⟨hjr, hje⟩ | ⟨l, hl, hle⟩
      · exact absurd ⟨k, e, hke, hg⟩ (hI1.dis g (hσlt j e' g hjr hje hg'))
      · have := hI1.inj k l e e' g hke hle hg hg'
        subst this
        rw [hk] at hl
        exact Option.some.inj hl
  · obtain ⟨i, e, he, hg⟩ := hown
    rcases hwho i e he with ⟨_, he⟩ | ⟨k, hk, he⟩
    · exact hI.dis g hx ⟨i, e, he, hg⟩
    · exact hI1.dis g ⟨.inl hx, fun ho => hI.dis g hx (hpo g ho)⟩ ⟨k, e, he, hg⟩

theorem OSpec.call {f : FuncId} {args args' : List SV} {hin : Hp} {R : SV → Hp → Prop} (hs : OSpec P f args hin R) (ρ : List Nat) (hn : ρ.Nodup) {h : Hp} {K : SV → Hp → Prop}
    (ha : argsK ρ args args' True) (hh : insK h ρ hin True) (hk : ∀ s ho, R s ho → backK ρ ho h (K s)) : CallG P f args' h K :=
  ⟨fun _ _ _ _ hI hr => (hs.run hn ha hh hI (fun _ _ => rfl) hr).mono fun _ _ ⟨s, ho, σ', hR, _, hrep, hI', hS⟩ => ⟨s, _, σ', backK_sound ρ (hk s ho hR), hrep, hI', hS⟩⟩
theorem OSpec.calld {f : FuncId} {args args' : List SV} {hin : Hp} {s : SV} {ho : Hp} (hs : OSpec P f args hin fun s' ho' => s' = s ∧ ho' = ho) (ρ : List Nat) (hn : ρ.Nodup) {h : Hp} {nid : Nat} {K : Kop}
    (hl : ho.length = ρ.length) (ha : argsK ρ args args' True) (hh : insK h ρ hin True) (hk : K s (ρ.zip ho) ρ) : CallD P f args' h nid K :=
  ⟨s, ρ.zip ho, ρ, hk, ⟨fun _ _ _ _ _ hI hr hag => (hs.run hn ha hh hI hag hr).mono fun _ _ ⟨s', ho', σ', ⟨e1, e2⟩, _, hrep, hI', hS⟩ => by
    subst e1; subst e2
    exact ⟨σ', hrep, hI', hS, by rw [hI'.len, hI.len]; exact upd_len _⟩, fun p hp => (List.of_mem_zip hp).1⟩⟩
theorem OSpec.len {f : FuncId} {args : List SV} {hin : Hp} {R : SV → Hp → Prop} (hs : OSpec P f args hin R) : OSpec P f args hin fun s ho => R s ho ∧ ho.length = hin.length :=
  ⟨hs.fin, fun w X σ vs hI hrp => (hs.ok w X σ vs hI hrp).mono fun _ _ ⟨s, ho, σ', h1, h2, h3⟩ => ⟨s, ho, σ', ⟨h1, h2⟩, h2, h3⟩⟩
theorem puresK_mono {l : List SV} {k k' : Prop} (hk : k → k') : puresK l k → puresK l k' := by
  induction l with
  | nil => exact hk
  | cons x l ih =>
    intro h
    have h : pureK x (puresK l k) := h
    show pureK x (puresK l k')
    cases x <;> first | exact h.elim | exact ih h
/-- A function that is handed none. -/
theorem OSpec.pure {f : FuncId} {args : List SV} {R : SV → Hp → Prop} (hs : OSpec P f args [] R) (ha : freesK args True) : PSpec P f args fun s => R s [] := by
  have hargs : ∀ (l : List SV), freesK l True → argsK [] l l True := by
    intro l
    induction l with
    | nil => intro _; trivial
    | cons x l ih =>
      intro h
      have h : free1K x (freesK l True) := h
      show argK [] x x (argsK [] l l True)
      cases x <;> first | exact h.elim | exact ⟨rfl, ih h⟩ | exact ⟨rfl, puresK_mono ih h⟩
  refine ⟨fun h K hk => hs.len.call [] (by simp) (hargs args ha) trivial fun s ho hR => ?_⟩
  obtain ⟨hR, hl⟩ := hR
  have : ho = [] := List.length_eq_zero_iff.1 hl
  subst this
  exact hk s hR
theorem PSpec.of_codeF (hT : TabOK P T) {f : FuncId} {fn : Func} {c : Code} {args : List SV} {R : SV → Prop} (hf : P.funcs[f]? = some fn) (hn : (fn.name == "runtime.NumGoroutine") = false)
    (hb : fn.body = some c) (ha : freesK args True) (hk : startK args fn.ntmps fun F => codeK P T 0 c F [] (retK T fn fun s h' => outHK 0 h' s R)) : PSpec P f args R :=
  (OSpec.of_call (R := fun s _ => R s) (by simp) (CallG.of_code hT hf hn hb hk)).pure ha
end
end Go.Sx

/- What a statement's arguments are to the executor. No statement of the seat is proved here. -/
namespace Go.Sx
open Go.ChangeShapes Go.WideShapes Go.ChangeAt
section
variable {H : Type} {enc : TypeId × Value → H} {P : Program} {W : World} {base : Nat} {spare : Nat → Bool} {held : Bool}

theorem block_lt' {w : World} {a : Addr} {v : Value} (h : w.cell? a = some v) : a.block < w.heap.size := by
  unfold World.cell? at h
  cases hb : w.heap[a.block]? with
  | none => rw [hb] at h; simp at h
  | some o => exact (Array.getElem?_eq_some_iff.1 hb).1
def rowOf (k : IntKind) (ls : List Int) : List (List SV) := ls.map fun z => [.int k z]

theorem rep_ints {w : World} {k : IntKind} {x : Addr} {len cap : Nat} {zs : List Int} (hl : len ≤ cap) (hm : cap ≤ maxLen) (hz : len ≤ zs.length) (hcell : ∀ i, i < zs.length → w.cell? (x.add i) = some (.int k (zs.getD i 0))) :
    Rep w (fun _ => False) [] (.rs 1 (rowOf k (zs.take len))) (.slice (some x) len cap) := by
  have hrl : (rowOf k (zs.take len)).length = len := by simp [rowOf, Nat.min_eq_left hz]
  cases hlen : len with
  | zero =>
    have : rowOf k (zs.take 0) = [] := by simp [rowOf]
    rw [this]
    exact .rs0 hm
  | succ n =>
    have h0 := hcell 0 (by omega)
    have hlt := block_lt' h0
    rw [add_block] at hlt
    have hget : ∀ (i : Nat) (e : List SV), (rowOf k (zs.take len))[i]? = some e → i < zs.length ∧ e = [.int k (zs.getD i 0)] := by
      intro i e he
      have hi : i < len := by rw [← hrl]; exact (List.getElem?_eq_some_iff.1 he).1
      have hiz : i < zs.length := by omega
      simp only [rowOf, List.getElem?_map, List.getElem?_take, if_pos hi, List.getElem?_eq_getElem hiz, Option.map_some, Option.some.injEq] at he
      exact ⟨hiz, by rw [← he]; simp [List.getD, List.getElem?_eq_getElem hiz]⟩
    have key : Rep w (fun _ => False) [] (.rs 1 (rowOf k (zs.take len))) (.slice (some x) (rowOf k (zs.take len)).length cap) := by
      refine .rs (val := fun i _ => .int k (zs.getD i 0)) (by rw [hrl]; exact hl) hm (fun h => h) hlt (fun i e he => by rw [(hget i e he).2]; rfl) (fun i e j s he hs => ?_) (fun i e j s he hs => rfl) (fun i e j s he hs => ?_)
      all_goals obtain ⟨hi, rfl⟩ := hget i e he
      all_goals
        have hj : j = 0 := by
          have := (List.getElem?_eq_some_iff.1 hs).1
          simpa using this
        subst hj
      · simpa using hcell i hi
      · simp at hs; subst hs; exact .int
    rw [hrl] at key
    rw [← hlen]
    exact key

/-- A slice of numbers. -/
theorem arg_ints {t e : TypeId} {k : IntKind} {b : Nat} {v : Value} {d : DataW H} {p : List MemPlace} (ht : P.underlying t = some (.slice e)) (he : P.underlying e = some (.int k)) (hc : P.cellsOf e = 1)
    (hv : Value.okWide P W .any b t v) (h : DataW.Trod enc P W base spare held t v d p) : ∃ ls : List Int, (∀ z ∈ ls, (Lit.int k z).wf = true) ∧ Rep W (fun _ => False) [] (.rs 1 (rowOf k ls)) v := by
  obtain ⟨a0, len0, cap0, rfl⟩ := okWide_slice ht hv
  obtain ⟨fuel, hf⟩ := h
  rcases open_ints ht he hc hf with ⟨hcs, _⟩ | ⟨x, l, c, zs, hcs, _, hl, hm, hz, _, hcell, hwz⟩
  · simp [Value.cells] at hcs
    obtain ⟨rfl, rfl, rfl⟩ := hcs
    exact ⟨[], by simp, .rs0 (Nat.zero_le _)⟩
  · simp [Value.cells] at hcs
    obtain ⟨rfl, rfl, rfl⟩ := hcs
    exact ⟨zs.take len0, fun z hz => hwz z (List.mem_of_mem_take hz), rep_ints hl hm (by rw [hz]; split <;> omega) hcell⟩
end
end Go.Sx

/- Owned rows that are lent to a function which only reads them. No statement of the seat is proved here. -/
namespace Go.Sx
section
variable {P : Program} {T : Tab}

/-- Values that lie in no block. -/
def ScalSV (s : SV) : Prop := ∀ (w : World) (E E' : Nat → Prop) (σ σ' : Sg) (v : Value), Rep w E σ s v → Rep w E' σ' s v
def scal1K (s : SV) (k : Prop) : Prop := match s with | .int _ _ => k | .tt => k | .ff => k | .bool _ => k | .str _ => k | .nilp => k | .nils => k | _ => False
noncomputable def scalsK (l : List SV) (k : Prop) : Prop := List.rec (motive := fun _ => Prop) k (fun x _ ih => scal1K x ih) l
def scal2K (s : SV) (k : Prop) : Prop := match s with | .agg cs => scalsK cs k | s => scal1K s k
noncomputable def scals2K (l : List SV) (k : Prop) : Prop := List.rec (motive := fun _ => Prop) k (fun x _ ih => scal2K x ih) l
noncomputable def scalK (s : SV) (k : Prop) : Prop := match s with | .tup vs => scals2K vs k | s => scal2K s k
theorem scal1K_sound {s : SV} {k : Prop} (h : scal1K s k) : k ∧ ScalSV s := by
  cases s <;> simp only [scal1K] at h <;> first
    | exact h.elim
    | (refine ⟨h, fun w E E' σ σ' v hr => ?_⟩; cases hr; constructor)
theorem scalsK_sound {l : List SV} {k : Prop} (h : scalsK l k) : k ∧ ∀ s ∈ l, ScalSV s := by
  induction l with
  | nil => exact ⟨h, by simp⟩
  | cons x l ih =>
    obtain ⟨h1, h2⟩ := scal1K_sound (show scal1K x (scalsK l k) from h)
    obtain ⟨h3, h4⟩ := ih h1
    exact ⟨h3, fun s hs => (List.mem_cons.1 hs).elim (fun e => e ▸ h2) (h4 s)⟩
theorem scal2K_sound {s : SV} {k : Prop} (h : scal2K s k) : k ∧ ScalSV s := by
  cases s with
  | agg cs =>
    obtain ⟨h1, h2⟩ := scalsK_sound (show scalsK cs k from h)
    refine ⟨h1, fun w E E' σ σ' v hr => ?_⟩
    cases hr with
    | agg hl ho hc => exact .agg hl ho fun i s v hs hv => h2 s (List.mem_of_getElem? hs) w E E' σ σ' v (hc i s v hs hv)
  | _ => exact scal1K_sound h
theorem scals2K_sound {l : List SV} {k : Prop} (h : scals2K l k) : k ∧ ∀ s ∈ l, ScalSV s := by
  induction l with
  | nil => exact ⟨h, by simp⟩
  | cons x l ih =>
    obtain ⟨h1, h2⟩ := scal2K_sound (show scal2K x (scals2K l k) from h)
    obtain ⟨h3, h4⟩ := ih h1
    exact ⟨h3, fun s hs => (List.mem_cons.1 hs).elim (fun e => e ▸ h2) (h4 s)⟩
theorem scalK_sound {s : SV} {k : Prop} (h : scalK s k) : k ∧ ScalSV s := by
  cases s with
  | tup cs =>
    obtain ⟨h1, h2⟩ := scals2K_sound (show scals2K cs k from h)
    refine ⟨h1, fun w E E' σ σ' v hr => ?_⟩
    cases hr with
    | tup hl hc => exact .tup hl fun i s v hs hv => h2 s (List.mem_of_getElem? hs) w E E' σ σ' v (hc i s v hs hv)
  | _ => exact scal2K_sound h

def lend1K (h : Hp) (s s' : SV) (k : Prop) : Prop :=
  match s' with
  | .sl b => match s with
    | .rs z es => nthK h b fun blk => match blk with | .row _ z' es' => eqNK z' z (es' = es ∧ k) | _ => False
    | _ => False
  | s' => s' = s ∧ free1K s k
noncomputable def lendK (h : Hp) (l : List SV) : List SV → Prop → Prop :=
  List.rec (motive := fun _ => List SV → Prop → Prop) (fun l' k => List.rec (motive := fun _ => Prop) k (fun _ _ _ => False) l')
    (fun s _ ih l' k => List.rec (motive := fun _ => Prop) False (fun s' t' _ => lend1K h s s' (ih t' k)) l') l
/-- The blocks that are lent. -/
noncomputable def lentK (l : List SV) : (List Nat → Prop) → Prop :=
  List.rec (motive := fun _ => (List Nat → Prop) → Prop) (fun k => k []) (fun s _ ih k => match s with | .sl b => ih fun r => k (b :: r) | _ => ih k) l
def lent (l : List SV) : List Nat := l.filterMap fun s => match s with | .sl b => some b | _ => none
theorem lentK_sound {l : List SV} : ∀ {k : List Nat → Prop}, lentK l k → k (lent l) := by
  induction l with
  | nil => intro k h; exact h
  | cons s l ih =>
    intro k h
    cases s with
    | sl b => exact ih (k := fun r => k (b :: r)) h
    | _ => exact ih (k := k) h

theorem lendK_sound {h : Hp} (l : List SV) : ∀ {l' : List SV} {k : Prop}, lendK h l l' k → k ∧ ∀ (w : World) (X : Nat → Prop) (σ : Sg) (h2 : Hp) (vs : List Value), Inv w X σ h2 → (∀ b ∈ lent l', h2[b]? = h[b]?) → RepL w (Ex X σ) σ l' vs → RepL w (fun _ => False) [] l vs := by
  induction l with
  | nil =>
    intro l' k hk
    cases l' with
    | nil => exact ⟨hk, fun w X σ h2 vs _ _ hr => ⟨hr.1, by simp⟩⟩
    | cons x t => exact hk.elim
  | cons s l ih =>
    intro l' k hk
    cases l' with
    | nil => exact hk.elim
    | cons s' l' =>
      have key : lendK h l l' k ∧ ∀ (w : World) (X : Nat → Prop) (σ : Sg) (h2 : Hp) (v : Value), Inv w X σ h2 → (∀ b ∈ lent [s'], h2[b]? = h[b]?) → Rep w (Ex X σ) σ s' v → Rep w (fun _ => False) [] s v := by
        have same : (s' = s ∧ free1K s (lendK h l l' k)) → lendK h l l' k ∧ ∀ (w : World) (X : Nat → Prop) (σ : Sg) (h2 : Hp) (v : Value), Inv w X σ h2 → (∀ b ∈ lent [s'], h2[b]? = h[b]?) → Rep w (Ex X σ) σ s' v → Rep w (fun _ => False) [] s v := by
          rintro ⟨e, hk⟩
          subst e
          obtain ⟨hk, hf⟩ := free1K_sound hk
          exact ⟨hk, fun w X σ h2 v _ _ hr => (hf w _ σ [] v hr).le (fun _ h => h.elim) []⟩
        cases s' with
        | sl b =>
          cases s with
          | rs z es =>
            obtain ⟨blk, hb, hk⟩ := nthK_sound (show nthK h b _ from hk)
            cases blk with
            | row t z' es' =>
              obtain ⟨e1, e2, hk2⟩ := eqNK_sound hk
              subst e1; subst e2
              refine ⟨hk2, fun w X σ h2 v hI hag hr => ?_⟩
              have hb2 : h2[b]? = some (.row t z' es') := by rw [hag b (by simp [lent])]; exact hb
              have hlt : b < σ.length := by rw [hI.len]; exact (List.getElem?_eq_some_iff.1 hb2).1
              have hσb : σ[b]? = some σ[b] := List.getElem?_eq_getElem hlt
              exact rs_of_row hσb (hI.ok b _ _ hb2 hσb) (fun _ h => h.elim) (fun _ _ h => h) (fun g hg => hI.lt b _ g hσb hg) hr
            | _ => exact hk.elim
          | _ => exact hk.elim
        | _ => exact same hk
      obtain ⟨hk, h1⟩ := key
      obtain ⟨hk, h2⟩ := ih hk
      refine ⟨hk, fun w X σ hh vs hI hag hr => ?_⟩
      cases vs with
      | nil => exact absurd hr.1 (by simp)
      | cons v vs =>
        refine repl_cons (h1 w X σ hh v hI (fun b hb => hag b ?_) (hr.2 0 _ _ rfl rfl)) (h2 w X σ hh vs hI (fun b hb => hag b ?_) ⟨by simpa using hr.1, fun i a c ha hc => hr.2 (i + 1) a c (by simpa using ha) (by simpa using hc)⟩)
        · simp only [lent, List.mem_filterMap, List.mem_cons] at hb ⊢
          obtain ⟨a, ha, hb⟩ := hb
          exact ⟨a, .inl (ha.resolve_right (by simp)), hb⟩
        · simp only [lent, List.mem_filterMap, List.mem_cons] at hb ⊢
          obtain ⟨a, ha, hb⟩ := hb
          exact ⟨a, .inr ha, hb⟩

theorem PSpec.lend_run {f : FuncId} {args args' : List SV} {R : SV → Prop} (hs : PSpec P f args R) {h : Hp} (ha : lendK h args args' True) {w : World} {X : Nat → Prop} {σ : Sg} {h2 : Hp} {vs : List Value}
    (hI : Inv w X σ h2) (hag : ∀ b ∈ lent args', h2[b]? = h[b]?) (hr : RepL w (Ex X σ) σ args' vs) :
    DoneS P (callFunc f vs.toArray) w fun v w' => ∃ s, R s ∧ (∃ (E : Nat → Prop) (σ' : Sg), Rep w' E σ' s v) ∧ Inv w' X σ h2 ∧ Step σ.length w σ w' σ := by
  have hI0 : Inv w (fun _ => False) [] [] := ⟨rfl, by simp, by simp, by simp, fun g h => h.elim, fun g h => h.elim⟩
  have hr0 := (lendK_sound args ha).2 w X σ h2 vs hI hag hr
  have hr1 : RepL w (Ex (fun _ => False) []) [] args vs := ⟨hr0.1, fun i s v hs hv => (hr0.2 i s v hs hv).mono [] (fun _ _ _ => rfl) (Nat.le_refl _) (fun g _ _ h => ex_nil.1 h) (by simp)⟩
  refine ((hs.ok [] (fun s _ => R s) fun s h => h).ok w (fun _ => False) [] vs hI0 hr1).mono fun v w' ⟨s, h', σ', hR, hrep, _, hS⟩ => ?_
  obtain ⟨hI2, hS2⟩ := hI.same hS
  exact ⟨s, hR, ⟨_, _, hrep⟩, hI2, hS2⟩

/-- A call that is lent rows of the caller's and hands back a value that lies in no block. -/
theorem PSpec.lend {f : FuncId} {args args' : List SV} {R : SV → Prop} (hs : PSpec P f args R) {h : Hp} {K : SV → Hp → Prop} (ha : lendK h args args' True) (hk : ∀ s, R s → scalK s (K s h)) : CallG P f args' h K :=
  ⟨fun _ _ _ _ hI hr => (hs.lend_run ha hI (fun _ _ => rfl) hr).mono fun _ _ ⟨s, hR, ⟨_, _, hrep⟩, hI', hS⟩ => by
    obtain ⟨hk, hsc⟩ := scalK_sound (hk s hR)
    exact ⟨s, h, _, hk, hsc _ _ _ _ _ _ hrep, hI', hS⟩⟩
theorem PSpec.lendd {f : FuncId} {args args' : List SV} {s : SV} (hs : PSpec P f args (· = s)) {h : Hp} {nid : Nat} {K : Kop} (ha : lendK h args args' True) (hk : scalK s (lentK args' (K s []))) : CallD P f args' h nid K := by
  obtain ⟨hk, hsc⟩ := scalK_sound hk
  exact ⟨s, [], lent args', lentK_sound hk, ⟨fun _ _ σ _ _ hI hr hag => (hs.lend_run ha hI hag hr).mono fun _ _ ⟨s', e, ⟨_, _, hrep⟩, hI', hS⟩ => by
    subst e
    exact ⟨σ, hsc _ _ _ _ _ _ hrep, hI', hS, rfl⟩, by simp⟩⟩
end
end Go.Sx

/- Calls at the caller's blocks, with blocks that point at one another and blocks that the callee makes. No statement of the seat is proved here. -/
namespace Go.Sx
section
variable {P : Program} {T : Tab}

/-! ### a value's blocks, renumbered: outward -/
def mv1K (ρ : List Nat) (s : SV) (k : SV → Prop) : Prop :=
  match s with
  | .ptr b o => nthK ρ b fun j => k (.ptr j o)
  | .ep b i f => nthK ρ b fun j => k (.ep j i f)
  | .sl b => nthK ρ b fun j => k (.sl j)
  | .any => k .any | .undef => k .undef | .int q n => k (.int q n) | .tt => k .tt | .ff => k .ff | .bool b => k (.bool b) | .str s => k (.str s)
  | .nilp => k .nilp | .nils => k .nils | .rs z es => k (.rs z es) | .rp z es i f => k (.rp z es i f)
  | _ => False
noncomputable def mvs1K (ρ : List Nat) (l : List SV) : (List SV → Prop) → Prop :=
  List.rec (motive := fun _ => (List SV → Prop) → Prop) (fun k => k []) (fun x _ ih k => mv1K ρ x fun y => ih fun r => k (y :: r)) l
noncomputable def mv2K (ρ : List Nat) (s : SV) (k : SV → Prop) : Prop :=
  match s with
  | .agg cs => mvs1K ρ cs fun c => k (.agg c)
  | s => mv1K ρ s k
noncomputable def mvs2K (ρ : List Nat) (l : List SV) : (List SV → Prop) → Prop :=
  List.rec (motive := fun _ => (List SV → Prop) → Prop) (fun k => k []) (fun x _ ih k => mv2K ρ x fun y => ih fun r => k (y :: r)) l
noncomputable def mv3K (ρ : List Nat) (s : SV) (k : SV → Prop) : Prop :=
  match s with
  | .tup vs => mvs2K ρ vs fun l => k (.tup l)
  | s => mv2K ρ s k
noncomputable def mvBlkK (ρ : List Nat) (b : Blk) (k : Blk → Prop) : Prop :=
  match b with
  | .fix t cs => mvs1K ρ cs fun c => k (.fix t c)
  | .row t z es => k (.row t z es)
  | .dead => k .dead
  | .fresh => k .fresh
noncomputable def mvBlksK (ρ : List Nat) (l : Hp) : (Hp → Prop) → Prop :=
  List.rec (motive := fun _ => (Hp → Prop) → Prop) (fun k => k []) (fun b _ ih k => mvBlkK ρ b fun c => ih fun r => k (c :: r)) l

/-- The entries, renumbered. -/
def Moves (ρ : List Nat) (σ σ' : Sg) : Prop := ∀ (i j : Nat) (e : Ent), ρ[i]? = some j → σ[i]? = some e → σ'[j]? = some e
def Mv (ρ : List Nat) (s s' : SV) : Prop := ∀ (w : World) (E E' : Nat → Prop) (σ σ' : Sg) (v : Value), Moves ρ σ σ' → (∀ g, E' g → E g) → Rep w E σ s v → Rep w E' σ' s' v
def MvL (ρ : List Nat) (l l' : List SV) : Prop := l.length = l'.length ∧ ∀ (i : Nat) (s s' : SV), l[i]? = some s → l'[i]? = some s' → Mv ρ s s'

theorem Mv.of_free {ρ : List Nat} {s : SV} (hf : FreeSV s) : Mv ρ s s := fun w _ _ σ σ' v _ hE hr => (hf w _ σ [] v hr).le hE σ'
theorem mv1K_sound {ρ : List Nat} {s : SV} {k : SV → Prop} (h : mv1K ρ s k) : ∃ s', k s' ∧ Mv ρ s s' := by
  cases s <;> simp only [mv1K] at h
  case ptr b o =>
    obtain ⟨j, hj, h⟩ := nthK_sound h
    refine ⟨_, h, fun w E E' σ σ' v hm _ hr => ?_⟩
    cases hr with
    | ptr hg => exact .ptr (hm _ _ _ hj hg)
    | ptrD hg => exact .ptrD (hm _ _ _ hj hg)
  case ep b i f =>
    obtain ⟨j, hj, h⟩ := nthK_sound h
    refine ⟨_, h, fun w E E' σ σ' v hm _ hr => ?_⟩
    cases hr with
    | ep hg => exact .ep (hm _ _ _ hj hg)
    | epD hg => exact .epD (hm _ _ _ hj hg)
  case sl b =>
    obtain ⟨j, hj, h⟩ := nthK_sound h
    refine ⟨_, h, fun w E E' σ σ' v hm _ hr => ?_⟩
    cases hr with
    | sl hg => exact .sl (hm _ _ _ hj hg)
    | slN hg => exact .slN (hm _ _ _ hj hg)
    | slD hg => exact .slD (hm _ _ _ hj hg)
  case any => exact ⟨_, h, fun _ _ _ _ _ _ _ _ _ => .any⟩
  all_goals first
    | exact h.elim
    | exact ⟨_, h, .of_free fun w E σ σ' v hr => by (cases hr <;> first | (constructor; done) | (constructor <;> assumption))⟩
theorem mvl_sound {ρ : List Nat} {f : SV → (SV → Prop) → Prop} (hf : ∀ {s : SV} {k : SV → Prop}, f s k → ∃ s', k s' ∧ Mv ρ s s') (l : List SV) : ∀ {k : List SV → Prop},
    List.rec (motive := fun _ => (List SV → Prop) → Prop) (fun k => k []) (fun x _ ih k => f x fun y => ih fun r => k (y :: r)) l k → ∃ l', k l' ∧ MvL ρ l l' := by
  induction l with
  | nil => intro k h; exact ⟨[], h, rfl, by simp⟩
  | cons x l ih =>
    intro k h
    obtain ⟨y, h, hy⟩ := hf h
    obtain ⟨l', h, hl, hl'⟩ := ih h
    refine ⟨y :: l', h, by simp [hl], fun i s s' hs hs' => ?_⟩
    cases i with
    | zero => simp at hs hs'; subst hs; subst hs'; exact hy
    | succ i => exact hl' i s s' (by simpa using hs) (by simpa using hs')
theorem mv2K_sound {ρ : List Nat} {s : SV} {k : SV → Prop} (h : mv2K ρ s k) : ∃ s', k s' ∧ Mv ρ s s' := by
  cases s with
  | agg cs =>
    obtain ⟨l, h, hl, hm⟩ := mvl_sound mv1K_sound cs (show mvs1K ρ cs _ from h)
    refine ⟨_, h, fun w E E' σ σ' v hmv hE hr => ?_⟩
    cases hr with
    | agg hlen ho hc =>
      refine .agg (hl ▸ hlen) ho fun i s v hs hv => ?_
      have hi : i < cs.length := by rw [hl]; exact (List.getElem?_eq_some_iff.1 hs).1
      exact hm i _ s (List.getElem?_eq_getElem hi) hs w E E' σ σ' v hmv hE (hc i _ v (List.getElem?_eq_getElem hi) hv)
  | _ => exact mv1K_sound h
theorem mv3K_sound {ρ : List Nat} {s : SV} {k : SV → Prop} (h : mv3K ρ s k) : ∃ s', k s' ∧ Mv ρ s s' := by
  cases s with
  | tup cs =>
    obtain ⟨l, h, hl, hm⟩ := mvl_sound mv2K_sound cs (show mvs2K ρ cs _ from h)
    refine ⟨_, h, fun w E E' σ σ' v hmv hE hr => ?_⟩
    cases hr with
    | tup hlen hc =>
      refine .tup (hl ▸ hlen) fun i s v hs hv => ?_
      have hi : i < cs.length := by rw [hl]; exact (List.getElem?_eq_some_iff.1 hs).1
      exact hm i _ s (List.getElem?_eq_getElem hi) hs w E E' σ σ' v hmv hE (hc i _ v (List.getElem?_eq_getElem hi) hv)
  | _ => exact mv2K_sound h

def MvB (ρ : List Nat) (b b' : Blk) : Prop := ∀ (w : World) (E E' : Nat → Prop) (σ σ' : Sg) (e : Ent), Moves ρ σ σ' → (∀ g, E' g → E g) → BlkOK w E σ b e → BlkOK w E' σ' b' e
theorem mvBlkK_sound {ρ : List Nat} {b : Blk} {k : Blk → Prop} (h : mvBlkK ρ b k) : ∃ b', k b' ∧ MvB ρ b b' := by
  cases b with
  | fix t cs =>
    obtain ⟨l, h, hl, hm⟩ := mvl_sound mv1K_sound cs (show mvs1K ρ cs _ from h)
    refine ⟨_, h, fun w E E' σ σ' e hmv hE hr => ?_⟩
    cases e <;> simp only [BlkOK] at hr ⊢
    obtain ⟨vs, h1, h2, h3⟩ := hr
    refine ⟨vs, h1, by rw [← hl]; exact h2, fun i s v hs hv => ?_⟩
    have hi : i < cs.length := by rw [hl]; exact (List.getElem?_eq_some_iff.1 hs).1
    obtain ⟨a, b⟩ := h3 i _ v (List.getElem?_eq_getElem hi) hv
    exact ⟨hm i _ s (List.getElem?_eq_getElem hi) hs w E E' σ σ' v hmv hE a, b⟩
  | row t z es =>
    refine ⟨_, h, fun w E E' σ σ' e hmv hE hr => ?_⟩
    cases e <;> simp only [BlkOK] at hr ⊢
    · obtain ⟨h1, h2, h3, h4, vs, h5, h6, h7⟩ := hr
      refine ⟨h1, h2, h3, h4, vs, h5, h6, fun i e he => ⟨(h7 i e he).1, fun j s hs => ?_⟩⟩
      obtain ⟨v, a, b, c⟩ := (h7 i e he).2 j s hs
      exact ⟨v, a, b.le hE [], c⟩
    · exact hr
  | dead => exact ⟨_, h, fun w E E' σ σ' e _ _ hr => by cases e <;> first | exact hr | exact hr.elim⟩
  | fresh => exact ⟨_, h, fun w E E' σ σ' e _ _ hr => by cases e <;> first | exact hr | exact hr.elim⟩
theorem mvBlksK_sound {ρ : List Nat} (l : Hp) : ∀ {k : Hp → Prop}, mvBlksK ρ l k → ∃ l', k l' ∧ l.length = l'.length ∧ ∀ (i : Nat) (b b' : Blk), l[i]? = some b → l'[i]? = some b' → MvB ρ b b' := by
  induction l with
  | nil => intro k h; exact ⟨[], h, rfl, by simp⟩
  | cons x l ih =>
    intro k h
    obtain ⟨y, h, hy⟩ := mvBlkK_sound (show mvBlkK ρ x (fun c => mvBlksK ρ l fun r => k (c :: r)) from h)
    obtain ⟨l', h, hl, hl'⟩ := ih h
    refine ⟨y :: l', h, by simp [hl], fun i s s' hs hs' => ?_⟩
    cases i with
    | zero => simp at hs hs'; subst hs; subst hs'; exact hy
    | succ i => exact hl' i s s' (by simpa using hs) (by simpa using hs')

/-! ### inward -/
def in1K (ρ : List Nat) (s s' : SV) (k : Prop) : Prop :=
  match s with
  | .ptr b o => match s' with | .ptr b' o' => nthK ρ b fun j => eqNK j b' (eqNK o o' k) | _ => False
  | .ep b i f => match s' with | .ep b' i' f' => nthK ρ b fun j => eqNK j b' (i = i' ∧ eqNK f f' k) | _ => False
  | .sl b => match s' with | .sl b' => nthK ρ b fun j => eqNK j b' k | _ => False
  | .any => k
  | .undef => match s' with | .undef => k | _ => False
  | .int q n => match s' with | .int q' n' => if q = q' then n' = n ∧ k else False | _ => False
  | .tt => match s' with | .tt => k | .bool b => b = true ∧ k | _ => False
  | .ff => match s' with | .ff => k | .bool b => b = false ∧ k | _ => False
  | .bool b => match s' with | .bool b' => b' = b ∧ k | .tt => true = b ∧ k | .ff => false = b ∧ k | _ => False
  | .nilp => match s' with | .nilp => k | _ => False
  | .nils => match s' with | .nils => k | _ => False
  | .rs z es => match s' with | .rs z' es' => eqNK z' z (es' = es ∧ k) | .nils => es = [] ∧ k | _ => False
  | s => s' = s ∧ free1K s k
noncomputable def ins1K (ρ : List Nat) (l : List SV) : List SV → Prop → Prop :=
  List.rec (motive := fun _ => List SV → Prop → Prop) (fun l' k => List.rec (motive := fun _ => Prop) k (fun _ _ _ => False) l')
    (fun s _ ih l' k => List.rec (motive := fun _ => Prop) False (fun s' t' _ => in1K ρ s s' (ih t' k)) l') l
noncomputable def in2K (ρ : List Nat) (s s' : SV) (k : Prop) : Prop :=
  match s with
  | .agg cs => match s' with | .agg cs' => ins1K ρ cs cs' k | _ => False
  | s => in1K ρ s s' k
noncomputable def ins2K (ρ : List Nat) (l : List SV) : List SV → Prop → Prop :=
  List.rec (motive := fun _ => List SV → Prop → Prop) (fun l' k => List.rec (motive := fun _ => Prop) k (fun _ _ _ => False) l')
    (fun s _ ih l' k => List.rec (motive := fun _ => Prop) False (fun s' t' _ => in2K ρ s s' (ih t' k)) l') l
noncomputable def inBlkK (ρ : List Nat) (b b' : Blk) (k : Prop) : Prop :=
  match b with
  | .fix t cs => match b' with | .fix t' cs' => eqNK t' t (ins1K ρ cs cs' k) | _ => False
  | .row t z es => match b' with | .row t' z' es' => eqNK t' t (eqNK z' z (es' = es ∧ k)) | _ => False
  | .dead => match b' with | .dead => k | _ => False
  | .fresh => False
noncomputable def inBlksK (ρ : List Nat) (h : Hp) (l : List Nat) : Hp → Prop → Prop :=
  List.rec (motive := fun _ => Hp → Prop → Prop) (fun hin k => List.rec (motive := fun _ => Prop) k (fun _ _ _ => False) hin)
    (fun j _ ih hin k => List.rec (motive := fun _ => Prop) False (fun b t _ => nthK h j fun b' => inBlkK ρ b b' (ih t k)) hin) l

/-- The entries, the other way. -/
def Picks (ρ : List Nat) (σ σ' : Sg) : Prop := ∀ (i j : Nat) (e : Ent), ρ[i]? = some j → σ[j]? = some e → σ'[i]? = some e
def In (ρ : List Nat) (s s' : SV) : Prop := ∀ (w : World) (E E' : Nat → Prop) (σ σ' : Sg) (v : Value), Picks ρ σ σ' → (∀ g, E' g → E g) → Rep w E σ s' v → Rep w E' σ' s v
theorem In.of_free {ρ : List Nat} {s : SV} (hf : FreeSV s) : In ρ s s := fun w _ _ σ σ' v _ hE hr => (hf w _ σ [] v hr).le hE σ'
theorem in1K_sound {ρ : List Nat} {s s' : SV} {k : Prop} (h : in1K ρ s s' k) : k ∧ In ρ s s' := by
  cases s <;> simp only [in1K] at h
  case ptr b o =>
    cases s' <;> first | exact h.elim | skip
    obtain ⟨j, hj, h⟩ := nthK_sound h
    obtain ⟨e1, h⟩ := eqNK_sound h
    obtain ⟨e2, h2⟩ := eqNK_sound h
    subst e1; subst e2
    refine ⟨h2, fun w E E' σ σ' v hm _ hr => ?_⟩
    cases hr with
    | ptr hg => exact .ptr (hm _ _ _ hj hg)
    | ptrD hg => exact .ptrD (hm _ _ _ hj hg)
  case ep b i f =>
    cases s' <;> first | exact h.elim | skip
    obtain ⟨j, hj, h⟩ := nthK_sound h
    obtain ⟨e1, e2, h⟩ := eqNK_sound h
    obtain ⟨e3, h2⟩ := eqNK_sound h
    subst e1; subst e2; subst e3
    refine ⟨h2, fun w E E' σ σ' v hm _ hr => ?_⟩
    cases hr with
    | ep hg => exact .ep (hm _ _ _ hj hg)
    | epD hg => exact .epD (hm _ _ _ hj hg)
  case sl b =>
    cases s' <;> first | exact h.elim | skip
    obtain ⟨j, hj, h⟩ := nthK_sound h
    obtain ⟨e1, h2⟩ := eqNK_sound h
    subst e1
    refine ⟨h2, fun w E E' σ σ' v hm _ hr => ?_⟩
    cases hr with
    | sl hg => exact .sl (hm _ _ _ hj hg)
    | slN hg => exact .slN (hm _ _ _ hj hg)
    | slD hg => exact .slD (hm _ _ _ hj hg)
  case any => exact ⟨h, fun _ _ _ _ _ _ _ _ _ => .any⟩
  case undef => cases s' <;> first | exact h.elim | exact ⟨h, fun _ _ _ _ _ _ _ _ hr => by cases hr; exact .undef⟩
  case int q n =>
    cases s' <;> first | exact h.elim | skip
    simp only [] at h
    split at h
    · rename_i hq
      subst hq
      obtain ⟨e, h⟩ := h
      subst e
      exact ⟨h, fun _ _ _ _ _ _ _ _ hr => by cases hr; exact .int⟩
    · exact h.elim
  case tt =>
    cases s' <;> first | exact h.elim | skip
    · exact ⟨h, fun _ _ _ _ _ _ _ _ hr => by cases hr; exact .tt⟩
    · obtain ⟨e, h⟩ := h; subst e; exact ⟨h, fun _ _ _ _ _ _ _ _ hr => by cases hr; exact .tt⟩
  case ff =>
    cases s' <;> first | exact h.elim | skip
    · exact ⟨h, fun _ _ _ _ _ _ _ _ hr => by cases hr; exact .ff⟩
    · obtain ⟨e, h⟩ := h; subst e; exact ⟨h, fun _ _ _ _ _ _ _ _ hr => by cases hr; exact .ff⟩
  case bool b =>
    cases s' <;> first | exact h.elim | skip
    all_goals obtain ⟨e, h⟩ := h; subst e; exact ⟨h, fun _ _ _ _ _ _ _ _ hr => by cases hr; exact .bool⟩
  case nilp => cases s' <;> first | exact h.elim | exact ⟨h, fun _ _ _ _ _ _ _ _ hr => by cases hr; exact .nilp⟩
  case nils => cases s' <;> first | exact h.elim | exact ⟨h, fun _ _ _ _ _ _ _ _ hr => by cases hr; exact .nils⟩
  case rs z es =>
    cases s' <;> first | exact h.elim | skip
    · obtain ⟨e, h⟩ := h
      subst e
      exact ⟨h, fun _ _ _ _ _ _ _ _ hr => by cases hr; exact .rs0 (Nat.zero_le _)⟩
    · obtain ⟨e, e', h2⟩ := eqNK_sound h
      subst e; subst e'
      exact ⟨h2, .of_free fun w E σ σ' v hr => by cases hr <;> constructor <;> assumption⟩
  all_goals
    obtain ⟨e, h⟩ := h
    obtain ⟨h, hf⟩ := free1K_sound h
    subst e
    exact ⟨h, .of_free hf⟩
theorem ins_sound {ρ : List Nat} {f : SV → SV → Prop → Prop} (hf : ∀ {s s' : SV} {k : Prop}, f s s' k → k ∧ In ρ s s') (l : List SV) : ∀ {l' : List SV} {k : Prop},
    List.rec (motive := fun _ => List SV → Prop → Prop) (fun l' k => List.rec (motive := fun _ => Prop) k (fun _ _ _ => False) l')
      (fun s _ ih l' k => List.rec (motive := fun _ => Prop) False (fun s' t' _ => f s s' (ih t' k)) l') l l' k → k ∧ l.length = l'.length ∧ ∀ (i : Nat) (s s' : SV), l[i]? = some s → l'[i]? = some s' → In ρ s s' := by
  induction l with
  | nil =>
    intro l' k h
    cases l' with
    | nil => exact ⟨h, rfl, by simp⟩
    | cons x t => exact h.elim
  | cons s l ih =>
    intro l' k h
    cases l' with
    | nil => exact h.elim
    | cons s' l' =>
      obtain ⟨h, h1⟩ := hf h
      obtain ⟨h, hl, h2⟩ := ih h
      refine ⟨h, by simp [hl], fun i a a' ha ha' => ?_⟩
      cases i with
      | zero => simp at ha ha'; subst ha; subst ha'; exact h1
      | succ i => exact h2 i a a' (by simpa using ha) (by simpa using ha')
theorem in2K_sound {ρ : List Nat} {s s' : SV} {k : Prop} (h : in2K ρ s s' k) : k ∧ In ρ s s' := by
  cases s with
  | agg cs =>
    cases s' with
    | agg cs' =>
      obtain ⟨h, hl, hc⟩ := ins_sound in1K_sound cs (show ins1K ρ cs cs' k from h)
      refine ⟨h, fun w E E' σ σ' v hm hE hr => ?_⟩
      cases hr with
      | agg hlen ho hcs =>
        refine .agg (hl.trans hlen) ho fun i s v hs hv => ?_
        have hi : i < cs'.length := by rw [← hl]; exact (List.getElem?_eq_some_iff.1 hs).1
        exact hc i s _ hs (List.getElem?_eq_getElem hi) w E E' σ σ' v hm hE (hcs i _ v (List.getElem?_eq_getElem hi) hv)
    | _ => exact h.elim
  | _ => exact in1K_sound h
theorem ins2K_repl {ρ : List Nat} {args args' : List SV} (h : ins2K ρ args args' True) {w : World} {E E' : Nat → Prop} {σ σ' : Sg} {vs : List Value} (hm : Picks ρ σ σ') (hE : ∀ g, E' g → E g) (hr : RepL w E σ args' vs) : RepL w E' σ' args vs := by
  obtain ⟨_, hl, hi⟩ := ins_sound in2K_sound args h
  refine ⟨hl.trans hr.1, fun i s v hs hv => ?_⟩
  have hlt : i < args'.length := by rw [← hl]; exact (List.getElem?_eq_some_iff.1 hs).1
  exact hi i s _ hs (List.getElem?_eq_getElem hlt) w E E' σ σ' v hm hE (hr.2 i _ v (List.getElem?_eq_getElem hlt) hv)
def InB (ρ : List Nat) (b b' : Blk) : Prop := ∀ (w : World) (E E' : Nat → Prop) (σ σ' : Sg) (e : Ent), Picks ρ σ σ' → (∀ g, E' g → E g) → BlkOK w E σ b' e → BlkOK w E' σ' b e
theorem inBlkK_sound {ρ : List Nat} {b b' : Blk} {k : Prop} (h : inBlkK ρ b b' k) : k ∧ InB ρ b b' := by
  cases b with
  | fix t cs =>
    cases b' with
    | row _ _ _ => exact h.elim
    | dead => exact h.elim
    | fresh => exact h.elim
    | fix t' cs' =>
      obtain ⟨e, h⟩ := eqNK_sound h
      obtain ⟨h2, hl, hc⟩ := ins_sound in1K_sound cs h
      subst e
      refine ⟨h2, fun w E E' σ σ' e hm hE hr => ?_⟩
      cases e <;> simp only [BlkOK] at hr ⊢
      obtain ⟨vs, h1, h2, h3⟩ := hr
      refine ⟨vs, h1, hl.trans h2, fun i s v hs hv => ?_⟩
      have hi : i < cs'.length := by rw [← hl]; exact (List.getElem?_eq_some_iff.1 hs).1
      obtain ⟨a, b⟩ := h3 i _ v (List.getElem?_eq_getElem hi) hv
      exact ⟨hc i s _ hs (List.getElem?_eq_getElem hi) w E E' σ σ' v hm hE a, b⟩
  | row t z es =>
    cases b' <;> first | exact h.elim | skip
    obtain ⟨e1, h⟩ := eqNK_sound h
    obtain ⟨e2, e3, h2⟩ := eqNK_sound h
    subst e1; subst e2; subst e3
    refine ⟨h2, fun w E E' σ σ' e hm hE hr => ?_⟩
    cases e <;> simp only [BlkOK] at hr ⊢
    · obtain ⟨h1, h2, h3, h4, vs, h5, h6, h7⟩ := hr
      refine ⟨h1, h2, h3, h4, vs, h5, h6, fun i e he => ⟨(h7 i e he).1, fun j s hs => ?_⟩⟩
      obtain ⟨v, a, b, c⟩ := (h7 i e he).2 j s hs
      exact ⟨v, a, b.le hE [], c⟩
    · exact hr
  | dead =>
    cases b' <;> first | exact h.elim | skip
    exact ⟨h, fun w E E' σ σ' e _ _ hr => by cases e <;> first | exact hr | exact hr.elim⟩
  | fresh => exact h.elim
theorem inBlksK_sound {ρ : List Nat} {h : Hp} (l : List Nat) : ∀ {hin : Hp} {k : Prop}, inBlksK ρ h l hin k → k ∧ l.length = hin.length ∧ ∀ (i j : Nat) (b : Blk), l[i]? = some j → hin[i]? = some b → ∃ b', h[j]? = some b' ∧ InB ρ b b' := by
  induction l with
  | nil =>
    intro hin k hk
    cases hin with
    | nil => exact ⟨hk, rfl, by simp⟩
    | cons b t => exact hk.elim
  | cons j l ih =>
    intro hin k hk
    cases hin with
    | nil => exact hk.elim
    | cons b t =>
      obtain ⟨b', hb, hk2⟩ := nthK_sound (show nthK h j _ from hk)
      obtain ⟨hk3, hin1⟩ := inBlkK_sound hk2
      obtain ⟨hk, hl, hr⟩ := ih hk3
      refine ⟨hk, by simp [hl], fun i j' c hi hc => ?_⟩
      cases i with
      | zero => simp at hi hc; subst hi; subst hc; exact ⟨b', hb, hin1⟩
      | succ i => exact hr i j' c (by simpa using hi) (by simpa using hc)
end
end Go.Sx

/- A call's run, carried over to the caller's blocks. No statement of the seat is proved here. -/
namespace Go.Sx
section
variable {P : Program} {T : Tab}

/-- The caller's blocks, after the call: those that were handed over, then the new ones. -/
noncomputable def landK (l : List Nat) : Hp → Hp → (Hp → Prop) → Prop :=
  List.rec (motive := fun _ => Hp → Hp → (Hp → Prop) → Prop) (fun ho h K => appK h ho K)
    (fun j _ ih ho h K => List.rec (motive := fun _ => Prop) False (fun b t _ => setK h j b fun h' => ih t h' K) ho) l
theorem landK_sound (l : List Nat) : ∀ {ho h : Hp} {K : Hp → Prop}, landK l ho h K → K (upd (l.zip ho) h ++ ho.drop l.length) := by
  induction l with
  | nil => intro ho h K hk; exact appK_sound hk
  | cons j l ih =>
    intro ho h K hk
    cases ho with
    | nil => exact hk.elim
    | cons b ho => exact ih (setK_sound (show setK h j b _ from hk)).2

def relB (m n : Nat) (ρ : List Nat) : Bool :=
  Nat.ble m ρ.length && (ρ.take m).all (fun j => Nat.blt j n) && decide (ρ.take m).Nodup && (List.range (ρ.length - m)).all fun k => ρ.getD (m + k) 0 == n + k
theorem relB_spec {m n : Nat} {ρ : List Nat} (h : relB m n ρ = true) : m ≤ ρ.length ∧ (∀ i j, i < m → ρ[i]? = some j → j < n) ∧ (∀ i i' j, i < m → i' < m → ρ[i]? = some j → ρ[i']? = some j → i = i') ∧ ∀ i j, m ≤ i → ρ[i]? = some j → j = n + (i - m) := by
  simp only [relB, Bool.and_eq_true, List.all_eq_true, decide_eq_true_eq, Nat.ble_eq, List.mem_range, beq_iff_eq] at h
  obtain ⟨⟨⟨h1, h2⟩, h3⟩, h4⟩ := h
  refine ⟨h1, fun i j hi hj => ?_, fun i i' j hi hi' hj hj' => ?_, fun i j hi hj => ?_⟩
  · have : j ∈ ρ.take m := List.mem_of_getElem? (i := i) (by rw [List.getElem?_take, if_pos hi]; exact hj)
    have := h2 j this
    simpa [Nat.blt_eq] using this
  · have e1 : (ρ.take m)[i]? = some j := by rw [List.getElem?_take, if_pos hi]; exact hj
    have e2 : (ρ.take m)[i']? = some j := by rw [List.getElem?_take, if_pos hi']; exact hj'
    exact (List.getElem?_inj (List.getElem?_eq_some_iff.1 e1).1 h3).1 (e1.trans e2.symm)
  · have hl := (List.getElem?_eq_some_iff.1 hj).1
    have := h4 (i - m) (by omega)
    rw [show m + (i - m) = i by omega] at this
    simp [List.getD, hj] at this
    exact this

/-- THE CALL, AT THE CALLER's. -/
theorem CallG.reloc {f : FuncId} {args args' : List SV} {hin h : Hp} {R K : SV → Hp → Prop} (hc : CallG P f args hin R) (ρ : List Nat) (hρ : relB hin.length h.length ρ = true)
    (ha : ins2K ρ args args' True) (hh : takeK hin.length ρ fun ρ0 => inBlksK ρ h ρ0 hin True)
    (hk : ∀ s ho, R s ho → eqNK ho.length ρ.length (mvBlksK ρ ho fun ho' => takeK hin.length ρ fun ρ0 => landK ρ0 ho' h fun H => mv3K ρ s fun s' => K s' H)) : CallG P f args' h K := by
  obtain ⟨hm, hlt, hnd, hnew⟩ := relB_spec hρ
  obtain ⟨_, hh⟩ := takeK_sound hh
  obtain ⟨_, hl0, hins⟩ := inBlksK_sound _ hh
  refine ⟨fun w X σ vs hI hr => ?_⟩
  have hσl : σ.length = h.length := hI.len
  let ρ0 := ρ.take hin.length
  let σc : Sg := ρ0.map fun j => σ.getD j .dead
  have hρ0 : ∀ (i j : Nat), ρ0[i]? = some j ↔ i < hin.length ∧ ρ[i]? = some j := by
    intro i j
    show (ρ.take hin.length)[i]? = some j ↔ _
    rw [List.getElem?_take]
    split <;> simp [*]
  have hlen0 : ρ0.length = hin.length := hl0
  have hpg : ∀ (i : Nat) (e : Ent), σc[i]? = some e → ∃ j, i < hin.length ∧ ρ[i]? = some j ∧ σ[j]? = some e := by
    intro i e he
    simp only [σc, List.getElem?_map] at he
    cases hj : ρ0[i]? with
    | none => rw [hj] at he; simp at he
    | some j =>
      rw [hj] at he
      simp at he
      obtain ⟨h1, h2⟩ := (hρ0 i j).1 hj
      have := hlt i j h1 h2
      refine ⟨j, h1, h2, ?_⟩
      rw [← he]
      simp [List.getElem?_eq_getElem (show j < σ.length by omega)]
  have hgp : ∀ (i j : Nat) (e : Ent), i < hin.length → ρ[i]? = some j → σ[j]? = some e → σc[i]? = some e := by
    intro i j e hi hj he
    simp [σc, (hρ0 i j).2 ⟨hi, hj⟩, List.getD, he]
  have hpick : Picks ρ σ σc := by
    intro i j e hj he
    by_cases hi : i < hin.length
    · exact hgp i j e hi hj he
    · have := hnew i j (by omega) hj
      have := (List.getElem?_eq_some_iff.1 he).1
      omega
  have hpo : ∀ g, Owned σc g → Owned σ g := fun g ⟨i, e, he, hg⟩ => by
    obtain ⟨j, _, _, hj⟩ := hpg i e he
    exact ⟨j, e, hj, hg⟩
  let X0 : Nat → Prop := fun g => Ex X σ g ∧ ¬ Owned σc g
  have hEx : ∀ g, Ex X0 σc g ↔ Ex X σ g := fun g => by
    constructor
    · rintro (⟨h1, _⟩ | h1)
      · exact h1
      · exact .inr (hpo g h1)
    · intro h1
      by_cases h2 : Owned σc g
      · exact .inr h2
      · exact .inl ⟨h1, h2⟩
  have hlt0 : ∀ g, Ex X σ g → g < w.heap.size := fun g hx => hx.elim (hI.xlt g) fun ⟨i, e, he, hg⟩ => hI.lt i e g he hg
  have hI0 : Inv w X0 σc hin := by
    refine ⟨by simp [σc, hlen0], fun i b e hb he => ?_, fun i e g he hg => ?_, fun i i' e e' g he he' hg hg' => ?_, fun g hx => hx.2, fun g hx => hlt0 g hx.1⟩
    · obtain ⟨j, hi, hj, he⟩ := hpg i e he
      obtain ⟨b', hb', hib⟩ := hins i j b ((hρ0 i j).2 ⟨hi, hj⟩) hb
      exact hib w (Ex X σ) (Ex X0 σc) σ σc e hpick (fun g hx => (hEx g).1 hx) (hI.ok j b' e hb' he)
    · obtain ⟨j, _, _, he⟩ := hpg i e he
      exact hI.lt j e g he hg
    · obtain ⟨j, hi, hj, he⟩ := hpg i e he
      obtain ⟨j', hi', hj', he'⟩ := hpg i' e' he'
      have := hI.inj j j' e e' g he he' hg hg'
      subst this
      exact hnd i i' j hi hi' hj hj'
  have hr0 : RepL w (Ex X0 σc) σc args vs := ins2K_repl ha hpick (fun g hx => (hEx g).1 hx) hr
  refine (hc.ok w X0 σc vs hI0 hr0).mono fun v w' ⟨s, ho, σ0, hR, hrep, hI1, hS⟩ => ?_
  obtain ⟨hol, hk⟩ := eqNK_sound (hk s ho hR)
  obtain ⟨ho', hk, hl', hmvb⟩ := mvBlksK_sound ho hk
  obtain ⟨_, hk⟩ := takeK_sound hk
  have hk := landK_sound _ hk
  obtain ⟨s', hk, hmv⟩ := mv3K_sound hk
  have hσ0l : σ0.length = ρ.length := by rw [hI1.len, hol]
  have hz1 : (ρ0.zip σ0).map (·.1) = ρ0 := by rw [List.map_fst_zip]; omega
  have hz2 : (ρ0.zip ho').map (·.1) = ρ0 := by rw [List.map_fst_zip]; omega
  have hn0 : ρ0.Nodup := by
    simp only [relB, Bool.and_eq_true, decide_eq_true_eq] at hρ
    exact hρ.1.2
  let σ1 : Sg := (ρ0.zip σ0).foldl (fun h p => h.set p.1 p.2) σ
  let σ' : Sg := σ1 ++ σ0.drop hin.length
  let H : Hp := upd (ρ0.zip ho') h ++ ho'.drop hin.length
  have hH : upd ((ρ.take hin.length).zip ho') h ++ ho'.drop (ρ.take hin.length).length = H := by
    show _ = upd ((ρ.take hin.length).zip ho') h ++ ho'.drop hin.length
    rw [show (ρ.take hin.length).length = hin.length from hlen0]
  rw [hH] at hk
  have hl1 : σ1.length = σ.length := upd_size _
  have hlH1 : (upd (ρ0.zip ho') h).length = h.length := upd_len _
  -- an entry of the result is one of the caller's that was not handed over, or the callee's
  have hwho : ∀ (i : Nat) (e : Ent), σ'[i]? = some e → (i ∉ ρ0 ∧ σ[i]? = some e) ∨ (∃ k : Nat, ρ[k]? = some i ∧ σ0[k]? = some e) := by
    intro i e he
    rw [List.getElem?_append] at he
    split at he
    · by_cases hi : i ∈ ρ0
      · obtain ⟨k, hk⟩ := List.mem_iff_getElem?.1 hi
        obtain ⟨hk1, hk2⟩ := (hρ0 k i).1 hk
        have hkl : k < σ0.length := by omega
        have hm' : (i, σ0[k]) ∈ ρ0.zip σ0 := List.mem_of_getElem? (i := k) (by rw [List.getElem?_zip_eq_some]; exact ⟨hk, List.getElem?_eq_getElem hkl⟩)
        have := upd_hit (ρ0.zip σ0) (h := σ) (by rw [hz1]; exact hn0) _ hm' (by rw [hσl]; exact hlt k i hk1 hk2)
        rw [show σ1[i]? = some σ0[k] from this] at he
        exact .inr ⟨k, hk2, by rw [List.getElem?_eq_getElem hkl]; exact he⟩
      · have : σ1[i]? = σ[i]? := upd_ext _ fun p hp he => hi (by rw [← he, ← hz1]; exact List.mem_map.2 ⟨p, hp, rfl⟩)
        rw [this] at he
        exact .inl ⟨hi, he⟩
    · rename_i hge
      rw [List.getElem?_drop] at he
      have hkl := (List.getElem?_eq_some_iff.1 he).1
      have hk' : ρ[hin.length + (i - σ1.length)]? = some ρ[hin.length + (i - σ1.length)] := List.getElem?_eq_getElem (by omega)
      have := hnew _ _ (by omega) hk'
      refine .inr ⟨_, ?_, he⟩
      rw [hk', this]
      congr 1
      omega
  have hhit : ∀ (k i : Nat) (e : Ent), ρ[k]? = some i → σ0[k]? = some e → σ'[i]? = some e := by
    intro k i e hk he
    by_cases hkm : k < hin.length
    · have hk0 := (hρ0 k i).2 ⟨hkm, hk⟩
      have hil := hlt k i hkm hk
      rw [List.getElem?_append_left (by omega)]
      have hm' : (i, e) ∈ ρ0.zip σ0 := List.mem_of_getElem? (i := k) (by rw [List.getElem?_zip_eq_some]; exact ⟨hk0, he⟩)
      exact upd_hit _ (by rw [hz1]; exact hn0) (i, e) hm' (by omega)
    · have := hnew k i (by omega) hk
      rw [List.getElem?_append_right (by omega), List.getElem?_drop]
      rw [show hin.length + (i - σ1.length) = k by omega]
      exact he
  have hhitb : ∀ (k i : Nat) (b : Blk), ρ[k]? = some i → ho'[k]? = some b → H[i]? = some b := by
    intro k i e hk he
    by_cases hkm : k < hin.length
    · have hk0 := (hρ0 k i).2 ⟨hkm, hk⟩
      have hil := hlt k i hkm hk
      rw [List.getElem?_append_left (by omega)]
      have hm' : (i, e) ∈ ρ0.zip ho' := List.mem_of_getElem? (i := k) (by rw [List.getElem?_zip_eq_some]; exact ⟨hk0, he⟩)
      exact upd_at _ (by rw [hz2]; exact hn0) (i, e) hm' (by omega)
    · have := hnew k i (by omega) hk
      rw [List.getElem?_append_right (by omega), List.getElem?_drop]
      rw [show hin.length + (i - (upd (ρ0.zip ho') h).length) = k by omega]
      exact he
  have hmissb : ∀ i, i ∉ ρ0 → i < h.length → H[i]? = h[i]? := by
    intro i hi hil
    rw [List.getElem?_append_left (by omega)]
    exact upd_get _ fun p hp he => hi (by rw [← he, ← hz2]; exact List.mem_map.2 ⟨p, hp, rfl⟩)
  have hmoves : Moves ρ σ0 σ' := fun i j e hj he => hhit i j e hj he
  have hnot0 : ∀ (i j : Nat) (e : Ent), ρ[i]? = some j → σ[j]? = some e → i < hin.length := by
    intro i j e hj he
    have := (List.getElem?_eq_some_iff.1 he).1
    cases Nat.lt_or_ge i hin.length with
    | inl h => exact h
    | inr h => have := hnew i j h hj; omega
  have hσlt : ∀ (i : Nat) (e : Ent) (g : Nat), i ∉ ρ0 → σ[i]? = some e → e.blk = some g → X0 g := by
    intro i e g hi he hg
    refine ⟨.inr ⟨i, e, he, hg⟩, fun ⟨k, e', he', hg'⟩ => ?_⟩
    obtain ⟨j, hkm, hj, he'⟩ := hpg k e' he'
    have := hI.inj i j e e' g he he' hg hg'
    subst this
    exact hi (List.mem_of_getElem? ((hρ0 k i).2 ⟨hkm, hj⟩))
  have hE' : ∀ g, Ex X σ' g → Ex X0 σ0 g := by
    rintro g (hx | ⟨i, e, he, hg⟩)
    · exact .inl ⟨.inl hx, fun ho => hI.dis g hx (hpo g ho)⟩
    · rcases hwho i e he with ⟨hi, he⟩ | ⟨k, hk, he⟩
      · exact .inl (hσlt i e g hi he hg)
      · exact .inr ⟨k, e, he, hg⟩
  have hσcl : σc.length = hin.length := by simp [σc, hlen0]
  have hS' : Step σ.length w σ w' σ' := by
    refine ⟨hS.os, hS.tape, hS.output, hS.size, fun g hg ho => hS.frame g hg fun h => ho (hpo g h), fun g ⟨i, e, he, hg⟩ hlt' => ?_, fun i e hi he hf => ?_⟩
    · rcases hwho i e he with ⟨_, he⟩ | ⟨k, hk, he⟩
      · exact ⟨i, e, he, hg⟩
      · exact hpo g (hS.blks g ⟨k, e, he, hg⟩ hlt')
    · by_cases hi' : i ∈ ρ0
      · obtain ⟨k, hk⟩ := List.mem_iff_getElem?.1 hi'
        obtain ⟨hk1, hk2⟩ := (hρ0 k i).1 hk
        exact (hS.ents k e (by omega) (hgp k i e hk1 hk2 he) hf).imp (hhit k i _ hk2) (hhit k i _ hk2)
      · left
        rw [List.getElem?_append_left (by omega)]
        rw [show σ1[i]? = σ[i]? from upd_ext _ fun p hp he => hi' (by rw [← he, ← hz1]; exact List.mem_map.2 ⟨p, hp, rfl⟩)]
        exact he
  have hlen : σ'.length = H.length := by
    show (σ1 ++ σ0.drop hin.length).length = (upd (ρ0.zip ho') h ++ ho'.drop hin.length).length
    simp only [List.length_append, List.length_drop]
    omega
  refine ⟨s', H, σ', hk, hmv w' _ _ σ0 σ' v hmoves hE' hrep, ⟨hlen, fun i b e hb he => ?_, fun i e g he hg => ?_, fun i j e e' g hi hj hg hg' => ?_, fun g hx hown => ?_, fun g hx => Nat.lt_of_lt_of_le (hI.xlt g hx) hS.size⟩, hS'⟩
  · rcases hwho i e he with ⟨hi, he⟩ | ⟨k, hk, he⟩
    · have hil := (List.getElem?_eq_some_iff.1 he).1
      rw [hmissb i hi (by omega)] at hb
      exact (hI.ok i b e hb he).step hS' (Nat.le_refl _) fun g hg => hS.frame g (hI.lt i e g he hg) fun hown => (hσlt i e g hi he hg).2 hown
    · have hkl : k < σ0.length := (List.getElem?_eq_some_iff.1 he).1
      have hkl' : k < ho.length := by omega
      rw [hhitb k i _ hk (List.getElem?_eq_getElem (show k < ho'.length by omega))] at hb
      simp at hb
      subst hb
      exact hmvb k _ _ (List.getElem?_eq_getElem hkl') (List.getElem?_eq_getElem (show k < ho'.length by omega)) w' _ _ σ0 σ' e hmoves hE' (hI1.ok k _ e (List.getElem?_eq_getElem hkl') he)
  · rcases hwho i e he with ⟨_, he⟩ | ⟨k, hk, he⟩
    · exact Nat.lt_of_lt_of_le (hI.lt i e g he hg) hS.size
    · exact hI1.lt k e g he hg
  · rcases hwho i e hi with ⟨hir, hie⟩ | ⟨k, hk, hke⟩
    · rcases hwho j e' hj with ⟨hjr, hje⟩ | ⟨l, hl, hle⟩
      · exact hI.inj i j e e' g hie hje hg hg'
      · exact absurd ⟨l, e', hle, hg'⟩ (hI1.dis g (hσlt i e g hir hie hg))
    · rcases hwho j e' hj with ⟨hjr, hje⟩ | ⟨l, hl, hle⟩
      · exact absurd ⟨k, e, hke, hg⟩ (hI1.dis g (hσlt j e' g hjr hje hg'))
      · have := hI1.inj k l e e' g hke hle hg hg'
        subst this
        rw [hk] at hl
        exact Option.some.inj hl
  · obtain ⟨i, e, he, hg⟩ := hown
    rcases hwho i e he with ⟨_, he⟩ | ⟨k, hk, he⟩
    · exact hI.dis g hx ⟨i, e, he, hg⟩
    · exact hI1.dis g ⟨.inl hx, fun ho => hI.dis g hx (hpo g ho)⟩ ⟨k, e, he, hg⟩

/-- A function that is handed blocks, and may make some: 'hin' and what it leaves are the callee's own count. -/
structure GSpec (P : Program) (f : FuncId) (args : List SV) (hin : Hp) (R : SV → Hp → Prop) : Prop where
  ok : CallG P f args hin R
theorem GSpec.call {f : FuncId} {args args' : List SV} {hin h : Hp} {R K : SV → Hp → Prop} (hs : GSpec P f args hin R) (ρ : List Nat) (hρ : relB hin.length h.length ρ = true)
    (ha : ins2K ρ args args' True) (hh : takeK hin.length ρ fun ρ0 => inBlksK ρ h ρ0 hin True)
    (hk : ∀ s ho, R s ho → eqNK ho.length ρ.length (mvBlksK ρ ho fun ho' => takeK hin.length ρ fun ρ0 => landK ρ0 ho' h fun H => mv3K ρ s fun s' => K s' H)) : CallG P f args' h K := hs.ok.reloc ρ hρ ha hh hk
/-- What a function leaves: its blocks in the order of 'l', the others given up. -/
noncomputable def pickK (l : List Nat) (h : Hp) : (Hp → Prop) → Prop :=
  List.rec (motive := fun _ => (Hp → Prop) → Prop) (fun k => k []) (fun j _ ih k => nthK h j fun b => ih fun r => k (b :: r)) l
end
end Go.Sx

/- What a function leaves: its own count of the blocks; a shift ahead of a drawn region or a loop. No statement of the seat is proved here. -/
namespace Go.Sx
section
variable {P : Program} {T : Tab}

/-! ### the value that is handed back, among renumbered blocks -/
noncomputable def slot2K (ρ : Rho) (s s' : SV) (k : Prop) : Prop :=
  match s' with
  | .agg cs' => match s with | .agg cs => slotsK ρ cs cs' k | _ => False
  | s' => slotK ρ s s' k
noncomputable def slots2K (ρ : Rho) (l : List SV) : List SV → Prop → Prop :=
  List.rec (motive := fun _ => List SV → Prop → Prop) (fun l' k => List.rec (motive := fun _ => Prop) k (fun _ _ _ => False) l')
    (fun s _ ih l' k => List.rec (motive := fun _ => Prop) False (fun s' t' _ => slot2K ρ s s' (ih t' k)) l') l
noncomputable def slot3K (ρ : Rho) (s s' : SV) (k : Prop) : Prop :=
  match s' with
  | .tup vs' => match s with | .tup vs => slots2K ρ vs vs' k | _ => False
  | s' => slot2K ρ s s' k

def SlotTie (ρ : Rho) (s s' : SV) : Prop := ∀ (w : World) (E E' : Nat → Prop) (σ σ' : Sg) (v : Value), Ties σ σ' ρ → (∀ g, E' g → E g) → Rep w E σ s v → Rep w E' σ' s' v
theorem slot2K_sound {ρ : Rho} {s s' : SV} {k : Prop} (h : slot2K ρ s s' k) : k ∧ SlotTie ρ s s' := by
  cases s' with
  | agg cs' =>
    cases s with
    | agg cs =>
      obtain ⟨h, hl, hc⟩ := slotsK_sound cs (show slotsK ρ cs cs' k from h)
      refine ⟨h, fun w E E' σ σ' v ht hE hr => ?_⟩
      cases hr with
      | agg hlen ho hcs =>
        refine .agg (hl ▸ hlen) ho fun i s v hs hv => ?_
        have hi : i < cs.length := by rw [hl]; exact (List.getElem?_eq_some_iff.1 hs).1
        exact hc w E E' σ σ' ht hE i _ s v (List.getElem?_eq_getElem hi) hs (hcs i _ v (List.getElem?_eq_getElem hi) hv)
    | _ => exact h.elim
  | _ => exact slotK_sound h
theorem slots2K_sound {ρ : Rho} (l : List SV) : ∀ {l' : List SV} {k : Prop}, slots2K ρ l l' k → k ∧ l.length = l'.length ∧ ∀ (i : Nat) (s s' : SV), l[i]? = some s → l'[i]? = some s' → SlotTie ρ s s' := by
  induction l with
  | nil =>
    intro l' k h
    cases l' with
    | nil => exact ⟨h, rfl, by simp⟩
    | cons x t => exact h.elim
  | cons s l ih =>
    intro l' k h
    cases l' with
    | nil => exact h.elim
    | cons s' l' =>
      obtain ⟨h, h1⟩ := slot2K_sound (show slot2K ρ s s' (slots2K ρ l l' k) from h)
      obtain ⟨h, hl, h2⟩ := ih h
      refine ⟨h, by simp [hl], fun i a a' ha ha' => ?_⟩
      cases i with
      | zero => simp at ha ha'; subst ha; subst ha'; exact h1
      | succ i => exact h2 i a a' (by simpa using ha) (by simpa using ha')
theorem slot3K_sound {ρ : Rho} {s s' : SV} {k : Prop} (h : slot3K ρ s s' k) : k ∧ SlotTie ρ s s' := by
  cases s' with
  | tup cs' =>
    cases s with
    | tup cs =>
      obtain ⟨h, hl, hc⟩ := slots2K_sound cs (show slots2K ρ cs cs' k from h)
      refine ⟨h, fun w E E' σ σ' v ht hE hr => ?_⟩
      cases hr with
      | tup hlen hcs =>
        refine .tup (hl ▸ hlen) fun i s v hs hv => ?_
        have hi : i < cs.length := by rw [hl]; exact (List.getElem?_eq_some_iff.1 hs).1
        exact hc i _ s (List.getElem?_eq_getElem hi) hs w E E' σ σ' v ht hE (hcs i _ v (List.getElem?_eq_getElem hi) hv)
    | _ => exact h.elim
  | _ => exact slot2K_sound h

/-- What a function hands back and leaves, told in fewer words: some (value, blocks) that the real ones come to, of which R holds. -/
structure OutG (m : Nat) (s : SV) (h : Hp) (R : SV → Hp → Prop) : Prop where
  ok : ∃ s' h', R s' h' ∧ ∀ (w : World) (X : Nat → Prop) (σ : Sg) (v : Value), Inv w X σ h → Rep w (Ex X σ) σ s v → ∃ σ', Inv w X σ' h' ∧ Rep w (Ex X σ') σ' s' v ∧ Step m w σ w σ'
theorem OutG.of {m : Nat} {s : SV} {h : Hp} {R : SV → Hp → Prop} (ρ : Rho) (s' : SV) (h' : Hp) (hρ : rhoB m ρ = true) (hR : R s' h') (hk : slot3K ρ s s' (blksK ρ h ρ h' True)) : OutG m s h R := by
  obtain ⟨hk, hs⟩ := slot3K_sound hk
  refine ⟨s', h', hR, fun w X σ v hI hr => ?_⟩
  obtain ⟨σ', hI', hS, hties, hE⟩ := shift_sg ρ hρ hk hI
  exact ⟨σ', hI', hs w _ _ σ σ' v hties hE hr, hS⟩

theorem GSpec.of_code (hT : TabOK P T) {f : FuncId} {fn : Func} {c : Code} {args : List SV} {hin : Hp} {R : SV → Hp → Prop} (hf : P.funcs[f]? = some fn) (hn : (fn.name == "runtime.NumGoroutine") = false)
    (hb : fn.body = some c) (hk : startK args fn.ntmps fun F => codeK P T hin.length c F hin (retK T fn fun s h' => OutG hin.length s h' R)) : GSpec P f args hin R :=
  ⟨⟨fun w X σ vs hI hr => ((CallG.of_code hT hf hn hb hk).ok w X σ vs hI hr).mono fun v w' ⟨s, h', σ', ho, hrep, hI', hS⟩ => by
    obtain ⟨s', h'', hR, hgo⟩ := ho.ok
    obtain ⟨σ'', hI'', hrep', hS'⟩ := hgo w' X σ' v hI' hrep
    have hl : σ.length = hin.length := hI.len
    exact ⟨s', h'', σ'', hR, hrep', hI'', hS.trans (by rw [hl]; exact hS')⟩⟩⟩
theorem GSpec.mono {f : FuncId} {args : List SV} {hin : Hp} {R R' : SV → Hp → Prop} (hs : GSpec P f args hin R) (hr : ∀ s h, R s h → R' s h) : GSpec P f args hin R' :=
  ⟨⟨fun w X σ vs hI hrp => (hs.ok.ok w X σ vs hI hrp).mono fun _ _ ⟨s, ho, σ', h1, h2⟩ => ⟨s, ho, σ', hr _ _ h1, h2⟩⟩⟩

/-! ### a shift ahead of a drawn region, a loop, a call -/
theorem SOK.shift {m : Nat} {c : Code} {F F' : Fr} {h h' : Hp} {K : Post} (hs : Shift m F h F' h') (hk : SOK P m c F' h' K) : SOK P m c F h K := fun w X σ tmps hI hF => by
  obtain ⟨σ', hI', hF', hS⟩ := hs.ok w X σ tmps hI hF
  refine wp_mono (hk w X σ' tmps hI' hF') fun e a w' ⟨hd, x, F2, h2, σ2, hx, hK, hI2, hF2, hS2⟩ => ⟨hd, x, F2, h2, σ2, hx, hK, hI2, hF2, hS.trans hS2⟩
theorem DrawG.freeze {m id : Nat} {ops : Array Oper} {F : Fr} {h : Hp} {K : Fr → Hp → Prop} (b : Nat) (hk : frzK m b F h fun F' h' => DrawG P m id ops F' h' K) : DrawG P m id ops F h K := by
  obtain ⟨F', h', hs, hk⟩ := frz_sound hk
  exact ⟨.shift hs hk.ok⟩
theorem LoopG.freeze {m : Nat} {c : Code} {F : Fr} {h : Hp} {K : Post} (b : Nat) (hk : frzK m b F h fun F' h' => LoopG P m c F' h' K) : LoopG P m c F h K := by
  obtain ⟨F', h', hs, hk⟩ := frz_sound hk
  exact ⟨.shift hs hk.ok⟩

/-- An element of a row that is told by a list. -/
theorem el_map {α : Type} {f : α → List SV} {ls : List α} {i : Nat} {k : List SV → Prop} (hi : i < ls.length) (h : ∀ x, ls[i]? = some x → k (f x)) : ElG (ls.map f) i k :=
  ⟨f ls[i], by simp [hi], h _ (List.getElem?_eq_getElem hi)⟩
end
end Go.Sx

/- Loops whose ways out come together. No statement of the seat is proved here. -/
namespace Go.Sx
section
variable {P : Program} {T : Tab}

def LPostE {α β : Type} (m n : Nat) (sp : α → List (Nat × SV)) (hx : α → Hp) (μ : α → Nat) (x : α) (id : Nat) (spE : β → List (Nat × SV)) (hE : β → Hp) (K : Post) : Post := fun e F h => match e with
  | .normal => ∃ x', μ x' < μ x ∧ HeadG m F h n (sp x') (hx x')
  | .exit i => i = id ∧ ∃ y, HeadG m F h n (spE y) (hE y)
  | .ret => XG m F h (K .ret)
/-- A LOOP, by what holds at its head and what holds behind it. -/
theorem LoopG.invE (hT : TabOK P T) {α β : Type} {m : Nat} {c : Code} {F : Fr} {h : Hp} {K : Post} (n : Nat) (sp : α → List (Nat × SV)) (hx : α → Hp) (μ : α → Nat) (x0 : α) (id : Nat) (spE : β → List (Nat × SV)) (hE : β → Hp)
    (hs : HeadG m F h n (sp x0) (hx x0)) (body : ∀ x, frmK n (sp x) fun F => codeK P T m c F (hx x) (LPostE m n sp hx μ x id spE hE K)) (rest : ∀ y, frmK n (spE y) fun F => K (.exit id) F (hE y)) : LoopG P m c F h K :=
  ⟨SOK.loop sp hx μ x0 hs.ok fun x => (codeK_sound hT c (frmK_sound (body x))).mono fun e F h hp => by
    cases e with
    | normal => exact hp
    | exit i =>
      obtain ⟨rfl, y, hy⟩ := hp
      exact ⟨_, _, hy.ok, frmK_sound (rest y)⟩
    | ret => exact hp⟩
end
end Go.Sx

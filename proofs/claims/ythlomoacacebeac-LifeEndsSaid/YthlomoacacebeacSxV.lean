/- Rows that are given away; what a function hands back. No statement of the seat is proved here. -/
import Derived.Test.YthlomoacacebeacSxU
namespace Go.Sx
section
variable {P : Program} {T : Tab}

def FreeBlk (b : Blk) : Prop := match b with | .fix _ cs => ∀ s ∈ cs, FreeSV s | .fresh => False | _ => True

theorem BlkOK.free {w : World} {E E' : Nat → Prop} {σ σ' : Sg} {b : Blk} {e : Ent} (h : BlkOK w E σ b e) (hb : FreeBlk b) (hE : ∀ g, E' g → E g) : BlkOK w E' σ' b e := by
  cases b <;> cases e <;> simp only [BlkOK] at h ⊢
  case fix.fix =>
    obtain ⟨vs, h1, h2, h3⟩ := h
    exact ⟨vs, h1, h2, fun i s v hs hv => ⟨(hb s (List.mem_of_getElem? hs) w E σ [] v (h3 i s v hs hv).1).le hE σ', (h3 i s v hs hv).2⟩⟩
  case row.row =>
    obtain ⟨h1, h2, h3, h4, vs, h5, h6, h7⟩ := h
    refine ⟨h1, h2, h3, h4, vs, h5, h6, fun i e he => ⟨(h7 i e he).1, fun j s hs => ?_⟩⟩
    obtain ⟨v, a, b, c⟩ := (h7 i e he).2 j s hs
    exact ⟨v, a, b.le hE [], c⟩
  all_goals exact h
theorem BlkOK.le {w : World} {E E' : Nat → Prop} {σ σ' : Sg} {b : Blk} {e : Ent} (h : BlkOK w E σ b e) (hE : ∀ g, E' g → E g)
    (hσ : ∀ (i : Nat) (e : Ent), σ[i]? = some e → e ≠ .fresh → σ'[i]? = some e ∨ σ'[i]? = some .dead) : BlkOK w E' σ' b e := by
  cases b <;> cases e <;> simp only [BlkOK] at h ⊢
  case fix.fix =>
    obtain ⟨vs, h1, h2, h3⟩ := h
    exact ⟨vs, h1, h2, fun i s v hs hv => ⟨(h3 i s v hs hv).1.mono σ' (fun _ _ _ => rfl) (Nat.le_refl _) (fun g _ hn h => hn (hE g h)) hσ, (h3 i s v hs hv).2⟩⟩
  case row.row =>
    obtain ⟨h1, h2, h3, h4, vs, h5, h6, h7⟩ := h
    refine ⟨h1, h2, h3, h4, vs, h5, h6, fun i e he => ⟨(h7 i e he).1, fun j s hs => ?_⟩⟩
    obtain ⟨v, a, b, c⟩ := (h7 i e he).2 j s hs
    exact ⟨v, a, b.le hE [], c⟩
  all_goals exact h

/-- The elements of a row, once nobody owns it. -/
theorem rs_of_row {w : World} {E E' : Nat → Prop} {σ σ' : Sg} {t : TypeId} {z : Nat} {es : List (List SV)} {b : Nat} {e : Ent} {v : Value} (hσ : σ[b]? = some e) (hok : BlkOK w E σ (.row t z es) e)
    (hle : ∀ g, E' g → E g) (hE : ∀ g, e.blk = some g → ¬ E' g) (hlt : ∀ g, e.blk = some g → g < w.heap.size) (hr : Rep w E σ (.sl b) v) : Rep w E' σ' (.rs z es) v := by
  cases hr with
  | @sl _ _ g sz n cap hs =>
    rw [hσ] at hs
    simp at hs
    subst hs
    obtain ⟨h1, h2, h3, h4, vs, h5, h6, h7⟩ := hok
    subst h1; subst h2
    refine .rs (val := fun i j => (vs[i * sz + j]?).getD Go.undef) h3 h4 (hE g rfl) (hlt g rfl) (fun i e he => (h7 i e he).1) (fun i e j s he hs => ?_) (fun i e j s he hs => ?_) (fun i e j s he hs => ?_)
    all_goals obtain ⟨v, a, b, c⟩ := (h7 i e he).2 j s hs
    · obtain ⟨fr, h5, _⟩ := h5; rw [cell_at h5, Nat.zero_add, a]; rfl
    · rw [a]; exact c
    · rw [a]; exact b.le hle []
  | slN hs =>
    rw [hσ] at hs
    simp at hs
    subst hs
    have : es = [] := hok
    subst this
    exact .rs0 (Nat.zero_le _)
  | slD hs =>
    rw [hσ] at hs
    simp at hs
    subst hs
    exact hok.elim

theorem Inv.kill {w : World} {X : Nat → Prop} {σ : Sg} {h : Hp} (hI : Inv w X σ h) (m b : Nat) :
    Inv w X (σ.set b .dead) (h.set b .dead) ∧ Step m w σ w (σ.set b .dead) ∧ (∀ g, Owned (σ.set b .dead) g → ∃ i e, i ≠ b ∧ σ[i]? = some e ∧ e.blk = some g) := by
  have hget : ∀ (i : Nat) (e : Ent), (σ.set b .dead)[i]? = some e → (i = b ∧ e = .dead) ∨ (i ≠ b ∧ σ[i]? = some e) := by
    intro i e he
    rw [List.getElem?_set] at he
    by_cases hib : b = i
    · rw [if_pos hib] at he
      split at he
      · simp at he; exact .inl ⟨hib.symm, he.symm⟩
      · simp at he
    · rw [if_neg hib] at he; exact .inr ⟨fun e => hib e.symm, he⟩
  have hown : ∀ g, Owned (σ.set b .dead) g → ∃ i e, i ≠ b ∧ σ[i]? = some e ∧ e.blk = some g := by
    rintro g ⟨i, e, he, hg⟩
    rcases hget i e he with ⟨_, rfl⟩ | ⟨h1, h2⟩
    · simp [Ent.blk] at hg
    · exact ⟨i, e, h1, h2, hg⟩
  have hE : ∀ g, Ex X (σ.set b .dead) g → Ex X σ g := fun g hx => hx.elim .inl fun ho => by
    obtain ⟨i, e, _, he, hg⟩ := hown g ho
    exact .inr ⟨i, e, he, hg⟩
  have hkeep : ∀ (i : Nat) (e : Ent), σ[i]? = some e → e ≠ .fresh → (σ.set b .dead)[i]? = some e ∨ (σ.set b .dead)[i]? = some .dead := by
    intro i e he _
    rw [List.getElem?_set]
    by_cases hib : b = i
    · rw [if_pos hib, if_pos (by rw [hib]; exact (List.getElem?_eq_some_iff.1 he).1)]; exact .inr rfl
    · rw [if_neg hib]; exact .inl he
  refine ⟨⟨by simp [hI.len], fun i bl e hb he => ?_, fun i e g he hg => ?_, fun i j e e' g hi hj hg hg' => ?_, fun g hx ho => ?_, hI.xlt⟩, ⟨rfl, rfl, rfl, Nat.le_refl _, fun _ _ _ => rfl, fun g ho _ => ?_, fun i e _ he hf => hkeep i e he hf⟩, hown⟩
  · rcases hget i e he with ⟨rfl, rfl⟩ | ⟨h1, h2⟩
    · rw [List.getElem?_set, if_pos rfl] at hb
      split at hb
      · simp at hb; subst hb; trivial
      · simp at hb
    · rw [List.getElem?_set, if_neg (fun e => h1 e.symm)] at hb
      exact (hI.ok i bl e hb h2).le hE hkeep
  · rcases hget i e he with ⟨_, rfl⟩ | ⟨_, h2⟩
    · simp [Ent.blk] at hg
    · exact hI.lt i e g h2 hg
  · rcases hget i e hi with ⟨_, rfl⟩ | ⟨_, h2⟩
    · simp [Ent.blk] at hg
    · rcases hget j e' hj with ⟨_, rfl⟩ | ⟨_, h3⟩
      · simp [Ent.blk] at hg'
      · exact hI.inj i j e e' g h2 h3 hg hg'
  · obtain ⟨i, e, _, he, hg⟩ := hown g ho
    exact hI.dis g hx ⟨i, e, he, hg⟩
  · obtain ⟨i, e, _, he, hg⟩ := hown g ho
    exact ⟨i, e, he, hg⟩

theorem frz_sound {m b : Nat} {F : Fr} {h : Hp} {K : Fr → Hp → Prop} (hk : frzK m b F h K) : ∃ F' h', Shift m F h F' h' ∧ K F' h' := by
  obtain ⟨_, hk⟩ := leNK_sound hk
  obtain ⟨blk, hb, hk⟩ := nthK_sound hk
  cases blk with
  | row t z es =>
    obtain ⟨hlt, hk⟩ := setK_sound (show setK h b .dead _ from hk)
    obtain ⟨F', hk, hl, hF'⟩ := mapSlK_sound F hk
    refine ⟨F', _, ⟨fun w X σ tmps hI hF => ?_⟩, hk⟩
    obtain ⟨hI', hS, hown⟩ := hI.kill m b
    have hσb : σ[b]? = some (σ[b]'(by rw [hI.len]; exact hlt)) := List.getElem?_eq_getElem _
    have hE : ∀ g, Ex X (σ.set b .dead) g → Ex X σ g := fun g hx => hx.elim .inl fun ho => by
      obtain ⟨i, e, _, he, hg⟩ := hown g ho
      exact .inr ⟨i, e, he, hg⟩
    refine ⟨_, hI', ⟨by rw [hl]; exact hF.1, fun i s v hs hv => ?_⟩, hS⟩
    have hi : i < F.length := by rw [← hl]; exact (List.getElem?_eq_some_iff.1 hs).1
    have hr := hF.2 i _ v (List.getElem?_eq_getElem hi) hv
    rcases hF' i _ s (List.getElem?_eq_getElem hi) hs with ⟨e1, e2⟩ | e1
    · subst e2
      rw [e1] at hr
      refine rs_of_row hσb (hI.ok b _ _ hb hσb) hE (fun g hg hx => ?_) (fun g hg => hI.lt b _ g hσb hg) hr
      rcases hx with hx | ho
      · exact hI.dis g hx ⟨b, _, hσb, hg⟩
      · obtain ⟨j, e, hne, he, hg'⟩ := hown g ho
        exact hne (hI.inj j b e _ g he hσb hg' hg)
    · rw [← e1]
      exact hr.mono _ (fun _ _ _ => rfl) (Nat.le_refl _) (fun g _ hn h => hn (hE g h)) (fun j e he hf => by
        rw [List.getElem?_set]
        by_cases hjb : b = j
        · rw [if_pos hjb, if_pos (by rw [hjb]; exact (List.getElem?_eq_some_iff.1 he).1)]; exact .inr rfl
        · rw [if_neg hjb]; exact .inl he)
  | _ => exact hk.elim
theorem XG.freeze {m : Nat} {F : Fr} {h : Hp} {K : Fr → Hp → Prop} (b : Nat) (hk : frzK m b F h fun F' h' => XG m F' h' K) : XG m F h K := by
  obtain ⟨F', h', hs, hk⟩ := frz_sound hk
  exact hk.step hs

/-! ### what a function hands back -/
def ToR (k : Nat) (h : Hp) (s s' : SV) : Prop := ∀ (w : World) (X : Nat → Prop) (σ : Sg) (E' : Nat → Prop) (v : Value), Inv w X σ h → (∀ g, E' g → Ex X σ g) →
  (∀ (i : Nat) (e : Ent) (g : Nat), k ≤ i → σ[i]? = some e → e.blk = some g → ¬ E' g) → Rep w (Ex X σ) σ s v → Rep w E' [] s' v
theorem ToR.of_free {k : Nat} {h : Hp} {s s' : SV} (hf : ∀ w E σ v, Rep w E σ s v → Rep w E [] s' v) : ToR k h s s' := fun w _ σ _ v _ hE _ hr => (hf w _ σ v hr).le hE []

def out1HK (k : Nat) (h : Hp) (s : SV) (K : SV → Prop) : Prop :=
  match s with
  | .sl b => leNK k b (nthK h b fun blk => match blk with | .row _ z es => K (.rs z es) | _ => False)
  | .tt => K (.bool true) | .ff => K (.bool false) | .bool b => K (.bool b)
  | .int q n => K (.int q n) | .str s => K (.str s) | .nilp => K .nilp | .nils => K .nils | .rs z es => K (.rs z es) | .rp z es i f => K (.rp z es i f)
  | _ => False
noncomputable def outs1HK (k : Nat) (h : Hp) (l : List SV) : (List SV → Prop) → Prop :=
  List.rec (motive := fun _ => (List SV → Prop) → Prop) (fun K => K []) (fun x _ ih K => out1HK k h x fun y => ih fun r => K (y :: r)) l
noncomputable def out2HK (k : Nat) (h : Hp) (s : SV) (K : SV → Prop) : Prop :=
  match s with
  | .agg cs => outs1HK k h cs fun c => K (.agg c)
  | s => out1HK k h s K
noncomputable def outs2HK (k : Nat) (h : Hp) (l : List SV) : (List SV → Prop) → Prop :=
  List.rec (motive := fun _ => (List SV → Prop) → Prop) (fun K => K []) (fun x _ ih K => out2HK k h x fun y => ih fun r => K (y :: r)) l
noncomputable def outHK (k : Nat) (h : Hp) (s : SV) (K : SV → Prop) : Prop :=
  match s with
  | .tup vs => outs2HK k h vs fun l => K (.tup l)
  | s => out2HK k h s K

theorem out1HK_sound {k : Nat} {h : Hp} {s : SV} {K : SV → Prop} (hk : out1HK k h s K) : ∃ s', K s' ∧ ToR k h s s' ∧ FreeSV s' := by
  unfold out1HK at hk
  split at hk
  case h_1 b =>
    obtain ⟨hkb, hk⟩ := leNK_sound hk
    obtain ⟨blk, hb, hk⟩ := nthK_sound hk
    cases blk with
    | row t z es =>
      refine ⟨_, hk, fun w X σ E' v hI hE hno hr => ?_, fun w E σ σ' v hr => by cases hr <;> constructor <;> assumption⟩
      have hlt : b < σ.length := by rw [hI.len]; exact (List.getElem?_eq_some_iff.1 hb).1
      have hσb : σ[b]? = some σ[b] := List.getElem?_eq_getElem hlt
      exact rs_of_row hσb (hI.ok b _ _ hb hσb) hE (fun g hg => hno b _ g hkb hσb hg) (fun g hg => hI.lt b _ g hσb hg) hr
    | _ => exact hk.elim
  all_goals first
    | exact hk.elim
    | exact ⟨_, hk, .of_free fun w E σ v hr => by (cases hr <;> first | (constructor; done) | (constructor <;> assumption)), fun w E σ σ' v hr => by (cases hr <;> first | (constructor; done) | (constructor <;> assumption))⟩
def ToRL (k : Nat) (h : Hp) (l l' : List SV) : Prop := l.length = l'.length ∧ ∀ (i : Nat) (s s' : SV), l[i]? = some s → l'[i]? = some s' → ToR k h s s'
theorem outs_sound {k : Nat} {h : Hp} {f : SV → (SV → Prop) → Prop} (hf : ∀ {s : SV} {K : SV → Prop}, f s K → ∃ s', K s' ∧ ToR k h s s' ∧ FreeSV s') (l : List SV) : ∀ {K : List SV → Prop},
    List.rec (motive := fun _ => (List SV → Prop) → Prop) (fun K => K []) (fun x _ ih K => f x fun y => ih fun r => K (y :: r)) l K → ∃ l', K l' ∧ ToRL k h l l' ∧ ∀ s ∈ l', FreeSV s := by
  induction l with
  | nil => intro K h; exact ⟨[], h, ⟨rfl, by simp⟩, by simp⟩
  | cons x l ih =>
    intro K h
    obtain ⟨y, h, hy, hfy⟩ := hf h
    obtain ⟨l', h, ⟨hl, hl'⟩, hfl⟩ := ih h
    refine ⟨y :: l', h, ⟨by simp [hl], fun i s s' hs hs' => ?_⟩, fun s hs => ?_⟩
    · cases i with
      | zero => simp at hs hs'; subst hs; subst hs'; exact hy
      | succ i => exact hl' i s s' (by simpa using hs) (by simpa using hs')
    · rcases List.mem_cons.1 hs with rfl | hs
      · exact hfy
      · exact hfl s hs
theorem out2HK_sound {k : Nat} {h : Hp} {s : SV} {K : SV → Prop} (hk : out2HK k h s K) : ∃ s', K s' ∧ ToR k h s s' ∧ FreeSV s' := by
  cases s with
  | agg cs =>
    obtain ⟨l, hk, ⟨hl, hto⟩, hfr⟩ := outs_sound out1HK_sound cs (show outs1HK k h cs _ from hk)
    refine ⟨_, hk, fun w X σ E' v hI hE hno hr => ?_, fun w E σ σ' v hr => ?_⟩
    · cases hr with
      | agg hl' ho hc =>
        refine .agg (hl ▸ hl') ho fun i s v hs hv => ?_
        have hi : i < cs.length := by rw [hl]; exact (List.getElem?_eq_some_iff.1 hs).1
        exact hto i _ s (List.getElem?_eq_getElem hi) hs w X σ E' v hI hE hno (hc i _ v (List.getElem?_eq_getElem hi) hv)
    · cases hr with
      | agg hl' ho hc => exact .agg hl' ho fun i s v hs hv => hfr s (List.mem_of_getElem? hs) w E σ σ' v (hc i s v hs hv)
  | _ => exact out1HK_sound hk
theorem outHK_sound {k : Nat} {h : Hp} {s : SV} {K : SV → Prop} (hk : outHK k h s K) : ∃ s', K s' ∧ ToR k h s s' ∧ FreeSV s' := by
  cases s with
  | tup cs =>
    obtain ⟨l, hk, ⟨hl, hto⟩, hfr⟩ := outs_sound out2HK_sound cs (show outs2HK k h cs _ from hk)
    refine ⟨_, hk, fun w X σ E' v hI hE hno hr => ?_, fun w E σ σ' v hr => ?_⟩
    · cases hr with
      | tup hl' hc =>
        refine .tup (hl ▸ hl') fun i s v hs hv => ?_
        have hi : i < cs.length := by rw [hl]; exact (List.getElem?_eq_some_iff.1 hs).1
        exact hto i _ s (List.getElem?_eq_getElem hi) hs w X σ E' v hI hE hno (hc i _ v (List.getElem?_eq_getElem hi) hv)
    · cases hr with
      | tup hl' hc => exact .tup hl' fun i s v hs hv => hfr s (List.mem_of_getElem? hs) w E σ σ' v (hc i s v hs hv)
  | _ => exact out2HK_sound hk
end
end Go.Sx

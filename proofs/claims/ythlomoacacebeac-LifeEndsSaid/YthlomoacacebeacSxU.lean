/- The shift is sound; a row that nobody writes any more. No statement of the seat is proved here. -/
import Derived.Test.YthlomoacacebeacSxT
namespace Go.Sx
section
variable {P : Program} {T : Tab}

theorem Rep.le {w : World} {E E' : Nat → Prop} {s : SV} {v : Value} (h : Rep w E [] s v) (hE : ∀ g, E' g → E g) (σ' : Sg) : Rep w E' σ' s v :=
  h.mono σ' (fun _ _ _ => rfl) (Nat.le_refl _) (fun g _ hn h => hn (hE g h)) (by simp)

/-- What is said of one target block. -/
def BlkTie (ρ : Rho) (h : Hp) (r : Option Nat) (b' : Blk) : Prop :=
  ∀ (w : World) (E E' : Nat → Prop) (σ σ' : Sg), σ.length = h.length → Ties σ σ' ρ → (∀ g, E' g → E g) → (∀ (i : Nat) (b : Blk) (e : Ent), h[i]? = some b → σ[i]? = some e → BlkOK w E σ b e) → BlkOK w E' σ' b' (entOf σ r b')
/-- An entry that is taken over is none of a block yet to come. -/
def BlkSrc (h : Hp) (r : Option Nat) (b' : Blk) : Prop := (∃ (j : Nat) (b : Blk), r = some j ∧ h[j]? = some b ∧ b ≠ .fresh) ∨ b' = .dead ∨ (r = none ∧ b' ≠ .fresh)

theorem blksK_sound {ρ : Rho} {h : Hp} (r : Rho) : ∀ {h' : Hp} {k : Prop}, blksK ρ h r h' k → k ∧ r.length = h'.length ∧
    ∀ (i : Nat) (x : Option Nat) (b' : Blk), r[i]? = some x → h'[i]? = some b' → BlkTie ρ h x b' ∧ BlkSrc h x b' := by
  induction r with
  | nil =>
    intro h' k hk
    cases h' with
    | nil => exact ⟨hk, rfl, by simp⟩
    | cons b t => exact hk.elim
  | cons x r ih =>
    intro h' k hk
    cases h' with
    | nil => exact hk.elim
    | cons b' t =>
      have key : blksK ρ h r t k ∧ BlkTie ρ h x b' ∧ BlkSrc h x b' := by
        cases b' with
        | dead => exact ⟨hk, fun _ _ _ _ _ _ _ _ _ => by cases x <;> trivial, .inr (.inl rfl)⟩
        | fresh => exact False.elim (by cases x <;> exact hk)
        | row t0 z es' =>
          cases x with
          | none =>
            obtain ⟨e, hk⟩ := (show es' = [] ∧ blksK ρ h r t k from hk)
            exact ⟨hk, fun _ _ _ _ _ _ _ _ _ => e, .inr (.inr ⟨rfl, by simp⟩)⟩
          | some j =>
            obtain ⟨b, hb, hk⟩ := nthK_sound (show nthK h j _ from hk)
            cases b with
            | row t1 z1 es =>
              obtain ⟨e1, hk⟩ := eqNK_sound hk
              obtain ⟨e2, e3, hk2⟩ := eqNK_sound hk
              subst e1; subst e2; subst e3
              refine ⟨hk2, fun w E E' σ σ' hl ht hE hall => ?_, .inl ⟨j, _, rfl, hb, by simp⟩⟩
              have hlt : j < σ.length := by rw [hl]; exact (List.getElem?_eq_some_iff.1 hb).1
              have he : σ[j]? = some (σ.getD j .dead) := by simp [List.getD, List.getElem?_eq_getElem hlt]
              have := hall j _ _ hb he
              show BlkOK w E' σ' _ (σ.getD j .dead)
              revert this
              generalize σ.getD j .dead = e
              intro this
              cases e <;> simp only [BlkOK] at this ⊢
              case row g sz n cap =>
                obtain ⟨h1, h2, h3, h4, vs, h5, h6, h7⟩ := this
                refine ⟨h1, h2, h3, h4, vs, h5, h6, fun i e he => ⟨(h7 i e he).1, fun j s hs => ?_⟩⟩
                obtain ⟨v, a, b, c⟩ := (h7 i e he).2 j s hs
                exact ⟨v, a, b.le hE [], c⟩
              case rownil => exact this
            | _ => exact hk.elim
        | fix t0 cs' =>
          cases x with
          | none => exact hk.elim
          | some j =>
            obtain ⟨b, hb, hk⟩ := nthK_sound (show nthK h j _ from hk)
            cases b with
            | fix t1 cs =>
              obtain ⟨e1, hk⟩ := eqNK_sound hk
              obtain ⟨hk2, hlen, hs⟩ := slotsK_sound cs hk
              subst e1
              refine ⟨hk2, fun w E E' σ σ' hl ht hE hall => ?_, .inl ⟨j, _, rfl, hb, by simp⟩⟩
              have hlt : j < σ.length := by rw [hl]; exact (List.getElem?_eq_some_iff.1 hb).1
              have he : σ[j]? = some (σ.getD j .dead) := by simp [List.getD, List.getElem?_eq_getElem hlt]
              have := hall j _ _ hb he
              show BlkOK w E' σ' _ (σ.getD j .dead)
              revert this
              generalize σ.getD j .dead = e
              intro this
              cases e <;> simp only [BlkOK] at this ⊢
              case fix g =>
                obtain ⟨vs, h1, h2, h3⟩ := this
                refine ⟨vs, h1, by rw [← hlen]; exact h2, fun i s v hs' hv => ?_⟩
                have hi : i < cs.length := by rw [hlen]; exact (List.getElem?_eq_some_iff.1 hs').1
                obtain ⟨a, b⟩ := h3 i _ v (List.getElem?_eq_getElem hi) hv
                exact ⟨hs w E E' σ σ' ht hE i _ s v (List.getElem?_eq_getElem hi) hs' a, b⟩
            | _ => exact hk.elim
      obtain ⟨hk, ht⟩ := key
      obtain ⟨hk, hl, hr⟩ := ih hk
      refine ⟨hk, by simp [hl], fun i y b hy hb => ?_⟩
      cases i with
      | zero => simp at hy hb; subst hy; subst hb; exact ht
      | succ i => exact hr i y b (by simpa using hy) (by simpa using hb)

theorem rhoB_spec {m : Nat} {ρ : Rho} (h : rhoB m ρ = true) : (∀ i, i < m → ρ[i]? = some (some i)) ∧ ∀ (i j k : Nat), ρ[i]? = some (some k) → ρ[j]? = some (some k) → i = j := by
  simp only [rhoB, Bool.and_eq_true, List.all_eq_true, List.mem_range, beq_iff_eq, Bool.or_eq_true, Bool.not_eq_true', beq_eq_false_iff_ne] at h
  refine ⟨h.1, fun i j k hi hj => ?_⟩
  rcases h.2 i (List.getElem?_eq_some_iff.1 hi).1 j (List.getElem?_eq_some_iff.1 hj).1 with (h1 | h1) | h1
  · exact h1
  · rw [hi] at h1; simp at h1
  · exact absurd (by rw [hi, hj]) h1

theorem shift_sg {m : Nat} {h h' : Hp} (ρ : Rho) (hρ : rhoB m ρ = true) (hk : blksK ρ h ρ h' True) {w : World} {X : Nat → Prop} {σ : Sg} (hI : Inv w X σ h) :
    ∃ σ', Inv w X σ' h' ∧ Step m w σ w σ' ∧ Ties σ σ' ρ ∧ ∀ g, Ex X σ' g → Ex X σ g := by
  obtain ⟨_, hrl, hblks⟩ := blksK_sound ρ hk
  obtain ⟨hm, hinj⟩ := rhoB_spec hρ
  have hsl : (sgOf σ ρ h').length = h'.length := by simp [sgOf, hrl]
  have hget : ∀ (i : Nat) (x : Option Nat) (b' : Blk), ρ[i]? = some x → h'[i]? = some b' → (sgOf σ ρ h')[i]? = some (entOf σ x b') := by
    intro i x b' hx hb
    simp [sgOf, List.getElem?_zipWith, hx, hb]
  have hinv : ∀ (i : Nat) (e : Ent), (sgOf σ ρ h')[i]? = some e → ∃ x b', ρ[i]? = some x ∧ h'[i]? = some b' ∧ e = entOf σ x b' := by
    intro i e he
    have hi : i < h'.length := by rw [← hsl]; exact (List.getElem?_eq_some_iff.1 he).1
    have hi' : i < ρ.length := by rw [hrl]; exact hi
    have := hget i _ _ (List.getElem?_eq_getElem hi') (List.getElem?_eq_getElem hi)
    rw [this] at he
    exact ⟨_, _, List.getElem?_eq_getElem hi', List.getElem?_eq_getElem hi, (Option.some.inj he).symm⟩
  have hcase : ∀ (x : Option Nat) (b' : Blk) (g : Nat), (entOf σ x b').blk = some g → ∃ j, x = some j ∧ σ[j]? = some (entOf σ x b') := by
    intro x b' g hg
    cases x with
    | none => cases b' <;> simp [entOf, Ent.blk] at hg
    | some j =>
      refine ⟨j, rfl, ?_⟩
      have e1 : entOf σ (some j) b' = σ.getD j .dead := by
        cases b' <;> first | rfl | (simp [entOf, Ent.blk] at hg)
      rw [e1] at hg ⊢
      cases hj : σ[j]? with
      | none => simp [List.getD, hj, Ent.blk] at hg
      | some e => simp [List.getD, hj]
  have hties : Ties σ (sgOf σ ρ h') ρ := by
    refine ⟨fun b j e hb he hf => ?_, fun b hb => ?_⟩
    · have hi : b < h'.length := by rw [← hrl]; exact (List.getElem?_eq_some_iff.1 hb).1
      have := hget b _ _ hb (List.getElem?_eq_getElem hi)
      rw [this]
      cases h'[b] <;> simp [entOf, List.getD, he]
    · have hi : b < h'.length := by rw [← hrl]; exact (List.getElem?_eq_some_iff.1 hb).1
      have := hget b _ _ hb (List.getElem?_eq_getElem hi)
      rw [this]
      cases h'[b] <;> simp [entOf]
  have hown : ∀ g, Owned (sgOf σ ρ h') g → Owned σ g := by
    rintro g ⟨i, e, he, hg⟩
    obtain ⟨x, b', _, _, rfl⟩ := hinv i e he
    obtain ⟨j, _, hj⟩ := hcase x b' g hg
    exact ⟨j, _, hj, hg⟩
  have hE : ∀ g, Ex X (sgOf σ ρ h') g → Ex X σ g := fun g h => h.elim .inl fun h => .inr (hown g h)
  refine ⟨sgOf σ ρ h', ⟨hsl, fun i b e hb he => ?_, fun i e g he hg => ?_, fun i j e e' g hi hj hg hg' => ?_, fun g hx ho => hI.dis g hx (hown g ho), hI.xlt⟩,
    ⟨rfl, rfl, rfl, Nat.le_refl _, fun _ _ _ => rfl, fun g ho _ => hown g ho, fun i e hi he hf => ?_⟩, hties, hE⟩
  · obtain ⟨x, b', hx, hb', rfl⟩ := hinv i e he
    rw [hb] at hb'
    simp at hb'
    subst hb'
    exact (hblks i x b hx hb).1 w _ _ σ _ hI.len hties hE hI.ok
  · obtain ⟨x, b', _, _, rfl⟩ := hinv i e he
    obtain ⟨j, _, hj⟩ := hcase x b' g hg
    exact hI.lt j _ g hj hg
  · obtain ⟨x, b', hx, _, rfl⟩ := hinv i e hi
    obtain ⟨y, c', hy, _, rfl⟩ := hinv j e' hj
    obtain ⟨k, rfl, hk⟩ := hcase x b' g hg
    obtain ⟨l, rfl, hl⟩ := hcase y c' g hg'
    have := hI.inj k l _ _ g hk hl hg hg'
    subst this
    exact hinj i j k hx hy
  · exact hties.ref i i e (hm i hi) he hf
theorem Shift.of {m : Nat} {F F' : Fr} {h h' : Hp} (ρ : Rho) (hρ : rhoB m ρ = true) (hk : shiftK ρ F h F' h') : Shift m F h F' h' := by
  obtain ⟨hk, hlen, hslots⟩ := slotsK_sound F hk
  refine ⟨fun w X σ tmps hI hF => ?_⟩
  obtain ⟨σ', hI', hS, hties, hE⟩ := shift_sg ρ hρ hk hI
  refine ⟨σ', hI', ⟨hlen ▸ hF.1, fun i s v hs hv => ?_⟩, hS⟩
  have hi : i < F.length := by rw [hlen]; exact (List.getElem?_eq_some_iff.1 hs).1
  exact hslots w _ _ σ _ hties hE i _ s v (List.getElem?_eq_getElem hi) hs (hF.2 i _ v (List.getElem?_eq_getElem hi) hv)

theorem HeadG.of {m n : Nat} {F : Fr} {h : Hp} {sp : List (Nat × SV)} {h' : Hp} (ρ : Rho) (hρ : rhoB m ρ = true) (hk : frmK n sp fun F' => shiftK ρ F h F' h') : HeadG m F h n sp h' :=
  ⟨.of ρ hρ (frmK_sound hk)⟩

/-! ### a row that nobody writes any more -/
noncomputable def mapSlK (b : Nat) (s : SV) (F : Fr) : (Fr → Prop) → Prop :=
  List.rec (motive := fun _ => (Fr → Prop) → Prop) (fun k => k []) (fun x _ ih k => match x with
    | .sl b' => match Nat.beq b' b with
      | true => ih fun r => k (s :: r)
      | false => ih fun r => k (.sl b' :: r)
    | x => ih fun r => k (x :: r)) F
noncomputable def frzK (m b : Nat) (F : Fr) (h : Hp) (K : Fr → Hp → Prop) : Prop :=
  leNK m b (nthK h b fun blk => match blk with
    | .row _ z es => setK h b .dead fun h' => mapSlK b (.rs z es) F fun F' => K F' h'
    | _ => False)
theorem mapSlK_sound {b : Nat} {s : SV} (F : Fr) : ∀ {k : Fr → Prop}, mapSlK b s F k → ∃ F', k F' ∧ F'.length = F.length ∧ ∀ (i : Nat) (x y : SV), F[i]? = some x → F'[i]? = some y → (x = .sl b ∧ y = s) ∨ x = y := by
  induction F with
  | nil => intro k h; exact ⟨[], h, rfl, by simp⟩
  | cons x F ih =>
    intro k h
    have key : ∃ y, mapSlK b s F (fun r => k (y :: r)) ∧ ((x = .sl b ∧ y = s) ∨ x = y) := by
      cases x with
      | sl b' =>
        have h : (match Nat.beq b' b with | true => mapSlK b s F fun r => k (s :: r) | false => mapSlK b s F fun r => k (.sl b' :: r)) := h
        cases hb : Nat.beq b' b with
        | true => rw [hb] at h; exact ⟨s, h, .inl ⟨by rw [Nat.eq_of_beq_eq_true hb], rfl⟩⟩
        | false => rw [hb] at h; exact ⟨_, h, .inr rfl⟩
      | _ => exact ⟨_, h, .inr rfl⟩
    obtain ⟨y, h, hy⟩ := key
    obtain ⟨F', h, hl, hF⟩ := ih h
    refine ⟨_, h, by simp [hl], fun i a c ha hc => ?_⟩
    cases i with
    | zero => simp at ha hc; subst ha; subst hc; exact hy
    | succ i => exact hF i a c (by simpa using ha) (by simpa using hc)
end
end Go.Sx

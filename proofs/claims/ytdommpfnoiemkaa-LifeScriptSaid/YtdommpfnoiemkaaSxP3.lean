/- The symbolic executor of this seat's proofs, part 3 of 4. No statement of the seat is proved here. -/
import Derived.Test.YtdommpfnoiemkaaSxP2
import Derived.Below
import Derived.Orders
/- The symbolic executor is sound: regions, code, functions. No statement of the seat is proved here. -/
namespace Go.Sx
section
variable {P : Program} {T : Tab}

theorem oper_mono {o : Oper} {a : Act} {w : World} {K K' : Act → World → Prop} {Q Q' : Exit → Act → World → Prop} (hk : ∀ a w, K a w → K' a w) (hq : ∀ e a w, Q e a w → Q' e a w) (h : o.wp P a w K Q) : o.wp P a w K' Q' := by
  unfold Oper.wp at *
  generalize (execOp a.eval o).run P w = r at *
  cases r with
  | ok n w' =>
    cases n <;> simp only [Oper.upon] at h ⊢ <;> first
      | exact hk _ _ h
      | exact h.mono fun e w'' he => by cases e <;> first | exact hk _ _ he | exact hq _ _ _ he | (obtain ⟨a, w, hx⟩ := he; exact ⟨a, w, hq _ _ _ hx⟩)
      | exact Rows.mono h fun _ _ he => hk _ _ he
  | halt x w' => cases x <;> simp only [Oper.upon] at h ⊢ <;> exact hq _ _ _ h
theorem wpList_mono' {ops : Array Oper} {Q Q' : Exit → Act → World → Prop} (hq : ∀ e a w, Q e a w → Q' e a w) (l : List Oper) : ∀ {a : Act} {w : World}, wpList P ops Q l a w → wpList P ops Q' l a w := by
  induction l with
  | nil => intro a w h; exact hq _ _ _ h
  | cons o l ih =>
    intro a w h
    unfold wpList at h ⊢
    split
    · rename_i hw
      rw [if_pos hw] at h
      rcases h with h | ⟨h1, a', w', h2⟩
      · exact .inl (oper_mono (fun _ _ => ih) hq h)
      · exact .inr ⟨h1, a', w', hq _ _ _ h2⟩
    · rename_i hw
      rw [if_neg hw] at h
      exact ih h

theorem SPost.from {m : Nat} {X : Nat → Prop} {w0 w1 : World} {σ0 σ1 : Sg} {K : Post} {e : Exit} {a : Act} {w : World} (hS : Step m w0 σ0 w1 σ1) (h : SPost m X w1 σ1 K e a w) : SPost m X w0 σ0 K e a w := by
  obtain ⟨hd, x, F, hp, σ, hx, hk, hI, hF, hS'⟩ := h
  exact ⟨hd, x, F, hp, σ, hx, hk, hI, hF, hS.trans hS'⟩
theorem SPost.mono {m : Nat} {X : Nat → Prop} {w0 : World} {σ0 : Sg} {K K' : Post} {e : Exit} {a : Act} {w : World} (hk : ∀ x F h, K x F h → K' x F h) (h : SPost m X w0 σ0 K e a w) : SPost m X w0 σ0 K' e a w := by
  obtain ⟨hd, x, F, hp, σ, hx, hk', hI, hF, hS⟩ := h
  exact ⟨hd, x, F, hp, σ, hx, hk _ _ _ hk', hI, hF, hS⟩
theorem SOK.mono {m : Nat} {c : Code} {F : Fr} {h : Hp} {K K' : Post} (hs : SOK P m c F h K) (hk : ∀ x F h, K x F h → K' x F h) : SOK P m c F h K' :=
  fun w X σ tmps hI hF => wp_mono (hs w X σ tmps hI hF) fun _ _ _ => SPost.mono hk
theorem SOK.seq {m : Nat} {a b : Code} {F : Fr} {h : Hp} {K : Post}
    (hs : SOK P m a F h fun x F h => match x with | .normal => SOK P m b F h K | .exit i => K (.exit i) F h | .ret => K .ret F h) : SOK P m (.seq a b) F h K := by
  intro w X σ tmps hI hF
  refine wp_seq (wp_mono (hs w X σ tmps hI hF) fun e a' w' hq => ?_)
  obtain ⟨hd, x, F', h', σ', hx, hk, hI', hF', hS⟩ := hq
  obtain ⟨tmps', ds⟩ := a'
  have hd : ds = [] := hd
  subst hd
  cases e <;> cases hx
  case normal =>
    exact wp_mono (hk w' X σ' tmps' hI' hF') fun _ _ _ => SPost.from hS
  case exit id =>
    exact ⟨rfl, .exit id, F', h', σ', rfl, hk, hI', hF', hS⟩
  case ret =>
    exact ⟨rfl, .ret, F', h', σ', rfl, hk, hI', hF', hS⟩
theorem SOK.block {m : Nat} {id : Nat} {c : Code} {F : Fr} {h : Hp} {K : Post}
    (hs : SOK P m c F h fun x F h => match x with | .normal => K .normal F h | .exit i => (match Nat.beq i id with | true => K .normal F h | false => K (.exit i) F h) | .ret => K .ret F h) : SOK P m (.block id c) F h K := by
  intro w X σ tmps hI hF
  refine wp_block (wp_mono (hs w X σ tmps hI hF) fun e a' w' hq => ?_)
  obtain ⟨hd, x, F', h', σ', hx, hk, hI', hF', hS⟩ := hq
  cases e <;> cases hx
  case normal => exact ⟨hd, .normal, F', h', σ', rfl, hk, hI', hF', hS⟩
  case ret => exact ⟨hd, .ret, F', h', σ', rfl, hk, hI', hF', hS⟩
  case exit i =>
    simp only [Exit.inBlock]
    by_cases hi : i = id
    · subst hi
      rw [if_pos rfl]
      have hb : Nat.beq i i = true := Nat.beq_refl i
      simp only [hb] at hk
      exact ⟨hd, .normal, F', h', σ', rfl, hk, hI', hF', hS⟩
    · rw [if_neg hi]
      have hb : Nat.beq i id = false := by
        cases hc : Nat.beq i id with
        | true => exact absurd (Nat.eq_of_beq_eq_true hc) hi
        | false => rfl
      simp only [hb] at hk
      exact ⟨hd, .exit i, F', h', σ', rfl, hk, hI', hF', hS⟩

/-- A region whose order is the text's. -/
theorem opsK_sound (hT : TabOK P T) {ops : Array Oper} {m : Nat} {X : Nat → Prop} {K : Fr → Hp → Prop} (l : List Oper) :
    ∀ {F : Fr} {h : Hp}, opsK P T ops.toList l F h K → ∀ (w : World) (σ : Sg) (tmps : Array Value), Inv w X σ h → FRep w (Ex X σ) σ F tmps →
      wpList P ops (SPost m X w σ fun x F h => x = .normal ∧ K F h) l ⟨tmps, []⟩ w := by
  induction l with
  | nil => intro F h hk w σ tmps hI hF; exact ⟨rfl, .normal, F, h, σ, rfl, ⟨rfl, hk⟩, hI, hF, .refl _ _ _⟩
  | cons o l ih =>
    intro F h hk w σ tmps hI hF
    -- the operation is carried out
    have yes : ∀ F : Fr, FRep w (Ex X σ) σ F tmps → Region.wanted o (yielded ops tmps) = true → (oneK P T F h o.op fun s h' => putD F o.dst s fun F' => opsK P T ops.toList l F' h' K) →
        wpList P ops (SPost m X w σ fun x F h => x = .normal ∧ K F h) (o :: l) ⟨tmps, []⟩ w := by
      intro F hF hw hk
      unfold wpList
      rw [if_pos hw]
      refine .inl ?_
      obtain ⟨d, op, ty, pos, after, guard⟩ := o
      refine wp_of_done (oneK_sound hT hk (a := ⟨tmps, []⟩) hI hF d ty pos after guard) fun v w' ⟨s, h', σ', hk, hr, hI', hS⟩ => ?_
      obtain ⟨F', hk, hp⟩ := putD_sound hk
      obtain ⟨hF', hd⟩ := hp w' (Ex X σ') σ' ⟨tmps, []⟩ v (hF.step hS (Nat.le_refl _)) hr
      have := ih hk w' σ' ((Act.put ⟨tmps, []⟩ d v).tmps) hI' hF'
      have e : Act.put ⟨tmps, []⟩ d v = ⟨(Act.put ⟨tmps, []⟩ d v).tmps, []⟩ := by cases d <;> rfl
      rw [e]
      exact wpList_mono' (fun e a w'' => SPost.from hS.any) l this
    have no : ∀ F : Fr, FRep w (Ex X σ) σ F tmps → Region.wanted o (yielded ops tmps) = false → (putD F o.dst .undef fun F' => opsK P T ops.toList l F' h K) →
        wpList P ops (SPost m X w σ fun x F h => x = .normal ∧ K F h) (o :: l) ⟨tmps, []⟩ w := by
      intro F hF hw hk
      unfold wpList
      rw [if_neg (by rw [hw]; simp)]
      obtain ⟨F', hk, hp⟩ := putD_sound hk
      obtain ⟨hF', hd⟩ := hp w (Ex X σ) σ ⟨tmps, []⟩ Go.undef hF .undef
      have := ih hk w σ ((Act.put ⟨tmps, []⟩ o.dst Go.undef).tmps) hI hF'
      have e : Act.put ⟨tmps, []⟩ o.dst Go.undef = ⟨(Act.put ⟨tmps, []⟩ o.dst Go.undef).tmps, []⟩ := by cases o.dst <;> rfl
      rw [e]
      exact this
    have hk : guardK ops.toList F o.guard (fun F => oneK P T F h o.op fun s h' => putD F o.dst s fun F' => opsK P T ops.toList l F' h' K) (fun F => putD F o.dst .undef fun F' => opsK P T ops.toList l F' h K) := hk
    revert hk
    generalize hYes : (fun F => oneK P T F h o.op fun s h' => putD F o.dst s fun F' => opsK P T ops.toList l F' h' K) = Yes
    generalize hNo : (fun F => putD F o.dst .undef fun F' => opsK P T ops.toList l F' h K) = No
    intro hk
    unfold guardK at hk
    cases hg : o.guard with
    | none =>
      rw [hg] at hk
      subst hYes
      exact yes F hF (by simp [Region.wanted, hg]) hk
    | some p =>
      obtain ⟨j, want⟩ := p
      rw [hg] at hk
      simp only [] at hk
      cases hd : dstOf ops.toList j with
      | none => rw [hd] at hk; exact hk.elim
      | some d =>
        rw [hd] at hk
        obtain ⟨s, hs, hk⟩ := nthK_sound (show nthK F d _ from hk)
        obtain ⟨v, hv, hr⟩ := hF.get hs
        have hy : ∀ r : Option Bool, (match v with | .bool b => some b | _ => none) = r → Region.wanted o (yielded ops tmps) = (r == some want) := by
          intro r hr'
          have hd' : (ops[j]?).bind (·.dst) = some d := by
            unfold dstOf at hd; rw [Array.getElem?_toList] at hd; exact hd
          have : yielded ops tmps j = r := by
            unfold yielded; rw [hd']; simp only [Option.bind_some, hv, ← hr']
            cases v <;> rfl
          simp [Region.wanted, hg, this]
        cases s with
        | tt =>
          cases hr
          have := hy (some true) rfl
          cases want
          · subst hNo; exact no F hF (by rw [this]; rfl) hk
          · subst hYes; exact yes F hF (by rw [this]; rfl) hk
        | ff =>
          cases hr
          have := hy (some false) rfl
          cases want
          · subst hYes; exact yes F hF (by rw [this]; rfl) hk
          · subst hNo; exact no F hF (by rw [this]; rfl) hk
        | undef =>
          cases hr
          have := hy none rfl
          subst hNo
          exact no F hF (by rw [this]; rfl) (by cases want <;> exact hk)
        | bool b =>
          cases hr
          have := hy (some b) rfl
          have kt : b = true → FRep w (Ex X σ) σ (F.set d .tt) tmps := fun hb => hF.know fun v' hv' => by
            rw [hv] at hv'; simp at hv'; subst hv'; subst hb; exact .tt
          have kf : b = false → FRep w (Ex X σ) σ (F.set d .ff) tmps := fun hb => hF.know fun v' hv' => by
            rw [hv] at hv'; simp at hv'; subst hv'; subst hb; exact .ff
          cases want
          · cases hb : b with
            | true =>
              obtain ⟨_, hk'⟩ := setK_sound (hk.1 hb)
              subst hNo
              exact no _ (kt hb) (by rw [this, hb]; rfl) hk'
            | false =>
              obtain ⟨_, hk'⟩ := setK_sound (hk.2 hb)
              subst hYes
              exact yes _ (kf hb) (by rw [this, hb]; rfl) hk'
          · cases hb : b with
            | true =>
              obtain ⟨_, hk'⟩ := setK_sound (hk.1 hb)
              subst hYes
              exact yes _ (kt hb) (by rw [this, hb]; rfl) hk'
            | false =>
              obtain ⟨_, hk'⟩ := setK_sound (hk.2 hb)
              subst hNo
              exact no _ (kf hb) (by rw [this, hb]; rfl) hk'
        | _ => cases want <;> exact hk.elim

/-- ALL CODE. -/
theorem codeK_sound (hT : TabOK P T) {m : Nat} (c : Code) : ∀ {F : Fr} {h : Hp} {K : Post}, codeK P T m c F h K → SOK P m c F h K := by
  induction c with
  | skip => intro F h K hk w X σ tmps hI hF; exact wp_skip ⟨rfl, .normal, F, h, σ, rfl, hk, hI, hF, .refl _ _ _⟩
  | region id ops draw =>
    intro F h K hk
    cases draw with
    | false =>
      intro w X σ tmps hI hF
      refine wp_mono (wp_region_list (opsK_sound (m := m) hT ops.toList (K := K .normal) hk w σ tmps hI hF)) fun e a w' hq => ?_
      exact hq.mono fun x F h ⟨hx, hk⟩ => by subst hx; exact hk
    | true => exact (show DrawG P m id ops F h (K .normal) from hk).ok.mono fun x F h ⟨hx, hk⟩ => by subst hx; exact hk
  | seq a b iha ihb =>
    intro F h K hk
    refine SOK.seq ((iha hk).mono fun x F h hk => ?_)
    cases x with
    | normal => exact ihb hk
    | exit i => exact hk
    | ret => exact hk
  | cond c a b iha ihb =>
    intro F h K hk w X σ tmps hI hF
    obtain ⟨s, hk, hs⟩ := evK_sound (show evK F c _ from hk)
    have hr := hs w (Ex X σ) σ (Act.eval ⟨tmps, []⟩) (FRep.opn (a := ⟨tmps, []⟩) hF c)
    generalize hv : Act.eval ⟨tmps, []⟩ c = v at hr
    cases s with
    | tt => cases hr; exact wp_cond (t := true) hv (iha hk w X σ tmps hI hF)
    | ff => cases hr; exact wp_cond (t := false) hv (ihb hk w X σ tmps hI hF)
    | qb p =>
      cases hr with
      | @qb _ _ b hb =>
        cases b with
        | true => exact wp_cond (t := true) hv (iha (hk.1 (hb rfl)) w X σ tmps hI hF)
        | false => exact wp_cond (t := false) hv (ihb hk.2 w X σ tmps hI hF)
    | bool x =>
      cases hr
      cases c with
      | tmp d =>
        have hv' : tmps.getD d Go.undef = .bool x := hv
        have know : ∀ s, (∀ E : Nat → Prop, Rep w E σ s (.bool x)) → FRep w (Ex X σ) σ (F.set d s) tmps := fun s hs => hF.know fun v hv2 => by
          have : v = .bool x := by rw [← hv', Array.getD_eq_getD_getElem?, hv2]; rfl
          subst this; exact hs _
        cases hx : x with
        | true =>
          obtain ⟨_, hk'⟩ := setK_sound (hk.1 hx)
          subst hx
          exact wp_cond (t := true) hv (iha hk' w X σ tmps hI (know _ fun _ => .tt))
        | false =>
          obtain ⟨_, hk'⟩ := setK_sound (hk.2 hx)
          subst hx
          exact wp_cond (t := false) hv (ihb hk' w X σ tmps hI (know _ fun _ => .ff))
      | _ => exact hk.elim
    | _ => exact hk.elim
  | block id c ih =>
    intro F h K hk
    refine SOK.block ((ih hk).mono fun x F h hk => ?_)
    cases x <;> exact hk
  | loop c _ => intro F h K hk; exact (show LoopG P m c F h K from hk).ok
  | rangeFunc f ps a b _ _ => intro F h K hk; exact hk.elim
  | exit id => intro F h K hk w X σ tmps hI hF; exact wp_exit ⟨rfl, .exit id, F, h, σ, rfl, hk, hI, hF, .refl _ _ _⟩
  | scope c ih =>
    intro F h K hk w X σ tmps hI hF
    refine wp_scope_straight (wp_mono (ih hk w X σ tmps hI hF) fun e a w' hq => ?_)
    cases e with
    | goto l => obtain ⟨_, x, _, _, _, hx, _⟩ := hq; cases hx
    | _ => exact hq
  | label l => intro F h K hk w X σ tmps hI hF; exact wp_label ⟨rfl, .normal, F, h, σ, rfl, hk, hI, hF, .refl _ _ _⟩
  | goto l => intro F h K hk; exact hk.elim
  | ret => intro F h K hk w X σ tmps hI hF; exact wp_ret ⟨rfl, .ret, F, h, σ, rfl, hk, hI, hF, .refl _ _ _⟩
  | refuse why => intro F h K hk; exact hk.elim

/-! ### results -/
theorem resK_sound (hT : TabOK P T) {h : Hp} {F : Fr} (l : List ResultVar) : ∀ {k : List SV → Prop}, resK h F T l k →
    ∃ ss, k ss ∧ ∀ (w : World) (X : Nat → Prop) (σ : Sg) (tmps : Array Value), Inv w X σ h → FRep w (Ex X σ) σ F tmps →
      ∃ vs : List Value, (l.mapM fun | .tmp t => pure (tmps.getD t Go.undef) | .cell a t => do loadVar t (← asAddr (tmps.getD a Go.undef)) : Sem (List Value)).run P w = .ok vs w ∧ RepL w (Ex X σ) σ ss vs := by
  induction l with
  | nil => intro k hk; exact ⟨[], hk, fun w X σ tmps _ _ => ⟨[], rfl, rfl, by simp⟩⟩
  | cons r l ih =>
    intro k hk
    -- what is common to both
    have glue : ∀ (s : SV), (∃ ss, k (s :: ss) ∧ ∀ (w : World) (X : Nat → Prop) (σ : Sg) (tmps : Array Value), Inv w X σ h → FRep w (Ex X σ) σ F tmps →
          ∃ vs : List Value, (l.mapM fun | .tmp t => pure (tmps.getD t Go.undef) | .cell a t => do loadVar t (← asAddr (tmps.getD a Go.undef)) : Sem (List Value)).run P w = .ok vs w ∧ RepL w (Ex X σ) σ ss vs) →
        (∀ (w : World) (X : Nat → Prop) (σ : Sg) (tmps : Array Value), Inv w X σ h → FRep w (Ex X σ) σ F tmps →
          ∃ v, ((fun | .tmp t => pure (tmps.getD t Go.undef) | .cell a t => do loadVar t (← asAddr (tmps.getD a Go.undef)) : ResultVar → Sem Value) r).run P w = .ok v w ∧ Rep w (Ex X σ) σ s v) →
        ∃ ss, k ss ∧ ∀ (w : World) (X : Nat → Prop) (σ : Sg) (tmps : Array Value), Inv w X σ h → FRep w (Ex X σ) σ F tmps →
          ∃ vs : List Value, ((r :: l).mapM fun | .tmp t => pure (tmps.getD t Go.undef) | .cell a t => do loadVar t (← asAddr (tmps.getD a Go.undef)) : Sem (List Value)).run P w = .ok vs w ∧ RepL w (Ex X σ) σ ss vs := by
      rintro s ⟨ss, hk, hrest⟩ hone
      refine ⟨s :: ss, hk, fun w X σ tmps hI hF => ?_⟩
      obtain ⟨vs, h1, h2, h3⟩ := hrest w X σ tmps hI hF
      obtain ⟨v, h4, h5⟩ := hone w X σ tmps hI hF
      refine ⟨v :: vs, ?_, by simp [h2], fun i s' v' hs hv => ?_⟩
      · rw [List.mapM_cons, Sem.run_bind, h4, Result.andThen_ok, Sem.run_bind, h1]
        rfl
      · cases i with
        | zero => simp at hs hv; subst hs; subst hv; exact h5
        | succ i => exact h3 i s' v' (by simpa using hs) (by simpa using hv)
    cases r with
    | tmp t =>
      obtain ⟨s, hs, hk⟩ := nthK_sound (show nthK F t _ from hk)
      refine glue s (ih hk) fun w X σ tmps hI hF => ?_
      obtain ⟨v, hv, hr⟩ := hF.get hs
      exact ⟨v, by simp [Array.getD_eq_getD_getElem?, hv], hr⟩
    | cell a t =>
      obtain ⟨s, hs, hk⟩ := nthK_sound (show nthK F a _ from hk)
      cases s with
      | ptr b off =>
        obtain ⟨blk, hb, hk⟩ := nthK_sound (show nthK h b _ from hk)
        cases blk with
        | fix T0 cs =>
          obtain ⟨s, n, ag, hk, hag, hn, h1, h2⟩ := partK_sound hT (show partK T cs off t _ from hk)
          refine glue s (ih hk) fun w X σ tmps hI hF => ?_
          obtain ⟨v, hv, hr⟩ := hF.get hs
          obtain ⟨g, vs, hσ, hg, hl, hc⟩ := fix_of hI hb
          have hv' : v = .pointer (some ⟨g, off, none⟩) := by
            cases hr with
            | ptr h' => rw [hσ] at h'; simp at h'; rw [h']
            | ptrD h' => rw [hσ] at h'; simp at h'
          obtain ⟨u, hrun, hrep⟩ := load_sound (P := P) (w := w) (σ := σ) (a := ⟨g, off, none⟩) (fun j => (vs[off + j]?).getD Go.undef) (hag w) (hn w) h1 h2 (fun j s hs => by
            have hj : off + j < vs.size := by rw [← hl]; exact (List.getElem?_eq_some_iff.1 hs).1
            have hvj : vs[off + j]? = some (vs[off + j]'hj) := Array.getElem?_eq_getElem hj
            rw [cell_at hg, hvj]
            exact ⟨rfl, hc _ _ _ hs hvj⟩)
          have e : tmps.getD a Go.undef = .pointer (some ⟨g, off, none⟩) := by rw [Array.getD_eq_getD_getElem?, hv, hv']; rfl
          exact ⟨u, by simp only [e, asAddr, Sem.run_bind, Sem.run_pure, Result.andThen_ok, hrun], hrep⟩
        | _ => exact hk.elim
      | _ => exact hk.elim
theorem tupK_sound {l : List SV} {k : SV → Prop} (h : tupK l k) : ∃ s, k s ∧ ∀ (w : World) (E : Nat → Prop) (σ : Sg) (vs : Array Value), RepL w E σ l vs.toList →
    Rep w E σ s (if h : vs.size = 1 then vs[0] else .tuple vs) := by
  have many : ∀ l : List SV, l.length ≠ 1 → ∀ (w : World) (E : Nat → Prop) (σ : Sg) (vs : Array Value), RepL w E σ l vs.toList → Rep w E σ (.tup l) (if h : vs.size = 1 then vs[0] else .tuple vs) := by
    intro l hl w E σ vs hr
    rw [dif_neg (by have := hr.1; simp at this; omega)]
    exact .tup (by simpa using hr.1) fun i s v hs hv => hr.2 i s v hs (by simpa using hv)
  unfold tupK at h
  split at h
  · refine ⟨_, h, fun w E σ vs hr => ?_⟩
    have hs : vs.size = 1 := by have := hr.1; simpa using this.symm
    rw [dif_pos hs]
    exact hr.2 0 _ _ rfl (by simp [hs])
  · exact ⟨_, h, many _ (by simp)⟩
  · exact ⟨_, h, many _ (by simp)⟩

theorem startK_sound {args : List SV} {n : Nat} {k : Fr → Prop} (h : startK args n k) : ∃ F, k F ∧ ∀ (w : World) (E : Nat → Prop) (σ : Sg) (vs : List Value), RepL w E σ args vs →
    FRep w E σ F (vs.toArray ++ Array.replicate (n - vs.toArray.size) Go.undef) := by
  have h := repK_sound (show repK n SV.undef _ from h)
  obtain ⟨hle, h⟩ := dropK_sound h
  have h := appK_sound h
  refine ⟨_, h, fun w E σ vs hr => ⟨?_, fun i s v hs hv => ?_⟩⟩
  · have := hr.1; simp at hle ⊢; omega
  · have hl := hr.1
    rw [List.getElem?_append] at hs
    rw [Array.getElem?_append] at hv
    split at hs
    · rename_i hlt
      rw [if_pos (by simpa [← hl] using hlt)] at hv
      exact hr.2 i s v hs (by simpa using hv)
    · rename_i hlt
      rw [if_neg (by simpa [← hl] using hlt)] at hv
      have e1 : s = .undef := by
        have := List.mem_of_getElem? hs
        exact (List.mem_replicate.1 (List.mem_of_mem_drop this)).2
      have e2 : v = Go.undef := by
        have := Array.mem_of_getElem? hv
        simpa using (Array.mem_replicate.1 this).2
      subst e1; subst e2; exact .undef

/-- A FUNCTION, called. -/
theorem CallG.of_code (hT : TabOK P T) {f : FuncId} {fn : Func} {c : Code} {args : List SV} {h : Hp} {R : SV → Hp → Prop} (hf : P.funcs[f]? = some fn) (hn : (fn.name == "runtime.NumGoroutine") = false)
    (hb : fn.body = some c) (hk : startK args fn.ntmps fun F => codeK P T h.length c F h (retK T fn R)) : CallG P f args h R := by
  obtain ⟨F, hk, hs⟩ := startK_sound hk
  refine ⟨fun w X σ vs hI hr => ?_⟩
  have hcall : (callFunc f vs.toArray).run P w = .ok (.enter f vs.toArray) w := by
    have h1 : fn.name ≠ "runtime.NumGoroutine" := by simpa using hn
    simp [callFunc, hf, h1, hb]
  unfold DoneS
  rw [hcall]
  refine calls_of_wp hf hb (wp_mono (codeK_sound hT c hk w X σ _ hI (hs w _ σ vs hr)) fun e a w' hq => ?_)
  obtain ⟨hd, x, F', h', σ', hx, hk, hI', hF', hS⟩ := hq
  have hm : h.length = σ.length := hI.len.symm
  rw [hm] at hS
  have fin : resK h' F' T fn.results.toList (fun l => tupK l fun s => R s h') → a.defers = [] ∧ ∃ v, (results fn a.tmps).run P w' = .ok v w' ∧ ∃ v', Ending.returned v = .returned v' ∧ ∃ s h' σ', R s h' ∧ Rep w' (Ex X σ') σ' s v' ∧ Inv w' X σ' h' ∧ Step σ.length w σ w' σ' := by
    intro hk
    obtain ⟨ss, hk, hrs⟩ := resK_sound hT _ hk
    obtain ⟨s, hk, hst⟩ := tupK_sound hk
    obtain ⟨vs', hrun, hrl⟩ := hrs w' X σ' a.tmps hI' hF'
    have hres : (results fn a.tmps).run P w' = .ok (if h : vs'.toArray.size = 1 then vs'.toArray[0] else .tuple vs'.toArray) w' := by
      unfold results
      rw [Array.mapM_eq_mapM_toList]
      simp only [Sem.run_bind, Sem.run_map, Sem.run_pure]
      erw [hrun]
      rfl
    exact ⟨hd, _, hres, _, rfl, s, h', σ', hk, hst w' _ σ' vs'.toArray (by simpa using hrl), hI', hS⟩
  cases e <;> cases hx
  case normal => exact fin hk
  case ret => exact fin hk
  case exit id => exact hk.elim
end
end Go.Sx

/- Contracts: functions that only reckon; the way from a contract to a law's call; externs. No statement of the seat is proved here. -/
namespace Go.Sx
section
variable {P : Program} {T : Tab}

/-! ### values that hang on no block of one's own -/
def free1K (s : SV) (k : Prop) : Prop :=
  match s with
  | .agg cs => puresK cs k
  | .int _ _ => k | .tt => k | .ff => k | .bool _ => k | .str _ => k | .nilp => k | .nils => k | .rs _ _ => k | .rp _ _ _ _ => k
  | _ => False
noncomputable def freesK (l : List SV) (k : Prop) : Prop := List.rec (motive := fun _ => Prop) k (fun x _ ih => free1K x ih) l
noncomputable def freeK (s : SV) (k : Prop) : Prop :=
  match s with
  | .tup vs => freesK vs k
  | .agg cs => puresK cs k
  | .int _ _ => k | .tt => k | .ff => k | .bool _ => k | .str _ => k | .nilp => k | .nils => k | .rs _ _ => k | .rp _ _ _ _ => k
  | _ => False

def FreeSV (s : SV) : Prop := ∀ (w : World) (E : Nat → Prop) (σ σ' : Sg) (v : Value), Rep w E σ s v → Rep w E σ' s v

theorem agg_free {cs : List SV} {k : Prop} (h : puresK cs k) : k ∧ FreeSV (.agg cs) := by
  obtain ⟨h1, h2⟩ := puresK_sound h
  refine ⟨h1, fun w E σ σ' v hr => ?_⟩
  cases hr with
  | agg hl ho hc => exact .agg hl ho fun i s v hs hv => h2 s (List.mem_of_getElem? hs) w E σ σ' v (hc i s v hs hv)
theorem free1K_sound {s : SV} {k : Prop} (h : free1K s k) : k ∧ FreeSV s := by
  cases s <;> simp only [free1K] at h
  case agg cs => exact agg_free h
  all_goals first
    | exact h.elim
    | (refine ⟨h, fun w E σ σ' v hr => ?_⟩; cases hr <;> constructor <;> assumption)
theorem freesK_sound {l : List SV} {k : Prop} (h : freesK l k) : k ∧ ∀ s ∈ l, FreeSV s := by
  induction l with
  | nil => exact ⟨h, by simp⟩
  | cons x xs ih =>
    obtain ⟨h1, h2⟩ := free1K_sound (show free1K x (freesK xs k) from h)
    obtain ⟨h3, h4⟩ := ih h1
    refine ⟨h3, fun s hs => ?_⟩
    rcases List.mem_cons.1 hs with rfl | hs
    · exact h2
    · exact h4 s hs
theorem freeK_sound {s : SV} {k : Prop} (h : freeK s k) : k ∧ FreeSV s := by
  cases s <;> simp only [freeK] at h
  case tup vs =>
    obtain ⟨h1, h2⟩ := freesK_sound h
    refine ⟨h1, fun w E σ σ' v hr => ?_⟩
    cases hr with
    | tup hl hc => exact .tup hl fun i s v hs hv => h2 s (List.mem_of_getElem? hs) w E σ σ' v (hc i s v hs hv)
  case agg cs => exact agg_free h
  all_goals first
    | exact h.elim
    | (refine ⟨h, fun w E σ σ' v hr => ?_⟩; cases hr <;> constructor <;> assumption)

/-! ### a function that only reckons -/
/-- A call of f at these arguments, in whatever heap, hands back what R says, and changes nothing that was there. -/
structure PSpec (P : Program) (f : FuncId) (args : List SV) (R : SV → Prop) : Prop where
  ok : ∀ (h : Hp) (K : SV → Hp → Prop), (∀ s, R s → K s h) → CallG P f args h K

theorem PSpec.call {f : FuncId} {args : List SV} {R : SV → Prop} (hs : PSpec P f args R) {h : Hp} {K : SV → Hp → Prop} (hk : ∀ s, R s → K s h) : CallG P f args h K := hs.ok h K hk
theorem PSpec.mono {f : FuncId} {args : List SV} {R R' : SV → Prop} (hs : PSpec P f args R) (hr : ∀ s, R s → R' s) : PSpec P f args R' :=
  ⟨fun h K hk => hs.ok h K fun s h => hk s (hr s h)⟩

theorem not_owned_nil (g : Nat) : ¬ Owned [] g := by rintro ⟨i, e, he, _⟩; simp at he
theorem ex_nil {X : Nat → Prop} {g : Nat} : Ex X [] g ↔ X g := ⟨fun h => h.resolve_right (not_owned_nil g), .inl⟩

/-- What was there stays as it was, whoever owns it. -/
theorem Inv.same {w w' : World} {X : Nat → Prop} {σ σ' : Sg} {h : Hp} (hI : Inv w X σ h) (hS : Step 0 w [] w' σ') : Inv w' X σ h ∧ Step σ.length w σ w' σ := by
  have hsame : ∀ g, g < w.heap.size → w'.heap[g]? = w.heap[g]? := fun g hg => hS.frame g hg (not_owned_nil g)
  have hS2 : Step σ.length w σ w' σ := ⟨hS.os, hS.tape, hS.output, hS.size, fun g hg _ => hsame g hg, fun g ho _ => ho, fun i e _ he _ => .inl he⟩
  refine ⟨⟨hI.len, fun i b e hb he => (hI.ok i b e hb he).step hS2 (Nat.le_refl _) fun g hg => hsame g (hI.lt i e g he hg), fun i e g he hg => Nat.lt_of_lt_of_le (hI.lt i e g he hg) hS.size, hI.inj, hI.dis, fun g hx => Nat.lt_of_lt_of_le (hI.xlt g hx) hS.size⟩, hS2⟩

theorem DoneS.mono {m : Sem Next} {w : World} {R R' : Value → World → Prop} (h : DoneS P m w R) (hr : ∀ v w', R v w' → R' v w') : DoneS P m w R' := by
  unfold DoneS at *
  generalize m.run P w = r at *
  cases r with
  | halt x w' => exact h.elim
  | ok n w' =>
    cases n <;> first | exact h.elim | exact hr _ _ h | exact h.mono fun e w'' ⟨v, he, h⟩ => ⟨v, he, hr _ _ h⟩

theorem PSpec.of_call {f : FuncId} {args : List SV} {R : SV → Prop} (ha : freesK args True) (hc : CallG P f args [] fun s _ => freeK s (R s)) : PSpec P f args R := by
  refine ⟨fun h K hk => ⟨fun w X σ vs hI hr => ?_⟩⟩
  have hfree := (freesK_sound ha).2
  have hex : ∀ g, Ex (Ex X σ) [] g ↔ Ex X σ g := fun g => ex_nil
  have hI0 : Inv w (Ex X σ) [] [] := ⟨rfl, by simp, by simp, by simp, fun g _ => not_owned_nil g, fun g hg => by
    rcases hg with hg | ⟨i, e, he, hg⟩
    · exact hI.xlt g hg
    · exact hI.lt i e g he hg⟩
  have hr0 : RepL w (Ex (Ex X σ) []) [] args vs := ⟨hr.1, fun i s v hs hv =>
    (hfree s (List.mem_of_getElem? hs) w _ σ [] v (hr.2 i s v hs hv)).mono [] (fun _ _ _ => rfl) (Nat.le_refl _) (fun g _ hn h => hn ((hex g).1 h)) (by simp)⟩
  refine (hc.ok w (Ex X σ) [] vs hI0 hr0).mono fun v w' ⟨s, h', σ', hf, hrep, hI', hS⟩ => ?_
  obtain ⟨hR, hfs⟩ := freeK_sound hf
  obtain ⟨hI2, hS2⟩ := hI.same hS
  exact ⟨s, h, σ, hk s hR, (hfs w' _ σ' σ v hrep).mono σ (fun _ _ _ => rfl) (Nat.le_refl _) (fun g _ hn h => hn (.inl h)) (fun i e he _ => .inl he), hI2, hS2⟩

theorem PSpec.of_code (hT : TabOK P T) {f : FuncId} {fn : Func} {c : Code} {args : List SV} {R : SV → Prop} (hf : P.funcs[f]? = some fn) (hn : (fn.name == "runtime.NumGoroutine") = false)
    (hb : fn.body = some c) (ha : freesK args True) (hk : startK args fn.ntmps fun F => codeK P T 0 c F [] (retK T fn fun s _ => freeK s (R s))) : PSpec P f args R :=
  .of_call ha (CallG.of_code hT hf hn hb hk)

/-! ### results, their Bools in one form -/
def norm1K (s : SV) (k : SV → Prop) : Prop :=
  match s with
  | .tt => k (.bool true) | .ff => k (.bool false) | .bool b => k (.bool b)
  | .int q n => k (.int q n) | .str s => k (.str s) | .nilp => k .nilp | .nils => k .nils | .rs z es => k (.rs z es) | .rp z es i f => k (.rp z es i f)
  | _ => False
noncomputable def norms1K (l : List SV) : (List SV → Prop) → Prop :=
  List.rec (motive := fun _ => (List SV → Prop) → Prop) (fun k => k []) (fun x _ ih k => norm1K x fun y => ih fun r => k (y :: r)) l
noncomputable def norm2K (s : SV) (k : SV → Prop) : Prop :=
  match s with
  | .agg cs => norms1K cs fun c => k (.agg c)
  | .tt => k (.bool true) | .ff => k (.bool false) | .bool b => k (.bool b)
  | .int q n => k (.int q n) | .str s => k (.str s) | .nilp => k .nilp | .nils => k .nils | .rs z es => k (.rs z es) | .rp z es i f => k (.rp z es i f)
  | _ => False
noncomputable def norms2K (l : List SV) : (List SV → Prop) → Prop :=
  List.rec (motive := fun _ => (List SV → Prop) → Prop) (fun k => k []) (fun x _ ih k => norm2K x fun y => ih fun r => k (y :: r)) l
noncomputable def outK (s : SV) (k : SV → Prop) : Prop :=
  match s with
  | .tup vs => norms2K vs fun l => k (.tup l)
  | .agg cs => norms1K cs fun c => k (.agg c)
  | .tt => k (.bool true) | .ff => k (.bool false) | .bool b => k (.bool b)
  | .int q n => k (.int q n) | .str s => k (.str s) | .nilp => k .nilp | .nils => k .nils | .rs z es => k (.rs z es) | .rp z es i f => k (.rp z es i f)
  | _ => False

/-- s' says of a value what s says, whatever one owns. -/
def To (s s' : SV) : Prop := ∀ (w : World) (E : Nat → Prop) (σ σ' : Sg) (v : Value), Rep w E σ s v → Rep w E σ' s' v
def ToL (l l' : List SV) : Prop := l.length = l'.length ∧ ∀ (i : Nat) (s s' : SV), l[i]? = some s → l'[i]? = some s' → To s s'

theorem norm1K_sound {s : SV} {k : SV → Prop} (h : norm1K s k) : ∃ s', k s' ∧ To s s' := by
  cases s <;> simp only [norm1K] at h
  all_goals first
    | exact h.elim
    | (refine ⟨_, h, fun w E σ σ' v hr => ?_⟩; cases hr <;> first | (constructor; done) | (constructor <;> assumption))
theorem list_sound {f : SV → (SV → Prop) → Prop} (hf : ∀ {s : SV} {k : SV → Prop}, f s k → ∃ s', k s' ∧ To s s') (l : List SV) : ∀ {k : List SV → Prop},
    List.rec (motive := fun _ => (List SV → Prop) → Prop) (fun k => k []) (fun x _ ih k => f x fun y => ih fun r => k (y :: r)) l k → ∃ l', k l' ∧ ToL l l' := by
  induction l with
  | nil => intro k h; exact ⟨[], h, rfl, by simp⟩
  | cons x l ih =>
    intro k h
    obtain ⟨y, h, hy⟩ := hf h
    obtain ⟨l', h, hl, hl'⟩ := ih h
    refine ⟨y :: l', h, by simp [hl], fun i s s' hs hs' => ?_⟩
    cases i with
    | zero => simp at hs hs'; subst hs; subst hs'; exact hy
    | succ i => exact hl' i s s' (by simpa using hs) (by simpa using hs')
theorem To.agg {l l' : List SV} (h : ToL l l') : To (.agg l) (.agg l') := by
  intro w E σ σ' v hr
  cases hr with
  | agg hl ho hc =>
    refine .agg (h.1 ▸ hl) ho fun i s v hs hv => ?_
    have hi : i < l.length := by rw [h.1]; exact (List.getElem?_eq_some_iff.1 hs).1
    exact h.2 i _ s (List.getElem?_eq_getElem hi) hs w E σ σ' v (hc i _ v (List.getElem?_eq_getElem hi) hv)
theorem To.tup {l l' : List SV} (h : ToL l l') : To (.tup l) (.tup l') := by
  intro w E σ σ' v hr
  cases hr with
  | tup hl hc =>
    refine .tup (h.1 ▸ hl) fun i s v hs hv => ?_
    have hi : i < l.length := by rw [h.1]; exact (List.getElem?_eq_some_iff.1 hs).1
    exact h.2 i _ s (List.getElem?_eq_getElem hi) hs w E σ σ' v (hc i _ v (List.getElem?_eq_getElem hi) hv)
theorem norm2K_sound {s : SV} {k : SV → Prop} (h : norm2K s k) : ∃ s', k s' ∧ To s s' := by
  cases s with
  | agg cs =>
    obtain ⟨l, h, hl⟩ := list_sound norm1K_sound cs (show norms1K cs _ from h)
    exact ⟨_, h, .agg hl⟩
  | _ => exact norm1K_sound (by first | exact h | exact h.elim)
theorem outK_sound {s : SV} {k : SV → Prop} (h : outK s k) : ∃ s', k s' ∧ To s s' := by
  cases s with
  | tup vs =>
    obtain ⟨l, h, hl⟩ := list_sound norm2K_sound vs (show norms2K vs _ from h)
    exact ⟨_, h, .tup hl⟩
  | agg cs =>
    obtain ⟨l, h, hl⟩ := list_sound norm1K_sound cs (show norms1K cs _ from h)
    exact ⟨_, h, .agg hl⟩
  | _ => exact norm1K_sound (by first | exact h | exact h.elim)

theorem PSpec.of_out {f : FuncId} {args : List SV} {R : SV → Prop} (ha : freesK args True) (hc : CallG P f args [] fun s _ => outK s R) : PSpec P f args R := by
  refine ⟨fun h K hk => ⟨fun w X σ vs hI hr => ?_⟩⟩
  have hfree := (freesK_sound ha).2
  have hex : ∀ g, Ex (Ex X σ) [] g ↔ Ex X σ g := fun g => ex_nil
  have hI0 : Inv w (Ex X σ) [] [] := ⟨rfl, by simp, by simp, by simp, fun g _ => not_owned_nil g, fun g hg => by
    rcases hg with hg | ⟨i, e, he, hg⟩
    · exact hI.xlt g hg
    · exact hI.lt i e g he hg⟩
  have hr0 : RepL w (Ex (Ex X σ) []) [] args vs := ⟨hr.1, fun i s v hs hv =>
    (hfree s (List.mem_of_getElem? hs) w _ σ [] v (hr.2 i s v hs hv)).mono [] (fun _ _ _ => rfl) (Nat.le_refl _) (fun g _ hn h => hn ((hex g).1 h)) (by simp)⟩
  refine (hc.ok w (Ex X σ) [] vs hI0 hr0).mono fun v w' ⟨s, h', σ', hf, hrep, hI', hS⟩ => ?_
  obtain ⟨s', hR, hto⟩ := outK_sound hf
  obtain ⟨hI2, hS2⟩ := hI.same hS
  exact ⟨s', h, σ, hk s' hR, (hto w' _ σ' σ v hrep).mono σ (fun _ _ _ => rfl) (Nat.le_refl _) (fun g _ hn h => hn (.inl h)) (fun i e he _ => .inl he), hI2, hS2⟩

theorem PSpec.of_code' (hT : TabOK P T) {f : FuncId} {fn : Func} {c : Code} {args : List SV} {R : SV → Prop} (hf : P.funcs[f]? = some fn) (hn : (fn.name == "runtime.NumGoroutine") = false)
    (hb : fn.body = some c) (ha : freesK args True) (hk : startK args fn.ntmps fun F => codeK P T 0 c F [] (retK T fn fun s _ => outK s R)) : PSpec P f args R :=
  .of_out ha (CallG.of_code hT hf hn hb hk)

/-! ### externs -/
theorem PSpec.of_value {f : FuncId} {args : List SV} {R : SV → Prop} {s : SV} (hR : R s)
    (hrun : ∀ (w : World) (E : Nat → Prop) (σ : Sg) (vs : List Value), RepL w E σ args vs → ∃ v, (callFunc f vs.toArray).run P w = .ok (.value v) w ∧ Rep w E σ s v) : PSpec P f args R :=
  ⟨fun h K hk => ⟨fun w X σ vs hI hr => by
    obtain ⟨v, hv, hrep⟩ := hrun w _ σ vs hr
    unfold DoneS
    rw [hv]
    exact ⟨s, h, σ, hk s hR, hrep, hI, .refl _ _ _⟩⟩⟩

/-! ### from a contract to a law -/
def TrueS (s : SV) : Prop :=
  match s with
  | .tt => True
  | .bool b => b = true
  | _ => False
theorem law_calls {f : FuncId} {fn : Func} {c : Code} {args : List SV} (hf : P.funcs[f]? = some fn) (hn : (fn.name == "runtime.NumGoroutine") = false) (hb : fn.body = some c)
    (hs : PSpec P f args TrueS) {w : World} {vs : List Value} (hr : RepL w (fun _ => False) [] args vs) :
    Calls P f vs.toArray w fun e w' => e = .returned (.bool true) ∧ RowKit.Below w.heap.size w w' := by
  have hI : Inv w (fun _ => False) [] [] := ⟨rfl, by simp, by simp, by simp, fun g h => h.elim, fun g h => h.elim⟩
  have hr' : RepL w (Ex (fun _ => False) []) [] args vs := ⟨hr.1, fun i s v hs hv => (hr.2 i s v hs hv).mono [] (fun _ _ _ => rfl) (Nat.le_refl _) (fun g _ _ h => ex_nil.1 h) (by simp)⟩
  have := (hs.ok [] (fun s _ => TrueS s) fun s h => h).ok w (fun _ => False) [] vs hI hr'
  have hcall : (callFunc f vs.toArray).run P w = .ok (.enter f vs.toArray) w := by
    have h1 : fn.name ≠ "runtime.NumGoroutine" := by simpa using hn
    simp [callFunc, hf, h1, hb]
  unfold DoneS at this
  rw [hcall] at this
  refine this.mono fun e w' ⟨v, he, s, h', σ', ht, hrep, _, hS⟩ => ⟨?_, ⟨hS.os, hS.tape, hS.output, hS.size, fun k hk => hS.frame k hk (not_owned_nil k)⟩⟩
  rw [he]
  cases hrep <;> simp only [TrueS] at ht
  · rfl
  · rw [ht]
end
end Go.Sx

/- Regions whose order is drawn: one run in the text's order serves every order, if what is not ordered does not meet. No statement of the seat is proved here. -/
namespace Go.Sx

/-- What one operation of a region comes to. -/
structure Rec where
  s : SV
  ws : Ws
  rds : List Nat

section order
variable (ops : List Oper) (recs : List Rec)

def dstAt (i : Nat) : Option Tmp := (ops[i]?).bind (·.dst)
def setD (F : Fr) (d : Option Tmp) (s : SV) : Fr := match d with | none => F | some d => F.set d s
def recAt (i : Nat) : Rec := recs.getD i ⟨.undef, [], []⟩

/-- The frame, the heap, when just the operations of L have been carried out. -/
def FL (F0 : Fr) (L : Nat → Bool) : Nat → Fr
  | 0 => F0
  | k + 1 => if L k then setD (FL F0 L k) (dstAt ops k) (recAt recs k).s else FL F0 L k
def HL (h0 : Hp) (L : Nat → Bool) : Nat → Hp
  | 0 => h0
  | k + 1 => if L k then upd (recAt recs k).ws (HL h0 L k) else HL h0 L k

theorem setD_get {F : Fr} {d : Option Tmp} {s : SV} {t : Nat} (h : d ≠ some t) : (setD F d s)[t]? = F[t]? := by
  cases d with
  | none => rfl
  | some d => simp only [setD]; rw [List.getElem?_set, if_neg (fun e => h (by rw [e]))]
theorem setD_len {F : Fr} {d : Option Tmp} {s : SV} : (setD F d s).length = F.length := by
  cases d <;> simp [setD]
theorem upd_get (ws : Ws) : ∀ {h : Hp} {r : Nat}, (∀ p ∈ ws, p.1 ≠ r) → (upd ws h)[r]? = h[r]? := by
  induction ws with
  | nil => intro h r _; rfl
  | cons p ws ih =>
    intro h r hr
    have := ih (h := h.set p.1 p.2) (r := r) fun q hq => hr q (by simp [hq])
    simp only [upd, List.foldl_cons] at this ⊢
    rw [this, List.getElem?_set, if_neg (hr p (by simp))]
theorem upd_len (ws : Ws) : ∀ {h : Hp}, (upd ws h).length = h.length := by
  induction ws with
  | nil => intro h; rfl
  | cons p ws ih =>
    intro h
    have := ih (h := h.set p.1 p.2)
    simp only [upd, List.foldl_cons] at this ⊢
    rw [this]; simp

variable {ops recs}
theorem FL_len {F0 : Fr} {L : Nat → Bool} : ∀ k, (FL ops recs F0 L k).length = F0.length
  | 0 => rfl
  | k + 1 => by
    simp only [FL]
    split
    · rw [setD_len, FL_len k]
    · exact FL_len k
theorem HL_len {h0 : Hp} {L : Nat → Bool} : ∀ k, (HL recs h0 L k).length = h0.length
  | 0 => rfl
  | k + 1 => by
    simp only [HL]
    split
    · rw [upd_len, HL_len k]
    · exact HL_len k
/-- A slot hangs on those alone that write it. -/
theorem FL_same {F0 : Fr} {L L' : Nat → Bool} {t : Nat} : ∀ k, (∀ j, j < k → dstAt ops j = some t → L j = L' j) → (FL ops recs F0 L k)[t]? = (FL ops recs F0 L' k)[t]?
  | 0, _ => rfl
  | k + 1, h => by
    have ih : (FL ops recs F0 L k)[t]? = (FL ops recs F0 L' k)[t]? := FL_same k fun j hj => h j (by omega)
    simp only [FL]
    by_cases hd : dstAt ops k = some t
    · rw [h k (by omega) hd]
      split
      · have hl : (FL ops recs F0 L k).length = (FL ops recs F0 L' k).length := by rw [FL_len, FL_len]
        rw [hd]; simp only [setD]
        rw [List.getElem?_set, List.getElem?_set, hl, ih]
      · exact ih
    · have a1 : ∀ (b : Bool) (G : Fr), (if b = true then setD G (dstAt ops k) (recAt recs k).s else G)[t]? = G[t]? := fun b G => by
        split
        · exact setD_get hd
        · rfl
      rw [a1, a1]; exact ih
theorem HL_same {h0 : Hp} {L L' : Nat → Bool} {r : Nat} : ∀ k, (∀ j, j < k → (∃ p ∈ (recAt recs j).ws, p.1 = r) → L j = L' j) → (HL recs h0 L k)[r]? = (HL recs h0 L' k)[r]?
  | 0, _ => rfl
  | k + 1, h => by
    have ih : (HL recs h0 L k)[r]? = (HL recs h0 L' k)[r]? := HL_same k fun j hj => h j (by omega)
    simp only [HL]
    by_cases hd : ∃ p ∈ (recAt recs k).ws, p.1 = r
    · rw [h k (by omega) hd]
      split
      · -- both are written by the same list
        have : ∀ (ws : Ws) (g g' : Hp), g.length = g'.length → g[r]? = g'[r]? → (upd ws g)[r]? = (upd ws g')[r]? := by
          intro ws
          induction ws with
          | nil => intro g g' _ hg; exact hg
          | cons p ws ih =>
            intro g g' hl hg
            have := ih (g.set p.1 p.2) (g'.set p.1 p.2) (by simp [hl]) (by rw [List.getElem?_set, List.getElem?_set, hl, hg])
            simpa [upd] using this
        exact this _ _ _ (by rw [HL_len, HL_len]) ih
      · exact ih
    · have a1 : ∀ (b : Bool) (g : Hp), (if b = true then upd (recAt recs k).ws g else g)[r]? = g[r]? := fun b g => by
        split
        · exact upd_get _ fun p hp he => hd ⟨p, hp, he⟩
        · rfl
      rw [a1, a1]; exact ih

def add (L : Nat → Bool) (i : Nat) : Nat → Bool := fun j => L j || j == i

/-- One more operation is carried out. -/
theorem FL_add {F0 : Fr} {L : Nat → Bool} {i : Nat} (hi : L i = false) : ∀ k, (∀ j, i < j → j < k → L j = true → ∀ d, dstAt ops i = some d → dstAt ops j ≠ some d) →
    FL ops recs F0 (add L i) k = if i < k then setD (FL ops recs F0 L k) (dstAt ops i) (recAt recs i).s else FL ops recs F0 L k
  | 0, _ => by simp [FL]
  | k + 1, h => by
    have ih : FL ops recs F0 (add L i) k = if i < k then setD (FL ops recs F0 L k) (dstAt ops i) (recAt recs i).s else FL ops recs F0 L k := FL_add hi k fun j h1 h2 => h j h1 (by omega)
    simp only [FL]
    rcases Nat.lt_trichotomy i k with hlt | heq | hgt
    · have e : add L i k = L k := by simp only [add]; rw [show (k == i) = false from by simp; omega]; simp
      rw [e, ih, if_pos hlt, if_pos (show i < k + 1 by omega)]
      cases hL : L k with
      | false => rfl
      | true =>
        simp only [if_true]
        -- two slots that differ
        cases hdi : dstAt ops i with
        | none => rfl
        | some d =>
          cases hdk : dstAt ops k with
          | none => rfl
          | some d' =>
            have hne : d ≠ d' := fun e => h k hlt (by omega) hL d hdi (by rw [hdk, e])
            simp only [setD]
            exact List.set_comm _ _ hne
    · subst heq
      have e : add L i i = true := by simp [add]
      rw [e, ih, if_neg (Nat.lt_irrefl i), if_pos (show i < i + 1 by omega), hi]
      simp
    · have e : add L i k = L k := by simp only [add]; rw [show (k == i) = false from by simp; omega]; simp
      rw [e, ih, if_neg (show ¬ i < k by omega), if_neg (show ¬ i < k + 1 by omega)]
theorem upd_comm (ws : Ws) : ∀ {ws' : Ws} {h : Hp}, (∀ p ∈ ws, ∀ q ∈ ws', p.1 ≠ q.1) → upd ws (upd ws' h) = upd ws' (upd ws h) := by
  intro ws' h hne
  apply List.ext_getElem?
  intro r
  by_cases h1 : ∃ p ∈ ws, p.1 = r
  · have h2 : ∀ q ∈ ws', q.1 ≠ r := fun q hq he => by
      obtain ⟨p, hp, hpr⟩ := h1
      exact hne p hp q hq (by rw [hpr, he])
    rw [upd_get ws' (h := upd ws h) h2]
    have : ∀ (ws : Ws) (g g' : Hp), g.length = g'.length → g[r]? = g'[r]? → (upd ws g)[r]? = (upd ws g')[r]? := by
      intro ws
      induction ws with
      | nil => intro g g' _ hg; exact hg
      | cons p ws ih =>
        intro g g' hl hg
        have := ih (g.set p.1 p.2) (g'.set p.1 p.2) (by simp [hl]) (by rw [List.getElem?_set, List.getElem?_set, hl, hg])
        simpa [upd] using this
    exact this ws _ _ (upd_len ws') (upd_get ws' h2)
  · have h1' : ∀ p ∈ ws, p.1 ≠ r := fun p hp he => h1 ⟨p, hp, he⟩
    rw [upd_get ws h1']
    have : ∀ (ws' : Ws) (g g' : Hp), g.length = g'.length → g[r]? = g'[r]? → (upd ws' g)[r]? = (upd ws' g')[r]? := by
      intro ws
      induction ws with
      | nil => intro g g' _ hg; exact hg
      | cons p ws ih =>
        intro g g' hl hg
        have := ih (g.set p.1 p.2) (g'.set p.1 p.2) (by simp [hl]) (by rw [List.getElem?_set, List.getElem?_set, hl, hg])
        simpa [upd] using this
    exact this ws' _ _ (upd_len ws).symm (upd_get ws h1').symm
theorem HL_add {h0 : Hp} {L : Nat → Bool} {i : Nat} (hi : L i = false) : ∀ k, (∀ j, i < j → j < k → L j = true → ∀ p ∈ (recAt recs i).ws, ∀ q ∈ (recAt recs j).ws, p.1 ≠ q.1) →
    HL recs h0 (add L i) k = if i < k then upd (recAt recs i).ws (HL recs h0 L k) else HL recs h0 L k
  | 0, _ => by simp [HL]
  | k + 1, h => by
    have ih : HL recs h0 (add L i) k = if i < k then upd (recAt recs i).ws (HL recs h0 L k) else HL recs h0 L k := HL_add hi k fun j h1 h2 => h j h1 (by omega)
    simp only [HL]
    rcases Nat.lt_trichotomy i k with hlt | heq | hgt
    · have e : add L i k = L k := by simp only [add]; rw [show (k == i) = false from by simp; omega]; simp
      rw [e, ih, if_pos hlt, if_pos (show i < k + 1 by omega)]
      cases hL : L k with
      | false => rfl
      | true =>
        simp only [if_true]
        exact upd_comm _ fun p hp q hq he => h k hlt (by omega) hL q hq p hp he.symm
    · subst heq
      have e : add L i i = true := by simp [add]
      rw [e, ih, if_neg (Nat.lt_irrefl i), if_pos (show i < i + 1 by omega), hi]
      simp
    · have e : add L i k = L k := by simp only [add]; rw [show (k == i) = false from by simp; omega]; simp
      rw [e, ih, if_neg (show ¬ i < k by omega), if_neg (show ¬ i < k + 1 by omega)]
end order
end Go.Sx

/- Regions whose order is drawn: the executor, and what a call in them comes to. No statement of the seat is proved here. -/
namespace Go.Sx
section
variable {P : Program} {T : Tab}

/-- A call whose order among others is open: what it hands back, writes and looks at is fixed ahead. -/
structure CallOK (P : Program) (f : FuncId) (args : List SV) (h : Hp) (s : SV) (ws : Ws) (rds : List Nat) : Prop where
  ok : ∀ (w : World) (X : Nat → Prop) (σ : Sg) (h2 : Hp) (vs : List Value), Inv w X σ h2 → RepL w (Ex X σ) σ args vs → (∀ i ∈ rds, h2[i]? = h[i]?) →
    OpRes P (callFunc f vs.toArray) w X σ h2 s ws
  sub : ∀ p ∈ ws, p.1 ∈ rds
structure CallD (P : Program) (f : FuncId) (args : List SV) (h : Hp) (nid : Nat) (K : Kop) : Prop where
  ok : ∃ s ws rds, K s ws rds ∧ CallOK P f args h s ws rds

theorem PSpec.calld {f : FuncId} {args : List SV} {s : SV} (hs : PSpec P f args (· = s)) {h : Hp} {nid : Nat} {K : Kop} (hk : K s [] []) : CallD P f args h nid K :=
  ⟨s, [], [], hk, ⟨fun w X σ h2 vs hI hr _ => by
    refine ((hs.ok h2 (fun s' h' => s' = s ∧ h' = h2) fun s' hs' => ⟨hs', rfl⟩).ok w X σ vs hI hr).mono fun v w' ⟨s', h', σ', ⟨e1, e2⟩, hrep, hI', hS⟩ => ?_
    subst e1; subst e2
    exact ⟨σ', hrep, hI', hS, by rw [hI'.len, hI.len]⟩, by simp⟩⟩

noncomputable def fireK (P : Program) (T : Tab) (F : Fr) (h : Hp) (nid : Nat) (op : Op) (K : Kop) : Prop :=
  match op with
  | .call { callee := .value x, args := xs, .. } => evK F x fun x => match x with
    | .fn f cs => evsK F xs.toList fun l => appK l cs fun l => CallD P f l h nid K
    | _ => False
  | op => match allocs T op with
    | true => nthK h nid fun b => match b with | .fresh => opK T F h nid op K | _ => False
    | false => opK T F h 0 op K

noncomputable def guardsB (l : List Oper) (j : Nat) : Bool :=
  List.rec (motive := fun _ => Bool) false (fun o _ ih => match o.guard with | none => ih | some (i, _) => match Nat.beq i j with | true => true | false => ih) l
def splitK (g : Bool) (s : SV) (k : SV → Prop) : Prop :=
  match g with
  | false => k s
  | true => match s with
    | .bool b => (b = true → k .tt) ∧ (b = false → k .ff)
    | .tt => k .tt | .ff => k .ff | .undef => k .undef
    | _ => False
noncomputable def wantK (ops : List Oper) (F : Fr) (g : Option (Nat × Bool)) (yes no : Prop) : Prop :=
  match g with
  | none => yes
  | some (j, want) => match dstOf ops j with
    | none => False
    | some d => nthK F d fun s => match s, want with
      | .tt, true => yes
      | .tt, false => no
      | .ff, true => no
      | .ff, false => yes
      | .undef, _ => no
      | _, _ => False
noncomputable def dopsK (P : Program) (T : Tab) (all l : List Oper) : Nat → List Nat → Fr → Hp → (List Rec → Fr → Hp → Prop) → Prop :=
  List.rec (motive := fun _ => Nat → List Nat → Fr → Hp → (List Rec → Fr → Hp → Prop) → Prop) (fun _ _ F h K => K [] F h)
    (fun o _ ih i ids F h K => List.rec (motive := fun _ => Prop) False (fun nid ids' _ =>
      wantK all F o.guard
        (fireK P T F h nid o.op fun s ws rds => splitK (guardsB all i) s fun s => putD F o.dst s fun F' => updK ws h fun h' => ih (Nat.succ i) ids' F' h' fun rs => K (⟨s, ws, rds⟩ :: rs))
        (putD F o.dst .undef fun F' => ih (Nat.succ i) ids' F' h fun rs => K (⟨.undef, [], []⟩ :: rs))) ids) l

noncomputable def needs (T : Tab) (op : Op) : Bool :=
  match op with
  | .call { callee := .value _, .. } => true
  | op => allocs T op
/-- Places for what the region makes. -/
noncomputable def resvK (T : Tab) (l : List Oper) : Hp → (List Nat → Hp → Prop) → Prop :=
  List.rec (motive := fun _ => Hp → (List Nat → Hp → Prop) → Prop) (fun h k => k [] h)
    (fun o _ ih h k => match needs T o.op with
      | true => idK h supply fun n => appK h [.fresh] fun h' => ih h' fun ns h'' => k (n :: ns) h''
      | false => ih h fun ns h'' => k (0 :: ns) h'') l

/-! ### what may stand in either order -/
def predsOf (o : Oper) : List Nat := o.after.toList.filterMap fun e => if Region.binds .any e then some e.on else none
def closAt (cl : List Nat) (ps : List Nat) : Nat := ps.foldl (fun m j => m ||| 2 ^ j ||| cl.getD j 0) 0
abbrev Mk := List Nat × List Nat
def meetB (a b : List Nat) : Bool := a.any fun x => b.contains x
def apartB (ops : Array Oper) (oj oi : Oper) (mj mi : Mk) : Bool := oj.apart ops oi && !meetB mj.1 mi.2 && !meetB mi.1 mj.2
def pairsB (ops : Array Oper) (c : Nat) (oi : Oper) (mi : Mk) : Nat → List (Oper × Mk) → Bool
  | _, [] => true
  | j, x :: r => (c.testBit j || apartB ops x.1 oi x.2 mi) && pairsB ops c oi mi (j + 1) r
def indepGo (ops : Array Oper) : List (Oper × Mk) → List Nat → List (Oper × Mk) → Bool
  | _, _, [] => true
  | done, cl, x :: r => (predsOf x.1).all (fun j => decide (j < cl.length)) && pairsB ops (closAt cl (predsOf x.1)) x.1 x.2 0 done && indepGo ops (done ++ [x]) (cl ++ [closAt cl (predsOf x.1)]) r
def indepB (ops : Array Oper) (ms : List Mk) : Bool := Region.noSelect ops && indepGo ops [] [] (ops.toList.zip ms)

noncomputable def fstsK (ws : Ws) : (List Nat → Prop) → Prop :=
  List.rec (motive := fun _ => (List Nat → Prop) → Prop) (fun k => k []) (fun p _ ih k => ih fun l => k (p.1 :: l)) ws
noncomputable def marksK (rs : List Rec) : (List Mk → Prop) → Prop :=
  List.rec (motive := fun _ => (List Mk → Prop) → Prop) (fun k => k []) (fun r _ ih k => fstsK r.ws fun a => ih fun l => k ((a, r.rds) :: l)) rs

noncomputable def drawK (P : Program) (T : Tab) (ops : Array Oper) (F : Fr) (h : Hp) (K : Fr → Hp → Prop) : Prop :=
  resvK T ops.toList h fun ids h' => dopsK P T ops.toList ops.toList 0 ids F h' fun rs F' h'' => marksK rs fun ms => indepB ops ms = true ∧ K F' h''

/-! ### soundness: one operation -/
/-- What one operation does, wherever it stands. -/
structure Good (P : Program) (ops : Array Oper) (F : Fr) (h : Hp) (o : Oper) (r : Rec) : Prop where
  go : ∀ (w : World) (X : Nat → Prop) (σ : Sg) (h2 : Hp) (a : Act), Inv w X σ h2 → (∀ t ∈ o.looksAt ops, ∀ s, F[t]? = some s → ∃ v, a.tmps[t]? = some v ∧ Rep w (Ex X σ) σ s v) →
    (∀ i ∈ r.rds, h2[i]? = h[i]?) →
    (Region.wanted o (yielded ops a.tmps) = true ∧ OpRes P (execOp a.eval o) w X σ h2 r.s r.ws) ∨ (Region.wanted o (yielded ops a.tmps) = false ∧ r.s = .undef ∧ r.ws = [])
  sub : ∀ p ∈ r.ws, p.1 ∈ r.rds

theorem opn_of_looks {ops : Array Oper} {F : Fr} {o : Oper} {w : World} {E : Nat → Prop} {σ : Sg} {a : Act}
    (hl : ∀ t ∈ o.looksAt ops, ∀ s, F[t]? = some s → ∃ v, a.tmps[t]? = some v ∧ Rep w E σ s v) (x : Operand) (hx : x ∈ o.op.operands.toList) : OpnRep w E σ F a.eval x := by
  cases x with
  | tmp t =>
    intro s hs
    have ht : t ∈ o.looksAt ops := by
      unfold Oper.looksAt
      rw [List.mem_append]
      exact .inl (List.mem_filterMap.2 ⟨.tmp t, hx, rfl⟩)
    obtain ⟨v, hv, hr⟩ := hl t ht s hs
    have : a.eval (.tmp t) = v := by simp [Act.eval, Array.getD_eq_getD_getElem?, hv]
    rw [this]; exact hr
  | const v => rfl
  | global g => trivial
  | func f => rfl

theorem fireK_sound (hT : TabOK P T) {ops : Array Oper} {F : Fr} {h : Hp} {nid : Nat} {o : Oper} {K : Kop} (hk : fireK P T F h nid o.op K) : ∃ s ws rds, K s ws rds ∧ (∀ p ∈ ws, p.1 ∈ rds) ∧
    ∀ (w : World) (X : Nat → Prop) (σ : Sg) (h2 : Hp) (a : Act), Inv w X σ h2 → (∀ t ∈ o.looksAt ops, ∀ s, F[t]? = some s → ∃ v, a.tmps[t]? = some v ∧ Rep w (Ex X σ) σ s v) →
    (∀ i ∈ rds, h2[i]? = h[i]?) → OpRes P (execOp a.eval o) w X σ h2 s ws := by
  obtain ⟨d, op, ty, pos, after, guard⟩ := o
  have plain : (match allocs T op with
    | true => nthK h nid fun b => match b with | .fresh => opK T F h nid op K | _ => False
    | false => opK T F h 0 op K) → ∃ s ws rds, K s ws rds ∧ (∀ p ∈ ws, p.1 ∈ rds) ∧
      ∀ (w : World) (X : Nat → Prop) (σ : Sg) (h2 : Hp) (a : Act), Inv w X σ h2 → (∀ t ∈ (Oper.mk d op ty pos after guard).looksAt ops, ∀ s, F[t]? = some s → ∃ v, a.tmps[t]? = some v ∧ Rep w (Ex X σ) σ s v) →
      (∀ i ∈ rds, h2[i]? = h[i]?) → OpRes P (execOp a.eval ⟨d, op, ty, pos, after, guard⟩) w X σ h2 s ws := by
    intro hk
    have hg : OpGood P F h op K := by
      cases hal : allocs T op with
      | true =>
        rw [hal] at hk
        obtain ⟨b, hb, hk⟩ := nthK_sound (show nthK h nid _ from hk)
        cases b with
        | fresh => exact opK_sound hT (fun _ => hb) hk
        | _ => exact hk.elim
      | false =>
        rw [hal] at hk
        exact opK_sound hT (fun h => by simp [hal] at h) hk
    obtain ⟨s, ws, rds, hk, hok, hsub⟩ := hg
    exact ⟨s, ws, rds, hk, hsub, fun w X σ h2 a hI hl hr => hok w X σ h2 a.eval d ty pos after guard hI (fun x hx => opn_of_looks hl x hx) hr⟩
  cases op with
  | call c =>
    obtain ⟨callee, xs, ats⟩ := c
    cases callee with
    | value x =>
      obtain ⟨sx, hk, hx⟩ := evK_sound (show evK F x _ from hk)
      cases sx with
      | fn f cs =>
        obtain ⟨l, hk, hl⟩ := evsK_sound hk
        have hk := appK_sound hk
        obtain ⟨s, ws, rds, hk, hok, hsub⟩ := hk.ok
        refine ⟨s, ws, rds, hk, hsub, fun w X σ h2 a hI hlk hrd => ?_⟩
        have hopn := opn_of_looks hlk
        have hr := hx w _ σ a.eval (hopn x (by simp [Op.operands, Call.operands]))
        have hls := hl w _ σ a.eval fun y hy => hopn y (by simp [Op.operands, Call.operands]; right; simpa using hy)
        generalize hρ : a.eval x = vx at hr
        cases hr with
        | @fn _ _ _ vs hlen hcs =>
          have hrun : execOp a.eval ⟨d, .call ⟨.value x, xs, ats⟩, ty, pos, after, guard⟩ = callFunc f ((xs.toList.map a.eval ++ vs.toList).toArray) := by
            have e1 : (xs.toList.map a.eval ++ vs.toList).toArray = xs.map a.eval ++ vs := by
              apply Array.ext'; simp
            rw [e1]
            simp [execOp, resolve, hρ, Deferred.ofValue, invoke]
          rw [hrun]
          refine hok w X σ h2 _ hI ⟨by rw [List.length_append, List.length_append, hls.1, hlen]; simp, fun i s v hs hv => ?_⟩ hrd
          rw [List.getElem?_append] at hs hv
          rw [← hls.1] at hv
          split at hs
          · rename_i hlt
            rw [if_pos hlt] at hv
            exact hls.2 i s v hs hv
          · rename_i hlt
            rw [if_neg hlt] at hv
            exact hcs _ s v hs (by simpa using hv)
      | _ => exact hk.elim
    | invoke r m => exact plain hk
    | builtin b => exact plain hk
  | _ => exact plain hk

theorem OpRes.know {m : Sem Next} {w : World} {X : Nat → Prop} {σ : Sg} {h2 : Hp} {s s' : SV} {ws : Ws} (h : OpRes P m w X σ h2 s ws) (hs : ∀ w E σ v, Rep w E σ s v → Rep w E σ s' v) : OpRes P m w X σ h2 s' ws :=
  DoneS.mono h fun _ _ ⟨σ', h1, h2⟩ => ⟨σ', hs _ _ _ _ h1, h2⟩

theorem splitK_sound {g : Bool} {s : SV} {k : SV → Prop} (h : splitK g s k) : ∃ s', k s' ∧ ∀ w E σ v, Rep w E σ s v → Rep w E σ s' v := by
  cases g with
  | false => exact ⟨s, h, fun _ _ _ _ h => h⟩
  | true =>
    cases s with
    | bool b =>
      cases hb : b with
      | true => subst hb; exact ⟨.tt, h.1 rfl, fun _ _ _ _ h => by cases h; exact .tt⟩
      | false => subst hb; exact ⟨.ff, h.2 rfl, fun _ _ _ _ h => by cases h; exact .ff⟩
    | tt => exact ⟨_, h, fun _ _ _ _ h => h⟩
    | ff => exact ⟨_, h, fun _ _ _ _ h => h⟩
    | undef => exact ⟨_, h, fun _ _ _ _ h => h⟩
    | _ => exact h.elim

theorem wantK_sound {ops : Array Oper} {F : Fr} {o : Oper} {yes no : Prop} (h : wantK ops.toList F o.guard yes no) : ∃ b : Bool, (if b then yes else no) ∧
    ∀ (w : World) (E : Nat → Prop) (σ : Sg) (a : Act), (∀ t ∈ o.looksAt ops, ∀ s, F[t]? = some s → ∃ v, a.tmps[t]? = some v ∧ Rep w E σ s v) → Region.wanted o (yielded ops a.tmps) = b := by
  unfold wantK at h
  cases hg : o.guard with
  | none =>
    rw [hg] at h
    exact ⟨true, h, fun w E σ a _ => by simp [Region.wanted, hg]⟩
  | some p =>
    obtain ⟨j, want⟩ := p
    rw [hg] at h
    simp only [] at h
    cases hd : dstOf ops.toList j with
    | none => rw [hd] at h; exact h.elim
    | some d =>
      rw [hd] at h
      obtain ⟨s, hs, h⟩ := nthK_sound (show nthK F d _ from h)
      have hd' : (ops[j]?).bind (·.dst) = some d := by
        unfold dstOf at hd; rw [Array.getElem?_toList] at hd; exact hd
      have hmem : d ∈ o.looksAt ops := by
        unfold Oper.looksAt
        rw [List.mem_append]
        right
        rw [hg]
        simp only [hd', Option.toList, List.mem_singleton]
      have hy : ∀ (w : World) (E : Nat → Prop) (σ : Sg) (a : Act), (∀ t ∈ o.looksAt ops, ∀ s, F[t]? = some s → ∃ v, a.tmps[t]? = some v ∧ Rep w E σ s v) →
          ∃ v, Rep w E σ s v ∧ ∀ r : Option Bool, (match v with | .bool b => some b | _ => none) = r → Region.wanted o (yielded ops a.tmps) = (r == some want) := by
        intro w E σ a hl
        obtain ⟨v, hv, hr⟩ := hl d hmem s hs
        refine ⟨v, hr, fun r hr' => ?_⟩
        have : yielded ops a.tmps j = r := by
          unfold yielded; rw [hd']; simp only [Option.bind_some, hv, ← hr']
          cases v <;> rfl
        simp [Region.wanted, hg, this]
      cases s with
      | tt =>
        refine ⟨want, ?_, fun w E σ a hl => ?_⟩
        · cases want <;> exact h
        · obtain ⟨v, hr, hy⟩ := hy w E σ a hl
          cases hr
          rw [hy (some true) rfl]
          cases want <;> rfl
      | ff =>
        refine ⟨!want, ?_, fun w E σ a hl => ?_⟩
        · cases want <;> exact h
        · obtain ⟨v, hr, hy⟩ := hy w E σ a hl
          cases hr
          rw [hy (some false) rfl]
          cases want <;> rfl
      | undef =>
        refine ⟨false, ?_, fun w E σ a hl => ?_⟩
        · cases want <;> exact h
        · obtain ⟨v, hr, hy⟩ := hy w E σ a hl
          cases hr
          rw [hy none rfl]
          rfl
      | _ => cases want <;> exact h.elim

/-! ### soundness: the run in the text's order -/
inductive Run (P : Program) (ops : Array Oper) : Fr → Hp → List Oper → List Rec → Fr → Hp → Prop where
  | nil {F : Fr} {h : Hp} : Run P ops F h [] [] F h
  | cons {F F' : Fr} {h h' : Hp} {o : Oper} {l : List Oper} {r : Rec} {rs : List Rec} (hg : Good P ops F h o r) (hr : Run P ops (setD F o.dst r.s) (upd r.ws h) l rs F' h') : Run P ops F h (o :: l) (r :: rs) F' h'

theorem putD_set {F : Fr} {d : Option Tmp} {s : SV} {K : Fr → Prop} (h : putD F d s K) : K (setD F d s) := by
  cases d with
  | none => exact h
  | some d => exact (setK_sound (show setK F d s K from h)).2

theorem dopsK_sound (hT : TabOK P T) {ops : Array Oper} (l : List Oper) : ∀ {i : Nat} {ids : List Nat} {F : Fr} {h : Hp} {K : List Rec → Fr → Hp → Prop}, dopsK P T ops.toList l i ids F h K →
    ∃ rs F' h', K rs F' h' ∧ Run P ops F h l rs F' h' := by
  induction l with
  | nil => intro i ids F h K hk; exact ⟨[], F, h, hk, .nil⟩
  | cons o l ih =>
    intro i ids F h K hk
    cases ids with
    | nil => exact hk.elim
    | cons nid ids =>
      obtain ⟨b, hk, hw⟩ := wantK_sound (show wantK ops.toList F o.guard (fireK P T F h nid o.op fun s ws rds => splitK (guardsB ops.toList i) s fun s => putD F o.dst s fun F' => updK ws h fun h' =>
          dopsK P T ops.toList l (Nat.succ i) ids F' h' fun rs => K (⟨s, ws, rds⟩ :: rs))
        (putD F o.dst .undef fun F' => dopsK P T ops.toList l (Nat.succ i) ids F' h fun rs => K (⟨.undef, [], []⟩ :: rs)) from hk)
      cases b with
      | true =>
        simp only [if_true] at hk
        obtain ⟨s, ws, rds, hk, hsub, hok⟩ := fireK_sound hT (ops := ops) (o := o) hk
        obtain ⟨s', hk, hs'⟩ := splitK_sound hk
        have hk := updK_sound (putD_set hk)
        obtain ⟨rs, F', h', hk, hr⟩ := ih hk
        exact ⟨_, F', h', hk, .cons ⟨fun w X σ h2 a hI hl hrd => .inl ⟨hw w _ σ a hl, (hok w X σ h2 a hI hl hrd).know hs'⟩, hsub⟩ hr⟩
      | false =>
        simp only [Bool.false_eq_true, if_false] at hk
        have hk := putD_set hk
        obtain ⟨rs, F', h', hk, hr⟩ := ih hk
        exact ⟨_, F', h', hk, .cons ⟨fun w X σ h2 a hI hl hrd => .inr ⟨hw w _ σ a hl, rfl, rfl⟩, by simp⟩ hr⟩
end
end Go.Sx

/- Regions whose order is drawn: the one run in the text's order serves every order. No statement of the seat is proved here. -/
namespace Go.Sx
section
variable {P : Program} {T : Tab}

def markOf (r : Rec) : Mk := (r.ws.map (·.1), r.rds)
theorem fstsK_sound {ws : Ws} : ∀ {k : List Nat → Prop}, fstsK ws k → k (ws.map (·.1)) := by
  induction ws with
  | nil => intro k h; exact h
  | cons p ws ih => intro k h; exact ih (k := fun l => k (p.1 :: l)) h
theorem marksK_sound {rs : List Rec} : ∀ {k : List Mk → Prop}, marksK rs k → k (rs.map markOf) := by
  induction rs with
  | nil => intro k h; exact h
  | cons r rs ih =>
    intro k h
    have h := fstsK_sound (show fstsK r.ws _ from h)
    exact ih (k := fun l => k (markOf r :: l)) h

def Ideal (ops : List Oper) (L : Nat → Bool) : Prop := ∀ (i : Nat) (o : Oper), ops[i]? = some o → L i = true → ∀ p ∈ predsOf o, L p = true
def ClosOK (ops : List Oper) (i : Nat) (c : Nat) : Prop := ∀ (L : Nat → Bool) (o : Oper), Ideal ops L → ops[i]? = some o → (∀ p ∈ predsOf o, L p = true) → ∀ j, c.testBit j = true → L j = true

theorem closAt_spec {cl : List Nat} (ps : List Nat) {j : Nat} : ∀ {m : Nat}, (ps.foldl (fun m j => m ||| 2 ^ j ||| cl.getD j 0) m).testBit j = true → m.testBit j = true ∨ ∃ p ∈ ps, p = j ∨ (cl.getD p 0).testBit j = true := by
  induction ps with
  | nil => intro m h; exact .inl h
  | cons p ps ih =>
    intro m h
    rcases ih h with h | ⟨q, hq, h⟩
    · rw [Nat.testBit_or, Nat.testBit_or, Nat.testBit_two_pow] at h
      simp only [Bool.or_eq_true, decide_eq_true_eq] at h
      rcases h with (h | h) | h
      · exact .inl h
      · exact .inr ⟨p, by simp, .inl h⟩
      · exact .inr ⟨p, by simp, .inr h⟩
    · exact .inr ⟨q, by simp [hq], h⟩

theorem pairsB_spec {ops : Array Oper} {c : Nat} {oi : Oper} {mi : Mk} (l : List (Oper × Mk)) : ∀ {k : Nat}, pairsB ops c oi mi k l = true → ∀ (j : Nat) (x : Oper × Mk), l[j]? = some x → c.testBit (k + j) = true ∨ apartB ops x.1 oi x.2 mi = true := by
  induction l with
  | nil => intro k _ j x hx; simp at hx
  | cons y l ih =>
    intro k h j x hx
    simp only [pairsB, Bool.and_eq_true, Bool.or_eq_true] at h
    cases j with
    | zero => simp at hx; subst hx; exact h.1
    | succ j =>
      have := ih h.2 j x (by simpa using hx)
      rwa [show k + 1 + j = k + (j + 1) by omega] at this

/-- What the check says of operation i. -/
def PairsOK (ops : Array Oper) (Z : List (Oper × Mk)) (i : Nat) (x : Oper × Mk) : Prop :=
  (∀ p ∈ predsOf x.1, p < i) ∧ ∃ c, ClosOK (Z.map (·.1)) i c ∧ ∀ (j : Nat) (y : Oper × Mk), j < i → Z[j]? = some y → c.testBit j = true ∨ apartB ops y.1 x.1 y.2 x.2 = true

theorem indepGo_spec {ops : Array Oper} (rest : List (Oper × Mk)) : ∀ {done : List (Oper × Mk)} {cl : List Nat}, cl.length = done.length →
    (∀ i c, cl[i]? = some c → ClosOK ((done ++ rest).map (·.1)) i c) → indepGo ops done cl rest = true →
    ∀ (i : Nat) (x : Oper × Mk), done.length ≤ i → (done ++ rest)[i]? = some x → PairsOK ops (done ++ rest) i x := by
  induction rest with
  | nil => intro done cl _ _ _ i x hi hx; rw [List.append_nil] at hx; rw [List.getElem?_eq_none hi] at hx; simp at hx
  | cons y rest ih =>
    intro done cl hlen hcl h i x hi hx
    simp only [indepGo, Bool.and_eq_true, List.all_eq_true, decide_eq_true_eq] at h
    obtain ⟨⟨h1, h2⟩, h3⟩ := h
    have hy : (done ++ y :: rest)[done.length]? = some y := by simp
    have hc : ClosOK ((done ++ y :: rest).map (·.1)) done.length (closAt cl (predsOf y.1)) := by
      intro L o hL ho hp j hj
      rw [List.getElem?_map, hy] at ho
      simp at ho
      subst ho
      rcases closAt_spec (predsOf y.1) hj with h0 | ⟨p, hpm, h0⟩
      · simp at h0
      · rcases h0 with h0 | h0
        · subst h0; exact hp _ hpm
        · have hlt : p < cl.length := h1 p hpm
          have hg : cl[p]? = some (cl.getD p 0) := by simp [List.getD, List.getElem?_eq_getElem hlt]
          have hlt' : p < done.length := by rw [← hlen]; exact hlt
          have ho' : ((done ++ y :: rest).map (·.1))[p]? = some (done[p]'hlt').1 := by
            rw [List.getElem?_map, List.getElem?_append_left hlt', List.getElem?_eq_getElem hlt']; rfl
          exact hcl p _ hg L _ hL ho' (hL p _ ho' (hp p hpm)) j h0
    by_cases he : i = done.length
    · subst he
      rw [hy] at hx
      simp at hx
      subst hx
      refine ⟨fun p hp => by rw [← hlen]; exact h1 p hp, _, hc, fun j z hj hz => ?_⟩
      rw [List.getElem?_append_left hj] at hz
      have := pairsB_spec done h2 j z hz
      simpa using this
    · have e : done ++ y :: rest = (done ++ [y]) ++ rest := by simp
      rw [e] at hx hcl hc ⊢
      refine ih (by simp [hlen]) (fun k c hk => ?_) h3 i x (by simp; omega) hx
      rw [List.getElem?_append] at hk
      split at hk
      · exact hcl k c hk
      · have hk0 : k - cl.length = 0 := by
          have := (List.getElem?_eq_some_iff.1 hk).1
          simp at this; omega
        rw [hk0] at hk
        simp at hk
        subst hk
        rw [show k = done.length by omega]
        exact hc

/-! ### the frame, the heap in the text's order -/
variable {ops : Array Oper} {recs : List Rec} {F0 : Fr} {h0 : Hp}

theorem Run.at (l : List Oper) : ∀ {rs : List Rec} {k : Nat} {F' : Fr} {h' : Hp}, (∀ i, l[i]? = ops.toList[k + i]?) → (∀ i, rs[i]? = recs[k + i]?) →
    Run P ops (FL ops.toList recs F0 (fun _ => true) k) (HL recs h0 (fun _ => true) k) l rs F' h' →
    rs.length = l.length ∧ (∀ (i : Nat) (o : Oper) (r : Rec), l[i]? = some o → rs[i]? = some r → Good P ops (FL ops.toList recs F0 (fun _ => true) (k + i)) (HL recs h0 (fun _ => true) (k + i)) o r) ∧
      F' = FL ops.toList recs F0 (fun _ => true) (k + l.length) ∧ h' = HL recs h0 (fun _ => true) (k + l.length) := by
  induction l with
  | nil => intro rs k F' h' _ _ hr; cases hr; exact ⟨rfl, by simp, rfl, rfl⟩
  | cons o l ih =>
    intro rs k F' h' ho hrs hr
    cases hr with
    | @cons _ _ _ _ _ _ r rs hg hr =>
      have e1 : dstAt ops.toList k = o.dst := by
        have := ho 0
        simp only [List.getElem?_cons_zero, Nat.add_zero] at this
        simp [dstAt, ← this]
      have e2 : recAt recs k = r := by
        have := hrs 0
        simp only [List.getElem?_cons_zero, Nat.add_zero] at this
        simp [recAt, List.getD, ← this]
      have hr' : Run P ops (FL ops.toList recs F0 (fun _ => true) (k + 1)) (HL recs h0 (fun _ => true) (k + 1)) l rs F' h' := by
        simp only [FL, HL, if_true, e1, e2]; exact hr
      obtain ⟨i0, i1, i2, i3⟩ := ih (fun i => by have := ho (i + 1); rw [List.getElem?_cons_succ] at this; rw [this]; congr 1; omega)
        (fun i => by have := hrs (i + 1); rw [List.getElem?_cons_succ] at this; rw [this]; congr 1; omega) hr'
      refine ⟨by simp [i0], fun i o' r' h1 h2 => ?_, by rw [i2]; congr 1; simp; omega, by rw [i3]; congr 1; simp; omega⟩
      cases i with
      | zero => simp at h1 h2; subst h1; subst h2; exact hg
      | succ i =>
        have := i1 i o' r' (by simpa using h1) (by simpa using h2)
        rwa [show k + 1 + i = k + (i + 1) by omega] at this

theorem FL_stop {opsl : List Oper} {i : Nat} : ∀ d, FL opsl recs F0 (fun j => decide (j < i)) (i + d) = FL opsl recs F0 (fun j => decide (j < i)) i
  | 0 => rfl
  | d + 1 => by
    have ih := FL_stop (opsl := opsl) (i := i) d
    show FL opsl recs F0 _ (i + d + 1) = _
    simp only [FL]
    rw [if_neg (by simp), ih]
theorem HL_stop {i : Nat} : ∀ d, HL recs h0 (fun j => decide (j < i)) (i + d) = HL recs h0 (fun j => decide (j < i)) i
  | 0 => rfl
  | d + 1 => by
    have ih := HL_stop (i := i) d
    show HL recs h0 _ (i + d + 1) = _
    simp only [HL]
    rw [if_neg (by simp), ih]

theorem apartB_spec {oj oi : Oper} {mj mi : Mk} (h : apartB ops oj oi mj mi = true) :
    ((∀ d, oj.dst = some d → d ∉ oi.looksAt ops) ∧ (∀ d, oj.dst = some d → oi.dst ≠ some d) ∧ (∀ d, oi.dst = some d → d ∉ oj.looksAt ops)) ∧
    (∀ x ∈ mj.1, x ∉ mi.2) ∧ (∀ x ∈ mi.1, x ∉ mj.2) := by
  simp only [apartB, Bool.and_eq_true, Bool.not_eq_true'] at h
  refine ⟨Oper.apart_spec h.1.1, fun x hx hm => ?_, fun x hx hm => ?_⟩
  · have := h.1.2
    simp only [meetB, List.any_eq_false, List.contains_iff_mem] at this
    exact this x hx hm
  · have := h.2
    simp only [meetB, List.any_eq_false, List.contains_iff_mem] at this
    exact this x hx hm

structure Plan (P : Program) (ops : Array Oper) (recs : List Rec) (F0 : Fr) (h0 : Hp) : Prop where
  len : recs.length = ops.size
  good : ∀ (i : Nat) (o : Oper) (r : Rec), ops[i]? = some o → recs[i]? = some r → Good P ops (FL ops.toList recs F0 (fun _ => true) i) (HL recs h0 (fun _ => true) i) o r
  pairs : ∀ (i : Nat) (o : Oper) (r : Rec), ops[i]? = some o → recs[i]? = some r → PairsOK ops (ops.toList.zip (recs.map markOf)) i (o, markOf r)

section plan
variable (hp : Plan P ops recs F0 h0) {L : Nat → Bool}
include hp

theorem Plan.rcd {i : Nat} {o : Oper} (hi : ops[i]? = some o) : recs[i]? = some (recAt recs i) := by
  have : i < recs.length := by rw [hp.len]; exact (Array.getElem?_eq_some_iff.1 hi).1
  simp [recAt, List.getD, List.getElem?_eq_getElem this]
theorem Plan.map : (ops.toList.zip (recs.map markOf)).map (·.1) = ops.toList := by
  rw [List.map_fst_zip]
  simp [hp.len]
theorem Plan.zip {i : Nat} {o : Oper} (hi : ops[i]? = some o) : (ops.toList.zip (recs.map markOf))[i]? = some (o, markOf (recAt recs i)) := by
  rw [List.getElem?_zip_eq_some]
  exact ⟨by rw [Array.getElem?_toList]; exact hi, by rw [List.getElem?_map, hp.rcd hi]; rfl⟩
/-- Two operations of which the earlier is not carried out and the later is, or is ready, are apart. -/
theorem Plan.apart (hL : Ideal ops.toList L) {i j : Nat} {oi oj : Oper} (hij : j < i) (hi : ops[i]? = some oi) (hj : ops[j]? = some oj) (hpre : ∀ p ∈ predsOf oi, L p = true) (hjL : L j = false) :
    apartB ops oj oi (markOf (recAt recs j)) (markOf (recAt recs i)) = true := by
  obtain ⟨_, c, hc, hpair⟩ := hp.pairs i oi _ hi (hp.rcd hi)
  rw [hp.map] at hc
  rcases hpair j _ hij (hp.zip hj) with h | h
  · have := hc L oi hL (by rw [Array.getElem?_toList]; exact hi) hpre j h
    rw [hjL] at this; simp at this
  · exact h

theorem Plan.slot (hL : Ideal ops.toList L) {i : Nat} {oi : Oper} (hi : ops[i]? = some oi) (hpre : ∀ p ∈ predsOf oi, L p = true) (hiL : L i = false) {t : Nat} (ht : t ∈ oi.looksAt ops) :
    (FL ops.toList recs F0 L ops.size)[t]? = (FL ops.toList recs F0 (fun _ => true) i)[t]? := by
  have hlt : i < ops.size := (Array.getElem?_eq_some_iff.1 hi).1
  have e1 : (FL ops.toList recs F0 (fun j => decide (j < i)) i)[t]? = (FL ops.toList recs F0 (fun _ => true) i)[t]? := FL_same i fun j hj _ => by simp [hj]
  have e2 : FL ops.toList recs F0 (fun j => decide (j < i)) ops.size = FL ops.toList recs F0 (fun j => decide (j < i)) i := by
    have := FL_stop (opsl := ops.toList) (recs := recs) (F0 := F0) (i := i) (ops.size - i)
    rwa [show i + (ops.size - i) = ops.size by omega] at this
  rw [← e1, ← e2]
  refine FL_same ops.size fun j hj hd => ?_
  have hoj : ops[j]? = some ops[j] := Array.getElem?_eq_getElem hj
  have hdj : ops[j].dst = some t := by
    simp only [dstAt, Array.getElem?_toList, hoj] at hd; exact hd
  rcases Nat.lt_trichotomy j i with h | h | h
  · simp only [h, decide_true]
    cases hc : L j with
    | true => rfl
    | false => exact absurd ht ((apartB_spec (hp.apart hL h hi hoj hpre hc)).1.1 t hdj)
  · subst h; rw [hiL]; simp
  · simp only [show ¬ j < i by omega, decide_false]
    cases hc : L j with
    | false => rfl
    | true => exact absurd ht ((apartB_spec (hp.apart hL h hoj hi (hL j _ (by rw [Array.getElem?_toList]; exact hoj) hc) hiL)).1.2.2 t hdj)

theorem Plan.cell (hL : Ideal ops.toList L) {i : Nat} {oi : Oper} (hi : ops[i]? = some oi) (hpre : ∀ p ∈ predsOf oi, L p = true) (hiL : L i = false) {t : Nat} (ht : t ∈ (recAt recs i).rds) :
    (HL recs h0 L ops.size)[t]? = (HL recs h0 (fun _ => true) i)[t]? := by
  have hlt : i < ops.size := (Array.getElem?_eq_some_iff.1 hi).1
  have e1 : (HL recs h0 (fun j => decide (j < i)) i)[t]? = (HL recs h0 (fun _ => true) i)[t]? := HL_same i fun j hj _ => by simp [hj]
  have e2 : HL recs h0 (fun j => decide (j < i)) ops.size = HL recs h0 (fun j => decide (j < i)) i := by
    have := HL_stop (recs := recs) (h0 := h0) (i := i) (ops.size - i)
    rwa [show i + (ops.size - i) = ops.size by omega] at this
  rw [← e1, ← e2]
  refine HL_same ops.size fun j hj ⟨p, hpm, hpt⟩ => ?_
  have hoj : ops[j]? = some ops[j] := Array.getElem?_eq_getElem hj
  have hmem : t ∈ (markOf (recAt recs j)).1 := List.mem_map.2 ⟨p, hpm, hpt⟩
  rcases Nat.lt_trichotomy j i with h | h | h
  · simp only [h, decide_true]
    cases hc : L j with
    | true => rfl
    | false => exact absurd ht ((apartB_spec (hp.apart hL h hi hoj hpre hc)).2.1 t hmem)
  · subst h; rw [hiL]; simp
  · simp only [show ¬ j < i by omega, decide_false]
    cases hc : L j with
    | false => rfl
    | true => exact absurd ht ((apartB_spec (hp.apart hL h hoj hi (hL j _ (by rw [Array.getElem?_toList]; exact hoj) hc) hiL)).2.2 t hmem)

theorem Plan.addF (hL : Ideal ops.toList L) {i : Nat} {oi : Oper} (hi : ops[i]? = some oi) (hiL : L i = false) :
    FL ops.toList recs F0 (add L i) ops.size = setD (FL ops.toList recs F0 L ops.size) oi.dst (recAt recs i).s := by
  have hlt : i < ops.size := (Array.getElem?_eq_some_iff.1 hi).1
  have e : dstAt ops.toList i = oi.dst := by simp [dstAt, hi]
  have := FL_add (ops := ops.toList) (recs := recs) (F0 := F0) hiL ops.size fun j hij hj hjL d hd => by
    have hoj : ops[j]? = some ops[j] := Array.getElem?_eq_getElem hj
    have := (apartB_spec (hp.apart hL hij hoj hi (hL j _ (by rw [Array.getElem?_toList]; exact hoj) hjL) hiL)).1.2.1 d (by rw [← e]; exact hd)
    simp only [dstAt, Array.getElem?_toList, hoj]; exact this
  rw [this, if_pos hlt, e]
theorem Plan.addH (hL : Ideal ops.toList L) {i : Nat} {oi : Oper} (hi : ops[i]? = some oi) (hiL : L i = false) :
    HL recs h0 (add L i) ops.size = upd (recAt recs i).ws (HL recs h0 L ops.size) := by
  have hlt : i < ops.size := (Array.getElem?_eq_some_iff.1 hi).1
  have := HL_add (recs := recs) (h0 := h0) hiL ops.size fun j hij hj hjL p hpm q hqm he => by
    have hoj : ops[j]? = some ops[j] := Array.getElem?_eq_getElem hj
    have h1 := (apartB_spec (hp.apart hL hij hoj hi (hL j _ (by rw [Array.getElem?_toList]; exact hoj) hjL) hiL)).2.1 p.1 (List.mem_map.2 ⟨p, hpm, rfl⟩)
    refine h1 ?_
    rw [he]
    exact (hp.good j _ _ hoj (hp.rcd hoj)).sub q hqm
  rw [this, if_pos hlt]
end plan
end
end Go.Sx

/- Regions whose order is drawn: the executor is sound. No statement of the seat is proved here. -/
namespace Go.Sx
section
variable {P : Program} {T : Tab} {ops : Array Oper} {recs : List Rec} {F0 : Fr} {h0 : Hp}

theorem Run.plan {Ff : Fr} {hf : Hp} (hr : Run P ops F0 h0 ops.toList recs Ff hf) (hi : indepB ops (recs.map markOf) = true) :
    Plan P ops recs F0 h0 ∧ Ff = FL ops.toList recs F0 (fun _ => true) ops.size ∧ hf = HL recs h0 (fun _ => true) ops.size := by
  have hr0 : Run P ops (FL ops.toList recs F0 (fun _ => true) 0) (HL recs h0 (fun _ => true) 0) ops.toList recs Ff hf := hr
  obtain ⟨a1, a2, a3, a4⟩ := hr0.at (ops := ops) (recs := recs) ops.toList (fun i => by rw [Nat.zero_add]) (fun i => by rw [Nat.zero_add])
  have hlen : recs.length = ops.size := by rw [a1]; simp
  refine ⟨⟨hlen, fun i o r ho hrc => by have := a2 i o r (by rw [Array.getElem?_toList]; exact ho) hrc; rwa [Nat.zero_add] at this, fun i o r ho hrc => ?_⟩, by rw [a3]; simp, by rw [a4]; simp⟩
  unfold indepB at hi
  rw [Bool.and_eq_true] at hi
  have := indepGo_spec (ops := ops) (ops.toList.zip (recs.map markOf)) (done := []) (cl := []) rfl (by simp) hi.2 i (o, markOf r) (Nat.zero_le _) (by
    rw [List.nil_append, List.getElem?_zip_eq_some]
    exact ⟨by rw [Array.getElem?_toList]; exact ho, by rw [List.getElem?_map, hrc]; rfl⟩)
  simpa using this

theorem mem_preds {o : Oper} {e : Edge} (he : e ∈ o.after) (hb : Region.binds .any e = true) : e.on ∈ predsOf o := by
  unfold predsOf
  exact List.mem_filterMap.2 ⟨e, Array.mem_toList_iff.2 he, by simp [hb]⟩
theorem preds_mem {o : Oper} {p : Nat} (h : p ∈ predsOf o) : ∃ e ∈ o.after, Region.binds .any e = true ∧ e.on = p := by
  unfold predsOf at h
  obtain ⟨e, he, h⟩ := List.mem_filterMap.1 h
  cases hb : Region.binds .any e
  · simp [hb] at h
  · simp [hb] at h; exact ⟨e, Array.mem_toList_iff.1 he, hb, h⟩

def listedB (listed : Array Bool) (j : Nat) : Bool := listed.getD j false

theorem listed_add {listed : Array Bool} {i : Nat} (hi : i < listed.size) : listedB (listed.setIfInBounds i true) = add (listedB listed) i := by
  funext j
  simp only [listedB, add]
  by_cases h : i = j
  · subst h; simp [hi]
  · rw [getD_set_ne false h, show (j == i) = false from by simp; omega]; simp

theorem all_of_none (hp : Plan P ops recs F0 h0) {listed : Array Bool} (hs : listed.size = ops.size) (hr : Region.ready .any ops listed = []) : ∀ i, i < ops.size → listedB listed i = true := by
  intro i
  induction i using Nat.strongRecOn with
  | _ i ih =>
    intro hi
    cases hc : listedB listed i with
    | true => rfl
    | false =>
      have hoi : ops[i]? = some ops[i] := Array.getElem?_eq_getElem hi
      have hmem : i ∈ Region.ready .any ops listed := by
        rw [mem_ready]
        refine ⟨?_, _, hoi, fun e he hb => ?_⟩
        · have : listedB listed i = listed.getD i true := by simp [listedB, Array.getD_eq_getD_getElem?, show i < listed.size by omega]
          rw [← this]; exact hc
        · have hlt := (hp.pairs i _ _ hoi (hp.rcd hoi)).1 e.on (mem_preds he hb)
          exact ih e.on hlt (by omega)
      rw [hr] at hmem; simp at hmem

theorem draw_sound (hp : Plan P ops recs F0 h0) {m : Nat} {X : Nat → Prop} {w0 : World} {σ0 : Sg} {K : Fr → Hp → Prop} (hK : K (FL ops.toList recs F0 (fun _ => true) ops.size) (HL recs h0 (fun _ => true) ops.size)) :
    ∀ (fuel : Nat) (listed : Array Bool) (U : List Nat) (a : Act) (w : World) (σ : Sg), listed.size = ops.size → Ideal ops.toList (listedB listed) → U.length ≤ fuel → (∀ i, i < ops.size → listedB listed i = false → i ∈ U) →
      a.defers = [] → Inv w X σ (HL recs h0 (listedB listed) ops.size) → FRep w (Ex X σ) σ (FL ops.toList recs F0 (listedB listed) ops.size) a.tmps → Step m w0 σ0 w σ →
      wpAny P .any ops (SPost m X w0 σ0 fun x F h => x = .normal ∧ K F h) fuel listed a w := by
  intro fuel
  have done : ∀ (listed : Array Bool) (a : Act) (w : World) (σ : Sg), (∀ i, i < ops.size → listedB listed i = true) →
      a.defers = [] → Inv w X σ (HL recs h0 (listedB listed) ops.size) → FRep w (Ex X σ) σ (FL ops.toList recs F0 (listedB listed) ops.size) a.tmps → Step m w0 σ0 w σ →
      SPost m X w0 σ0 (fun x F h => x = .normal ∧ K F h) .normal a w := by
    intro listed a w σ hall hd hI hF hS
    have e1 : FL ops.toList recs F0 (listedB listed) ops.size = FL ops.toList recs F0 (fun _ => true) ops.size := by
      apply List.ext_getElem?
      intro t
      exact FL_same ops.size fun j hj _ => hall j hj
    have e2 : HL recs h0 (listedB listed) ops.size = HL recs h0 (fun _ => true) ops.size := by
      apply List.ext_getElem?
      intro t
      exact HL_same ops.size fun j hj _ => hall j hj
    rw [e1] at hF; rw [e2] at hI
    exact ⟨hd, .normal, _, _, σ, rfl, ⟨rfl, hK⟩, hI, hF, hS⟩
  induction fuel with
  | zero =>
    intro listed U a w σ hs hL hU hun hd hI hF hS
    have hU : U = [] := List.length_eq_zero_iff.1 (by omega)
    subst hU
    have hall : ∀ i, i < ops.size → listedB listed i = true := fun i hi => by
      cases hc : listedB listed i with
      | true => rfl
      | false => exact absurd (hun i hi hc) (by simp)
    refine ⟨?_, done listed a w σ hall hd hI hF hS⟩
    rw [List.eq_nil_iff_forall_not_mem]
    intro i hi
    rw [mem_ready] at hi
    obtain ⟨h1, o, ho, _⟩ := hi
    have hlt : i < ops.size := (Array.getElem?_eq_some_iff.1 ho).1
    have := hall i hlt
    simp [listedB, Array.getD_eq_getD_getElem?, show i < listed.size by omega] at this h1
    rw [this] at h1; simp at h1
  | succ fuel ih =>
    intro listed U a w σ hs hL hU hun hd hI hF hS
    refine ⟨fun hr => done listed a w σ (all_of_none hp hs hr) hd hI hF hS, fun i hi => ?_⟩
    rw [mem_ready] at hi
    obtain ⟨h1, o, ho, hpre⟩ := hi
    have hlt : i < ops.size := (Array.getElem?_eq_some_iff.1 ho).1
    have hiL : listedB listed i = false := by
      simp [listedB, Array.getD_eq_getD_getElem?, show i < listed.size by omega] at h1 ⊢; exact h1
    have hpre' : ∀ p ∈ predsOf o, listedB listed p = true := fun p hpm => by
      obtain ⟨e, he, hb, hep⟩ := preds_mem hpm
      rw [← hep]; exact hpre e he hb
    have hgood := hp.good i o _ ho (hp.rcd ho)
    have hlooks : ∀ t ∈ o.looksAt ops, ∀ s, (FL ops.toList recs F0 (fun _ => true) i)[t]? = some s → ∃ v, a.tmps[t]? = some v ∧ Rep w (Ex X σ) σ s v := fun t ht s hts => by
      rw [← hp.slot hL ho hpre' hiL ht] at hts
      exact hF.get hts
    have hcell : ∀ r ∈ (recAt recs i).rds, (HL recs h0 (listedB listed) ops.size)[r]? = (HL recs h0 (fun _ => true) i)[r]? := fun r hr => hp.cell hL ho hpre' hiL hr
    have hs' : (listed.setIfInBounds i true).size = ops.size := by simp [hs]
    have hL' : Ideal ops.toList (listedB (listed.setIfInBounds i true)) := by
      rw [listed_add (by omega)]
      intro j oj hoj hjL p hpm
      simp only [add, Bool.or_eq_true, beq_iff_eq] at hjL ⊢
      rcases hjL with hjL | hjL
      · exact .inl (hL j oj hoj hjL p hpm)
      · subst hjL
        rw [Array.getElem?_toList, ho] at hoj
        simp at hoj; subst hoj
        exact .inl (hpre' p hpm)
    have hmemU : i ∈ U := hun i hlt hiL
    have hU' : (U.erase i).length ≤ fuel := by
      rw [List.length_erase_of_mem hmemU]; omega
    have hun' : ∀ j, j < ops.size → listedB (listed.setIfInBounds i true) j = false → j ∈ U.erase i := fun j hj hjL => by
      rw [listed_add (by omega)] at hjL
      simp only [add, Bool.or_eq_false_iff, beq_eq_false_iff_ne] at hjL
      exact (List.mem_erase_of_ne hjL.2).2 (hun j hj hjL.1)
    have hput : ∀ (v : Value) (w' : World) (σ' : Sg), FRep w' (Ex X σ') σ' (FL ops.toList recs F0 (listedB listed) ops.size) a.tmps → Rep w' (Ex X σ') σ' (recAt recs i).s v →
        FRep w' (Ex X σ') σ' (FL ops.toList recs F0 (listedB (listed.setIfInBounds i true)) ops.size) (a.put o.dst v).tmps ∧ (a.put o.dst v).defers = [] := by
      intro v w' σ' hF' hr
      rw [listed_add (by omega), hp.addF hL ho hiL]
      cases o.dst with
      | none => exact ⟨hF', hd⟩
      | some d => exact ⟨hF'.set hr, hd⟩
    unfold wpOp
    rw [ho]
    simp only []
    rcases hgood.go w X σ _ a hI hlooks hcell with ⟨hw, hop⟩ | ⟨hw, hsu, hwu⟩
    · rw [if_pos hw]
      refine .inl (wp_of_done hop fun v w' ⟨σ', hr, hI', hS', _⟩ => ?_)
      obtain ⟨h3, h4⟩ := hput v w' σ' (hF.step hS' (Nat.le_refl _)) hr
      refine ih _ _ _ w' σ' hs' hL' hU' hun' h4 ?_ h3 (hS.trans hS'.any)
      rw [listed_add (by omega), hp.addH hL ho hiL]
      exact hI'
    · rw [if_neg (by rw [hw]; simp)]
      obtain ⟨h3, h4⟩ := hput Go.undef w σ hF (by rw [hsu]; exact .undef)
      refine ih _ _ _ w σ hs' hL' hU' hun' h4 ?_ h3 hS
      rw [listed_add (by omega), hp.addH hL ho hiL, hwu]
      exact hI

theorem resvK_sound (l : List Oper) : ∀ {h : Hp} {k : List Nat → Hp → Prop}, resvK T l h k → ∃ ns h', k ns h' ∧
    ∀ (w : World) (X : Nat → Prop) (σ : Sg), Inv w X σ h → ∃ σ', Inv w X σ' h' ∧ Step σ.length w σ w σ' := by
  induction l with
  | nil => intro h k hk; exact ⟨[], h, hk, fun w X σ hI => ⟨σ, hI, .refl _ _ _⟩⟩
  | cons o l ih =>
    intro h k hk
    have hk : (match needs T o.op with
      | true => idK h supply fun n => appK h [.fresh] fun h' => resvK T l h' fun ns h'' => k (n :: ns) h''
      | false => resvK T l h fun ns h'' => k (0 :: ns) h'') := hk
    cases hn : needs T o.op with
    | true =>
      rw [hn] at hk
      obtain ⟨n, _, hk⟩ := idK_sound hk
      have hk := appK_sound hk
      obtain ⟨ns, h', hk, hs⟩ := ih hk
      refine ⟨_, h', hk, fun w X σ hI => ?_⟩
      obtain ⟨hI1, hS1⟩ := hI.fresh
      obtain ⟨σ', hI', hS'⟩ := hs w X _ hI1
      exact ⟨σ', hI', hS1.trans (hS'.le (by simp))⟩
    | false =>
      rw [hn] at hk
      obtain ⟨ns, h', hk, hs⟩ := ih hk
      exact ⟨_, h', hk, hs⟩

theorem Inv.heap {w w' : World} {X : Nat → Prop} {σ : Sg} {h : Hp} (hI : Inv w X σ h) (he : w'.heap = w.heap) : Inv w' X σ h := by
  have hmono : ∀ (E : Nat → Prop) (τ : Sg) (s : SV) (v : Value), Rep w E τ s v → Rep w' E τ s v := fun E τ s v hr =>
    hr.mono τ (fun g _ _ => by rw [he]) (by rw [he]; exact Nat.le_refl _) (fun _ _ h => h) (fun i e h _ => .inl h)
  refine ⟨hI.len, fun i b e hb hee => ?_, fun i e g h1 h2 => by rw [he]; exact hI.lt i e g h1 h2, hI.inj, hI.dis, fun g hx => by rw [he]; exact hI.xlt g hx⟩
  have := hI.ok i b e hb hee
  cases b <;> cases e <;> simp only [BlkOK] at this ⊢
  case fix.fix =>
    obtain ⟨vs, h1, h2, h3⟩ := this
    exact ⟨vs, by rw [he]; exact h1, h2, fun i s v hs hv => ⟨hmono _ _ _ _ (h3 i s v hs hv).1, (h3 i s v hs hv).2⟩⟩
  case row.row =>
    obtain ⟨h1, h2, h3, h4, vs, h5, h6, h7⟩ := this
    refine ⟨h1, h2, h3, h4, vs, h5.same (by rw [he]), h6, fun i e he' => ⟨(h7 i e he').1, fun j s hs => ?_⟩⟩
    obtain ⟨v, a, b, c⟩ := (h7 i e he').2 j s hs
    exact ⟨v, a, hmono _ _ _ _ b, c⟩
  all_goals exact this

/-- A REGION WHOSE ORDER IS DRAWN: one run in the text's order, and what is not ordered apart. -/
theorem DrawG.of (hm : P.follows .mixedOrders = true) (hT : TabOK P T) {m : Nat} {id : Nat} {F : Fr} {h : Hp} {K : Fr → Hp → Prop} (hk : drawK P T ops F h K) : DrawG P m id ops F h K := by
  refine ⟨fun w X σ tmps hI hF => wp_region_any hm ?_⟩
  obtain ⟨ids, h', hk, hres⟩ := resvK_sound ops.toList hk
  obtain ⟨rs, F', h'', hk, hrun⟩ := dopsK_sound hT ops.toList hk
  obtain ⟨hind, hk⟩ := marksK_sound hk
  obtain ⟨hp, e1, e2⟩ := hrun.plan hind
  subst e1; subst e2
  obtain ⟨σ1, hI1, hS1⟩ := hres w X σ hI
  have hF1 := hF.step hS1 (Nat.le_refl _)
  have hS2 : Step σ1.length w σ1 { w with drawn := w.drawn + 1 } σ1 := ⟨rfl, rfl, rfl, Nat.le_refl _, fun _ _ _ => rfl, fun _ h _ => h, fun _ _ _ h _ => .inl h⟩
  have hF2 := hF1.step hS2 (Nat.le_refl _)
  have hI2 : Inv { w with drawn := w.drawn + 1 } X σ1 h' := hI1.heap rfl
  have hL0 : ∀ k, FL ops.toList rs F (listedB (Array.replicate ops.size false)) k = F := by
    intro k
    induction k with
    | zero => rfl
    | succ k ih =>
      simp only [FL]
      rw [if_neg, ih]
      simp only [listedB, Array.getD_eq_getD_getElem?, Array.getElem?_replicate]
      split <;> simp
  have hH0 : ∀ k, HL rs h' (listedB (Array.replicate ops.size false)) k = h' := by
    intro k
    induction k with
    | zero => rfl
    | succ k ih =>
      simp only [HL]
      rw [if_neg, ih]
      simp only [listedB, Array.getD_eq_getD_getElem?, Array.getElem?_replicate]
      split <;> simp
  have hbf : ∀ i, listedB (Array.replicate ops.size false) i = false := fun i => by
    simp only [listedB, Array.getD_eq_getD_getElem?, Array.getElem?_replicate]
    split <;> simp
  refine draw_sound hp hk ops.size _ (List.range ops.size) ⟨tmps, []⟩ _ σ1 (by simp) (fun i o _ hi => by rw [hbf] at hi; simp at hi) (by simp) (fun i hi _ => List.mem_range.2 hi) rfl ?_ ?_ (hS1.any.trans hS2.any)
  · rw [hH0]; exact hI2
  · rw [hL0]; exact hF2
end
end Go.Sx

/- Small laws for contracts. No statement of the seat is proved here. -/
namespace Go.Sx
theorem both_t {b : Bool} {A B : Prop} (hb : b = true) (h : A) : (b = true → A) ∧ (b = false → B) := ⟨fun _ => h, fun hf => by rw [hb] at hf; simp at hf⟩
theorem both_f {b : Bool} {A B : Prop} (hb : b = false) (h : B) : (b = true → A) ∧ (b = false → B) := ⟨fun hf => by rw [hb] at hf; simp at hf, fun _ => h⟩
theorem repl_nil {w : World} {E : Nat → Prop} {σ : Sg} : RepL w E σ [] [] := ⟨rfl, by simp⟩
theorem repl_cons {w : World} {E : Nat → Prop} {σ : Sg} {s : SV} {v : Value} {ss : List SV} {vs : List Value} (h : Rep w E σ s v) (hs : RepL w E σ ss vs) : RepL w E σ (s :: ss) (v :: vs) :=
  ⟨by simp [hs.1], fun i s' v' h1 h2 => by
    cases i with
    | zero => simp at h1 h2; subst h1; subst h2; exact h
    | succ i => exact hs.2 i s' v' (by simpa using h1) (by simpa using h2)⟩
end Go.Sx

/- Loops: a frame and a heap at their head, and what is forgotten there. No statement of the seat is proved here. -/
namespace Go.Sx
section
variable {P : Program} {T : Tab}

/-- Whatever the one pair says the other says too: blocks may change their number, may be given away; slots may be forgotten. -/
structure Shift (m : Nat) (F : Fr) (h : Hp) (F' : Fr) (h' : Hp) : Prop where
  ok : ∀ (w : World) (X : Nat → Prop) (σ : Sg) (tmps : Array Value), Inv w X σ h → FRep w (Ex X σ) σ F tmps → ∃ σ', Inv w X σ' h' ∧ FRep w (Ex X σ') σ' F' tmps ∧ Step m w σ w σ'
theorem Shift.refl (m : Nat) (F : Fr) (h : Hp) : Shift m F h F h := ⟨fun _ _ σ _ hI hF => ⟨σ, hI, hF, .refl _ _ _⟩⟩
theorem Shift.trans {m : Nat} {F F' F'' : Fr} {h h' h'' : Hp} (a : Shift m F h F' h') (b : Shift m F' h' F'' h'') : Shift m F h F'' h'' := ⟨fun w X σ tmps hI hF => by
  obtain ⟨σ', hI', hF', hS⟩ := a.ok w X σ tmps hI hF
  obtain ⟨σ'', hI'', hF'', hS'⟩ := b.ok w X σ' tmps hI' hF'
  exact ⟨σ'', hI'', hF'', hS.trans hS'⟩⟩

/-- What is shown on the way out of a loop. -/
structure XG (m : Nat) (F : Fr) (h : Hp) (K : Fr → Hp → Prop) : Prop where
  ok : ∃ F' h', Shift m F h F' h' ∧ K F' h'
theorem XG.same {m : Nat} {F : Fr} {h : Hp} {K : Fr → Hp → Prop} (hk : K F h) : XG m F h K := ⟨F, h, .refl _ _ _, hk⟩
theorem XG.step {m : Nat} {F F' : Fr} {h h' : Hp} {K : Fr → Hp → Prop} (hs : Shift m F h F' h') (hk : XG m F' h' K) : XG m F h K := by
  obtain ⟨F'', h'', hs', hk⟩ := hk.ok
  exact ⟨F'', h'', hs.trans hs', hk⟩

/-! ### frames that are told in a few words -/
def mkFr (n : Nat) (sp : List (Nat × SV)) : Fr := sp.foldl (fun F p => F.set p.1 p.2) (List.replicate n .any)
noncomputable def setsK (sp : List (Nat × SV)) : Fr → (Fr → Prop) → Prop :=
  List.rec (motive := fun _ => Fr → (Fr → Prop) → Prop) (fun F k => k F) (fun p _ ih F k => setK F p.1 p.2 fun F' => ih F' k) sp
noncomputable def frmK (n : Nat) (sp : List (Nat × SV)) (k : Fr → Prop) : Prop := repK n SV.any fun F => setsK sp F k
theorem setsK_sound {sp : List (Nat × SV)} : ∀ {F : Fr} {k : Fr → Prop}, setsK sp F k → k (sp.foldl (fun F p => F.set p.1 p.2) F) := by
  induction sp with
  | nil => intro F k h; exact h
  | cons p sp ih => intro F k h; exact ih (setK_sound (show setK F p.1 p.2 _ from h)).2
theorem repK_eq {α : Type} {x : α} : ∀ {n : Nat} {k : List α → Prop}, repK n x k → k (List.replicate n x) := by
  intro n
  induction n with
  | zero => intro k h; exact h
  | succ n ih => intro k h; exact ih (k := fun r => k (x :: r)) h
theorem frmK_sound {n : Nat} {sp : List (Nat × SV)} {k : Fr → Prop} (h : frmK n sp k) : k (mkFr n sp) := setsK_sound (repK_eq h)

structure HeadG (m : Nat) (F : Fr) (h : Hp) (n : Nat) (sp : List (Nat × SV)) (h' : Hp) : Prop where
  ok : Shift m F h (mkFr n sp) h'

/-- What holds behind one round. -/
def LPost {α : Type} (m n : Nat) (sp : α → List (Nat × SV)) (hx : α → Hp) (μ : α → Nat) (x : α) (K : Post) : Post := fun e F h => match e with
  | .normal => ∃ x', μ x' < μ x ∧ HeadG m F h n (sp x') (hx x')
  | .exit i => XG m F h (K (.exit i))
  | .ret => XG m F h (K .ret)

theorem SOK.loop {α : Type} {m n : Nat} {c : Code} {F : Fr} {h : Hp} {K : Post} (sp : α → List (Nat × SV)) (hx : α → Hp) (μ : α → Nat) (x0 : α) (hs : Shift m F h (mkFr n (sp x0)) (hx x0))
    (body : ∀ x, SOK P m c (mkFr n (sp x)) (hx x) (LPost m n sp hx μ x K)) : SOK P m (.loop c) F h K := by
  intro w X σ tmps hI hF
  obtain ⟨σ0, hI0, hF0, hS0⟩ := hs.ok w X σ tmps hI hF
  refine wp_loop_ghost (fun k a w' => ∃ x σ', μ x = k ∧ a.defers = [] ∧ Inv w' X σ' (hx x) ∧ FRep w' (Ex X σ') σ' (mkFr n (sp x)) a.tmps ∧ Step m w σ w' σ') (μ x0) ⟨x0, σ0, rfl, rfl, hI0, hF0, hS0⟩ ?_
  rintro k ⟨tmps', ds⟩ w' ⟨x, σ', hk, hd, hI', hF', hS'⟩
  have hd : ds = [] := hd
  subst hd
  refine wp_mono (body x w' X σ' tmps' hI' hF') fun e a' w'' hq => ?_
  obtain ⟨hd', y, F2, h2, σ2, hx2, hp, hI2, hF2, hS2⟩ := hq
  cases e <;> cases hx2
  case normal =>
    obtain ⟨x', hlt, hhead⟩ := hp
    obtain ⟨σ3, hI3, hF3, hS3⟩ := hhead.ok.ok w'' X σ2 a'.tmps hI2 hF2
    exact ⟨μ x', by omega, x', σ3, rfl, hd', hI3, hF3, (hS'.trans hS2).trans hS3⟩
  case exit i =>
    obtain ⟨F3, h3, hsh, hp⟩ := XG.ok hp
    obtain ⟨σ3, hI3, hF3, hS3⟩ := hsh.ok w'' X σ2 a'.tmps hI2 hF2
    exact ⟨hd', .exit i, F3, h3, σ3, rfl, hp, hI3, hF3, (hS'.trans hS2).trans hS3⟩
  case ret =>
    obtain ⟨F3, h3, hsh, hp⟩ := XG.ok hp
    obtain ⟨σ3, hI3, hF3, hS3⟩ := hsh.ok w'' X σ2 a'.tmps hI2 hF2
    exact ⟨hd', .ret, F3, h3, σ3, rfl, hp, hI3, hF3, (hS'.trans hS2).trans hS3⟩

/-- A LOOP, by what holds at its head. -/
theorem LoopG.inv (hT : TabOK P T) {α : Type} {m : Nat} {c : Code} {F : Fr} {h : Hp} {K : Post} (n : Nat) (sp : α → List (Nat × SV)) (hx : α → Hp) (μ : α → Nat) (x0 : α)
    (hs : HeadG m F h n (sp x0) (hx x0)) (body : ∀ x, frmK n (sp x) fun F => codeK P T m c F (hx x) (LPost m n sp hx μ x K)) : LoopG P m c F h K :=
  ⟨SOK.loop sp hx μ x0 hs.ok fun x => codeK_sound hT c (frmK_sound (body x))⟩

/-! ### the shift, reckoned -/
abbrev Rho := List (Option Nat)
def refK (ρ : Rho) (b' b : Nat) (k : Prop) : Prop := nthK ρ b' fun r => match r with | some j => eqNK j b k | none => False
def nilK (ρ : Rho) (b' : Nat) (k : Prop) : Prop := nthK ρ b' fun r => match r with | some _ => False | none => k
def slotK (ρ : Rho) (s s' : SV) (k : Prop) : Prop :=
  match s' with
  | .any => k
  | .undef => match s with | .undef => k | _ => False
  | .int q n' => match s with | .int p n => if p = q then n = n' ∧ k else False | _ => False
  | .bool b' => match s with | .bool b => b = b' ∧ k | .tt => true = b' ∧ k | .ff => false = b' ∧ k | _ => False
  | .tt => match s with | .tt => k | .bool b => b = true ∧ k | _ => False
  | .ff => match s with | .ff => k | .bool b => b = false ∧ k | _ => False
  | .str t => s = .str t ∧ k
  | .nilp => match s with | .nilp => k | _ => False
  | .nils => match s with | .nils => k | _ => False
  | .ptr b' o' => match s with | .ptr b o => refK ρ b' b (eqNK o o' k) | _ => False
  | .sl b' => match s with | .sl b => refK ρ b' b k | .nils => nilK ρ b' k | _ => False
  | .rs z' es' => match s with | .rs z es => eqNK z z' (es = es' ∧ k) | .nils => es' = [] ∧ k | _ => False
  | .agg cs' => s = .agg cs' ∧ puresK cs' k
  | .fn f cs => s = .fn f cs ∧ puresK cs k
  | _ => False
noncomputable def slotsK (ρ : Rho) (l : List SV) : List SV → Prop → Prop :=
  List.rec (motive := fun _ => List SV → Prop → Prop) (fun l' k => List.rec (motive := fun _ => Prop) k (fun _ _ _ => False) l')
    (fun s _ ih l' k => List.rec (motive := fun _ => Prop) False (fun s' t' _ => slotK ρ s s' (ih t' k)) l') l
noncomputable def blksK (ρ : Rho) (h : Hp) (r : Rho) : Hp → Prop → Prop :=
  List.rec (motive := fun _ => Hp → Prop → Prop) (fun h' k => List.rec (motive := fun _ => Prop) k (fun _ _ _ => False) h')
    (fun x _ ih h' k => List.rec (motive := fun _ => Prop) False (fun b' t' _ => match b', x with
      | .dead, _ => ih t' k
      | .row _ _ es', none => es' = [] ∧ ih t' k
      | .row t z es', some j => nthK h j fun b => match b with
        | .row t0 z0 es => eqNK t0 t (eqNK z0 z (es = es' ∧ ih t' k))
        | _ => False
      | .fix t cs', some j => nthK h j fun b => match b with
        | .fix t0 cs => eqNK t0 t (slotsK ρ cs cs' (ih t' k))
        | _ => False
      | _, _ => False) h') r
def rhoB (m : Nat) (ρ : Rho) : Bool :=
  (List.range m).all (fun i => ρ[i]? == some (some i)) && (List.range ρ.length).all fun i => (List.range ρ.length).all fun j => i == j || ρ[i]? == some none || !(ρ[i]? == ρ[j]?)

noncomputable def shiftK (ρ : Rho) (F : Fr) (h : Hp) (F' : Fr) (h' : Hp) : Prop := slotsK ρ F F' (blksK ρ h ρ h' True)

def entOf (σ : Sg) : Option Nat → Blk → Ent
  | _, .dead => .dead
  | some j, _ => σ.getD j .dead
  | none, _ => .rownil
def sgOf (σ : Sg) (ρ : Rho) (h' : Hp) : Sg := List.zipWith (entOf σ) ρ h'

theorem refK_sound {ρ : Rho} {b' b : Nat} {k : Prop} (h : refK ρ b' b k) : ρ[b']? = some (some b) ∧ k := by
  obtain ⟨r, hr, h⟩ := nthK_sound (show nthK ρ b' _ from h)
  cases r with
  | none => exact h.elim
  | some j =>
    obtain ⟨e, h2⟩ := eqNK_sound (show eqNK j b k from h)
    subst e
    exact ⟨hr, h2⟩
theorem nilK_sound {ρ : Rho} {b' : Nat} {k : Prop} (h : nilK ρ b' k) : ρ[b']? = some none ∧ k := by
  obtain ⟨r, hr, h⟩ := nthK_sound (show nthK ρ b' _ from h)
  cases r with
  | none => exact ⟨hr, h⟩
  | some j => exact h.elim

/-- What ties the two lists of entries. -/
structure Ties (σ σ' : Sg) (ρ : Rho) : Prop where
  ref : ∀ (b j : Nat) (e : Ent), ρ[b]? = some (some j) → σ[j]? = some e → e ≠ .fresh → σ'[b]? = some e ∨ σ'[b]? = some Ent.dead
  nil : ∀ (b : Nat), ρ[b]? = some none → σ'[b]? = some Ent.rownil ∨ σ'[b]? = some Ent.dead

theorem slotK_sound {ρ : Rho} {s s' : SV} {k : Prop} (h : slotK ρ s s' k) : k ∧ ∀ (w : World) (E E' : Nat → Prop) (σ σ' : Sg) (v : Value), Ties σ σ' ρ → (∀ g, E' g → E g) → Rep w E σ s v → Rep w E' σ' s' v := by
  have same : FreeSV s → ∀ (w : World) (E E' : Nat → Prop) (σ σ' : Sg) (v : Value), Ties σ σ' ρ → (∀ g, E' g → E g) → Rep w E σ s v → Rep w E' σ' s v := fun hf w E E' σ σ' v _ hE hr =>
    (hf w E σ [] v hr).mono σ' (fun _ _ _ => rfl) (Nat.le_refl _) (fun g _ hn h => hn (hE g h)) (by simp)
  unfold slotK at h
  split at h
  case h_1 => exact ⟨h, fun _ _ _ _ _ _ _ _ _ => .any⟩
  case h_2 => split at h <;> first | exact h.elim | exact ⟨h, fun _ _ _ _ _ _ _ _ hr => by cases hr; exact .undef⟩
  case h_3 =>
    split at h
    · split at h
      · rename_i hp; subst hp; obtain ⟨e, h⟩ := h; subst e; exact ⟨h, fun _ _ _ _ _ _ _ _ hr => by cases hr; exact .int⟩
      · exact h.elim
    · exact h.elim
  case h_4 => split at h <;> first | exact h.elim | (obtain ⟨e, h⟩ := h; subst e; exact ⟨h, fun _ _ _ _ _ _ _ _ hr => by cases hr; exact .bool⟩)
  case h_5 =>
    split at h
    · exact ⟨h, fun _ _ _ _ _ _ _ _ hr => by cases hr; exact .tt⟩
    · obtain ⟨e, h⟩ := h; subst e; exact ⟨h, fun _ _ _ _ _ _ _ _ hr => by cases hr; exact .tt⟩
    · exact h.elim
  case h_6 =>
    split at h
    · exact ⟨h, fun _ _ _ _ _ _ _ _ hr => by cases hr; exact .ff⟩
    · obtain ⟨e, h⟩ := h; subst e; exact ⟨h, fun _ _ _ _ _ _ _ _ hr => by cases hr; exact .ff⟩
    · exact h.elim
  case h_7 => obtain ⟨e, h⟩ := h; subst e; exact ⟨h, fun _ _ _ _ _ _ _ _ hr => by cases hr; exact .str⟩
  case h_8 => split at h <;> first | exact h.elim | exact ⟨h, fun _ _ _ _ _ _ _ _ hr => by cases hr; exact .nilp⟩
  case h_9 => split at h <;> first | exact h.elim | exact ⟨h, fun _ _ _ _ _ _ _ _ hr => by cases hr; exact .nils⟩
  case h_10 =>
    split at h
    · obtain ⟨hb, h⟩ := refK_sound h
      obtain ⟨e, h2⟩ := eqNK_sound h
      subst e
      refine ⟨h2, fun w E E' σ σ' v ht _ hr => ?_⟩
      cases hr with
      | ptr hg => exact (ht.ref _ _ _ hb hg (by simp)).elim (fun h => .ptr h) (fun h => .ptrD h)
      | ptrD hg => exact (ht.ref _ _ _ hb hg (by simp)).elim (fun h => .ptrD h) (fun h => .ptrD h)
    · exact h.elim
  case h_11 =>
    split at h
    · obtain ⟨hb, h⟩ := refK_sound h
      refine ⟨h, fun w E E' σ σ' v ht _ hr => ?_⟩
      cases hr with
      | sl hg => exact (ht.ref _ _ _ hb hg (by simp)).elim (fun h => .sl h) (fun h => .slD h)
      | slN hg => exact (ht.ref _ _ _ hb hg (by simp)).elim (fun h => .slN h) (fun h => .slD h)
      | slD hg => exact (ht.ref _ _ _ hb hg (by simp)).elim (fun h => .slD h) (fun h => .slD h)
    · obtain ⟨hb, h⟩ := nilK_sound h
      refine ⟨h, fun w E E' σ σ' v ht _ hr => ?_⟩
      cases hr
      exact (ht.nil _ hb).elim (fun h => .slN h) (fun h => .slD h)
    · exact h.elim
  case h_12 =>
    split at h
    · obtain ⟨e, e', h2⟩ := eqNK_sound h
      subst e; subst e'
      refine ⟨h2, same fun w E σ σ' v hr => ?_⟩
      cases hr <;> constructor <;> assumption
    · obtain ⟨e, h⟩ := h
      subst e
      exact ⟨h, fun _ _ _ _ _ _ _ _ hr => by cases hr; exact .rs0 (Nat.zero_le _)⟩
    · exact h.elim
  case h_13 =>
    obtain ⟨e, h⟩ := h
    subst e
    obtain ⟨h, hf⟩ := agg_free h
    exact ⟨h, same hf⟩
  case h_14 =>
    obtain ⟨e, h⟩ := h
    subst e
    obtain ⟨h, hf⟩ := puresK_sound h
    refine ⟨h, same fun w E σ σ' v hr => ?_⟩
    cases hr with
    | fn hl hc => exact .fn hl fun i s v hs hv => hf s (List.mem_of_getElem? hs) w E σ σ' v (hc i s v hs hv)
  case h_15 => exact h.elim

theorem slotsK_sound {ρ : Rho} (l : List SV) : ∀ {l' : List SV} {k : Prop}, slotsK ρ l l' k → k ∧ l.length = l'.length ∧
    ∀ (w : World) (E E' : Nat → Prop) (σ σ' : Sg), Ties σ σ' ρ → (∀ g, E' g → E g) → ∀ (i : Nat) (s s' : SV) (v : Value), l[i]? = some s → l'[i]? = some s' → Rep w E σ s v → Rep w E' σ' s' v := by
  induction l with
  | nil =>
    intro l' k h
    cases l' with
    | nil => exact ⟨h, rfl, by simp⟩
    | cons x t => exact h.elim
  | cons s l ih =>
    intro l' k h
    cases l' with
    | nil => exact h.elim
    | cons s' l' =>
      obtain ⟨h, h1⟩ := slotK_sound (show slotK ρ s s' (slotsK ρ l l' k) from h)
      obtain ⟨h, hl, h2⟩ := ih h
      refine ⟨h, by simp [hl], fun w E E' σ σ' ht hE i a a' v ha ha' hr => ?_⟩
      cases i with
      | zero => simp at ha ha'; subst ha; subst ha'; exact h1 w E E' σ σ' v ht hE hr
      | succ i => exact h2 w E E' σ σ' ht hE i a a' v (by simpa using ha) (by simpa using ha') hr
end
end Go.Sx

/- The shift is sound; a row that nobody writes any more. No statement of the seat is proved here. -/
namespace Go.Sx
section
variable {P : Program} {T : Tab}

theorem Rep.le {w : World} {E E' : Nat → Prop} {s : SV} {v : Value} (h : Rep w E [] s v) (hE : ∀ g, E' g → E g) (σ' : Sg) : Rep w E' σ' s v :=
  h.mono σ' (fun _ _ _ => rfl) (Nat.le_refl _) (fun g _ hn h => hn (hE g h)) (by simp)

/-- What is said of one target block. -/
def BlkTie (ρ : Rho) (h : Hp) (r : Option Nat) (b' : Blk) : Prop :=
  ∀ (w : World) (E E' : Nat → Prop) (σ σ' : Sg), σ.length = h.length → Ties σ σ' ρ → (∀ g, E' g → E g) → (∀ (i : Nat) (b : Blk) (e : Ent), h[i]? = some b → σ[i]? = some e → BlkOK w E σ b e) → BlkOK w E' σ' b' (entOf σ r b')
/-- An entry that is taken over is none of a block yet to come. -/
def BlkSrc (h : Hp) (r : Option Nat) (b' : Blk) : Prop := (∃ (j : Nat) (b : Blk), r = some j ∧ h[j]? = some b ∧ b ≠ .fresh) ∨ b' = .dead ∨ (r = none ∧ b' ≠ .fresh)

theorem blksK_sound {ρ : Rho} {h : Hp} (r : Rho) : ∀ {h' : Hp} {k : Prop}, blksK ρ h r h' k → k ∧ r.length = h'.length ∧
    ∀ (i : Nat) (x : Option Nat) (b' : Blk), r[i]? = some x → h'[i]? = some b' → BlkTie ρ h x b' ∧ BlkSrc h x b' := by
  induction r with
  | nil =>
    intro h' k hk
    cases h' with
    | nil => exact ⟨hk, rfl, by simp⟩
    | cons b t => exact hk.elim
  | cons x r ih =>
    intro h' k hk
    cases h' with
    | nil => exact hk.elim
    | cons b' t =>
      have key : blksK ρ h r t k ∧ BlkTie ρ h x b' ∧ BlkSrc h x b' := by
        cases b' with
        | dead => exact ⟨hk, fun _ _ _ _ _ _ _ _ _ => by cases x <;> trivial, .inr (.inl rfl)⟩
        | fresh => exact False.elim (by cases x <;> exact hk)
        | row t0 z es' =>
          cases x with
          | none =>
            obtain ⟨e, hk⟩ := (show es' = [] ∧ blksK ρ h r t k from hk)
            exact ⟨hk, fun _ _ _ _ _ _ _ _ _ => e, .inr (.inr ⟨rfl, by simp⟩)⟩
          | some j =>
            obtain ⟨b, hb, hk⟩ := nthK_sound (show nthK h j _ from hk)
            cases b with
            | row t1 z1 es =>
              obtain ⟨e1, hk⟩ := eqNK_sound hk
              obtain ⟨e2, e3, hk2⟩ := eqNK_sound hk
              subst e1; subst e2; subst e3
              refine ⟨hk2, fun w E E' σ σ' hl ht hE hall => ?_, .inl ⟨j, _, rfl, hb, by simp⟩⟩
              have hlt : j < σ.length := by rw [hl]; exact (List.getElem?_eq_some_iff.1 hb).1
              have he : σ[j]? = some (σ.getD j .dead) := by simp [List.getD, List.getElem?_eq_getElem hlt]
              have := hall j _ _ hb he
              show BlkOK w E' σ' _ (σ.getD j .dead)
              revert this
              generalize σ.getD j .dead = e
              intro this
              cases e <;> simp only [BlkOK] at this ⊢
              case row g sz n cap =>
                obtain ⟨h1, h2, h3, h4, vs, h5, h6, h7⟩ := this
                refine ⟨h1, h2, h3, h4, vs, h5, h6, fun i e he => ⟨(h7 i e he).1, fun j s hs => ?_⟩⟩
                obtain ⟨v, a, b, c⟩ := (h7 i e he).2 j s hs
                exact ⟨v, a, b.le hE [], c⟩
              case rownil => exact this
            | _ => exact hk.elim
        | fix t0 cs' =>
          cases x with
          | none => exact hk.elim
          | some j =>
            obtain ⟨b, hb, hk⟩ := nthK_sound (show nthK h j _ from hk)
            cases b with
            | fix t1 cs =>
              obtain ⟨e1, hk⟩ := eqNK_sound hk
              obtain ⟨hk2, hlen, hs⟩ := slotsK_sound cs hk
              subst e1
              refine ⟨hk2, fun w E E' σ σ' hl ht hE hall => ?_, .inl ⟨j, _, rfl, hb, by simp⟩⟩
              have hlt : j < σ.length := by rw [hl]; exact (List.getElem?_eq_some_iff.1 hb).1
              have he : σ[j]? = some (σ.getD j .dead) := by simp [List.getD, List.getElem?_eq_getElem hlt]
              have := hall j _ _ hb he
              show BlkOK w E' σ' _ (σ.getD j .dead)
              revert this
              generalize σ.getD j .dead = e
              intro this
              cases e <;> simp only [BlkOK] at this ⊢
              case fix g =>
                obtain ⟨vs, h1, h2, h3⟩ := this
                refine ⟨vs, h1, by rw [← hlen]; exact h2, fun i s v hs' hv => ?_⟩
                have hi : i < cs.length := by rw [hlen]; exact (List.getElem?_eq_some_iff.1 hs').1
                obtain ⟨a, b⟩ := h3 i _ v (List.getElem?_eq_getElem hi) hv
                exact ⟨hs w E E' σ σ' ht hE i _ s v (List.getElem?_eq_getElem hi) hs' a, b⟩
            | _ => exact hk.elim
      obtain ⟨hk, ht⟩ := key
      obtain ⟨hk, hl, hr⟩ := ih hk
      refine ⟨hk, by simp [hl], fun i y b hy hb => ?_⟩
      cases i with
      | zero => simp at hy hb; subst hy; subst hb; exact ht
      | succ i => exact hr i y b (by simpa using hy) (by simpa using hb)

theorem rhoB_spec {m : Nat} {ρ : Rho} (h : rhoB m ρ = true) : (∀ i, i < m → ρ[i]? = some (some i)) ∧ ∀ (i j k : Nat), ρ[i]? = some (some k) → ρ[j]? = some (some k) → i = j := by
  simp only [rhoB, Bool.and_eq_true, List.all_eq_true, List.mem_range, beq_iff_eq, Bool.or_eq_true, Bool.not_eq_true', beq_eq_false_iff_ne] at h
  refine ⟨h.1, fun i j k hi hj => ?_⟩
  rcases h.2 i (List.getElem?_eq_some_iff.1 hi).1 j (List.getElem?_eq_some_iff.1 hj).1 with (h1 | h1) | h1
  · exact h1
  · rw [hi] at h1; simp at h1
  · exact absurd (by rw [hi, hj]) h1

theorem shift_sg {m : Nat} {h h' : Hp} (ρ : Rho) (hρ : rhoB m ρ = true) (hk : blksK ρ h ρ h' True) {w : World} {X : Nat → Prop} {σ : Sg} (hI : Inv w X σ h) :
    ∃ σ', Inv w X σ' h' ∧ Step m w σ w σ' ∧ Ties σ σ' ρ ∧ ∀ g, Ex X σ' g → Ex X σ g := by
  obtain ⟨_, hrl, hblks⟩ := blksK_sound ρ hk
  obtain ⟨hm, hinj⟩ := rhoB_spec hρ
  have hsl : (sgOf σ ρ h').length = h'.length := by simp [sgOf, hrl]
  have hget : ∀ (i : Nat) (x : Option Nat) (b' : Blk), ρ[i]? = some x → h'[i]? = some b' → (sgOf σ ρ h')[i]? = some (entOf σ x b') := by
    intro i x b' hx hb
    simp [sgOf, List.getElem?_zipWith, hx, hb]
  have hinv : ∀ (i : Nat) (e : Ent), (sgOf σ ρ h')[i]? = some e → ∃ x b', ρ[i]? = some x ∧ h'[i]? = some b' ∧ e = entOf σ x b' := by
    intro i e he
    have hi : i < h'.length := by rw [← hsl]; exact (List.getElem?_eq_some_iff.1 he).1
    have hi' : i < ρ.length := by rw [hrl]; exact hi
    have := hget i _ _ (List.getElem?_eq_getElem hi') (List.getElem?_eq_getElem hi)
    rw [this] at he
    exact ⟨_, _, List.getElem?_eq_getElem hi', List.getElem?_eq_getElem hi, (Option.some.inj he).symm⟩
  have hcase : ∀ (x : Option Nat) (b' : Blk) (g : Nat), (entOf σ x b').blk = some g → ∃ j, x = some j ∧ σ[j]? = some (entOf σ x b') := by
    intro x b' g hg
    cases x with
    | none => cases b' <;> simp [entOf, Ent.blk] at hg
    | some j =>
      refine ⟨j, rfl, ?_⟩
      have e1 : entOf σ (some j) b' = σ.getD j .dead := by
        cases b' <;> first | rfl | (simp [entOf, Ent.blk] at hg)
      rw [e1] at hg ⊢
      cases hj : σ[j]? with
      | none => simp [List.getD, hj, Ent.blk] at hg
      | some e => simp [List.getD, hj]
  have hties : Ties σ (sgOf σ ρ h') ρ := by
    refine ⟨fun b j e hb he hf => ?_, fun b hb => ?_⟩
    · have hi : b < h'.length := by rw [← hrl]; exact (List.getElem?_eq_some_iff.1 hb).1
      have := hget b _ _ hb (List.getElem?_eq_getElem hi)
      rw [this]
      cases h'[b] <;> simp [entOf, List.getD, he]
    · have hi : b < h'.length := by rw [← hrl]; exact (List.getElem?_eq_some_iff.1 hb).1
      have := hget b _ _ hb (List.getElem?_eq_getElem hi)
      rw [this]
      cases h'[b] <;> simp [entOf]
  have hown : ∀ g, Owned (sgOf σ ρ h') g → Owned σ g := by
    rintro g ⟨i, e, he, hg⟩
    obtain ⟨x, b', _, _, rfl⟩ := hinv i e he
    obtain ⟨j, _, hj⟩ := hcase x b' g hg
    exact ⟨j, _, hj, hg⟩
  have hE : ∀ g, Ex X (sgOf σ ρ h') g → Ex X σ g := fun g h => h.elim .inl fun h => .inr (hown g h)
  refine ⟨sgOf σ ρ h', ⟨hsl, fun i b e hb he => ?_, fun i e g he hg => ?_, fun i j e e' g hi hj hg hg' => ?_, fun g hx ho => hI.dis g hx (hown g ho), hI.xlt⟩,
    ⟨rfl, rfl, rfl, Nat.le_refl _, fun _ _ _ => rfl, fun g ho _ => hown g ho, fun i e hi he hf => ?_⟩, hties, hE⟩
  · obtain ⟨x, b', hx, hb', rfl⟩ := hinv i e he
    rw [hb] at hb'
    simp at hb'
    subst hb'
    exact (hblks i x b hx hb).1 w _ _ σ _ hI.len hties hE hI.ok
  · obtain ⟨x, b', _, _, rfl⟩ := hinv i e he
    obtain ⟨j, _, hj⟩ := hcase x b' g hg
    exact hI.lt j _ g hj hg
  · obtain ⟨x, b', hx, _, rfl⟩ := hinv i e hi
    obtain ⟨y, c', hy, _, rfl⟩ := hinv j e' hj
    obtain ⟨k, rfl, hk⟩ := hcase x b' g hg
    obtain ⟨l, rfl, hl⟩ := hcase y c' g hg'
    have := hI.inj k l _ _ g hk hl hg hg'
    subst this
    exact hinj i j k hx hy
  · exact hties.ref i i e (hm i hi) he hf
theorem Shift.of {m : Nat} {F F' : Fr} {h h' : Hp} (ρ : Rho) (hρ : rhoB m ρ = true) (hk : shiftK ρ F h F' h') : Shift m F h F' h' := by
  obtain ⟨hk, hlen, hslots⟩ := slotsK_sound F hk
  refine ⟨fun w X σ tmps hI hF => ?_⟩
  obtain ⟨σ', hI', hS, hties, hE⟩ := shift_sg ρ hρ hk hI
  refine ⟨σ', hI', ⟨hlen ▸ hF.1, fun i s v hs hv => ?_⟩, hS⟩
  have hi : i < F.length := by rw [hlen]; exact (List.getElem?_eq_some_iff.1 hs).1
  exact hslots w _ _ σ _ hties hE i _ s v (List.getElem?_eq_getElem hi) hs (hF.2 i _ v (List.getElem?_eq_getElem hi) hv)

theorem HeadG.of {m n : Nat} {F : Fr} {h : Hp} {sp : List (Nat × SV)} {h' : Hp} (ρ : Rho) (hρ : rhoB m ρ = true) (hk : frmK n sp fun F' => shiftK ρ F h F' h') : HeadG m F h n sp h' :=
  ⟨.of ρ hρ (frmK_sound hk)⟩

/-! ### a row that nobody writes any more -/
noncomputable def mapSlK (b : Nat) (s : SV) (F : Fr) : (Fr → Prop) → Prop :=
  List.rec (motive := fun _ => (Fr → Prop) → Prop) (fun k => k []) (fun x _ ih k => match x with
    | .sl b' => match Nat.beq b' b with
      | true => ih fun r => k (s :: r)
      | false => ih fun r => k (.sl b' :: r)
    | x => ih fun r => k (x :: r)) F
noncomputable def frzK (m b : Nat) (F : Fr) (h : Hp) (K : Fr → Hp → Prop) : Prop :=
  leNK m b (nthK h b fun blk => match blk with
    | .row _ z es => setK h b .dead fun h' => mapSlK b (.rs z es) F fun F' => K F' h'
    | _ => False)
theorem mapSlK_sound {b : Nat} {s : SV} (F : Fr) : ∀ {k : Fr → Prop}, mapSlK b s F k → ∃ F', k F' ∧ F'.length = F.length ∧ ∀ (i : Nat) (x y : SV), F[i]? = some x → F'[i]? = some y → (x = .sl b ∧ y = s) ∨ x = y := by
  induction F with
  | nil => intro k h; exact ⟨[], h, rfl, by simp⟩
  | cons x F ih =>
    intro k h
    have key : ∃ y, mapSlK b s F (fun r => k (y :: r)) ∧ ((x = .sl b ∧ y = s) ∨ x = y) := by
      cases x with
      | sl b' =>
        have h : (match Nat.beq b' b with | true => mapSlK b s F fun r => k (s :: r) | false => mapSlK b s F fun r => k (.sl b' :: r)) := h
        cases hb : Nat.beq b' b with
        | true => rw [hb] at h; exact ⟨s, h, .inl ⟨by rw [Nat.eq_of_beq_eq_true hb], rfl⟩⟩
        | false => rw [hb] at h; exact ⟨_, h, .inr rfl⟩
      | _ => exact ⟨_, h, .inr rfl⟩
    obtain ⟨y, h, hy⟩ := key
    obtain ⟨F', h, hl, hF⟩ := ih h
    refine ⟨_, h, by simp [hl], fun i a c ha hc => ?_⟩
    cases i with
    | zero => simp at ha hc; subst ha; subst hc; exact hy
    | succ i => exact hF i a c (by simpa using ha) (by simpa using hc)
end
end Go.Sx

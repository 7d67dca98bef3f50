/- The symbolic executor is sound: regions, code, functions. No statement of the seat is proved here. -/
import Derived.Test.YthlomoacacebeacSxL
namespace Go.Sx
section
variable {P : Program} {T : Tab}

theorem oper_mono {o : Oper} {a : Act} {w : World} {K K' : Act → World → Prop} {Q Q' : Exit → Act → World → Prop} (hk : ∀ a w, K a w → K' a w) (hq : ∀ e a w, Q e a w → Q' e a w) (h : o.wp P a w K Q) : o.wp P a w K' Q' := by
  unfold Oper.wp at *
  generalize (execOp a.eval o).run P w = r at *
  cases r with
  | ok n w' =>
    cases n <;> simp only [Oper.upon] at h ⊢ <;> first
      | exact hk _ _ h
      | exact h.mono fun e w'' he => by cases e <;> first | exact hk _ _ he | exact hq _ _ _ he | (obtain ⟨a, w, hx⟩ := he; exact ⟨a, w, hq _ _ _ hx⟩)
      | exact Rows.mono h fun _ _ he => hk _ _ he
  | halt x w' => cases x <;> simp only [Oper.upon] at h ⊢ <;> exact hq _ _ _ h
theorem wpList_mono' {ops : Array Oper} {Q Q' : Exit → Act → World → Prop} (hq : ∀ e a w, Q e a w → Q' e a w) (l : List Oper) : ∀ {a : Act} {w : World}, wpList P ops Q l a w → wpList P ops Q' l a w := by
  induction l with
  | nil => intro a w h; exact hq _ _ _ h
  | cons o l ih =>
    intro a w h
    unfold wpList at h ⊢
    split
    · rename_i hw
      rw [if_pos hw] at h
      rcases h with h | ⟨h1, a', w', h2⟩
      · exact .inl (oper_mono (fun _ _ => ih) hq h)
      · exact .inr ⟨h1, a', w', hq _ _ _ h2⟩
    · rename_i hw
      rw [if_neg hw] at h
      exact ih h

theorem SPost.from {m : Nat} {X : Nat → Prop} {w0 w1 : World} {σ0 σ1 : Sg} {K : Post} {e : Exit} {a : Act} {w : World} (hS : Step m w0 σ0 w1 σ1) (h : SPost m X w1 σ1 K e a w) : SPost m X w0 σ0 K e a w := by
  obtain ⟨hd, x, F, hp, σ, hx, hk, hI, hF, hS'⟩ := h
  exact ⟨hd, x, F, hp, σ, hx, hk, hI, hF, hS.trans hS'⟩
theorem SPost.mono {m : Nat} {X : Nat → Prop} {w0 : World} {σ0 : Sg} {K K' : Post} {e : Exit} {a : Act} {w : World} (hk : ∀ x F h, K x F h → K' x F h) (h : SPost m X w0 σ0 K e a w) : SPost m X w0 σ0 K' e a w := by
  obtain ⟨hd, x, F, hp, σ, hx, hk', hI, hF, hS⟩ := h
  exact ⟨hd, x, F, hp, σ, hx, hk _ _ _ hk', hI, hF, hS⟩
theorem SOK.mono {m : Nat} {c : Code} {F : Fr} {h : Hp} {K K' : Post} (hs : SOK P m c F h K) (hk : ∀ x F h, K x F h → K' x F h) : SOK P m c F h K' :=
  fun w X σ tmps hI hF => wp_mono (hs w X σ tmps hI hF) fun _ _ _ => SPost.mono hk
theorem SOK.seq {m : Nat} {a b : Code} {F : Fr} {h : Hp} {K : Post}
    (hs : SOK P m a F h fun x F h => match x with | .normal => SOK P m b F h K | .exit i => K (.exit i) F h | .ret => K .ret F h) : SOK P m (.seq a b) F h K := by
  intro w X σ tmps hI hF
  refine wp_seq (wp_mono (hs w X σ tmps hI hF) fun e a' w' hq => ?_)
  obtain ⟨hd, x, F', h', σ', hx, hk, hI', hF', hS⟩ := hq
  obtain ⟨tmps', ds⟩ := a'
  have hd : ds = [] := hd
  subst hd
  cases e <;> cases hx
  case normal =>
    exact wp_mono (hk w' X σ' tmps' hI' hF') fun _ _ _ => SPost.from hS
  case exit id =>
    exact ⟨rfl, .exit id, F', h', σ', rfl, hk, hI', hF', hS⟩
  case ret =>
    exact ⟨rfl, .ret, F', h', σ', rfl, hk, hI', hF', hS⟩
theorem SOK.block {m : Nat} {id : Nat} {c : Code} {F : Fr} {h : Hp} {K : Post}
    (hs : SOK P m c F h fun x F h => match x with | .normal => K .normal F h | .exit i => (match Nat.beq i id with | true => K .normal F h | false => K (.exit i) F h) | .ret => K .ret F h) : SOK P m (.block id c) F h K := by
  intro w X σ tmps hI hF
  refine wp_block (wp_mono (hs w X σ tmps hI hF) fun e a' w' hq => ?_)
  obtain ⟨hd, x, F', h', σ', hx, hk, hI', hF', hS⟩ := hq
  cases e <;> cases hx
  case normal => exact ⟨hd, .normal, F', h', σ', rfl, hk, hI', hF', hS⟩
  case ret => exact ⟨hd, .ret, F', h', σ', rfl, hk, hI', hF', hS⟩
  case exit i =>
    simp only [Exit.inBlock]
    by_cases hi : i = id
    · subst hi
      rw [if_pos rfl]
      have hb : Nat.beq i i = true := Nat.beq_refl i
      simp only [hb] at hk
      exact ⟨hd, .normal, F', h', σ', rfl, hk, hI', hF', hS⟩
    · rw [if_neg hi]
      have hb : Nat.beq i id = false := by
        cases hc : Nat.beq i id with
        | true => exact absurd (Nat.eq_of_beq_eq_true hc) hi
        | false => rfl
      simp only [hb] at hk
      exact ⟨hd, .exit i, F', h', σ', rfl, hk, hI', hF', hS⟩

/-- A region whose order is the text's. -/
theorem opsK_sound (hT : TabOK P T) {ops : Array Oper} {m : Nat} {X : Nat → Prop} {K : Fr → Hp → Prop} (l : List Oper) :
    ∀ {F : Fr} {h : Hp}, opsK P T ops.toList l F h K → ∀ (w : World) (σ : Sg) (tmps : Array Value), Inv w X σ h → FRep w (Ex X σ) σ F tmps →
      wpList P ops (SPost m X w σ fun x F h => x = .normal ∧ K F h) l ⟨tmps, []⟩ w := by
  induction l with
  | nil => intro F h hk w σ tmps hI hF; exact ⟨rfl, .normal, F, h, σ, rfl, ⟨rfl, hk⟩, hI, hF, .refl _ _ _⟩
  | cons o l ih =>
    intro F h hk w σ tmps hI hF
    -- the operation is carried out
    have yes : ∀ F : Fr, FRep w (Ex X σ) σ F tmps → Region.wanted o (yielded ops tmps) = true → (oneK P T F h o.op fun s h' => putD F o.dst s fun F' => opsK P T ops.toList l F' h' K) →
        wpList P ops (SPost m X w σ fun x F h => x = .normal ∧ K F h) (o :: l) ⟨tmps, []⟩ w := by
      intro F hF hw hk
      unfold wpList
      rw [if_pos hw]
      refine .inl ?_
      obtain ⟨d, op, ty, pos, after, guard⟩ := o
      refine wp_of_done (oneK_sound hT hk (a := ⟨tmps, []⟩) hI hF d ty pos after guard) fun v w' ⟨s, h', σ', hk, hr, hI', hS⟩ => ?_
      obtain ⟨F', hk, hp⟩ := putD_sound hk
      obtain ⟨hF', hd⟩ := hp w' (Ex X σ') σ' ⟨tmps, []⟩ v (hF.step hS (Nat.le_refl _)) hr
      have := ih hk w' σ' ((Act.put ⟨tmps, []⟩ d v).tmps) hI' hF'
      have e : Act.put ⟨tmps, []⟩ d v = ⟨(Act.put ⟨tmps, []⟩ d v).tmps, []⟩ := by cases d <;> rfl
      rw [e]
      exact wpList_mono' (fun e a w'' => SPost.from hS.any) l this
    have no : ∀ F : Fr, FRep w (Ex X σ) σ F tmps → Region.wanted o (yielded ops tmps) = false → (putD F o.dst .undef fun F' => opsK P T ops.toList l F' h K) →
        wpList P ops (SPost m X w σ fun x F h => x = .normal ∧ K F h) (o :: l) ⟨tmps, []⟩ w := by
      intro F hF hw hk
      unfold wpList
      rw [if_neg (by rw [hw]; simp)]
      obtain ⟨F', hk, hp⟩ := putD_sound hk
      obtain ⟨hF', hd⟩ := hp w (Ex X σ) σ ⟨tmps, []⟩ Go.undef hF .undef
      have := ih hk w σ ((Act.put ⟨tmps, []⟩ o.dst Go.undef).tmps) hI hF'
      have e : Act.put ⟨tmps, []⟩ o.dst Go.undef = ⟨(Act.put ⟨tmps, []⟩ o.dst Go.undef).tmps, []⟩ := by cases o.dst <;> rfl
      rw [e]
      exact this
    have hk : guardK ops.toList F o.guard (fun F => oneK P T F h o.op fun s h' => putD F o.dst s fun F' => opsK P T ops.toList l F' h' K) (fun F => putD F o.dst .undef fun F' => opsK P T ops.toList l F' h K) := hk
    revert hk
    generalize hYes : (fun F => oneK P T F h o.op fun s h' => putD F o.dst s fun F' => opsK P T ops.toList l F' h' K) = Yes
    generalize hNo : (fun F => putD F o.dst .undef fun F' => opsK P T ops.toList l F' h K) = No
    intro hk
    unfold guardK at hk
    cases hg : o.guard with
    | none =>
      rw [hg] at hk
      subst hYes
      exact yes F hF (by simp [Region.wanted, hg]) hk
    | some p =>
      obtain ⟨j, want⟩ := p
      rw [hg] at hk
      simp only [] at hk
      cases hd : dstOf ops.toList j with
      | none => rw [hd] at hk; exact hk.elim
      | some d =>
        rw [hd] at hk
        obtain ⟨s, hs, hk⟩ := nthK_sound (show nthK F d _ from hk)
        obtain ⟨v, hv, hr⟩ := hF.get hs
        have hy : ∀ r : Option Bool, (match v with | .bool b => some b | _ => none) = r → Region.wanted o (yielded ops tmps) = (r == some want) := by
          intro r hr'
          have hd' : (ops[j]?).bind (·.dst) = some d := by
            unfold dstOf at hd; rw [Array.getElem?_toList] at hd; exact hd
          have : yielded ops tmps j = r := by
            unfold yielded; rw [hd']; simp only [Option.bind_some, hv, ← hr']
            cases v <;> rfl
          simp [Region.wanted, hg, this]
        cases s with
        | tt =>
          cases hr
          have := hy (some true) rfl
          cases want
          · subst hNo; exact no F hF (by rw [this]; rfl) hk
          · subst hYes; exact yes F hF (by rw [this]; rfl) hk
        | ff =>
          cases hr
          have := hy (some false) rfl
          cases want
          · subst hYes; exact yes F hF (by rw [this]; rfl) hk
          · subst hNo; exact no F hF (by rw [this]; rfl) hk
        | undef =>
          cases hr
          have := hy none rfl
          subst hNo
          exact no F hF (by rw [this]; rfl) (by cases want <;> exact hk)
        | bool b =>
          cases hr
          have := hy (some b) rfl
          have kt : b = true → FRep w (Ex X σ) σ (F.set d .tt) tmps := fun hb => hF.know fun v' hv' => by
            rw [hv] at hv'; simp at hv'; subst hv'; subst hb; exact .tt
          have kf : b = false → FRep w (Ex X σ) σ (F.set d .ff) tmps := fun hb => hF.know fun v' hv' => by
            rw [hv] at hv'; simp at hv'; subst hv'; subst hb; exact .ff
          cases want
          · cases hb : b with
            | true =>
              obtain ⟨_, hk'⟩ := setK_sound (hk.1 hb)
              subst hNo
              exact no _ (kt hb) (by rw [this, hb]; rfl) hk'
            | false =>
              obtain ⟨_, hk'⟩ := setK_sound (hk.2 hb)
              subst hYes
              exact yes _ (kf hb) (by rw [this, hb]; rfl) hk'
          · cases hb : b with
            | true =>
              obtain ⟨_, hk'⟩ := setK_sound (hk.1 hb)
              subst hYes
              exact yes _ (kt hb) (by rw [this, hb]; rfl) hk'
            | false =>
              obtain ⟨_, hk'⟩ := setK_sound (hk.2 hb)
              subst hNo
              exact no _ (kf hb) (by rw [this, hb]; rfl) hk'
        | _ => cases want <;> exact hk.elim

/-- ALL CODE. -/
theorem codeK_sound (hT : TabOK P T) {m : Nat} (c : Code) : ∀ {F : Fr} {h : Hp} {K : Post}, codeK P T m c F h K → SOK P m c F h K := by
  induction c with
  | skip => intro F h K hk w X σ tmps hI hF; exact wp_skip ⟨rfl, .normal, F, h, σ, rfl, hk, hI, hF, .refl _ _ _⟩
  | region id ops draw =>
    intro F h K hk
    cases draw with
    | false =>
      intro w X σ tmps hI hF
      refine wp_mono (wp_region_list (opsK_sound (m := m) hT ops.toList (K := K .normal) hk w σ tmps hI hF)) fun e a w' hq => ?_
      exact hq.mono fun x F h ⟨hx, hk⟩ => by subst hx; exact hk
    | true => exact (show DrawG P m id ops F h (K .normal) from hk).ok.mono fun x F h ⟨hx, hk⟩ => by subst hx; exact hk
  | seq a b iha ihb =>
    intro F h K hk
    refine SOK.seq ((iha hk).mono fun x F h hk => ?_)
    cases x with
    | normal => exact ihb hk
    | exit i => exact hk
    | ret => exact hk
  | cond c a b iha ihb =>
    intro F h K hk w X σ tmps hI hF
    obtain ⟨s, hk, hs⟩ := evK_sound (show evK F c _ from hk)
    have hr := hs w (Ex X σ) σ (Act.eval ⟨tmps, []⟩) (FRep.opn (a := ⟨tmps, []⟩) hF c)
    generalize hv : Act.eval ⟨tmps, []⟩ c = v at hr
    cases s with
    | tt => cases hr; exact wp_cond (t := true) hv (iha hk w X σ tmps hI hF)
    | ff => cases hr; exact wp_cond (t := false) hv (ihb hk w X σ tmps hI hF)
    | qb p =>
      cases hr with
      | @qb _ _ b hb =>
        cases b with
        | true => exact wp_cond (t := true) hv (iha (hk.1 (hb rfl)) w X σ tmps hI hF)
        | false => exact wp_cond (t := false) hv (ihb hk.2 w X σ tmps hI hF)
    | bool x =>
      cases hr
      cases c with
      | tmp d =>
        have hv' : tmps.getD d Go.undef = .bool x := hv
        have know : ∀ s, (∀ E : Nat → Prop, Rep w E σ s (.bool x)) → FRep w (Ex X σ) σ (F.set d s) tmps := fun s hs => hF.know fun v hv2 => by
          have : v = .bool x := by rw [← hv', Array.getD_eq_getD_getElem?, hv2]; rfl
          subst this; exact hs _
        cases hx : x with
        | true =>
          obtain ⟨_, hk'⟩ := setK_sound (hk.1 hx)
          subst hx
          exact wp_cond (t := true) hv (iha hk' w X σ tmps hI (know _ fun _ => .tt))
        | false =>
          obtain ⟨_, hk'⟩ := setK_sound (hk.2 hx)
          subst hx
          exact wp_cond (t := false) hv (ihb hk' w X σ tmps hI (know _ fun _ => .ff))
      | _ => exact hk.elim
    | _ => exact hk.elim
  | block id c ih =>
    intro F h K hk
    refine SOK.block ((ih hk).mono fun x F h hk => ?_)
    cases x <;> exact hk
  | loop c _ => intro F h K hk; exact (show LoopG P m c F h K from hk).ok
  | rangeFunc f ps a b _ _ => intro F h K hk; exact hk.elim
  | exit id => intro F h K hk w X σ tmps hI hF; exact wp_exit ⟨rfl, .exit id, F, h, σ, rfl, hk, hI, hF, .refl _ _ _⟩
  | scope c ih =>
    intro F h K hk w X σ tmps hI hF
    refine wp_scope_straight (wp_mono (ih hk w X σ tmps hI hF) fun e a w' hq => ?_)
    cases e with
    | goto l => obtain ⟨_, x, _, _, _, hx, _⟩ := hq; cases hx
    | _ => exact hq
  | label l => intro F h K hk w X σ tmps hI hF; exact wp_label ⟨rfl, .normal, F, h, σ, rfl, hk, hI, hF, .refl _ _ _⟩
  | goto l => intro F h K hk; exact hk.elim
  | ret => intro F h K hk w X σ tmps hI hF; exact wp_ret ⟨rfl, .ret, F, h, σ, rfl, hk, hI, hF, .refl _ _ _⟩
  | refuse why => intro F h K hk; exact hk.elim

/-! ### results -/
theorem resK_sound (hT : TabOK P T) {h : Hp} {F : Fr} (l : List ResultVar) : ∀ {k : List SV → Prop}, resK h F T l k →
    ∃ ss, k ss ∧ ∀ (w : World) (X : Nat → Prop) (σ : Sg) (tmps : Array Value), Inv w X σ h → FRep w (Ex X σ) σ F tmps →
      ∃ vs : List Value, (l.mapM fun | .tmp t => pure (tmps.getD t Go.undef) | .cell a t => do loadVar t (← asAddr (tmps.getD a Go.undef)) : Sem (List Value)).run P w = .ok vs w ∧ RepL w (Ex X σ) σ ss vs := by
  induction l with
  | nil => intro k hk; exact ⟨[], hk, fun w X σ tmps _ _ => ⟨[], rfl, rfl, by simp⟩⟩
  | cons r l ih =>
    intro k hk
    -- what is common to both
    have glue : ∀ (s : SV), (∃ ss, k (s :: ss) ∧ ∀ (w : World) (X : Nat → Prop) (σ : Sg) (tmps : Array Value), Inv w X σ h → FRep w (Ex X σ) σ F tmps →
          ∃ vs : List Value, (l.mapM fun | .tmp t => pure (tmps.getD t Go.undef) | .cell a t => do loadVar t (← asAddr (tmps.getD a Go.undef)) : Sem (List Value)).run P w = .ok vs w ∧ RepL w (Ex X σ) σ ss vs) →
        (∀ (w : World) (X : Nat → Prop) (σ : Sg) (tmps : Array Value), Inv w X σ h → FRep w (Ex X σ) σ F tmps →
          ∃ v, ((fun | .tmp t => pure (tmps.getD t Go.undef) | .cell a t => do loadVar t (← asAddr (tmps.getD a Go.undef)) : ResultVar → Sem Value) r).run P w = .ok v w ∧ Rep w (Ex X σ) σ s v) →
        ∃ ss, k ss ∧ ∀ (w : World) (X : Nat → Prop) (σ : Sg) (tmps : Array Value), Inv w X σ h → FRep w (Ex X σ) σ F tmps →
          ∃ vs : List Value, ((r :: l).mapM fun | .tmp t => pure (tmps.getD t Go.undef) | .cell a t => do loadVar t (← asAddr (tmps.getD a Go.undef)) : Sem (List Value)).run P w = .ok vs w ∧ RepL w (Ex X σ) σ ss vs := by
      rintro s ⟨ss, hk, hrest⟩ hone
      refine ⟨s :: ss, hk, fun w X σ tmps hI hF => ?_⟩
      obtain ⟨vs, h1, h2, h3⟩ := hrest w X σ tmps hI hF
      obtain ⟨v, h4, h5⟩ := hone w X σ tmps hI hF
      refine ⟨v :: vs, ?_, by simp [h2], fun i s' v' hs hv => ?_⟩
      · rw [List.mapM_cons, Sem.run_bind, h4, Result.andThen_ok, Sem.run_bind, h1]
        rfl
      · cases i with
        | zero => simp at hs hv; subst hs; subst hv; exact h5
        | succ i => exact h3 i s' v' (by simpa using hs) (by simpa using hv)
    cases r with
    | tmp t =>
      obtain ⟨s, hs, hk⟩ := nthK_sound (show nthK F t _ from hk)
      refine glue s (ih hk) fun w X σ tmps hI hF => ?_
      obtain ⟨v, hv, hr⟩ := hF.get hs
      exact ⟨v, by simp [Array.getD_eq_getD_getElem?, hv], hr⟩
    | cell a t =>
      obtain ⟨s, hs, hk⟩ := nthK_sound (show nthK F a _ from hk)
      cases s with
      | ptr b off =>
        obtain ⟨blk, hb, hk⟩ := nthK_sound (show nthK h b _ from hk)
        cases blk with
        | fix T0 cs =>
          obtain ⟨s, n, ag, hk, hag, hn, h1, h2⟩ := partK_sound hT (show partK T cs off t _ from hk)
          refine glue s (ih hk) fun w X σ tmps hI hF => ?_
          obtain ⟨v, hv, hr⟩ := hF.get hs
          obtain ⟨g, vs, hσ, hg, hl, hc⟩ := fix_of hI hb
          have hv' : v = .pointer (some ⟨g, off, none⟩) := by
            cases hr with
            | ptr h' => rw [hσ] at h'; simp at h'; rw [h']
            | ptrD h' => rw [hσ] at h'; simp at h'
          obtain ⟨u, hrun, hrep⟩ := load_sound (P := P) (w := w) (σ := σ) (a := ⟨g, off, none⟩) (fun j => (vs[off + j]?).getD Go.undef) (hag w) (hn w) h1 h2 (fun j s hs => by
            have hj : off + j < vs.size := by rw [← hl]; exact (List.getElem?_eq_some_iff.1 hs).1
            have hvj : vs[off + j]? = some (vs[off + j]'hj) := Array.getElem?_eq_getElem hj
            rw [cell_at hg, hvj]
            exact ⟨rfl, hc _ _ _ hs hvj⟩)
          have e : tmps.getD a Go.undef = .pointer (some ⟨g, off, none⟩) := by rw [Array.getD_eq_getD_getElem?, hv, hv']; rfl
          exact ⟨u, by simp only [e, asAddr, Sem.run_bind, Sem.run_pure, Result.andThen_ok, hrun], hrep⟩
        | _ => exact hk.elim
      | _ => exact hk.elim
theorem tupK_sound {l : List SV} {k : SV → Prop} (h : tupK l k) : ∃ s, k s ∧ ∀ (w : World) (E : Nat → Prop) (σ : Sg) (vs : Array Value), RepL w E σ l vs.toList →
    Rep w E σ s (if h : vs.size = 1 then vs[0] else .tuple vs) := by
  have many : ∀ l : List SV, l.length ≠ 1 → ∀ (w : World) (E : Nat → Prop) (σ : Sg) (vs : Array Value), RepL w E σ l vs.toList → Rep w E σ (.tup l) (if h : vs.size = 1 then vs[0] else .tuple vs) := by
    intro l hl w E σ vs hr
    rw [dif_neg (by have := hr.1; simp at this; omega)]
    exact .tup (by simpa using hr.1) fun i s v hs hv => hr.2 i s v hs (by simpa using hv)
  unfold tupK at h
  split at h
  · refine ⟨_, h, fun w E σ vs hr => ?_⟩
    have hs : vs.size = 1 := by have := hr.1; simpa using this.symm
    rw [dif_pos hs]
    exact hr.2 0 _ _ rfl (by simp [hs])
  · exact ⟨_, h, many _ (by simp)⟩
  · exact ⟨_, h, many _ (by simp)⟩

theorem startK_sound {args : List SV} {n : Nat} {k : Fr → Prop} (h : startK args n k) : ∃ F, k F ∧ ∀ (w : World) (E : Nat → Prop) (σ : Sg) (vs : List Value), RepL w E σ args vs →
    FRep w E σ F (vs.toArray ++ Array.replicate (n - vs.toArray.size) Go.undef) := by
  have h := repK_sound (show repK n SV.undef _ from h)
  obtain ⟨hle, h⟩ := dropK_sound h
  have h := appK_sound h
  refine ⟨_, h, fun w E σ vs hr => ⟨?_, fun i s v hs hv => ?_⟩⟩
  · have := hr.1; simp at hle ⊢; omega
  · have hl := hr.1
    rw [List.getElem?_append] at hs
    rw [Array.getElem?_append] at hv
    split at hs
    · rename_i hlt
      rw [if_pos (by simpa [← hl] using hlt)] at hv
      exact hr.2 i s v hs (by simpa using hv)
    · rename_i hlt
      rw [if_neg (by simpa [← hl] using hlt)] at hv
      have e1 : s = .undef := by
        have := List.mem_of_getElem? hs
        exact (List.mem_replicate.1 (List.mem_of_mem_drop this)).2
      have e2 : v = Go.undef := by
        have := Array.mem_of_getElem? hv
        simpa using (Array.mem_replicate.1 this).2
      subst e1; subst e2; exact .undef

/-- A FUNCTION, called. -/
theorem CallG.of_code (hT : TabOK P T) {f : FuncId} {fn : Func} {c : Code} {args : List SV} {h : Hp} {R : SV → Hp → Prop} (hf : P.funcs[f]? = some fn) (hn : (fn.name == "runtime.NumGoroutine") = false)
    (hb : fn.body = some c) (hk : startK args fn.ntmps fun F => codeK P T h.length c F h (retK T fn R)) : CallG P f args h R := by
  obtain ⟨F, hk, hs⟩ := startK_sound hk
  refine ⟨fun w X σ vs hI hr => ?_⟩
  have hcall : (callFunc f vs.toArray).run P w = .ok (.enter f vs.toArray) w := by
    have h1 : fn.name ≠ "runtime.NumGoroutine" := by simpa using hn
    simp [callFunc, hf, h1, hb]
  unfold DoneS
  rw [hcall]
  refine calls_of_wp hf hb (wp_mono (codeK_sound hT c hk w X σ _ hI (hs w _ σ vs hr)) fun e a w' hq => ?_)
  obtain ⟨hd, x, F', h', σ', hx, hk, hI', hF', hS⟩ := hq
  have hm : h.length = σ.length := hI.len.symm
  rw [hm] at hS
  have fin : resK h' F' T fn.results.toList (fun l => tupK l fun s => R s h') → a.defers = [] ∧ ∃ v, (results fn a.tmps).run P w' = .ok v w' ∧ ∃ v', Ending.returned v = .returned v' ∧ ∃ s h' σ', R s h' ∧ Rep w' (Ex X σ') σ' s v' ∧ Inv w' X σ' h' ∧ Step σ.length w σ w' σ' := by
    intro hk
    obtain ⟨ss, hk, hrs⟩ := resK_sound hT _ hk
    obtain ⟨s, hk, hst⟩ := tupK_sound hk
    obtain ⟨vs', hrun, hrl⟩ := hrs w' X σ' a.tmps hI' hF'
    have hres : (results fn a.tmps).run P w' = .ok (if h : vs'.toArray.size = 1 then vs'.toArray[0] else .tuple vs'.toArray) w' := by
      unfold results
      rw [Array.mapM_eq_mapM_toList]
      simp only [Sem.run_bind, Sem.run_map, Sem.run_pure]
      erw [hrun]
      rfl
    exact ⟨hd, _, hres, _, rfl, s, h', σ', hk, hst w' _ σ' vs'.toArray (by simpa using hrl), hI', hS⟩
  cases e <;> cases hx
  case normal => exact fin hk
  case ret => exact fin hk
  case exit id => exact hk.elim
end
end Go.Sx

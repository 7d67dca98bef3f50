/- The symbolic executor is sound: regions in one order, code, calls of Go functions. No statement of the seat is proved here. -/
import Derived.Test.YthlomoacacebeacSxK
import Derived.Scope
namespace Go.Sx
section
variable {P : Program} {T : Tab}

theorem Step.any {m : Nat} {w w' : World} {σ σ' : Sg} (h : Step σ.length w σ w' σ') : Step m w σ w' σ' :=
  ⟨h.os, h.tape, h.output, h.size, h.frame, h.blks, fun i e _ he => h.ents i e (List.getElem?_eq_some_iff.1 he).1 he⟩

theorem wp_of_done {o : Oper} {a : Act} {w : World} {K : Act → World → Prop} {Q : Exit → Act → World → Prop} {R : Value → World → Prop}
    (h : DoneS P (execOp a.eval o) w R) (hk : ∀ v w', R v w' → K (a.put o.dst v) w') : o.wp P a w K Q := by
  unfold Oper.wp
  unfold DoneS at h
  generalize (execOp a.eval o).run P w = r at h
  cases r with
  | halt x w' => exact h.elim
  | ok n w' =>
    cases n <;> first | exact h.elim | skip
    case value v => exact hk v w' h
    case skip => exact hk Go.undef w' h
    case enter f args => exact h.mono fun e w'' ⟨v, he, hr⟩ => by subst he; exact hk v w'' hr

theorem FRep.set {w : World} {E : Nat → Prop} {σ : Sg} {F : Fr} {tmps : Array Value} (h : FRep w E σ F tmps) {d : Nat} {s : SV} {v : Value} (hr : Rep w E σ s v) :
    FRep w E σ (F.set d s) (tmps.setIfInBounds d v) := by
  refine ⟨by simpa using h.1, fun i s' v' hs hv => ?_⟩
  rw [List.getElem?_set] at hs
  rw [Array.getElem?_setIfInBounds] at hv
  by_cases hi : d = i
  · subst hi
    split at hs
    · split at hs
      · rename_i h1
        rw [if_pos rfl, if_pos (by rw [← h.1]; exact h1)] at hv
        simp at hs hv; subst hs; subst hv; exact hr
      · simp at hs
    · rename_i hc; exact absurd rfl hc
  · rw [if_neg hi] at hs hv
    exact h.2 i s' v' hs hv
/-- A slot of which more is known. -/
theorem FRep.know {w : World} {E : Nat → Prop} {σ : Sg} {F : Fr} {tmps : Array Value} (h : FRep w E σ F tmps) {d : Nat} {s : SV} (hr : ∀ v, tmps[d]? = some v → Rep w E σ s v) :
    FRep w E σ (F.set d s) tmps := by
  refine ⟨by simpa using h.1, fun i s' v' hs hv => ?_⟩
  rw [List.getElem?_set] at hs
  by_cases hi : d = i
  · subst hi
    split at hs
    · split at hs
      · simp at hs; subst hs; exact hr v' hv
      · simp at hs
    · rename_i hc; exact absurd rfl hc
  · rw [if_neg hi] at hs
    exact h.2 i s' v' hs hv
theorem FRep.get {w : World} {E : Nat → Prop} {σ : Sg} {F : Fr} {tmps : Array Value} (h : FRep w E σ F tmps) {d : Nat} {s : SV} (hs : F[d]? = some s) : ∃ v, tmps[d]? = some v ∧ Rep w E σ s v := by
  have hlt : d < tmps.size := by rw [← h.1]; exact (List.getElem?_eq_some_iff.1 hs).1
  exact ⟨_, Array.getElem?_eq_getElem hlt, h.2 d s _ hs (Array.getElem?_eq_getElem hlt)⟩
theorem FRep.opn {w : World} {E : Nat → Prop} {σ : Sg} {F : Fr} {a : Act} (h : FRep w E σ F a.tmps) (x : Operand) : OpnRep w E σ F a.eval x := by
  cases x with
  | tmp t =>
    intro s hs
    obtain ⟨v, hv, hr⟩ := h.get hs
    have : a.eval (.tmp t) = v := by simp [Act.eval, Array.getD_eq_getD_getElem?, hv]
    rw [this]; exact hr
  | const v => rfl
  | global g => trivial
  | func f => rfl

theorem putD_sound {F : Fr} {d : Option Tmp} {s : SV} {K : Fr → Prop} (h : putD F d s K) : ∃ F', K F' ∧
    ∀ (w : World) (E : Nat → Prop) (σ : Sg) (a : Act) (v : Value), FRep w E σ F a.tmps → Rep w E σ s v → FRep w E σ F' (a.put d v).tmps ∧ (a.put d v).defers = a.defers := by
  cases d with
  | none => exact ⟨F, h, fun w E σ a v hF _ => ⟨hF, rfl⟩⟩
  | some d =>
    obtain ⟨_, h⟩ := setK_sound (show setK F d s K from h)
    exact ⟨_, h, fun w E σ a v hF hr => ⟨hF.set hr, rfl⟩⟩

theorem updK_sound {ws : Ws} : ∀ {h : Hp} {K : Hp → Prop}, updK ws h K → K (upd ws h) := by
  induction ws with
  | nil => intro h K hk; exact hk
  | cons p ws ih =>
    intro h K hk
    obtain ⟨_, hk⟩ := setK_sound (show setK h p.1 p.2 _ from hk)
    exact ih hk

theorem Inv.fresh {w : World} {X : Nat → Prop} {σ : Sg} {h : Hp} (hI : Inv w X σ h) : Inv w X (σ ++ [.fresh]) (h ++ [.fresh]) ∧ Step σ.length w σ w (σ ++ [.fresh]) := by
  have hown : ∀ g, Owned (σ ++ [.fresh]) g ↔ Owned σ g := by
    intro g
    constructor
    · rintro ⟨i, e, he, hg⟩
      rw [List.getElem?_append] at he
      split at he
      · exact ⟨i, e, he, hg⟩
      · have : e = .fresh := by
          have := List.mem_of_getElem? he
          simpa using this
        subst this; simp [Ent.blk] at hg
    · rintro ⟨i, e, he, hg⟩
      exact ⟨i, e, by rw [List.getElem?_append_left (List.getElem?_eq_some_iff.1 he).1]; exact he, hg⟩
  have hS : Step σ.length w σ w (σ ++ [.fresh]) := ⟨rfl, rfl, rfl, Nat.le_refl _, fun _ _ _ => rfl, fun g hg _ => (hown g).1 hg, fun i e hi he _ => .inl (by rw [List.getElem?_append_left hi]; exact he)⟩
  have hget : ∀ (i : Nat) (e : Ent) (g : Nat), (σ ++ [.fresh])[i]? = some e → e.blk = some g → σ[i]? = some e := by
    intro i e g he hg
    rw [List.getElem?_append] at he
    split at he
    · exact he
    · have : e = .fresh := by
        have := List.mem_of_getElem? he
        simpa using this
      subst this; simp [Ent.blk] at hg
  refine ⟨⟨by simp [hI.len], fun i b e hb he => ?_, fun i e g he hg => hI.lt i e g (hget i e g he hg) hg, fun i j e e' g h1 h2 g1 g2 => hI.inj i j e e' g (hget i e g h1 g1) (hget j e' g h2 g2) g1 g2, fun g hx ho => hI.dis g hx ((hown g).1 ho), hI.xlt⟩, hS⟩
  rw [List.getElem?_append] at hb he
  by_cases hi : i < h.length
  · rw [if_pos hi] at hb
    rw [if_pos (by rw [hI.len]; exact hi)] at he
    exact (hI.ok i b e hb he).step hS (Nat.le_refl _) fun _ _ => rfl
  · rw [if_neg hi] at hb
    rw [if_neg (by rw [hI.len]; exact hi)] at he
    have e1 : b = .fresh := by have := List.mem_of_getElem? hb; simpa using this
    have e2 : e = .fresh := by have := List.mem_of_getElem? he; simpa using this
    subst e1; subst e2; trivial

/-- One operation, calls too. -/
theorem oneK_sound (hT : TabOK P T) {F : Fr} {h : Hp} {op : Op} {K : SV → Hp → Prop} (hk : oneK P T F h op K)
    {w : World} {X : Nat → Prop} {σ : Sg} {a : Act} (hI : Inv w X σ h) (hF : FRep w (Ex X σ) σ F a.tmps) (d : Option Tmp) (ty : TypeId) (pos : String) (after : Array Edge) (guard : Option (Nat × Bool)) :
    DoneS P (execOp a.eval ⟨d, op, ty, pos, after, guard⟩) w fun v w' => ∃ s h' σ', K s h' ∧ Rep w' (Ex X σ') σ' s v ∧ Inv w' X σ' h' ∧ Step σ.length w σ w' σ' := by
  have plain : (match allocs T op with
    | true => idK h supply fun n => appK h [.fresh] fun h' => opK T F h' n op fun s ws _ => updK ws h' fun h'' => K s h''
    | false => opK T F h 0 op fun s ws _ => updK ws h fun h'' => K s h'') →
    DoneS P (execOp a.eval ⟨d, op, ty, pos, after, guard⟩) w fun v w' => ∃ s h' σ', K s h' ∧ Rep w' (Ex X σ') σ' s v ∧ Inv w' X σ' h' ∧ Step σ.length w σ w' σ' := by
    intro hk
    cases hal : allocs T op with
    | true =>
      rw [hal] at hk
      obtain ⟨n, hn, hk⟩ := idK_sound hk
      have hn := supply_get hn
      subst hn
      have hk := appK_sound hk
      obtain ⟨s, ws, rds, hk, hok, _⟩ := opK_sound hT (fun _ => by simp) hk
      obtain ⟨hI', hS'⟩ := hI.fresh
      have hF' := hF.step hS' (Nat.le_refl _)
      have := hok w X _ _ a.eval d ty pos after guard hI' (fun x _ => hF'.opn x) (fun _ _ => rfl)
      unfold OpRes DoneS at this
      unfold DoneS
      revert this
      generalize (execOp a.eval ⟨d, op, ty, pos, after, guard⟩).run P w = r
      intro this
      cases r with
      | halt x w' => exact this.elim
      | ok n w' =>
        cases n <;> first | exact this.elim | skip
        case value v =>
          obtain ⟨σ', h1, h2, h3, _⟩ := this
          exact ⟨s, _, σ', updK_sound hk, h1, h2, hS'.trans h3.any⟩
        case skip =>
          obtain ⟨σ', h1, h2, h3, _⟩ := this
          exact ⟨s, _, σ', updK_sound hk, h1, h2, hS'.trans h3.any⟩
        case enter f args =>
          refine this.mono fun e w'' ⟨v, he, σ', h1, h2, h3, _⟩ => ⟨v, he, s, _, σ', updK_sound hk, h1, h2, hS'.trans h3.any⟩
    | false =>
      rw [hal] at hk
      obtain ⟨s, ws, rds, hk, hok, _⟩ := opK_sound hT (fun h => by simp [hal] at h) hk
      have := hok w X _ _ a.eval d ty pos after guard hI (fun x _ => hF.opn x) (fun _ _ => rfl)
      unfold OpRes DoneS at this
      unfold DoneS
      revert this
      generalize (execOp a.eval ⟨d, op, ty, pos, after, guard⟩).run P w = r
      intro this
      cases r with
      | halt x w' => exact this.elim
      | ok n w' =>
        cases n <;> first | exact this.elim | skip
        case value v =>
          obtain ⟨σ', h1, h2, h3, _⟩ := this
          exact ⟨s, _, σ', updK_sound hk, h1, h2, h3⟩
        case skip =>
          obtain ⟨σ', h1, h2, h3, _⟩ := this
          exact ⟨s, _, σ', updK_sound hk, h1, h2, h3⟩
        case enter f args =>
          refine this.mono fun e w'' ⟨v, he, σ', h1, h2, h3, _⟩ => ⟨v, he, s, _, σ', updK_sound hk, h1, h2, h3⟩
  cases op with
  | call c =>
    obtain ⟨callee, xs, ats⟩ := c
    cases callee with
    | value x =>
      obtain ⟨sx, hk, hx⟩ := evK_sound (show evK F x _ from hk)
      cases sx with
      | fn f cs =>
        obtain ⟨l, hk, hl⟩ := evsK_sound hk
        have hk := appK_sound hk
        have hr := hx w _ σ a.eval (hF.opn x)
        have hls := hl w _ σ a.eval fun y _ => hF.opn y
        generalize hρ : a.eval x = vx at hr
        cases hr with
        | @fn _ _ _ vs hlen hcs =>
          have hrun : execOp a.eval ⟨d, .call ⟨.value x, xs, ats⟩, ty, pos, after, guard⟩ = callFunc f ((xs.toList.map a.eval ++ vs.toList).toArray) := by
            have e1 : (xs.toList.map a.eval ++ vs.toList).toArray = xs.map a.eval ++ vs := by
              apply Array.ext'; simp
            rw [e1]
            simp [execOp, resolve, hρ, Deferred.ofValue, invoke]
          rw [hrun]
          refine hk.ok w X σ _ hI ⟨by rw [List.length_append, List.length_append, hls.1, hlen]; simp, fun i s v hs hv => ?_⟩
          rw [List.getElem?_append] at hs hv
          rw [← hls.1] at hv
          split at hs
          · rename_i hlt
            rw [if_pos hlt] at hv
            exact hls.2 i s v hs hv
          · rename_i hlt
            rw [if_neg hlt] at hv
            exact hcs _ s v hs (by simpa using hv)
      | _ => exact hk.elim
    | invoke r m => exact plain hk
    | builtin b => exact plain hk
  | _ => exact plain hk
end
end Go.Sx

/- What a function leaves: its own count of the blocks; a shift ahead of a drawn region or a loop. No statement of the seat is proved here. -/
import Derived.Test.YthlomoacacebeacSxZb
namespace Go.Sx
section
variable {P : Program} {T : Tab}

/-! ### the value that is handed back, among renumbered blocks -/
noncomputable def slot2K (ρ : Rho) (s s' : SV) (k : Prop) : Prop :=
  match s' with
  | .agg cs' => match s with | .agg cs => slotsK ρ cs cs' k | _ => False
  | s' => slotK ρ s s' k
noncomputable def slots2K (ρ : Rho) (l : List SV) : List SV → Prop → Prop :=
  List.rec (motive := fun _ => List SV → Prop → Prop) (fun l' k => List.rec (motive := fun _ => Prop) k (fun _ _ _ => False) l')
    (fun s _ ih l' k => List.rec (motive := fun _ => Prop) False (fun s' t' _ => slot2K ρ s s' (ih t' k)) l') l
noncomputable def slot3K (ρ : Rho) (s s' : SV) (k : Prop) : Prop :=
  match s' with
  | .tup vs' => match s with | .tup vs => slots2K ρ vs vs' k | _ => False
  | s' => slot2K ρ s s' k

def SlotTie (ρ : Rho) (s s' : SV) : Prop := ∀ (w : World) (E E' : Nat → Prop) (σ σ' : Sg) (v : Value), Ties σ σ' ρ → (∀ g, E' g → E g) → Rep w E σ s v → Rep w E' σ' s' v
theorem slot2K_sound {ρ : Rho} {s s' : SV} {k : Prop} (h : slot2K ρ s s' k) : k ∧ SlotTie ρ s s' := by
  cases s' with
  | agg cs' =>
    cases s with
    | agg cs =>
      obtain ⟨h, hl, hc⟩ := slotsK_sound cs (show slotsK ρ cs cs' k from h)
      refine ⟨h, fun w E E' σ σ' v ht hE hr => ?_⟩
      cases hr with
      | agg hlen ho hcs =>
        refine .agg (hl ▸ hlen) ho fun i s v hs hv => ?_
        have hi : i < cs.length := by rw [hl]; exact (List.getElem?_eq_some_iff.1 hs).1
        exact hc w E E' σ σ' ht hE i _ s v (List.getElem?_eq_getElem hi) hs (hcs i _ v (List.getElem?_eq_getElem hi) hv)
    | _ => exact h.elim
  | _ => exact slotK_sound h
theorem slots2K_sound {ρ : Rho} (l : List SV) : ∀ {l' : List SV} {k : Prop}, slots2K ρ l l' k → k ∧ l.length = l'.length ∧ ∀ (i : Nat) (s s' : SV), l[i]? = some s → l'[i]? = some s' → SlotTie ρ s s' := by
  induction l with
  | nil =>
    intro l' k h
    cases l' with
    | nil => exact ⟨h, rfl, by simp⟩
    | cons x t => exact h.elim
  | cons s l ih =>
    intro l' k h
    cases l' with
    | nil => exact h.elim
    | cons s' l' =>
      obtain ⟨h, h1⟩ := slot2K_sound (show slot2K ρ s s' (slots2K ρ l l' k) from h)
      obtain ⟨h, hl, h2⟩ := ih h
      refine ⟨h, by simp [hl], fun i a a' ha ha' => ?_⟩
      cases i with
      | zero => simp at ha ha'; subst ha; subst ha'; exact h1
      | succ i => exact h2 i a a' (by simpa using ha) (by simpa using ha')
theorem slot3K_sound {ρ : Rho} {s s' : SV} {k : Prop} (h : slot3K ρ s s' k) : k ∧ SlotTie ρ s s' := by
  cases s' with
  | tup cs' =>
    cases s with
    | tup cs =>
      obtain ⟨h, hl, hc⟩ := slots2K_sound cs (show slots2K ρ cs cs' k from h)
      refine ⟨h, fun w E E' σ σ' v ht hE hr => ?_⟩
      cases hr with
      | tup hlen hcs =>
        refine .tup (hl ▸ hlen) fun i s v hs hv => ?_
        have hi : i < cs.length := by rw [hl]; exact (List.getElem?_eq_some_iff.1 hs).1
        exact hc i _ s (List.getElem?_eq_getElem hi) hs w E E' σ σ' v ht hE (hcs i _ v (List.getElem?_eq_getElem hi) hv)
    | _ => exact h.elim
  | _ => exact slot2K_sound h

/-- What a function hands back and leaves, told in fewer words: some (value, blocks) that the real ones come to, of which R holds. -/
structure OutG (m : Nat) (s : SV) (h : Hp) (R : SV → Hp → Prop) : Prop where
  ok : ∃ s' h', R s' h' ∧ ∀ (w : World) (X : Nat → Prop) (σ : Sg) (v : Value), Inv w X σ h → Rep w (Ex X σ) σ s v → ∃ σ', Inv w X σ' h' ∧ Rep w (Ex X σ') σ' s' v ∧ Step m w σ w σ'
theorem OutG.of {m : Nat} {s : SV} {h : Hp} {R : SV → Hp → Prop} (ρ : Rho) (s' : SV) (h' : Hp) (hρ : rhoB m ρ = true) (hR : R s' h') (hk : slot3K ρ s s' (blksK ρ h ρ h' True)) : OutG m s h R := by
  obtain ⟨hk, hs⟩ := slot3K_sound hk
  refine ⟨s', h', hR, fun w X σ v hI hr => ?_⟩
  obtain ⟨σ', hI', hS, hties, hE⟩ := shift_sg ρ hρ hk hI
  exact ⟨σ', hI', hs w _ _ σ σ' v hties hE hr, hS⟩

theorem GSpec.of_code (hT : TabOK P T) {f : FuncId} {fn : Func} {c : Code} {args : List SV} {hin : Hp} {R : SV → Hp → Prop} (hf : P.funcs[f]? = some fn) (hn : (fn.name == "runtime.NumGoroutine") = false)
    (hb : fn.body = some c) (hk : startK args fn.ntmps fun F => codeK P T hin.length c F hin (retK T fn fun s h' => OutG hin.length s h' R)) : GSpec P f args hin R :=
  ⟨⟨fun w X σ vs hI hr => ((CallG.of_code hT hf hn hb hk).ok w X σ vs hI hr).mono fun v w' ⟨s, h', σ', ho, hrep, hI', hS⟩ => by
    obtain ⟨s', h'', hR, hgo⟩ := ho.ok
    obtain ⟨σ'', hI'', hrep', hS'⟩ := hgo w' X σ' v hI' hrep
    have hl : σ.length = hin.length := hI.len
    exact ⟨s', h'', σ'', hR, hrep', hI'', hS.trans (by rw [hl]; exact hS')⟩⟩⟩
theorem GSpec.mono {f : FuncId} {args : List SV} {hin : Hp} {R R' : SV → Hp → Prop} (hs : GSpec P f args hin R) (hr : ∀ s h, R s h → R' s h) : GSpec P f args hin R' :=
  ⟨⟨fun w X σ vs hI hrp => (hs.ok.ok w X σ vs hI hrp).mono fun _ _ ⟨s, ho, σ', h1, h2⟩ => ⟨s, ho, σ', hr _ _ h1, h2⟩⟩⟩

/-! ### a shift ahead of a drawn region, a loop, a call -/
theorem SOK.shift {m : Nat} {c : Code} {F F' : Fr} {h h' : Hp} {K : Post} (hs : Shift m F h F' h') (hk : SOK P m c F' h' K) : SOK P m c F h K := fun w X σ tmps hI hF => by
  obtain ⟨σ', hI', hF', hS⟩ := hs.ok w X σ tmps hI hF
  refine wp_mono (hk w X σ' tmps hI' hF') fun e a w' ⟨hd, x, F2, h2, σ2, hx, hK, hI2, hF2, hS2⟩ => ⟨hd, x, F2, h2, σ2, hx, hK, hI2, hF2, hS.trans hS2⟩
theorem DrawG.freeze {m id : Nat} {ops : Array Oper} {F : Fr} {h : Hp} {K : Fr → Hp → Prop} (b : Nat) (hk : frzK m b F h fun F' h' => DrawG P m id ops F' h' K) : DrawG P m id ops F h K := by
  obtain ⟨F', h', hs, hk⟩ := frz_sound hk
  exact ⟨.shift hs hk.ok⟩
theorem LoopG.freeze {m : Nat} {c : Code} {F : Fr} {h : Hp} {K : Post} (b : Nat) (hk : frzK m b F h fun F' h' => LoopG P m c F' h' K) : LoopG P m c F h K := by
  obtain ⟨F', h', hs, hk⟩ := frz_sound hk
  exact ⟨.shift hs hk.ok⟩

/-- An element of a row that is told by a list. -/
theorem el_map {α : Type} {f : α → List SV} {ls : List α} {i : Nat} {k : List SV → Prop} (hi : i < ls.length) (h : ∀ x, ls[i]? = some x → k (f x)) : ElG (ls.map f) i k :=
  ⟨f ls[i], by simp [hi], h _ (List.getElem?_eq_getElem hi)⟩
end
end Go.Sx

/- Loops whose ways out come together. No statement of the seat is proved here. -/
import Derived.Test.YthlomoacacebeacSxZc
namespace Go.Sx
section
variable {P : Program} {T : Tab}

def LPostE {α β : Type} (m n : Nat) (sp : α → List (Nat × SV)) (hx : α → Hp) (μ : α → Nat) (x : α) (id : Nat) (spE : β → List (Nat × SV)) (hE : β → Hp) (K : Post) : Post := fun e F h => match e with
  | .normal => ∃ x', μ x' < μ x ∧ HeadG m F h n (sp x') (hx x')
  | .exit i => i = id ∧ ∃ y, HeadG m F h n (spE y) (hE y)
  | .ret => XG m F h (K .ret)
/-- A LOOP, by what holds at its head and what holds behind it. -/
theorem LoopG.invE (hT : TabOK P T) {α β : Type} {m : Nat} {c : Code} {F : Fr} {h : Hp} {K : Post} (n : Nat) (sp : α → List (Nat × SV)) (hx : α → Hp) (μ : α → Nat) (x0 : α) (id : Nat) (spE : β → List (Nat × SV)) (hE : β → Hp)
    (hs : HeadG m F h n (sp x0) (hx x0)) (body : ∀ x, frmK n (sp x) fun F => codeK P T m c F (hx x) (LPostE m n sp hx μ x id spE hE K)) (rest : ∀ y, frmK n (spE y) fun F => K (.exit id) F (hE y)) : LoopG P m c F h K :=
  ⟨SOK.loop sp hx μ x0 hs.ok fun x => (codeK_sound hT c (frmK_sound (body x))).mono fun e F h hp => by
    cases e with
    | normal => exact hp
    | exit i =>
      obtain ⟨rfl, y, hy⟩ := hp
      exact ⟨_, _, hy.ok, frmK_sound (rest y)⟩
    | ret => exact hp⟩
end
end Go.Sx

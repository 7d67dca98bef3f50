/- A loop of a known number of rounds. -/
import Derived.Test.YtdommpfnoiemkaaGen
import Derived.LoopN
namespace Go.Proofs.Ytdommpfnoiemkaa
open Go.Sx
noncomputable def unrK (P : Program) (T : Tab) (m : Nat) (c : Code) (K : Post) (n : Nat) : Fr → Hp → Prop :=
  Nat.rec (motive := fun _ => Fr → Hp → Prop) (fun _ _ => False) (fun _ ih F h => codeK P T m c F h fun x F h => match x with
    | .normal => ih F h
    | .exit i => K (.exit i) F h
    | .ret => K .ret F h) n
theorem unr_sound {P : Program} {T : Tab} (hT : TabOK P T) {m : Nat} {c : Code} {K : Post} {w0 : World} {X : Nat → Prop} {σ0 : Sg} (n : Nat) : ∀ {F : Fr} {h : Hp}, unrK P T m c K n F h →
    ∀ (w : World) (σ : Sg) (tmps : Array Value), Inv w X σ h → FRep w (Ex X σ) σ F tmps → Step m w0 σ0 w σ → Code.rounds P c (SPost m X w0 σ0 K) n ⟨tmps, []⟩ w := by
  induction n with
  | zero => intro F h hk; exact hk.elim
  | succ n ih =>
    intro F h hk w σ tmps hI hF hS
    rw [rounds_succ]
    refine wp_mono (codeK_sound hT c hk w X σ tmps hI hF) fun e a' w'' hq => ?_
    obtain ⟨hd', y, F2, h2, σ2, hx2, hp, hI2, hF2, hS2⟩ := hq
    cases e <;> cases hx2
    · obtain ⟨t2, ds⟩ := a'
      have hd' : ds = [] := hd'
      subst hd'
      exact ih hp w'' σ2 t2 hI2 hF2 (hS.trans hS2)
    · rename_i i; exact ⟨hd', .exit i, F2, h2, σ2, rfl, hp, hI2, hF2, hS.trans hS2⟩
    · exact ⟨hd', .ret, F2, h2, σ2, rfl, hp, hI2, hF2, hS.trans hS2⟩
/-- A LOOP, its rounds walked one by one. -/
theorem LoopG.unr {P : Program} {T : Tab} (hT : TabOK P T) {m : Nat} {c : Code} {F : Fr} {h : Hp} {K : Post} (n : Nat) (hk : unrK P T m c K n F h) : LoopG P m c F h K :=
  ⟨fun w _ σ tmps hI hF => wp_loop_rounds n (unr_sound hT n hk w σ tmps hI hF (Step.refl _ _ _))⟩
end Go.Proofs.Ytdommpfnoiemkaa

/- Small laws for contracts. No statement of the seat is proved here. -/
import Derived.Test.YthlomoacacebeacSxR
namespace Go.Sx
theorem both_t {b : Bool} {A B : Prop} (hb : b = true) (h : A) : (b = true → A) ∧ (b = false → B) := ⟨fun _ => h, fun hf => by rw [hb] at hf; simp at hf⟩
theorem both_f {b : Bool} {A B : Prop} (hb : b = false) (h : B) : (b = true → A) ∧ (b = false → B) := ⟨fun hf => by rw [hb] at hf; simp at hf, fun _ => h⟩
theorem repl_nil {w : World} {E : Nat → Prop} {σ : Sg} : RepL w E σ [] [] := ⟨rfl, by simp⟩
theorem repl_cons {w : World} {E : Nat → Prop} {σ : Sg} {s : SV} {v : Value} {ss : List SV} {vs : List Value} (h : Rep w E σ s v) (hs : RepL w E σ ss vs) : RepL w E σ (s :: ss) (v :: vs) :=
  ⟨by simp [hs.1], fun i s' v' h1 h2 => by
    cases i with
    | zero => simp at h1 h2; subst h1; subst h2; exact h
    | succ i => exact hs.2 i s' v' (by simpa using h1) (by simpa using h2)⟩
end Go.Sx

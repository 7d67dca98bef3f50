/- Small laws of contracts. No statement of the seat is proved here. -/
import Derived.Test.YtdommpfnoiemkaaAux
namespace Go.Sx
set_option linter.unusedVariables false
theorem PSpec.weakR {P : Program} {f : FuncId} {args : List SV} {R R' : SV → Prop} (hs : PSpec P f args R) (hw : ∀ s, R s → ∃ s', R' s' ∧ ∀ (w : World) (E : Nat → Prop) (σ : Sg) (v : Value), Rep w E σ s v → Rep w E σ s' v) : PSpec P f args R' :=
  ⟨fun h K hk => ⟨fun w X σ vs hI hr => ((hs.ok h (fun s h' => R s ∧ h' = h) fun s hs => ⟨hs, rfl⟩).ok w X σ vs hI hr).mono fun v w' ⟨s, h', σ', ⟨hR, e⟩, hrep, hI', hS⟩ => by
    subst e
    obtain ⟨s', hR', hto⟩ := hw s hR
    exact ⟨s', _, σ', hk s' hR', hto _ _ _ _ hrep, hI', hS⟩⟩⟩
/-- A slice that is empty, and perhaps nil. -/
def RowIs (z : Nat) (es : List (List SV)) (s : SV) : Prop := s = .rs z es ∨ (s = .nils ∧ es = [])
theorem RowIs.to {z : Nat} {es : List (List SV)} {s : SV} (h : RowIs z es s) (w : World) (E : Nat → Prop) (σ : Sg) (v : Value) (hr : Rep w E σ s v) : Rep w E σ (.rs z es) v := by
  rcases h with rfl | ⟨rfl, rfl⟩
  · exact hr
  · cases hr; exact .rs0 (Nat.zero_le _)
theorem PSpec.row1 {P : Program} {f : FuncId} {args : List SV} {z : Nat} {es : List (List SV)} (hs : PSpec P f args (RowIs z es)) : PSpec P f args (· = .rs z es) :=
  hs.weakR fun s h => ⟨_, rfl, h.to⟩
theorem PSpec.row2 {P : Program} {f : FuncId} {args : List SV} {z : Nat} {es : List (List SV)} {e : SV} (hs : PSpec P f args fun s => ∃ x, s = .tup [x, e] ∧ RowIs z es x) : PSpec P f args (· = .tup [.rs z es, e]) :=
  hs.weakR fun s ⟨x, hx, hr⟩ => ⟨_, rfl, fun w E σ v h => by
    subst hx
    cases h with
    | tup hl hc =>
      refine .tup hl fun i s v hs hv => ?_
      match i with
      | 0 => simp at hs; subst hs; exact hr.to w E σ v (hc 0 x v rfl hv)
      | 1 => exact hc 1 s v (by simpa using hs) hv
      | i + 2 => simp at hs⟩
end Go.Sx

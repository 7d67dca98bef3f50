/- Statements' arguments that are samples or two numbers. No statement of the seat is proved here. -/
import Derived.Test.YthlomoacacebeacFair
import Derived.Test.YthlomoacacebeacArgTags
import Derived.Test.YthlomoacacebeacRows
import Derived.Lib.SmallJoins
namespace Go.Proofs.Ythlomoacacebeac
open Go.Sx Go.ChangeShapes Go.WideShapes Go.ChangeAt Go.Deep
set_option linter.unusedSimpArgs false
set_option linter.unusedVariables false
theorem rep_agg3 {w : World} {E : Nat → Prop} {σ : Sg} {k1 k2 k3 : IntKind} {x y z : Int} : Rep w E σ (.agg [.int k1 x, .int k2 y, .int k3 z]) (.agg #[.int k1 x, .int k2 y, .int k3 z]) := by
  refine .agg rfl (fun i v h => ?_) (fun i s v hs hv => ?_)
  · match i with
    | 0 => simp at h; subst h; rfl
    | 1 => simp at h; subst h; rfl
    | 2 => simp at h; subst h; rfl
    | i + 3 => simp at h
  · match i with
    | 0 => simp at hs hv; subst hs; subst hv; exact .int
    | 1 => simp at hs hv; subst hs; subst hv; exact .int
    | 2 => simp at hs hv; subst hs; subst hv; exact .int
    | i + 3 => simp at hs
section
variable {H : Type} {enc : TypeId × Value → H} {W : World} {base : Nat} {spare : Nat → Bool} {held : Bool}
set_option maxRecDepth 100000 in
theorem arg_smp {b : Nat} {v : Value} {d : DataW H} {p : List MemPlace} (hv : Value.okWide Try.prog W .any b 41 v) (h : DataW.Trod enc Try.prog W base spare held 41 v d p) :
    ∃ s : Int × Int × Int, Rep W (fun _ => False) [] (smpE s.1 s.2.1 s.2.2) v := by
  obtain ⟨v0, v1, v2, y0, y1, y2, n, rfl, _, _, h0, h1, h2⟩ := Go.Joins.open_agg3 Try.underlying41 (by kernel_rfl) (by kernel_rfl) hv h
  obtain ⟨a0, e0, _, _⟩ := DataW.trod_int Try.underlying3 h0
  obtain ⟨a1, e1, _, _⟩ := DataW.trod_int Try.underlying2 h1
  obtain ⟨a2, e2, _, _⟩ := DataW.trod_int Try.underlying3 h2
  obtain rfl := List.singleton_inj.1 e0
  obtain rfl := List.singleton_inj.1 e1
  obtain rfl := List.singleton_inj.1 e2
  exact ⟨(a0, a1, a2), rep_agg3⟩
end
end Go.Proofs.Ythlomoacacebeac

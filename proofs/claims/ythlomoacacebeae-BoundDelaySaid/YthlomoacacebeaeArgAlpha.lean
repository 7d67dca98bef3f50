/- A statement's argument that is a struct of two numbers. No statement of the seat is proved here. -/
import Derived.Test.YthlomoacacebeaeBnd
import Derived.Test.YthlomoacacebeaeArgStructs
import Derived.Test.YthlomoacacebeaeRows
import Derived.Lib.SmallJoins
namespace Go.Proofs.Ythlomoacacebeae
open Go.Sx Go.ChangeShapes Go.WideShapes Go.ChangeAt Go.Deep
set_option linter.unusedSimpArgs false
set_option linter.unusedVariables false
theorem rep_agg2 {w : World} {E : Nat → Prop} {σ : Sg} {k1 k2 : IntKind} {x y : Int} : Rep w E σ (.agg [.int k1 x, .int k2 y]) (.agg #[.int k1 x, .int k2 y]) := by
  refine .agg rfl (fun i v h => ?_) (fun i s v hs hv => ?_)
  · match i with
    | 0 => simp at h; subst h; rfl
    | 1 => simp at h; subst h; rfl
    | i + 2 => simp at h
  · match i with
    | 0 => simp at hs hv; subst hs; subst hv; exact .int
    | 1 => simp at hs hv; subst hs; subst hv; exact .int
    | i + 2 => simp at hs
section
variable {H : Type} {enc : TypeId × Value → H} {W : World} {base : Nat} {spare : Nat → Bool} {held : Bool}
set_option maxRecDepth 100000 in
theorem arg_alpha {b : Nat} {v : Value} {d : DataW H} {p : List MemPlace} (hv : Value.okWide Try.prog W .any b 24 v) (h : DataW.Trod enc Try.prog W base spare held 24 v d p) :
    ∃ s : Int × Int, Rep W (fun _ => False) [] (alpE s.1 s.2) v := by
  obtain ⟨v0, v1, y0, y1, n, rfl, _, _, h0, h1⟩ := Go.Joins.open_agg2 Try.underlying24 (by kernel_rfl) (by kernel_rfl) hv h
  obtain ⟨a0, e0, _, _⟩ := DataW.trod_int Try.underlying2 h0
  obtain ⟨a1, e1, _, _⟩ := DataW.trod_int Try.underlying2 h1
  obtain rfl := List.singleton_inj.1 e0
  obtain rfl := List.singleton_inj.1 e1
  exact ⟨(a0, a1), rep_agg2⟩
end
end Go.Proofs.Ythlomoacacebeae

/- A statement's argument that is a list of tags. No statement of the seat is proved here. -/
import Derived.Test.YthlomoacacebeacArgStructs
import Derived.Test.YthlomoacacebeacTags
import Derived.Test.YthlomoacacebeacRows
namespace Go.Proofs.Ythlomoacacebeac
open Go.Sx Go.ChangeShapes Go.WideShapes Go.ChangeAt Go.Deep
set_option linter.unusedSimpArgs false
set_option linter.unusedVariables false
theorem fields3 {k1 k2 k3 : IntKind} : ∀ {e : List SV}, fieldsOk [some k1, some k2, some k3] e → ∃ x y z : Int, e = [.int k1 x, .int k2 y, .int k3 z]
  | [], h => h.elim
  | [_], h => h.2.elim
  | [_, _], h => h.2.2.elim
  | [a, b, c], h => by
    obtain ⟨x, hx⟩ := h.1
    obtain ⟨y, hy⟩ := h.2.1
    obtain ⟨z, hz⟩ := h.2.2.1
    exact ⟨x, y, z, by rw [hx.1, hy.1, hz.1]⟩
  | _ :: _ :: _ :: _ :: _, h => h.2.2.2.elim
theorem tags_of : ∀ {es : List (List SV)}, (∀ e ∈ es, fieldsOk [some .i64, some .i64, some .i64] e) → ∃ ts : List Tg, es = ts.map tagE := by
  intro es
  induction es with
  | nil => exact fun _ => ⟨[], rfl⟩
  | cons e es ih =>
    intro h
    obtain ⟨ts, hts⟩ := ih fun e he => h e (List.mem_cons_of_mem _ he)
    obtain ⟨x, y, z, he⟩ := fields3 (h e (List.mem_cons_self ..))
    exact ⟨⟨x, y, z⟩ :: ts, by rw [hts, he]; rfl⟩
section
variable {H : Type} {enc : TypeId × Value → H} {W : World} {base : Nat} {spare : Nat → Bool} {held : Bool}
set_option maxRecDepth 100000 in
theorem arg_tags {b : Nat} {v : Value} {d : DataW H} {p : List MemPlace} (hv : Value.okWide Try.prog W .any b 31 v) (h : DataW.Trod enc Try.prog W base spare held 31 v d p) :
    ∃ ts : List Tg, Rep W (fun _ => False) [] (.rs 3 (ts.map tagE)) v := by
  obtain ⟨es, h1, h2⟩ := arg_structs (ks := [some .i64, some .i64, some .i64]) Try.underlying31 Try.underlying38 (by kernel_rfl) (by kernel_rfl) (by kernel_rfl) hv h
  obtain ⟨ts, rfl⟩ := tags_of h1
  exact ⟨ts, h2⟩
end
end Go.Proofs.Ythlomoacacebeac

/- A statement's argument that is a list of parts. No statement of the seat is proved here. -/
import Derived.Test.YthlomoacacebeabArgStructs
import Derived.Test.YthlomoacacebeabRows
namespace Go.Proofs.Ythlomoacacebeab
open Go.Sx Go.ChangeShapes Go.WideShapes Go.ChangeAt Go.Deep
set_option linter.unusedSimpArgs false
set_option linter.unusedVariables false
theorem fieldsQ {k1 k2 : IntKind} : ∀ {e : List SV}, fieldsOk [some k1, some k2] e → ∃ x y : Int, e = [.int k1 x, .int k2 y]
  | [], h => h.elim
  | [_], h => h.2.elim
  | [a, b], h => by
    obtain ⟨x, hx⟩ := h.1
    obtain ⟨y, hy⟩ := h.2.1
    exact ⟨x, y, by rw [hx.1, hy.1]⟩
  | _ :: _ :: _ :: _, h => h.2.2.elim
theorem partsQ_of : ∀ {es : List (List SV)}, (∀ e ∈ es, fieldsOk [some .i64, some .i64] e) → ∃ ts : List (Int × Int), es = ts.map fun p => [.int .i64 p.1, .int .i64 p.2] := by
  intro es
  induction es with
  | nil => exact fun _ => ⟨[], rfl⟩
  | cons e es ih =>
    intro h
    obtain ⟨ts, hts⟩ := ih fun e he => h e (List.mem_cons_of_mem _ he)
    obtain ⟨x, y, he⟩ := fieldsQ (h e (List.mem_cons_self ..))
    exact ⟨(x, y) :: ts, by rw [hts, he]; rfl⟩
section
variable {H : Type} {enc : TypeId × Value → H} {W : World} {base : Nat} {spare : Nat → Bool} {held : Bool}
set_option maxRecDepth 100000 in
theorem arg_parts {b : Nat} {v : Value} {d : DataW H} {p : List MemPlace} (hv : Value.okWide Try.prog W .any b 23 v) (h : DataW.Trod enc Try.prog W base spare held 23 v d p) :
    ∃ ts : List (Int × Int), Rep W (fun _ => False) [] (.rs 2 (ts.map fun p => [.int .i64 p.1, .int .i64 p.2])) v := by
  obtain ⟨es, h1, h2⟩ := arg_structs (ks := [some .i64, some .i64]) Try.underlying23 Try.underlying33 (by kernel_rfl) (by kernel_rfl) (by kernel_rfl) hv h
  obtain ⟨ts, rfl⟩ := partsQ_of h1
  exact ⟨ts, h2⟩
end
end Go.Proofs.Ythlomoacacebeab

/- A statement's argument that is a list of samples. No statement of the seat is proved here. -/
import Derived.Test.YthlomoacacebeacArgTags
namespace Go.Proofs.Ythlomoacacebeac
open Go.Sx Go.ChangeShapes Go.WideShapes Go.ChangeAt Go.Deep
set_option linter.unusedSimpArgs false
set_option linter.unusedVariables false
theorem trip_of : ∀ {es : List (List SV)}, (∀ e ∈ es, fieldsOk [some .i64, some .i64, some .i64] e) → ∃ ts : List (Int × Int × Int), es = ts.map fun s => [.int .i64 s.1, .int .i64 s.2.1, .int .i64 s.2.2] := by
  intro es
  induction es with
  | nil => exact fun _ => ⟨[], rfl⟩
  | cons e es ih =>
    intro h
    obtain ⟨ts, hts⟩ := ih fun e he => h e (List.mem_cons_of_mem _ he)
    obtain ⟨x, y, z, he⟩ := fields3 (h e (List.mem_cons_self ..))
    exact ⟨(x, y, z) :: ts, by rw [hts, he]; rfl⟩
section
variable {H : Type} {enc : TypeId × Value → H} {W : World} {base : Nat} {spare : Nat → Bool} {held : Bool}
set_option maxRecDepth 100000 in
theorem arg_smps {b : Nat} {v : Value} {d : DataW H} {p : List MemPlace} (hv : Value.okWide Try.prog W .any b 46 v) (h : DataW.Trod enc Try.prog W base spare held 46 v d p) :
    ∃ ts : List (Int × Int × Int), Rep W (fun _ => False) [] (.rs 3 (ts.map fun s => [.int .i64 s.1, .int .i64 s.2.1, .int .i64 s.2.2])) v := by
  obtain ⟨es, h1, h2⟩ := arg_structs (ks := [some .i64, some .i64, some .i64]) Try.underlying46 Try.underlying41 (by kernel_rfl) (by kernel_rfl) (by kernel_rfl) hv h
  obtain ⟨ts, rfl⟩ := trip_of h1
  exact ⟨ts, h2⟩
end
end Go.Proofs.Ythlomoacacebeac

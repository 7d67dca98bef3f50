/- Statements' arguments that are rates, caps or lists of rates. No statement of the seat is proved here. -/
import Derived.Test.YthlomoacacebeadArgStructs
import Derived.Test.YthlomoacacebeadRows
import Derived.Lib.SmallJoins
namespace Go.Proofs.Ythlomoacacebead
open Go.Sx Go.ChangeShapes Go.WideShapes Go.ChangeAt Go.Deep
set_option linter.unusedSimpArgs false
set_option linter.unusedVariables false
theorem rep_a2 {w : World} {E : Nat → Prop} {σ : Sg} {k1 k2 : IntKind} {x y : Int} : Rep w E σ (.agg [.int k1 x, .int k2 y]) (.agg #[.int k1 x, .int k2 y]) := by
  refine .agg rfl (fun i v h => ?_) (fun i s v hs hv => ?_)
  · match i with
    | 0 => simp at h; subst h; rfl
    | 1 => simp at h; subst h; rfl
    | i + 2 => simp at h
  · match i with
    | 0 => simp at hs hv; subst hs; subst hv; exact .int
    | 1 => simp at hs hv; subst hs; subst hv; exact .int
    | i + 2 => simp at hs
theorem rep_a3 {w : World} {E : Nat → Prop} {σ : Sg} {k1 k2 k3 : IntKind} {x y z : Int} : Rep w E σ (.agg [.int k1 x, .int k2 y, .int k3 z]) (.agg #[.int k1 x, .int k2 y, .int k3 z]) := by
  refine .agg rfl (fun i v h => ?_) (fun i s v hs hv => ?_)
  · match i with
    | 0 => simp at h; subst h; rfl
    | 1 => simp at h; subst h; rfl
    | 2 => simp at h; subst h; rfl
    | i + 3 => simp at h
  · match i with
    | 0 => simp at hs hv; subst hs; subst hv; exact .int
    | 1 => simp at hs hv; subst hs; subst hv; exact .int
    | 2 => simp at hs hv; subst hs; subst hv; exact .int
    | i + 3 => simp at hs
theorem fieldsP {k1 k2 : IntKind} : ∀ {e : List SV}, fieldsOk [some k1, some k2] e → ∃ x y : Int, e = [.int k1 x, .int k2 y]
  | [], h => h.elim
  | [_], h => h.2.elim
  | [a, b], h => by
    obtain ⟨x, hx⟩ := h.1
    obtain ⟨y, hy⟩ := h.2.1
    exact ⟨x, y, by rw [hx.1, hy.1]⟩
  | _ :: _ :: _ :: _, h => h.2.2.elim
abbrev pairR (p : Int × Int) : List SV := [.int .i64 p.1, .int .i64 p.2]
theorem pairs_of : ∀ {es : List (List SV)}, (∀ e ∈ es, fieldsOk [some .i64, some .i64] e) → ∃ ts : List (Int × Int), es = ts.map pairR := by
  intro es
  induction es with
  | nil => exact fun _ => ⟨[], rfl⟩
  | cons e es ih =>
    intro h
    obtain ⟨ts, hts⟩ := ih fun e he => h e (List.mem_cons_of_mem _ he)
    obtain ⟨x, y, he⟩ := fieldsP (h e (List.mem_cons_self ..))
    exact ⟨(x, y) :: ts, by rw [hts, he]; rfl⟩
section
variable {H : Type} {enc : TypeId × Value → H} {W : World} {base : Nat} {spare : Nat → Bool} {held : Bool}
set_option maxRecDepth 100000 in
theorem arg_rate {b : Nat} {v : Value} {d : DataW H} {p : List MemPlace} (hv : Value.okWide Try.prog W .any b 52 v) (h : DataW.Trod enc Try.prog W base spare held 52 v d p) :
    ∃ s : Int × Int, Rep W (fun _ => False) [] (.agg [.int .i64 s.1, .int .i64 s.2]) v := by
  obtain ⟨v0, v1, y0, y1, n, rfl, _, _, h0, h1⟩ := Go.Joins.open_agg2 Try.underlying52 (by kernel_rfl) (by kernel_rfl) hv h
  obtain ⟨a0, e0, _, _⟩ := DataW.trod_int Try.underlying2 h0
  obtain ⟨a1, e1, _, _⟩ := DataW.trod_int Try.underlying2 h1
  obtain rfl := List.singleton_inj.1 e0
  obtain rfl := List.singleton_inj.1 e1
  exact ⟨(a0, a1), rep_a2⟩
set_option maxRecDepth 100000 in
theorem arg_caps {b : Nat} {v : Value} {d : DataW H} {p : List MemPlace} (hv : Value.okWide Try.prog W .any b 68 v) (h : DataW.Trod enc Try.prog W base spare held 68 v d p) :
    ∃ s : Int × Int × Int, Rep W (fun _ => False) [] (.agg [.int .i64 s.1, .int .i64 s.2.1, .int .i64 s.2.2]) v := by
  obtain ⟨v0, v1, v2, y0, y1, y2, n, rfl, _, _, h0, h1, h2⟩ := Go.Joins.open_agg3 Try.underlying68 (by kernel_rfl) (by kernel_rfl) hv h
  obtain ⟨a0, e0, _, _⟩ := DataW.trod_int Try.underlying3 h0
  obtain ⟨a1, e1, _, _⟩ := DataW.trod_int Try.underlying3 h1
  obtain ⟨a2, e2, _, _⟩ := DataW.trod_int Try.underlying2 h2
  obtain rfl := List.singleton_inj.1 e0
  obtain rfl := List.singleton_inj.1 e1
  obtain rfl := List.singleton_inj.1 e2
  exact ⟨(a0, a1, a2), rep_a3⟩
set_option maxRecDepth 100000 in
theorem arg_rates {b : Nat} {v : Value} {d : DataW H} {p : List MemPlace} (hv : Value.okWide Try.prog W .any b 50 v) (h : DataW.Trod enc Try.prog W base spare held 50 v d p) :
    ∃ ts : List (Int × Int), Rep W (fun _ => False) [] (.rs 2 (ts.map pairR)) v := by
  obtain ⟨es, h1, h2⟩ := arg_structs (ks := [some .i64, some .i64]) Try.underlying50 Try.underlying52 (by kernel_rfl) (by kernel_rfl) (by kernel_rfl) hv h
  obtain ⟨ts, rfl⟩ := pairs_of h1
  exact ⟨ts, h2⟩
end
end Go.Proofs.Ythlomoacacebead

/- Statements' arguments that are lists of Bools, and predictors. No statement of the seat is proved here. -/
import Derived.Test.YthlomoacacebeacArgStructs
import Derived.Test.YthlomoacacebeacRows
import Derived.Lib.SmallJoins
import Derived.Deep.Grids
namespace Go.Proofs.Ythlomoacacebeac
open Go.Sx Go.ChangeShapes Go.WideShapes Go.ChangeAt Go.Deep
set_option linter.unusedSimpArgs false
set_option linter.unusedVariables false
theorem rep_q3 {w : World} {E : Nat → Prop} {σ : Sg} {k1 k2 k3 : IntKind} {x y z : Int} : Rep w E σ (.agg [.int k1 x, .int k2 y, .int k3 z]) (.agg #[.int k1 x, .int k2 y, .int k3 z]) := by
  refine .agg rfl (fun i v h => ?_) (fun i s v hs hv => ?_)
  · match i with
    | 0 => simp at h; subst h; rfl
    | 1 => simp at h; subst h; rfl
    | 2 => simp at h; subst h; rfl
    | i + 3 => simp at h
  · match i with
    | 0 => simp at hs hv; subst hs; subst hv; exact .int
    | 1 => simp at hs hv; subst hs; subst hv; exact .int
    | 2 => simp at hs hv; subst hs; subst hv; exact .int
    | i + 3 => simp at hs
theorem rep_bools {w : World} {x : Addr} {len cap : Nat} {B : Nat → Bool} (hl : len ≤ cap) (hm : cap ≤ maxLen) (hcell : ∀ i, i < cap → w.cell? (x.add i) = some (.bool (B i))) :
    Rep w (fun _ => False) [] (.rs 1 (((List.range len).map B).map fun b => [SV.bool b])) (.slice (some x) len cap) := by
  have hrl : (((List.range len).map B).map fun b => [SV.bool b]).length = len := by simp
  cases hlen : len with
  | zero => exact .rs0 hm
  | succ n =>
    rw [← hlen]
    have h0 := hcell 0 (by omega)
    have hlt := block_lt' h0
    rw [add_block] at hlt
    have hget : ∀ (i : Nat) (e : List SV), (((List.range len).map B).map fun b => [SV.bool b])[i]? = some e → i < len ∧ e = [.bool (B i)] := by
      intro i e he
      have hi : i < len := by rw [← hrl]; exact (List.getElem?_eq_some_iff.1 he).1
      simp [hi] at he
      exact ⟨hi, he.symm⟩
    have key : Rep w (fun _ => False) [] (.rs 1 (((List.range len).map B).map fun b => [SV.bool b])) (.slice (some x) (((List.range len).map B).map fun b => [SV.bool b]).length cap) := by
      refine .rs (val := fun i _ => .bool (B i)) (by rw [hrl]; exact hl) hm (fun h => h) hlt (fun i e he => by rw [(hget i e he).2]; rfl) (fun i e j s he hs => ?_) (fun i e j s he hs => rfl) (fun i e j s he hs => ?_)
      all_goals obtain ⟨hi, rfl⟩ := hget i e he
      all_goals
        have hj : j = 0 := by
          have := (List.getElem?_eq_some_iff.1 hs).1
          simpa using this
        subst hj
      · simpa using hcell i (by omega)
      · simp at hs; subst hs; exact .bool
    rw [hrl] at key
    exact key
section
variable {H : Type} {enc : TypeId × Value → H} {W : World} {base : Nat} {held : Bool}
set_option maxRecDepth 100000 in
theorem arg_bools {b : Nat} {v : Value} {d : DataW H} {p : List MemPlace} (hv : Value.okWide Try.prog W .any b 63 v) (h : DataW.Trod enc Try.prog W base (fun _ => true) held 63 v d p) :
    ∃ L : List Bool, Rep W (fun _ => False) [] (.rs 1 (L.map fun b => [SV.bool b])) v := by
  obtain ⟨a0, len0, cap0, rfl⟩ := okWide_slice Try.underlying63 hv
  obtain ⟨fuel, hf⟩ := h
  rcases open_bools Try.underlying63 Try.underlying4 (by kernel_rfl) hf with ⟨hcs, _⟩ | ⟨a, len, cap, B, hcs, _, hl, hm, _, hcell⟩
  · simp [Value.cells] at hcs
    obtain ⟨rfl, rfl, rfl⟩ := hcs
    exact ⟨[], .rs0 (Nat.zero_le _)⟩
  · simp [Value.cells] at hcs
    obtain ⟨rfl, rfl, rfl⟩ := hcs
    exact ⟨_, rep_bools hl hm hcell⟩
set_option maxRecDepth 100000 in
theorem arg_pred {spare : Nat → Bool} {b : Nat} {v : Value} {d : DataW H} {p : List MemPlace} (hv : Value.okWide Try.prog W .any b 57 v) (h : DataW.Trod enc Try.prog W base spare held 57 v d p) :
    ∃ s : Int × Int × Int, Rep W (fun _ => False) [] (.agg [.int .i64 s.1, .int .i64 s.2.1, .int .i64 s.2.2]) v := by
  obtain ⟨v0, v1, v2, y0, y1, y2, n, rfl, _, _, h0, h1, h2⟩ := Go.Joins.open_agg3 Try.underlying57 (by kernel_rfl) (by kernel_rfl) hv h
  obtain ⟨a0, e0, _, _⟩ := DataW.trod_int Try.underlying3 h0
  obtain ⟨a1, e1, _, _⟩ := DataW.trod_int Try.underlying3 h1
  obtain ⟨a2, e2, _, _⟩ := DataW.trod_int Try.underlying3 h2
  obtain rfl := List.singleton_inj.1 e0
  obtain rfl := List.singleton_inj.1 e1
  obtain rfl := List.singleton_inj.1 e2
  exact ⟨(a0, a1, a2), rep_q3⟩
end
end Go.Proofs.Ythlomoacacebeac

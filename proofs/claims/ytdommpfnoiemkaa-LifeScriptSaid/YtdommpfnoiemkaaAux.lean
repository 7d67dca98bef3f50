/- Small laws of values. No statement of the seat is proved here. -/
import Derived.Test.YtdommpfnoiemkaaSx
namespace Go.Sx
theorem tup_ii {k q : IntKind} {a b c d : Int} (h1 : a = c) (h2 : b = d) : SV.tup [.int k a, .int q b] = .tup [.int k c, .int q d] := by rw [h1, h2]
theorem tup_ib {k : IntKind} {a c : Int} {b d : Bool} (h1 : a = c) (h2 : b = d) : SV.tup [.int k a, .bool b] = .tup [.int k c, .bool d] := by rw [h1, h2]
theorem int_e {k : IntKind} {a c : Int} (h1 : a = c) : SV.int k a = .int k c := by rw [h1]
theorem bool_e {b d : Bool} (h : b = d) : SV.bool b = .bool d := by rw [h]
/-- A number that fits into 64 bits with a sign, else 0; and the error. -/
def fv (s : Int) : Int := if -9223372036854775808 ≤ s ∧ s ≤ 9223372036854775807 then s else 0
def fe (s : Int) : Int := if -9223372036854775808 ≤ s ∧ s ≤ 9223372036854775807 then 0 else 2
theorem fv_fits (s : Int) : -9223372036854775808 ≤ fv s ∧ fv s ≤ 9223372036854775807 := by unfold fv; split <;> omega
/-! ### arguments whose Bools are known -/
def argB (s : SV) : SV := match s with | .tt => .bool true | .ff => .bool false | s => s
theorem argB_rep {w : World} {E : Nat → Prop} {σ : Sg} {s : SV} {v : Value} (h : Rep w E σ s v) : Rep w E σ (argB s) v := by
  unfold argB
  split
  · cases h; exact .bool
  · cases h; exact .bool
  · exact h
theorem PSpec.argB {P : Program} {f : FuncId} {args : List SV} {R : SV → Prop} (hs : PSpec P f (args.map argB) R) : PSpec P f args R :=
  ⟨fun h K hk => ⟨fun w X σ vs hI hr => (hs.ok h K hk).ok w X σ vs hI ⟨by simpa using hr.1, fun i s v hs hv => by
    rw [List.getElem?_map] at hs
    cases ha : args[i]? with
    | none => rw [ha] at hs; simp at hs
    | some a =>
      rw [ha] at hs
      simp at hs
      subst hs
      exact argB_rep (hr.2 i a v ha hv)⟩⟩⟩
end Go.Sx

/- Statements' arguments that are strings and headers. No statement of the seat is proved here. -/
import Derived.Test.YtdommpfnoiemkaaArgStructs
import Derived.Test.YtdommpfnoiemkaaPktV
import Derived.Test.YtdommpfnoiemkaaRows
import Derived.Lib.SmallJoins
import Derived.ChangeMaps5
namespace Go.Proofs.Ytdommpfnoiemkaa
open Go.Sx Go.ChangeShapes Go.WideShapes Go.ChangeAt Go.Deep
set_option linter.unusedSimpArgs false
set_option linter.unusedVariables false
theorem array5 {α : Type} {cs : Array α} (h : cs.size = 5) : ∃ c0 c1 c2 c3 c4, cs = #[c0, c1, c2, c3, c4] := by
  obtain ⟨l⟩ := cs
  match l, h with
  | [c0, c1, c2, c3, c4], _ => exact ⟨c0, c1, c2, c3, c4, rfl⟩
theorem rep_bstr {w : World} {E : Nat → Prop} {σ : Sg} (s : ByteArray) : Rep w E σ (.str s.data.toList) (.string s) := by
  obtain ⟨⟨l⟩⟩ := s
  exact .str
theorem rep_cells {w : World} {E : Nat → Prop} {σ : Sg} {cs : List SV} {vs : List Value} (hl : cs.length = vs.length) (h : ∀ (i : Nat) (s : SV) (v : Value), cs[i]? = some s → vs[i]? = some v → v.oneCell' = true ∧ Rep w E σ s v) : Rep w E σ (.agg cs) (.agg vs.toArray) := by
  refine .agg (by simpa using hl) (fun i v hv => ?_) (fun i s v hs hv => (h i s v hs (by simpa using hv)).2)
  have hi : i < cs.length := by rw [hl]; simpa using (Array.getElem?_eq_some_iff.1 hv).1
  exact (h i _ v (List.getElem?_eq_getElem hi) (by simpa using hv)).1
theorem rep_hd {w : World} {E : Nat → Prop} {σ : Sg} (s : ByteArray) (c p l f : Int) : Rep w E σ (hdE ⟨s.data.toList, c, p, l, f⟩) (.agg #[.string s, .int .i64 c, .int .i64 p, .int .i64 l, .int .i64 f]) := by
  refine rep_cells (vs := [.string s, .int .i64 c, .int .i64 p, .int .i64 l, .int .i64 f]) rfl fun i x v hx hv => ?_
  match i with
  | 0 => simp at hx hv; subst hx; subst hv; exact ⟨rfl, rep_bstr s⟩
  | 1 => simp at hx hv; subst hx; subst hv; exact ⟨rfl, .int⟩
  | 2 => simp at hx hv; subst hx; subst hv; exact ⟨rfl, .int⟩
  | 3 => simp at hx hv; subst hx; subst hv; exact ⟨rfl, .int⟩
  | 4 => simp at hx hv; subst hx; subst hv; exact ⟨rfl, .int⟩
  | i + 5 => simp at hx
section
variable {H : Type} {enc : TypeId × Value → H} {W : World} {base : Nat} {spare : Nat → Bool} {held : Bool}
theorem trod_field {P : Program} {t : TypeId} {fs : Array Field} {fuel : Nat} {cs : List Value} {x : DataW H × List MemPlace} (ht : P.underlying t = some (.struct fs)) (h : DataW.trod enc P W base spare held fuel t cs = some x) (i : Nat) (f : Field) (hf : fs[i]? = some f) :
    ∃ y n, DataW.trod enc P W base spare held n f.type ((cs.drop f.offset).take (P.cellsOf f.type)) = some y := by
  obtain ⟨xs, n, _, _, _, hl, hx⟩ := DataW.trod_struct ht h
  have hi : i < xs.length := by rw [hl]; exact (Array.getElem?_eq_some_iff.1 hf).1
  exact ⟨_, n, (hx i f hf).trans (List.getElem?_eq_getElem hi)⟩
set_option maxRecDepth 100000 in
theorem arg_str {b : Nat} {v : Value} {d : DataW H} {p : List MemPlace} (hv : Value.okWide Try.prog W .any b 9 v) (h : DataW.Trod enc Try.prog W base spare held 9 v d p) :
    ∃ s : { s : List UInt8 // s.length ≤ 9223372036854775807 }, Rep W (fun _ => False) [] (.str s.1) v := by
  obtain ⟨s, rfl, _, _, hs⟩ := Go.ChangeMaps.open_string Try.underlying9 hv h
  have e : s.data.toList.length = s.size := by rw [Array.length_toList]; rfl
  exact ⟨⟨s.data.toList, by rw [e]; exact Nat.le_trans hs (by decide)⟩, rep_bstr s⟩
set_option maxRecDepth 100000 in
theorem arg_header {b : Nat} {v : Value} {d : DataW H} {p : List MemPlace} (hv : Value.okWide Try.prog W .any b 24 v) (h : DataW.Trod enc Try.prog W base spare held 24 v d p) :
    ∃ h : Hd, Rep W (fun _ => False) [] (hdE h) v := by
  obtain ⟨cs, rfl, hsz⟩ := okWide_struct Try.underlying24 hv
  obtain ⟨c0, c1, c2, c3, c4, rfl⟩ := array5 (hsz.trans (by kernel_rfl))
  obtain ⟨fuel, hf⟩ := h
  obtain ⟨y0, n0, h0⟩ := trod_field Try.underlying24 hf 0 _ rfl
  obtain ⟨y1, n1, h1⟩ := trod_field Try.underlying24 hf 1 _ rfl
  obtain ⟨y2, n2, h2⟩ := trod_field Try.underlying24 hf 2 _ rfl
  obtain ⟨y3, n3, h3⟩ := trod_field Try.underlying24 hf 3 _ rfl
  obtain ⟨y4, n4, h4⟩ := trod_field Try.underlying24 hf 4 _ rfl
  rw [show Try.prog.cellsOf _ = 1 from by kernel_rfl] at h0 h1 h2 h3 h4
  obtain ⟨s, e0, _, _⟩ := DataW.trod_string Try.underlying9 h0
  obtain ⟨a1, e1, _, _⟩ := DataW.trod_int Try.underlying3 h1
  obtain ⟨a2, e2, _, _⟩ := DataW.trod_int Try.underlying3 h2
  obtain ⟨a3, e3, _, _⟩ := DataW.trod_int Try.underlying3 h3
  obtain ⟨a4, e4, _, _⟩ := DataW.trod_int Try.underlying3 h4
  obtain rfl := List.singleton_inj.1 e0
  obtain rfl := List.singleton_inj.1 e1
  obtain rfl := List.singleton_inj.1 e2
  obtain rfl := List.singleton_inj.1 e3
  obtain rfl := List.singleton_inj.1 e4
  exact ⟨⟨_, a1, a2, a3, a4⟩, rep_hd s a1 a2 a3 a4⟩
end
end Go.Proofs.Ytdommpfnoiemkaa

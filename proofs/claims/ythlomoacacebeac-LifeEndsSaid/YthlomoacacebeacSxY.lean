/- What a statement's arguments are to the executor. No statement of the seat is proved here. -/
import Derived.Test.YthlomoacacebeacSxX
import Derived.ProofKit
import Derived.OpenShut
import Derived.ChangeOld
namespace Go.Sx
open Go.ChangeShapes Go.WideShapes Go.ChangeAt
section
variable {H : Type} {enc : TypeId × Value → H} {P : Program} {W : World} {base : Nat} {spare : Nat → Bool} {held : Bool}

theorem block_lt' {w : World} {a : Addr} {v : Value} (h : w.cell? a = some v) : a.block < w.heap.size := by
  unfold World.cell? at h
  cases hb : w.heap[a.block]? with
  | none => rw [hb] at h; simp at h
  | some o => exact (Array.getElem?_eq_some_iff.1 hb).1
def rowOf (k : IntKind) (ls : List Int) : List (List SV) := ls.map fun z => [.int k z]

theorem rep_ints {w : World} {k : IntKind} {x : Addr} {len cap : Nat} {zs : List Int} (hl : len ≤ cap) (hm : cap ≤ maxLen) (hz : len ≤ zs.length) (hcell : ∀ i, i < zs.length → w.cell? (x.add i) = some (.int k (zs.getD i 0))) :
    Rep w (fun _ => False) [] (.rs 1 (rowOf k (zs.take len))) (.slice (some x) len cap) := by
  have hrl : (rowOf k (zs.take len)).length = len := by simp [rowOf, Nat.min_eq_left hz]
  cases hlen : len with
  | zero =>
    have : rowOf k (zs.take 0) = [] := by simp [rowOf]
    rw [this]
    exact .rs0 hm
  | succ n =>
    have h0 := hcell 0 (by omega)
    have hlt := block_lt' h0
    rw [add_block] at hlt
    have hget : ∀ (i : Nat) (e : List SV), (rowOf k (zs.take len))[i]? = some e → i < zs.length ∧ e = [.int k (zs.getD i 0)] := by
      intro i e he
      have hi : i < len := by rw [← hrl]; exact (List.getElem?_eq_some_iff.1 he).1
      have hiz : i < zs.length := by omega
      simp only [rowOf, List.getElem?_map, List.getElem?_take, if_pos hi, List.getElem?_eq_getElem hiz, Option.map_some, Option.some.injEq] at he
      exact ⟨hiz, by rw [← he]; simp [List.getD, List.getElem?_eq_getElem hiz]⟩
    have key : Rep w (fun _ => False) [] (.rs 1 (rowOf k (zs.take len))) (.slice (some x) (rowOf k (zs.take len)).length cap) := by
      refine .rs (val := fun i _ => .int k (zs.getD i 0)) (by rw [hrl]; exact hl) hm (fun h => h) hlt (fun i e he => by rw [(hget i e he).2]; rfl) (fun i e j s he hs => ?_) (fun i e j s he hs => rfl) (fun i e j s he hs => ?_)
      all_goals obtain ⟨hi, rfl⟩ := hget i e he
      all_goals
        have hj : j = 0 := by
          have := (List.getElem?_eq_some_iff.1 hs).1
          simpa using this
        subst hj
      · simpa using hcell i hi
      · simp at hs; subst hs; exact .int
    rw [hrl] at key
    rw [← hlen]
    exact key

/-- A slice of numbers. -/
theorem arg_ints {t e : TypeId} {k : IntKind} {b : Nat} {v : Value} {d : DataW H} {p : List MemPlace} (ht : P.underlying t = some (.slice e)) (he : P.underlying e = some (.int k)) (hc : P.cellsOf e = 1)
    (hv : Value.okWide P W .any b t v) (h : DataW.Trod enc P W base spare held t v d p) : ∃ ls : List Int, (∀ z ∈ ls, (Lit.int k z).wf = true) ∧ Rep W (fun _ => False) [] (.rs 1 (rowOf k ls)) v := by
  obtain ⟨a0, len0, cap0, rfl⟩ := okWide_slice ht hv
  obtain ⟨fuel, hf⟩ := h
  rcases open_ints ht he hc hf with ⟨hcs, _⟩ | ⟨x, l, c, zs, hcs, _, hl, hm, hz, _, hcell, hwz⟩
  · simp [Value.cells] at hcs
    obtain ⟨rfl, rfl, rfl⟩ := hcs
    exact ⟨[], by simp, .rs0 (Nat.zero_le _)⟩
  · simp [Value.cells] at hcs
    obtain ⟨rfl, rfl, rfl⟩ := hcs
    exact ⟨zs.take len0, fun z hz => hwz z (List.mem_of_mem_take hz), rep_ints hl hm (by rw [hz]; split <;> omega) hcell⟩
end
end Go.Sx

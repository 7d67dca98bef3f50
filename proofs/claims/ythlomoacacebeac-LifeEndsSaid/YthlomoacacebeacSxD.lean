/- The symbolic executor is sound: types, new blocks, stores, loads. No statement of the seat is proved here. -/
import Derived.Test.YthlomoacacebeacSxC
namespace Go.Sx

/-! ### types -/
def tiOf (P : Program) (t : TypeId) : TI :=
  match P.underlying t with
  | some (.int k) => .int k
  | some .bool => .bool
  | some .string => .str
  | some (.struct fs) => if fs.toList.all (fun f => (P.info? f.type).isSome) then .struct (fs.toList.map fun f => (f.offset, f.type, P.cellsOf f.type)) else .none
  | some (.array n e) => .array n e
  | some (.slice e) => .slice e
  | some (.pointer e) => .ptr e
  | some _ => .other
  | none => .none
def flatOf (P : Program) (t : TypeId) : Bool :=
  match P.underlying t with
  | some (.struct fs) => !P.stoodInHeld t && fs.toList.all (fun f => f.name != "_") && !P.eqGuardType P.depth t
  | _ => false
def zeroOf (i : TypeInfo) : List SV :=
  match i.zero with
  | some z => if z.cells.toList.all (·.oneCell') && z.cells.size == i.size then z.cells.toList.map ofV else [.bot]
  | none => [.bot]
def teOf (P : Program) (t : TypeId) : TE :=
  match P.info? t with
  | none => ⟨.none, 0, 0, [.bot], false⟩
  | some i => ⟨tiOf P t, i.size, i.bytes, zeroOf i, flatOf P t⟩
def tabOf (P : Program) (n : Nat) : Tab := (List.range n).map (teOf P)
def TabOK (P : Program) (T : Tab) : Prop := ∀ t te, T[t]? = some te → te = teOf P t
theorem tabOf_ok (P : Program) (n : Nat) {T : Tab} (h : tabOf P n = T) : TabOK P T := by
  subst h
  intro t te ht
  simp only [tabOf, List.getElem?_map] at ht
  cases hr : (List.range n)[t]? with
  | none => rw [hr] at ht; simp at ht
  | some u =>
    rw [hr] at ht
    have : u = t := by
      have := List.getElem?_eq_some_iff.1 hr
      obtain ⟨h1, h2⟩ := this
      simpa using h2.symm
    subst this
    simpa using ht.symm

section
variable {P : Program} {T : Tab}
theorem tyK_sound (hT : TabOK P T) {t : TypeId} {k : TE → Prop} (h : tyK T t k) : k (teOf P t) := by
  obtain ⟨te, h1, h2⟩ := nthK_sound (show nthK T t k from h)
  rw [← hT t te h1]; exact h2

theorem info_of_ti {t : TypeId} (h : (teOf P t).ti ≠ .none) : ∃ i, P.info? t = some i ∧ teOf P t = ⟨tiOf P t, i.size, i.bytes, zeroOf i, flatOf P t⟩ := by
  unfold teOf at h ⊢
  split
  · rename_i hi; simp [hi] at h
  · rename_i i hi; exact ⟨i, hi, rfl⟩
theorem ti_of {t : TypeId} {x : TI} (h : (teOf P t).ti = x) (hx : x ≠ .none) : tiOf P t = x ∧ ∃ i, P.info? t = some i ∧ (teOf P t).size = i.size ∧ (teOf P t).bytes = i.bytes ∧ (teOf P t).zero = zeroOf i ∧ (teOf P t).flat = flatOf P t := by
  obtain ⟨i, hi, he⟩ := info_of_ti (P := P) (t := t) (by rw [h]; exact hx)
  rw [he] at h
  exact ⟨h, i, hi, by rw [he], by rw [he], by rw [he], by rw [he]⟩
theorem und_int {t : TypeId} {k : IntKind} (h : tiOf P t = .int k) : P.underlying t = some (.int k) := by
  unfold tiOf at h; split at h <;> (try split at h) <;> simp_all
theorem und_bool {t : TypeId} (h : tiOf P t = .bool) : P.underlying t = some .bool := by
  unfold tiOf at h; split at h <;> (try split at h) <;> simp_all
theorem und_str {t : TypeId} (h : tiOf P t = .str) : P.underlying t = some .string := by
  unfold tiOf at h; split at h <;> (try split at h) <;> simp_all
theorem und_struct {t : TypeId} {fs : List (Nat × TypeId × Nat)} (h : tiOf P t = .struct fs) :
    ∃ fields, P.underlying t = some (.struct fields) ∧ fs = (fields.toList.map fun f => (f.offset, f.type, P.cellsOf f.type)) ∧ ∀ f ∈ fields.toList, (P.info? f.type).isSome = true := by
  unfold tiOf at h
  split at h
  case h_4 fields hu =>
    split at h
    · rename_i hall
      injection h with h
      exact ⟨fields, hu, h.symm, fun f hf => List.all_eq_true.1 hall f hf⟩
    · simp at h
  all_goals simp at h
theorem und_array {t : TypeId} {n : Nat} {e : TypeId} (h : tiOf P t = .array n e) : P.underlying t = some (.array n e) := by
  unfold tiOf at h; split at h <;> (try split at h) <;> simp_all
theorem und_slice {t : TypeId} {e : TypeId} (h : tiOf P t = .slice e) : P.underlying t = some (.slice e) := by
  unfold tiOf at h; split at h <;> (try split at h) <;> simp_all
theorem und_ptr {t : TypeId} {e : TypeId} (h : tiOf P t = .ptr e) : P.underlying t = some (.pointer e) := by
  unfold tiOf at h; split at h <;> (try split at h) <;> simp_all

theorem run_underlying' {t : TypeId} {d : TypeDesc} (h : P.underlying t = some d) (w : World) : (underlying t).run P w = .ok d w := run_underlying h w
theorem run_info {t : TypeId} {i : TypeInfo} (h : P.info? t = some i) (w : World) : (typeInfo t).run P w = .ok i w := by
  simp [typeInfo, h]
theorem run_sizeOf {t : TypeId} {i : TypeInfo} (h : P.info? t = some i) (w : World) : (sizeOf t).run P w = .ok i.size w := by
  simp [sizeOf, run_info h]

/-- What 'isAgg' and 'sizeOf' answer. -/
theorem isAggK_sound (hT : TabOK P T) {t : TypeId} {k : Nat → Bool → Prop} (h : isAggK T t k) :
    ∃ n b, k n b ∧ (∀ w, (isAgg t).run P w = .ok b w) ∧ (∀ w, (sizeOf t).run P w = .ok n w) := by
  unfold isAggK at h
  have h := tyK_sound hT h
  have key : ∀ x : TI, (teOf P t).ti = x → x ≠ .none → (∀ b, (∀ w, (isAgg t).run P w = .ok b w) → k (teOf P t).size b → ∃ n b, k n b ∧ (∀ w, (isAgg t).run P w = .ok b w) ∧ (∀ w, (sizeOf t).run P w = .ok n w)) := by
    intro x hx hn b hb hk
    obtain ⟨_, i, hi, hs, _⟩ := ti_of hx hn
    exact ⟨_, b, hk, hb, fun w => by rw [hs]; exact run_sizeOf hi w⟩
  cases hti : (teOf P t).ti with
  | struct fs =>
    rw [hti] at h
    obtain ⟨fields, hu, _⟩ := und_struct (ti_of hti (by simp)).1
    exact key _ hti (by simp) true (fun w => by simp [isAgg, run_underlying' hu]) h
  | array n e =>
    rw [hti] at h
    have hu := und_array (ti_of hti (by simp)).1
    exact key _ hti (by simp) true (fun w => by simp [isAgg, run_underlying' hu]) h
  | none => rw [hti] at h; exact h.elim
  | int q => rw [hti] at h; exact key _ hti (by simp) false (fun w => by simp [isAgg, run_underlying' (und_int (ti_of hti (by simp)).1)]) h
  | bool => rw [hti] at h; exact key _ hti (by simp) false (fun w => by simp [isAgg, run_underlying' (und_bool (ti_of hti (by simp)).1)]) h
  | str => rw [hti] at h; exact key _ hti (by simp) false (fun w => by simp [isAgg, run_underlying' (und_str (ti_of hti (by simp)).1)]) h
  | slice e => rw [hti] at h; exact key _ hti (by simp) false (fun w => by simp [isAgg, run_underlying' (und_slice (ti_of hti (by simp)).1)]) h
  | ptr e => rw [hti] at h; exact key _ hti (by simp) false (fun w => by simp [isAgg, run_underlying' (und_ptr (ti_of hti (by simp)).1)]) h
  | other =>
    rw [hti] at h
    refine key _ hti (by simp) false (fun w => ?_) h
    have ho := (ti_of hti (by simp)).1
    cases hu : P.underlying t with
    | none => simp [tiOf, hu] at ho
    | some d => cases d <;> simp only [tiOf, hu] at ho <;> (try split at ho) <;> (try (simp at ho; done)) <;> simp [isAgg, run_underlying' hu]

/-! ### a new block -/
theorem owned_set {σ : Sg} {nid : Nat} {e : Ent} (g : Nat) : Owned (σ.set nid e) g → e.blk = some g ∨ Owned σ g := by
  rintro ⟨i, e', hi, hg⟩
  rw [List.getElem?_set] at hi
  split at hi
  · split at hi
    · simp at hi; subst hi; exact .inl hg
    · simp at hi
  · exact .inr ⟨i, e', hi, hg⟩
theorem fresh_of {w : World} {X : Nat → Prop} {σ : Sg} {h : Hp} (hI : Inv w X σ h) {n : Nat} (hf : h[n]? = some .fresh) : σ[n]? = some .fresh := by
  have hlt : n < h.length := (List.getElem?_eq_some_iff.1 hf).1
  have hs : n < σ.length := by rw [hI.len]; exact hlt
  have he : σ[n]? = some (σ[n]'hs) := List.getElem?_eq_getElem hs
  have := hI.ok n _ _ hf he
  rw [he]
  cases hσ : σ[n] <;> rw [hσ] at this <;> simp_all [BlkOK]

theorem alloc_step {w w' : World} {X : Nat → Prop} {σ : Sg} {h : Hp} (hI : Inv w X σ h) {n : Nat} (hf : h[n]? = some .fresh) {e : Ent} (he : e.blk = some w.heap.size)
    (ho : w'.os = w.os) (ht : w'.tape = w.tape) (hout : w'.output = w.output) {o : Obj} (hw : w'.heap = w.heap.push o) : Step σ.length w σ w' (σ.set n e) where
  os := ho
  tape := ht
  output := hout
  size := by rw [hw]; simp
  frame g hg _ := by rw [hw, Array.getElem?_push, if_neg (by omega)]
  blks g hg hlt := by
    rcases owned_set g hg with h1 | h1
    · rw [he] at h1; simp at h1; omega
    · exact h1
  ents i e' hi he' hne := by
    rw [List.getElem?_set]
    by_cases hin : n = i
    · subst hin; rw [fresh_of hI hf] at he'; simp at he'; exact absurd he'.symm hne
    · rw [if_neg hin]; exact .inl he'

theorem alloc_inv {w w' : World} {X : Nat → Prop} {σ : Sg} {h : Hp} (hI : Inv w X σ h) {n : Nat} (hf : h[n]? = some .fresh) {e : Ent} (he : e.blk = some w.heap.size)
    (ho : w'.os = w.os) (ht : w'.tape = w.tape) (hout : w'.output = w.output) {o : Obj} (hw : w'.heap = w.heap.push o) {b : Blk}
    (hb : BlkOK w' (Ex X (σ.set n e)) (σ.set n e) b e) : Inv w' X (σ.set n e) (h.set n b) := by
  have hS := alloc_step hI hf he ho ht hout hw
  have hσf := fresh_of hI hf
  have hnlt : n < σ.length := (List.getElem?_eq_some_iff.1 hσf).1
  refine ⟨by simp [hI.len], fun i b' e' hb' he' => ?_, fun i e' g he' hg => ?_, fun i j e1 e2 g h1 h2 g1 g2 => ?_, fun g hx ho' => ?_, fun g hx => ?_⟩
  · rw [List.getElem?_set] at hb' he'
    by_cases hin : n = i
    · subst hin
      have h2 : n < h.length := by rw [← hI.len]; exact hnlt
      rw [if_pos rfl, if_pos h2] at hb'
      rw [if_pos rfl, if_pos hnlt] at he'
      simp at hb' he'
      subst hb'; subst he'; exact hb
    · rw [if_neg hin] at hb' he'
      refine (hI.ok i b' e' hb' he').step hS (Nat.le_refl _) fun g hg => ?_
      rw [hw, Array.getElem?_push, if_neg (by have := hI.lt i e' g he' hg; omega)]
  · rw [List.getElem?_set] at he'
    rw [hw, Array.size_push]
    by_cases hin : n = i
    · subst hin
      rw [if_pos rfl, if_pos hnlt] at he'
      simp at he'; subst he'
      rw [he] at hg; simp at hg; omega
    · rw [if_neg hin] at he'
      have := hI.lt i e' g he' hg; omega
  · rw [List.getElem?_set] at h1 h2
    by_cases hi : n = i <;> by_cases hj : n = j
    · omega
    · subst hi
      rw [if_pos rfl, if_pos hnlt] at h1
      rw [if_neg hj] at h2
      simp at h1; subst h1
      rw [he] at g1; simp at g1; subst g1
      have := hI.lt j e2 _ h2 g2; omega
    · subst hj
      rw [if_pos rfl, if_pos hnlt] at h2
      rw [if_neg hi] at h1
      simp at h2; subst h2
      rw [he] at g2; simp at g2; subst g2
      have := hI.lt i e1 _ h1 g1; omega
    · rw [if_neg hi] at h1
      rw [if_neg hj] at h2
      exact hI.inj i j e1 e2 g h1 h2 g1 g2
  · rcases owned_set g ho' with h1 | h1
    · rw [he] at h1; simp at h1; subst h1; have := hI.xlt _ hx; omega
    · exact hI.dis g hx h1
  · have := hI.xlt g hx; rw [hw, Array.size_push]; omega

/-! ### a store into a block of one's own -/
theorem write_step {w w' : World} {σ : Sg} {n : Nat} {e : Ent} {g : Nat} (he : σ[n]? = some e) (hg : e.blk = some g)
    (ho : w'.os = w.os) (ht : w'.tape = w.tape) (hout : w'.output = w.output) (hs : w'.heap.size = w.heap.size) (hw : ∀ k, k ≠ g → w'.heap[k]? = w.heap[k]?) : Step σ.length w σ w' σ where
  os := ho
  tape := ht
  output := hout
  size := by omega
  frame k _ hk := hw k fun h => hk (h ▸ ⟨n, e, he, hg⟩)
  blks k hk _ := hk
  ents i e' _ he' _ := .inl he'

theorem write_inv {w w' : World} {X : Nat → Prop} {σ : Sg} {h : Hp} (hI : Inv w X σ h) {n : Nat} {e : Ent} {g : Nat} (he : σ[n]? = some e) (hg : e.blk = some g)
    (ho : w'.os = w.os) (ht : w'.tape = w.tape) (hout : w'.output = w.output) (hs : w'.heap.size = w.heap.size) (hw : ∀ k, k ≠ g → w'.heap[k]? = w.heap[k]?) {b : Blk}
    (hb : BlkOK w' (Ex X σ) σ b e) : Inv w' X σ (h.set n b) := by
  have hS := write_step he hg ho ht hout hs hw
  refine ⟨by simp [hI.len], fun i b' e' hb' he' => ?_, fun i e' k he' hk => by rw [hs]; exact hI.lt i e' k he' hk, hI.inj, hI.dis, fun k hx => by rw [hs]; exact hI.xlt k hx⟩
  rw [List.getElem?_set] at hb'
  by_cases hin : n = i
  · subst hin
    rw [he] at he'; simp at he'; subst he'
    split at hb'
    · split at hb'
      · simp at hb'; subst hb'; exact hb
      · simp at hb'
    · rename_i hc; exact absurd rfl hc
  · rw [if_neg hin] at hb'
    exact (hI.ok i b' e' hb' he').step hS (Nat.le_refl _) fun k hk => hw k fun hkg => hin (hI.inj n i e e' g he he' hg (hkg ▸ hk))

end
end Go.Sx
